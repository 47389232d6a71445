/- The rules of the calculus, type by type and function by function. Written by a program of this session; no condition. -/
import Derived.Test.YtikanmboimjhgaaDoorSimW
import Derived.Test.YtikanmboimjhgaaDoorSimT
set_option linter.unusedSimpArgs false
set_option linter.unusedVariables false
namespace Go.Proofs.YtikanmboimjhgaaDoor.Sim
open Go Go.RowKit

theorem xld1 {h : Heap} {b o : Nat} : ld Tryd.prog h 1 (.pointer (some ⟨b, o, none⟩)) = cell h b o := ld_sc tsz1 tag1
theorem xst1 {ro : Nat} {h : Heap} {b o : Nat} {v : Value} : stv Tryd.prog ro h 1 (.pointer (some ⟨b, o, none⟩)) v = put ro h b o 1 v := stv_put tsz1
theorem xld2 {h : Heap} {b o : Nat} : ld Tryd.prog h 2 (.pointer (some ⟨b, o, none⟩)) = cell h b o := ld_sc tsz2 tag2
theorem xst2 {ro : Nat} {h : Heap} {b o : Nat} {v : Value} : stv Tryd.prog ro h 2 (.pointer (some ⟨b, o, none⟩)) v = put ro h b o 1 v := stv_put tsz2
theorem xld3 {h : Heap} {b o : Nat} : ld Tryd.prog h 3 (.pointer (some ⟨b, o, none⟩)) = cell h b o := ld_sc tsz3 tag3
theorem xst3 {ro : Nat} {h : Heap} {b o : Nat} {v : Value} : stv Tryd.prog ro h 3 (.pointer (some ⟨b, o, none⟩)) v = put ro h b o 1 v := stv_put tsz3
theorem xbeql4 (a b : Bool) : abin Tryd.prog .eql 4 (.bool a) (.bool b) = some (.bool (a == b)) := bin_beql 4 Tryd.underlying4 a b
theorem xbneq4 (a b : Bool) : abin Tryd.prog .neq 4 (.bool a) (.bool b) = some (.bool (a != b)) := bin_bneq 4 Tryd.underlying4 a b
theorem xld4 {h : Heap} {b o : Nat} : ld Tryd.prog h 4 (.pointer (some ⟨b, o, none⟩)) = cell h b o := ld_sc tsz4 tag4
theorem xst4 {ro : Nat} {h : Heap} {b o : Nat} {v : Value} : stv Tryd.prog ro h 4 (.pointer (some ⟨b, o, none⟩)) v = put ro h b o 1 v := stv_put tsz4
theorem xld5 {h : Heap} {b o : Nat} : ld Tryd.prog h 5 (.pointer (some ⟨b, o, none⟩)) = cell h b o := ld_sc tsz5 tag5
theorem xst5 {ro : Nat} {h : Heap} {b o : Nat} {v : Value} : stv Tryd.prog ro h 5 (.pointer (some ⟨b, o, none⟩)) v = put ro h b o 1 v := stv_put tsz5
theorem xld6 {h : Heap} {b o : Nat} : ld Tryd.prog h 6 (.pointer (some ⟨b, o, none⟩)) = cell h b o := ld_sc tsz6 tag6
theorem xst6 {ro : Nat} {h : Heap} {b o : Nat} {v : Value} : stv Tryd.prog ro h 6 (.pointer (some ⟨b, o, none⟩)) v = put ro h b o 1 v := stv_put tsz6
theorem xfad7_0 {b o : Nat} : fadr Tryd.prog 7 (.pointer (some ⟨b, o, none⟩)) 0 = some (.pointer (some ⟨b, o + 0, none⟩)) := fadr_of tfi7_0 (by decide)
theorem xfld7_0 {cs : List Value} : fld Tryd.prog 7 (.agg ⟨cs⟩) 0 = cs[0]? := fld_sc tfi7_0 tag2
theorem xfad7_1 {b o : Nat} : fadr Tryd.prog 7 (.pointer (some ⟨b, o, none⟩)) 1 = some (.pointer (some ⟨b, o + 1, none⟩)) := fadr_of tfi7_1 (by decide)
theorem xfld7_1 {cs : List Value} : fld Tryd.prog 7 (.agg ⟨cs⟩) 1 = cs[1]? := fld_sc tfi7_1 tag3
theorem xfad7_2 {b o : Nat} : fadr Tryd.prog 7 (.pointer (some ⟨b, o, none⟩)) 2 = some (.pointer (some ⟨b, o + 2, none⟩)) := fadr_of tfi7_2 (by decide)
theorem xfld7_2 {cs : List Value} : fld Tryd.prog 7 (.agg ⟨cs⟩) 2 = cs[2]? := fld_sc tfi7_2 tag4
theorem xfad7_3 {b o : Nat} : fadr Tryd.prog 7 (.pointer (some ⟨b, o, none⟩)) 3 = some (.pointer (some ⟨b, o + 3, none⟩)) := fadr_of tfi7_3 (by decide)
theorem xfld7_3 {cs : List Value} : fld Tryd.prog 7 (.agg ⟨cs⟩) 3 = cs[3]? := fld_sc tfi7_3 tag6
theorem xld7 {h : Heap} {b o : Nat} : ld Tryd.prog h 7 (.pointer (some ⟨b, o, none⟩)) = cells h b o 4 := ld_agg tsz7 tag7
theorem xst7 {ro : Nat} {h : Heap} {b o : Nat} {v : Value} : stv Tryd.prog ro h 7 (.pointer (some ⟨b, o, none⟩)) v = put ro h b o 4 v := stv_put tsz7
theorem xfad8_0 {b o : Nat} : fadr Tryd.prog 8 (.pointer (some ⟨b, o, none⟩)) 0 = some (.pointer (some ⟨b, o + 0, none⟩)) := fadr_of tfi8_0 (by decide)
theorem xfld8_0 {cs : List Value} : fld Tryd.prog 8 (.agg ⟨cs⟩) 0 = cs[0]? := fld_sc tfi8_0 tag2
theorem xfad8_1 {b o : Nat} : fadr Tryd.prog 8 (.pointer (some ⟨b, o, none⟩)) 1 = some (.pointer (some ⟨b, o + 1, none⟩)) := fadr_of tfi8_1 (by decide)
theorem xfld8_1 {cs : List Value} : fld Tryd.prog 8 (.agg ⟨cs⟩) 1 = cs[1]? := fld_sc tfi8_1 tag3
theorem xfad8_2 {b o : Nat} : fadr Tryd.prog 8 (.pointer (some ⟨b, o, none⟩)) 2 = some (.pointer (some ⟨b, o + 2, none⟩)) := fadr_of tfi8_2 (by decide)
theorem xfld8_2 {cs : List Value} : fld Tryd.prog 8 (.agg ⟨cs⟩) 2 = cs[2]? := fld_sc tfi8_2 tag4
theorem xfad8_3 {b o : Nat} : fadr Tryd.prog 8 (.pointer (some ⟨b, o, none⟩)) 3 = some (.pointer (some ⟨b, o + 3, none⟩)) := fadr_of tfi8_3 (by decide)
theorem xfld8_3 {cs : List Value} : fld Tryd.prog 8 (.agg ⟨cs⟩) 3 = cs[3]? := fld_sc tfi8_3 tag6
theorem xld8 {h : Heap} {b o : Nat} : ld Tryd.prog h 8 (.pointer (some ⟨b, o, none⟩)) = cells h b o 4 := ld_agg tsz8 tag8
theorem xst8 {ro : Nat} {h : Heap} {b o : Nat} {v : Value} : stv Tryd.prog ro h 8 (.pointer (some ⟨b, o, none⟩)) v = put ro h b o 4 v := stv_put tsz8
theorem xlen9 {ro : Nat} {s : ByteArray} {h : Heap} : ablt Tryd.prog ro .len [9] [.string s] h = some (.int .i64 s.size, h) := len_str Tryd.underlying9
theorem xidx9 {s : ByteArray} {k : IntKind} {n : Int} (h0 : 0 ≤ n) (h1 : n < s.size) : idx Tryd.prog 9 (.string s) (.int k n) = some (.int .u8 (bt s n)) := idx_str Tryd.underlying9 h0 h1
theorem xsl9 {ro : Nat} {s : ByteArray} {h : Heap} {k k' : IntKind} {l q : Int} (h0 : 0 ≤ l) (h1 : l ≤ q) (h2 : q ≤ s.size) : slc Tryd.prog ro h 9 (.string s) (some (.int k l)) (some (.int k' q)) none = some (.string (s.extract l.toNat q.toNat)) := slc_str Tryd.underlying9 h0 h1 h2
theorem xslo9 {ro : Nat} {s : ByteArray} {h : Heap} {k : IntKind} {l : Int} (h0 : 0 ≤ l) (h1 : l ≤ s.size) : slc Tryd.prog ro h 9 (.string s) (some (.int k l)) none none = some (.string (s.extract l.toNat s.size)) := slc_str_lo Tryd.underlying9 h0 h1
theorem xshi9 {ro : Nat} {s : ByteArray} {h : Heap} {k : IntKind} {q : Int} (h0 : 0 ≤ q) (h1 : q ≤ s.size) : slc Tryd.prog ro h 9 (.string s) none (some (.int k q)) none = some (.string (s.extract 0 q.toNat)) := slc_str_hi Tryd.underlying9 h0 h1
theorem xld9 {h : Heap} {b o : Nat} : ld Tryd.prog h 9 (.pointer (some ⟨b, o, none⟩)) = cell h b o := ld_sc tsz9 tag9
theorem xst9 {ro : Nat} {h : Heap} {b o : Nat} {v : Value} : stv Tryd.prog ro h 9 (.pointer (some ⟨b, o, none⟩)) v = put ro h b o 1 v := stv_put tsz9
theorem xlen10 {ro : Nat} {s : ByteArray} {h : Heap} : ablt Tryd.prog ro .len [10] [.string s] h = some (.int .i64 s.size, h) := len_str Tryd.underlying10
theorem xidx10 {s : ByteArray} {k : IntKind} {n : Int} (h0 : 0 ≤ n) (h1 : n < s.size) : idx Tryd.prog 10 (.string s) (.int k n) = some (.int .u8 (bt s n)) := idx_str Tryd.underlying10 h0 h1
theorem xsl10 {ro : Nat} {s : ByteArray} {h : Heap} {k k' : IntKind} {l q : Int} (h0 : 0 ≤ l) (h1 : l ≤ q) (h2 : q ≤ s.size) : slc Tryd.prog ro h 10 (.string s) (some (.int k l)) (some (.int k' q)) none = some (.string (s.extract l.toNat q.toNat)) := slc_str Tryd.underlying10 h0 h1 h2
theorem xslo10 {ro : Nat} {s : ByteArray} {h : Heap} {k : IntKind} {l : Int} (h0 : 0 ≤ l) (h1 : l ≤ s.size) : slc Tryd.prog ro h 10 (.string s) (some (.int k l)) none none = some (.string (s.extract l.toNat s.size)) := slc_str_lo Tryd.underlying10 h0 h1
theorem xshi10 {ro : Nat} {s : ByteArray} {h : Heap} {k : IntKind} {q : Int} (h0 : 0 ≤ q) (h1 : q ≤ s.size) : slc Tryd.prog ro h 10 (.string s) none (some (.int k q)) none = some (.string (s.extract 0 q.toNat)) := slc_str_hi Tryd.underlying10 h0 h1
theorem xld10 {h : Heap} {b o : Nat} : ld Tryd.prog h 10 (.pointer (some ⟨b, o, none⟩)) = cell h b o := ld_sc tsz10 tag10
theorem xst10 {ro : Nat} {h : Heap} {b o : Nat} {v : Value} : stv Tryd.prog ro h 10 (.pointer (some ⟨b, o, none⟩)) v = put ro h b o 1 v := stv_put tsz10
theorem xlen11 {ro : Nat} {s : ByteArray} {h : Heap} : ablt Tryd.prog ro .len [11] [.string s] h = some (.int .i64 s.size, h) := len_str Tryd.underlying11
theorem xidx11 {s : ByteArray} {k : IntKind} {n : Int} (h0 : 0 ≤ n) (h1 : n < s.size) : idx Tryd.prog 11 (.string s) (.int k n) = some (.int .u8 (bt s n)) := idx_str Tryd.underlying11 h0 h1
theorem xsl11 {ro : Nat} {s : ByteArray} {h : Heap} {k k' : IntKind} {l q : Int} (h0 : 0 ≤ l) (h1 : l ≤ q) (h2 : q ≤ s.size) : slc Tryd.prog ro h 11 (.string s) (some (.int k l)) (some (.int k' q)) none = some (.string (s.extract l.toNat q.toNat)) := slc_str Tryd.underlying11 h0 h1 h2
theorem xslo11 {ro : Nat} {s : ByteArray} {h : Heap} {k : IntKind} {l : Int} (h0 : 0 ≤ l) (h1 : l ≤ s.size) : slc Tryd.prog ro h 11 (.string s) (some (.int k l)) none none = some (.string (s.extract l.toNat s.size)) := slc_str_lo Tryd.underlying11 h0 h1
theorem xshi11 {ro : Nat} {s : ByteArray} {h : Heap} {k : IntKind} {q : Int} (h0 : 0 ≤ q) (h1 : q ≤ s.size) : slc Tryd.prog ro h 11 (.string s) none (some (.int k q)) none = some (.string (s.extract 0 q.toNat)) := slc_str_hi Tryd.underlying11 h0 h1
theorem xld11 {h : Heap} {b o : Nat} : ld Tryd.prog h 11 (.pointer (some ⟨b, o, none⟩)) = cell h b o := ld_sc tsz11 tag11
theorem xst11 {ro : Nat} {h : Heap} {b o : Nat} {v : Value} : stv Tryd.prog ro h 11 (.pointer (some ⟨b, o, none⟩)) v = put ro h b o 1 v := stv_put tsz11
theorem xld12 {h : Heap} {b o : Nat} : ld Tryd.prog h 12 (.pointer (some ⟨b, o, none⟩)) = cell h b o := ld_sc tsz12 tag12
theorem xst12 {ro : Nat} {h : Heap} {b o : Nat} {v : Value} : stv Tryd.prog ro h 12 (.pointer (some ⟨b, o, none⟩)) v = put ro h b o 1 v := stv_put tsz12
theorem xfad13_0 {b o : Nat} : fadr Tryd.prog 13 (.pointer (some ⟨b, o, none⟩)) 0 = some (.pointer (some ⟨b, o + 0, none⟩)) := fadr_of tfi13_0 (by decide)
theorem xfld13_0 {cs : List Value} : fld Tryd.prog 13 (.agg ⟨cs⟩) 0 = cs[0]? := fld_sc tfi13_0 tag9
theorem xfad13_1 {b o : Nat} : fadr Tryd.prog 13 (.pointer (some ⟨b, o, none⟩)) 1 = some (.pointer (some ⟨b, o + 1, none⟩)) := fadr_of tfi13_1 (by decide)
theorem xfld13_1 {cs : List Value} : fld Tryd.prog 13 (.agg ⟨cs⟩) 1 = cs[1]? := fld_sc tfi13_1 tag12
theorem xld13 {h : Heap} {b o : Nat} : ld Tryd.prog h 13 (.pointer (some ⟨b, o, none⟩)) = cells h b o 2 := ld_agg tsz13 tag13
theorem xst13 {ro : Nat} {h : Heap} {b o : Nat} {v : Value} : stv Tryd.prog ro h 13 (.pointer (some ⟨b, o, none⟩)) v = put ro h b o 2 v := stv_put tsz13
theorem xfad14_0 {b o : Nat} : fadr Tryd.prog 14 (.pointer (some ⟨b, o, none⟩)) 0 = some (.pointer (some ⟨b, o + 0, none⟩)) := fadr_of tfi14_0 (by decide)
theorem xfld14_0 {cs : List Value} : fld Tryd.prog 14 (.agg ⟨cs⟩) 0 = cs[0]? := fld_sc tfi14_0 tag9
theorem xfad14_1 {b o : Nat} : fadr Tryd.prog 14 (.pointer (some ⟨b, o, none⟩)) 1 = some (.pointer (some ⟨b, o + 1, none⟩)) := fadr_of tfi14_1 (by decide)
theorem xfld14_1 {cs : List Value} : fld Tryd.prog 14 (.agg ⟨cs⟩) 1 = cs[1]? := fld_sc tfi14_1 tag12
theorem xld14 {h : Heap} {b o : Nat} : ld Tryd.prog h 14 (.pointer (some ⟨b, o, none⟩)) = cells h b o 2 := ld_agg tsz14 tag14
theorem xst14 {ro : Nat} {h : Heap} {b o : Nat} {v : Value} : stv Tryd.prog ro h 14 (.pointer (some ⟨b, o, none⟩)) v = put ro h b o 2 v := stv_put tsz14
theorem xld15 {h : Heap} {b o : Nat} : ld Tryd.prog h 15 (.pointer (some ⟨b, o, none⟩)) = cell h b o := ld_sc tsz15 tag15
theorem xst15 {ro : Nat} {h : Heap} {b o : Nat} {v : Value} : stv Tryd.prog ro h 15 (.pointer (some ⟨b, o, none⟩)) v = put ro h b o 1 v := stv_put tsz15
theorem xld16 {h : Heap} {b o : Nat} : ld Tryd.prog h 16 (.pointer (some ⟨b, o, none⟩)) = cell h b o := ld_sc tsz16 tag16
theorem xst16 {ro : Nat} {h : Heap} {b o : Nat} {v : Value} : stv Tryd.prog ro h 16 (.pointer (some ⟨b, o, none⟩)) v = put ro h b o 1 v := stv_put tsz16
theorem xld17 {h : Heap} {b o : Nat} : ld Tryd.prog h 17 (.pointer (some ⟨b, o, none⟩)) = cell h b o := ld_sc tsz17 tag17
theorem xst17 {ro : Nat} {h : Heap} {b o : Nat} {v : Value} : stv Tryd.prog ro h 17 (.pointer (some ⟨b, o, none⟩)) v = put ro h b o 1 v := stv_put tsz17
theorem xfad18_0 {b o : Nat} : fadr Tryd.prog 18 (.pointer (some ⟨b, o, none⟩)) 0 = some (.pointer (some ⟨b, o + 0, none⟩)) := fadr_of tfi18_0 (by decide)
theorem xfld18_0 {cs : List Value} : fld Tryd.prog 18 (.agg ⟨cs⟩) 0 = cs[0]? := fld_sc tfi18_0 tag17
theorem xld18 {h : Heap} {b o : Nat} : ld Tryd.prog h 18 (.pointer (some ⟨b, o, none⟩)) = cells h b o 1 := ld_agg tsz18 tag18
theorem xst18 {ro : Nat} {h : Heap} {b o : Nat} {v : Value} : stv Tryd.prog ro h 18 (.pointer (some ⟨b, o, none⟩)) v = put ro h b o 1 v := stv_put tsz18
theorem xfad19_0 {b o : Nat} : fadr Tryd.prog 19 (.pointer (some ⟨b, o, none⟩)) 0 = some (.pointer (some ⟨b, o + 0, none⟩)) := fadr_of tfi19_0 (by decide)
theorem xfld19_0 {cs : List Value} : fld Tryd.prog 19 (.agg ⟨cs⟩) 0 = cs[0]? := fld_sc tfi19_0 tag17
theorem xld19 {h : Heap} {b o : Nat} : ld Tryd.prog h 19 (.pointer (some ⟨b, o, none⟩)) = cells h b o 1 := ld_agg tsz19 tag19
theorem xst19 {ro : Nat} {h : Heap} {b o : Nat} {v : Value} : stv Tryd.prog ro h 19 (.pointer (some ⟨b, o, none⟩)) v = put ro h b o 1 v := stv_put tsz19
theorem xld21 {h : Heap} {b o : Nat} : ld Tryd.prog h 21 (.pointer (some ⟨b, o, none⟩)) = cell h b o := ld_sc tsz21 tag21
theorem xst21 {ro : Nat} {h : Heap} {b o : Nat} {v : Value} : stv Tryd.prog ro h 21 (.pointer (some ⟨b, o, none⟩)) v = put ro h b o 1 v := stv_put tsz21
theorem xlen22 {ro : Nat} {a : Option Addr} {n c : Nat} {h : Heap} : ablt Tryd.prog ro .len [22] [.slice a n c] h = some (.int .i64 n, h) := len_slc Tryd.underlying22
theorem xiad22 {b o len cap : Nat} {k : IntKind} {n : Int} (h0 : 0 ≤ n) (h1 : n < len) : iadr Tryd.prog 22 (.slice (some ⟨b, o, none⟩) len cap) (.int k n) = some (.pointer (some ⟨b, o + n.toNat * 1, none⟩)) := iadr_slc Tryd.underlying22 tsz5 h0 h1
theorem xld22 {h : Heap} {b o : Nat} : ld Tryd.prog h 22 (.pointer (some ⟨b, o, none⟩)) = cell h b o := ld_sc tsz22 tag22
theorem xst22 {ro : Nat} {h : Heap} {b o : Nat} {v : Value} : stv Tryd.prog ro h 22 (.pointer (some ⟨b, o, none⟩)) v = put ro h b o 1 v := stv_put tsz22
theorem xld23 {h : Heap} {b o : Nat} : ld Tryd.prog h 23 (.pointer (some ⟨b, o, none⟩)) = cell h b o := ld_sc tsz23 tag23
theorem xst23 {ro : Nat} {h : Heap} {b o : Nat} {v : Value} : stv Tryd.prog ro h 23 (.pointer (some ⟨b, o, none⟩)) v = put ro h b o 1 v := stv_put tsz23
theorem xlen24 {ro : Nat} {a : Option Addr} {n c : Nat} {h : Heap} : ablt Tryd.prog ro .len [24] [.slice a n c] h = some (.int .i64 n, h) := len_slc Tryd.underlying24
theorem xiad24 {b o len cap : Nat} {k : IntKind} {n : Int} (h0 : 0 ≤ n) (h1 : n < len) : iadr Tryd.prog 24 (.slice (some ⟨b, o, none⟩) len cap) (.int k n) = some (.pointer (some ⟨b, o + n.toNat * 1, none⟩)) := iadr_slc Tryd.underlying24 tsz9 h0 h1
theorem xld24 {h : Heap} {b o : Nat} : ld Tryd.prog h 24 (.pointer (some ⟨b, o, none⟩)) = cell h b o := ld_sc tsz24 tag24
theorem xst24 {ro : Nat} {h : Heap} {b o : Nat} {v : Value} : stv Tryd.prog ro h 24 (.pointer (some ⟨b, o, none⟩)) v = put ro h b o 1 v := stv_put tsz24
theorem xld25 {h : Heap} {b o : Nat} : ld Tryd.prog h 25 (.pointer (some ⟨b, o, none⟩)) = cell h b o := ld_sc tsz25 tag25
theorem xst25 {ro : Nat} {h : Heap} {b o : Nat} {v : Value} : stv Tryd.prog ro h 25 (.pointer (some ⟨b, o, none⟩)) v = put ro h b o 1 v := stv_put tsz25
theorem xlen26 {ro : Nat} {a : Option Addr} {n c : Nat} {h : Heap} : ablt Tryd.prog ro .len [26] [.slice a n c] h = some (.int .i64 n, h) := len_slc Tryd.underlying26
theorem xiad26 {b o len cap : Nat} {k : IntKind} {n : Int} (h0 : 0 ≤ n) (h1 : n < len) : iadr Tryd.prog 26 (.slice (some ⟨b, o, none⟩) len cap) (.int k n) = some (.pointer (some ⟨b, o + n.toNat * 2, none⟩)) := iadr_slc Tryd.underlying26 tsz69 h0 h1
theorem xmk26 {h : Heap} {k1 k2 : IntKind} {l : Int} (h0 : 0 ≤ l) (h1 : (16 : Nat) * l ≤ 140737488355328) (h2 : l ≤ 9223372036854775807) : mk Tryd.prog h 26 (.int k1 l) (.int k2 l) = some (.slice (some ⟨h.length, 0, none⟩) l.toNat l.toNat, h ++ [zblk 69 (l.toNat * 2)]) := mk_go tel26 tsz69 tby69 tze69 rfl (by decide) h0 h1 h2
theorem xld26 {h : Heap} {b o : Nat} : ld Tryd.prog h 26 (.pointer (some ⟨b, o, none⟩)) = cell h b o := ld_sc tsz26 tag26
theorem xst26 {ro : Nat} {h : Heap} {b o : Nat} {v : Value} : stv Tryd.prog ro h 26 (.pointer (some ⟨b, o, none⟩)) v = put ro h b o 1 v := stv_put tsz26
theorem xlen27 {ro : Nat} {a : Option Addr} {n c : Nat} {h : Heap} : ablt Tryd.prog ro .len [27] [.slice a n c] h = some (.int .i64 n, h) := len_slc Tryd.underlying27
theorem xiad27 {b o len cap : Nat} {k : IntKind} {n : Int} (h0 : 0 ≤ n) (h1 : n < len) : iadr Tryd.prog 27 (.slice (some ⟨b, o, none⟩) len cap) (.int k n) = some (.pointer (some ⟨b, o + n.toNat * 1, none⟩)) := iadr_slc Tryd.underlying27 tsz79 h0 h1
theorem xld27 {h : Heap} {b o : Nat} : ld Tryd.prog h 27 (.pointer (some ⟨b, o, none⟩)) = cell h b o := ld_sc tsz27 tag27
theorem xst27 {ro : Nat} {h : Heap} {b o : Nat} {v : Value} : stv Tryd.prog ro h 27 (.pointer (some ⟨b, o, none⟩)) v = put ro h b o 1 v := stv_put tsz27
theorem xlen28 {ro : Nat} {a : Option Addr} {n c : Nat} {h : Heap} : ablt Tryd.prog ro .len [28] [.slice a n c] h = some (.int .i64 n, h) := len_slc Tryd.underlying28
theorem xiad28 {b o len cap : Nat} {k : IntKind} {n : Int} (h0 : 0 ≤ n) (h1 : n < len) : iadr Tryd.prog 28 (.slice (some ⟨b, o, none⟩) len cap) (.int k n) = some (.pointer (some ⟨b, o + n.toNat * 1, none⟩)) := iadr_slc Tryd.underlying28 tsz27 h0 h1
theorem xld28 {h : Heap} {b o : Nat} : ld Tryd.prog h 28 (.pointer (some ⟨b, o, none⟩)) = cell h b o := ld_sc tsz28 tag28
theorem xst28 {ro : Nat} {h : Heap} {b o : Nat} {v : Value} : stv Tryd.prog ro h 28 (.pointer (some ⟨b, o, none⟩)) v = put ro h b o 1 v := stv_put tsz28
theorem xfad29_0 {b o : Nat} : fadr Tryd.prog 29 (.pointer (some ⟨b, o, none⟩)) 0 = some (.pointer (some ⟨b, o + 0, none⟩)) := fadr_of tfi29_0 (by decide)
theorem xfld29_0 {cs : List Value} : fld Tryd.prog 29 (.agg ⟨cs⟩) 0 = cs[0]? := fld_sc tfi29_0 tag26
theorem xfad29_1 {b o : Nat} : fadr Tryd.prog 29 (.pointer (some ⟨b, o, none⟩)) 1 = some (.pointer (some ⟨b, o + 1, none⟩)) := fadr_of tfi29_1 (by decide)
theorem xfld29_1 {cs : List Value} : fld Tryd.prog 29 (.agg ⟨cs⟩) 1 = cs[1]? := fld_sc tfi29_1 tag27
theorem xfad29_2 {b o : Nat} : fadr Tryd.prog 29 (.pointer (some ⟨b, o, none⟩)) 2 = some (.pointer (some ⟨b, o + 2, none⟩)) := fadr_of tfi29_2 (by decide)
theorem xfld29_2 {cs : List Value} : fld Tryd.prog 29 (.agg ⟨cs⟩) 2 = cs[2]? := fld_sc tfi29_2 tag28
theorem xld29 {h : Heap} {b o : Nat} : ld Tryd.prog h 29 (.pointer (some ⟨b, o, none⟩)) = cells h b o 3 := ld_agg tsz29 tag29
theorem xst29 {ro : Nat} {h : Heap} {b o : Nat} {v : Value} : stv Tryd.prog ro h 29 (.pointer (some ⟨b, o, none⟩)) v = put ro h b o 3 v := stv_put tsz29
theorem xfad30_0 {b o : Nat} : fadr Tryd.prog 30 (.pointer (some ⟨b, o, none⟩)) 0 = some (.pointer (some ⟨b, o + 0, none⟩)) := fadr_of tfi30_0 (by decide)
theorem xfld30_0 {cs : List Value} : fld Tryd.prog 30 (.agg ⟨cs⟩) 0 = cs[0]? := fld_sc tfi30_0 tag26
theorem xfad30_1 {b o : Nat} : fadr Tryd.prog 30 (.pointer (some ⟨b, o, none⟩)) 1 = some (.pointer (some ⟨b, o + 1, none⟩)) := fadr_of tfi30_1 (by decide)
theorem xfld30_1 {cs : List Value} : fld Tryd.prog 30 (.agg ⟨cs⟩) 1 = cs[1]? := fld_sc tfi30_1 tag27
theorem xfad30_2 {b o : Nat} : fadr Tryd.prog 30 (.pointer (some ⟨b, o, none⟩)) 2 = some (.pointer (some ⟨b, o + 2, none⟩)) := fadr_of tfi30_2 (by decide)
theorem xfld30_2 {cs : List Value} : fld Tryd.prog 30 (.agg ⟨cs⟩) 2 = cs[2]? := fld_sc tfi30_2 tag28
theorem xld30 {h : Heap} {b o : Nat} : ld Tryd.prog h 30 (.pointer (some ⟨b, o, none⟩)) = cells h b o 3 := ld_agg tsz30 tag30
theorem xst30 {ro : Nat} {h : Heap} {b o : Nat} {v : Value} : stv Tryd.prog ro h 30 (.pointer (some ⟨b, o, none⟩)) v = put ro h b o 3 v := stv_put tsz30
theorem xld31 {h : Heap} {b o : Nat} : ld Tryd.prog h 31 (.pointer (some ⟨b, o, none⟩)) = cell h b o := ld_sc tsz31 tag31
theorem xst31 {ro : Nat} {h : Heap} {b o : Nat} {v : Value} : stv Tryd.prog ro h 31 (.pointer (some ⟨b, o, none⟩)) v = put ro h b o 1 v := stv_put tsz31
theorem xld33 {h : Heap} {b o : Nat} : ld Tryd.prog h 33 (.pointer (some ⟨b, o, none⟩)) = cell h b o := ld_sc tsz33 tag33
theorem xst33 {ro : Nat} {h : Heap} {b o : Nat} {v : Value} : stv Tryd.prog ro h 33 (.pointer (some ⟨b, o, none⟩)) v = put ro h b o 1 v := stv_put tsz33
theorem xld34 {h : Heap} {b o : Nat} : ld Tryd.prog h 34 (.pointer (some ⟨b, o, none⟩)) = cell h b o := ld_sc tsz34 tag34
theorem xst34 {ro : Nat} {h : Heap} {b o : Nat} {v : Value} : stv Tryd.prog ro h 34 (.pointer (some ⟨b, o, none⟩)) v = put ro h b o 1 v := stv_put tsz34
theorem xld36 {h : Heap} {b o : Nat} : ld Tryd.prog h 36 (.pointer (some ⟨b, o, none⟩)) = cell h b o := ld_sc tsz36 tag36
theorem xst36 {ro : Nat} {h : Heap} {b o : Nat} {v : Value} : stv Tryd.prog ro h 36 (.pointer (some ⟨b, o, none⟩)) v = put ro h b o 1 v := stv_put tsz36
theorem xld37 {h : Heap} {b o : Nat} : ld Tryd.prog h 37 (.pointer (some ⟨b, o, none⟩)) = cell h b o := ld_sc tsz37 tag37
theorem xst37 {ro : Nat} {h : Heap} {b o : Nat} {v : Value} : stv Tryd.prog ro h 37 (.pointer (some ⟨b, o, none⟩)) v = put ro h b o 1 v := stv_put tsz37
theorem xld38 {h : Heap} {b o : Nat} : ld Tryd.prog h 38 (.pointer (some ⟨b, o, none⟩)) = cell h b o := ld_sc tsz38 tag38
theorem xst38 {ro : Nat} {h : Heap} {b o : Nat} {v : Value} : stv Tryd.prog ro h 38 (.pointer (some ⟨b, o, none⟩)) v = put ro h b o 1 v := stv_put tsz38
theorem xld39 {h : Heap} {b o : Nat} : ld Tryd.prog h 39 (.pointer (some ⟨b, o, none⟩)) = cell h b o := ld_sc tsz39 tag39
theorem xst39 {ro : Nat} {h : Heap} {b o : Nat} {v : Value} : stv Tryd.prog ro h 39 (.pointer (some ⟨b, o, none⟩)) v = put ro h b o 1 v := stv_put tsz39
theorem xld40 {h : Heap} {b o : Nat} : ld Tryd.prog h 40 (.pointer (some ⟨b, o, none⟩)) = cell h b o := ld_sc tsz40 tag40
theorem xst40 {ro : Nat} {h : Heap} {b o : Nat} {v : Value} : stv Tryd.prog ro h 40 (.pointer (some ⟨b, o, none⟩)) v = put ro h b o 1 v := stv_put tsz40
theorem xld41 {h : Heap} {b o : Nat} : ld Tryd.prog h 41 (.pointer (some ⟨b, o, none⟩)) = cell h b o := ld_sc tsz41 tag41
theorem xst41 {ro : Nat} {h : Heap} {b o : Nat} {v : Value} : stv Tryd.prog ro h 41 (.pointer (some ⟨b, o, none⟩)) v = put ro h b o 1 v := stv_put tsz41
theorem xld42 {h : Heap} {b o : Nat} : ld Tryd.prog h 42 (.pointer (some ⟨b, o, none⟩)) = cell h b o := ld_sc tsz42 tag42
theorem xst42 {ro : Nat} {h : Heap} {b o : Nat} {v : Value} : stv Tryd.prog ro h 42 (.pointer (some ⟨b, o, none⟩)) v = put ro h b o 1 v := stv_put tsz42
theorem xld43 {h : Heap} {b o : Nat} : ld Tryd.prog h 43 (.pointer (some ⟨b, o, none⟩)) = cell h b o := ld_sc tsz43 tag43
theorem xst43 {ro : Nat} {h : Heap} {b o : Nat} {v : Value} : stv Tryd.prog ro h 43 (.pointer (some ⟨b, o, none⟩)) v = put ro h b o 1 v := stv_put tsz43
theorem xfad44_0 {b o : Nat} : fadr Tryd.prog 44 (.pointer (some ⟨b, o, none⟩)) 0 = some (.pointer (some ⟨b, o + 0, none⟩)) := fadr_of tfi44_0 (by decide)
theorem xfld44_0 {cs : List Value} : fld Tryd.prog 44 (.agg ⟨cs⟩) 0 = cs[0]? := fld_sc tfi44_0 tag43
theorem xfad44_1 {b o : Nat} : fadr Tryd.prog 44 (.pointer (some ⟨b, o, none⟩)) 1 = some (.pointer (some ⟨b, o + 1, none⟩)) := fadr_of tfi44_1 (by decide)
theorem xfld44_1 {cs : List Value} : fld Tryd.prog 44 (.agg ⟨cs⟩) 1 = cs[1]? := fld_sc tfi44_1 tag22
theorem xld44 {h : Heap} {b o : Nat} : ld Tryd.prog h 44 (.pointer (some ⟨b, o, none⟩)) = cells h b o 2 := ld_agg tsz44 tag44
theorem xst44 {ro : Nat} {h : Heap} {b o : Nat} {v : Value} : stv Tryd.prog ro h 44 (.pointer (some ⟨b, o, none⟩)) v = put ro h b o 2 v := stv_put tsz44
theorem xfad45_0 {b o : Nat} : fadr Tryd.prog 45 (.pointer (some ⟨b, o, none⟩)) 0 = some (.pointer (some ⟨b, o + 0, none⟩)) := fadr_of tfi45_0 (by decide)
theorem xfld45_0 {cs : List Value} : fld Tryd.prog 45 (.agg ⟨cs⟩) 0 = cs[0]? := fld_sc tfi45_0 tag43
theorem xfad45_1 {b o : Nat} : fadr Tryd.prog 45 (.pointer (some ⟨b, o, none⟩)) 1 = some (.pointer (some ⟨b, o + 1, none⟩)) := fadr_of tfi45_1 (by decide)
theorem xfld45_1 {cs : List Value} : fld Tryd.prog 45 (.agg ⟨cs⟩) 1 = cs[1]? := fld_sc tfi45_1 tag22
theorem xld45 {h : Heap} {b o : Nat} : ld Tryd.prog h 45 (.pointer (some ⟨b, o, none⟩)) = cells h b o 2 := ld_agg tsz45 tag45
theorem xst45 {ro : Nat} {h : Heap} {b o : Nat} {v : Value} : stv Tryd.prog ro h 45 (.pointer (some ⟨b, o, none⟩)) v = put ro h b o 2 v := stv_put tsz45
theorem xld46 {h : Heap} {b o : Nat} : ld Tryd.prog h 46 (.pointer (some ⟨b, o, none⟩)) = cell h b o := ld_sc tsz46 tag46
theorem xst46 {ro : Nat} {h : Heap} {b o : Nat} {v : Value} : stv Tryd.prog ro h 46 (.pointer (some ⟨b, o, none⟩)) v = put ro h b o 1 v := stv_put tsz46
theorem xld48 {h : Heap} {b o : Nat} : ld Tryd.prog h 48 (.pointer (some ⟨b, o, none⟩)) = cell h b o := ld_sc tsz48 tag48
theorem xst48 {ro : Nat} {h : Heap} {b o : Nat} {v : Value} : stv Tryd.prog ro h 48 (.pointer (some ⟨b, o, none⟩)) v = put ro h b o 1 v := stv_put tsz48
theorem xld52 {h : Heap} {b o : Nat} : ld Tryd.prog h 52 (.pointer (some ⟨b, o, none⟩)) = cell h b o := ld_sc tsz52 tag52
theorem xst52 {ro : Nat} {h : Heap} {b o : Nat} {v : Value} : stv Tryd.prog ro h 52 (.pointer (some ⟨b, o, none⟩)) v = put ro h b o 1 v := stv_put tsz52
theorem xld53 {h : Heap} {b o : Nat} : ld Tryd.prog h 53 (.pointer (some ⟨b, o, none⟩)) = cell h b o := ld_sc tsz53 tag53
theorem xst53 {ro : Nat} {h : Heap} {b o : Nat} {v : Value} : stv Tryd.prog ro h 53 (.pointer (some ⟨b, o, none⟩)) v = put ro h b o 1 v := stv_put tsz53
theorem xld54 {h : Heap} {b o : Nat} : ld Tryd.prog h 54 (.pointer (some ⟨b, o, none⟩)) = cell h b o := ld_sc tsz54 tag54
theorem xst54 {ro : Nat} {h : Heap} {b o : Nat} {v : Value} : stv Tryd.prog ro h 54 (.pointer (some ⟨b, o, none⟩)) v = put ro h b o 1 v := stv_put tsz54
theorem xld55 {h : Heap} {b o : Nat} : ld Tryd.prog h 55 (.pointer (some ⟨b, o, none⟩)) = cell h b o := ld_sc tsz55 tag55
theorem xst55 {ro : Nat} {h : Heap} {b o : Nat} {v : Value} : stv Tryd.prog ro h 55 (.pointer (some ⟨b, o, none⟩)) v = put ro h b o 1 v := stv_put tsz55
theorem xld57 {h : Heap} {b o : Nat} : ld Tryd.prog h 57 (.pointer (some ⟨b, o, none⟩)) = cell h b o := ld_sc tsz57 tag57
theorem xst57 {ro : Nat} {h : Heap} {b o : Nat} {v : Value} : stv Tryd.prog ro h 57 (.pointer (some ⟨b, o, none⟩)) v = put ro h b o 1 v := stv_put tsz57
theorem xld58 {h : Heap} {b o : Nat} : ld Tryd.prog h 58 (.pointer (some ⟨b, o, none⟩)) = cell h b o := ld_sc tsz58 tag58
theorem xst58 {ro : Nat} {h : Heap} {b o : Nat} {v : Value} : stv Tryd.prog ro h 58 (.pointer (some ⟨b, o, none⟩)) v = put ro h b o 1 v := stv_put tsz58
theorem xfad59_0 {b o : Nat} : fadr Tryd.prog 59 (.pointer (some ⟨b, o, none⟩)) 0 = some (.pointer (some ⟨b, o + 0, none⟩)) := fadr_of tfi59_0 (by decide)
theorem xfld59_0 {cs : List Value} : fld Tryd.prog 59 (.agg ⟨cs⟩) 0 = cs[0]? := fld_sc tfi59_0 tag22
theorem xfad59_1 {b o : Nat} : fadr Tryd.prog 59 (.pointer (some ⟨b, o, none⟩)) 1 = some (.pointer (some ⟨b, o + 1, none⟩)) := fadr_of tfi59_1 (by decide)
theorem xfld59_1 {cs : List Value} : fld Tryd.prog 59 (.agg ⟨cs⟩) 1 = cs[1]? := fld_sc tfi59_1 tag3
theorem xfad59_2 {b o : Nat} : fadr Tryd.prog 59 (.pointer (some ⟨b, o, none⟩)) 2 = some (.pointer (some ⟨b, o + 2, none⟩)) := fadr_of tfi59_2 (by decide)
theorem xfld59_2 {cs : List Value} : fld Tryd.prog 59 (.agg ⟨cs⟩) 2 = cs[2]? := fld_sc tfi59_2 tag58
theorem xld59 {h : Heap} {b o : Nat} : ld Tryd.prog h 59 (.pointer (some ⟨b, o, none⟩)) = cells h b o 3 := ld_agg tsz59 tag59
theorem xst59 {ro : Nat} {h : Heap} {b o : Nat} {v : Value} : stv Tryd.prog ro h 59 (.pointer (some ⟨b, o, none⟩)) v = put ro h b o 3 v := stv_put tsz59
theorem xfad60_0 {b o : Nat} : fadr Tryd.prog 60 (.pointer (some ⟨b, o, none⟩)) 0 = some (.pointer (some ⟨b, o + 0, none⟩)) := fadr_of tfi60_0 (by decide)
theorem xfld60_0 {cs : List Value} : fld Tryd.prog 60 (.agg ⟨cs⟩) 0 = cs[0]? := fld_sc tfi60_0 tag22
theorem xfad60_1 {b o : Nat} : fadr Tryd.prog 60 (.pointer (some ⟨b, o, none⟩)) 1 = some (.pointer (some ⟨b, o + 1, none⟩)) := fadr_of tfi60_1 (by decide)
theorem xfld60_1 {cs : List Value} : fld Tryd.prog 60 (.agg ⟨cs⟩) 1 = cs[1]? := fld_sc tfi60_1 tag3
theorem xfad60_2 {b o : Nat} : fadr Tryd.prog 60 (.pointer (some ⟨b, o, none⟩)) 2 = some (.pointer (some ⟨b, o + 2, none⟩)) := fadr_of tfi60_2 (by decide)
theorem xfld60_2 {cs : List Value} : fld Tryd.prog 60 (.agg ⟨cs⟩) 2 = cs[2]? := fld_sc tfi60_2 tag58
theorem xld60 {h : Heap} {b o : Nat} : ld Tryd.prog h 60 (.pointer (some ⟨b, o, none⟩)) = cells h b o 3 := ld_agg tsz60 tag60
theorem xst60 {ro : Nat} {h : Heap} {b o : Nat} {v : Value} : stv Tryd.prog ro h 60 (.pointer (some ⟨b, o, none⟩)) v = put ro h b o 3 v := stv_put tsz60
theorem xld61 {h : Heap} {b o : Nat} : ld Tryd.prog h 61 (.pointer (some ⟨b, o, none⟩)) = cell h b o := ld_sc tsz61 tag61
theorem xst61 {ro : Nat} {h : Heap} {b o : Nat} {v : Value} : stv Tryd.prog ro h 61 (.pointer (some ⟨b, o, none⟩)) v = put ro h b o 1 v := stv_put tsz61
theorem xld62 {h : Heap} {b o : Nat} : ld Tryd.prog h 62 (.pointer (some ⟨b, o, none⟩)) = cell h b o := ld_sc tsz62 tag62
theorem xst62 {ro : Nat} {h : Heap} {b o : Nat} {v : Value} : stv Tryd.prog ro h 62 (.pointer (some ⟨b, o, none⟩)) v = put ro h b o 1 v := stv_put tsz62
theorem xld63 {h : Heap} {b o : Nat} : ld Tryd.prog h 63 (.pointer (some ⟨b, o, none⟩)) = cell h b o := ld_sc tsz63 tag63
theorem xst63 {ro : Nat} {h : Heap} {b o : Nat} {v : Value} : stv Tryd.prog ro h 63 (.pointer (some ⟨b, o, none⟩)) v = put ro h b o 1 v := stv_put tsz63
theorem xld64 {h : Heap} {b o : Nat} : ld Tryd.prog h 64 (.pointer (some ⟨b, o, none⟩)) = cell h b o := ld_sc tsz64 tag64
theorem xst64 {ro : Nat} {h : Heap} {b o : Nat} {v : Value} : stv Tryd.prog ro h 64 (.pointer (some ⟨b, o, none⟩)) v = put ro h b o 1 v := stv_put tsz64
theorem xlen65 {ro : Nat} {a : Option Addr} {n c : Nat} {h : Heap} : ablt Tryd.prog ro .len [65] [.slice a n c] h = some (.int .i64 n, h) := len_slc Tryd.underlying65
theorem xiad65 {b o len cap : Nat} {k : IntKind} {n : Int} (h0 : 0 ≤ n) (h1 : n < len) : iadr Tryd.prog 65 (.slice (some ⟨b, o, none⟩) len cap) (.int k n) = some (.pointer (some ⟨b, o + n.toNat * 1, none⟩)) := iadr_slc Tryd.underlying65 tsz2 h0 h1
theorem xmk65 {h : Heap} {k1 k2 : IntKind} {l : Int} (h0 : 0 ≤ l) (h1 : (8 : Nat) * l ≤ 140737488355328) (h2 : l ≤ 9223372036854775807) : mk Tryd.prog h 65 (.int k1 l) (.int k2 l) = some (.slice (some ⟨h.length, 0, none⟩) l.toNat l.toNat, h ++ [zblk 2 (l.toNat * 1)]) := mk_go tel65 tsz2 tby2 tze2 rfl (by decide) h0 h1 h2
theorem xld65 {h : Heap} {b o : Nat} : ld Tryd.prog h 65 (.pointer (some ⟨b, o, none⟩)) = cell h b o := ld_sc tsz65 tag65
theorem xst65 {ro : Nat} {h : Heap} {b o : Nat} {v : Value} : stv Tryd.prog ro h 65 (.pointer (some ⟨b, o, none⟩)) v = put ro h b o 1 v := stv_put tsz65
theorem xld66 {h : Heap} {b o : Nat} : ld Tryd.prog h 66 (.pointer (some ⟨b, o, none⟩)) = cell h b o := ld_sc tsz66 tag66
theorem xst66 {ro : Nat} {h : Heap} {b o : Nat} {v : Value} : stv Tryd.prog ro h 66 (.pointer (some ⟨b, o, none⟩)) v = put ro h b o 1 v := stv_put tsz66
theorem xld67 {h : Heap} {b o : Nat} : ld Tryd.prog h 67 (.pointer (some ⟨b, o, none⟩)) = cell h b o := ld_sc tsz67 tag67
theorem xst67 {ro : Nat} {h : Heap} {b o : Nat} {v : Value} : stv Tryd.prog ro h 67 (.pointer (some ⟨b, o, none⟩)) v = put ro h b o 1 v := stv_put tsz67
theorem xfad68_0 {b o : Nat} : fadr Tryd.prog 68 (.pointer (some ⟨b, o, none⟩)) 0 = some (.pointer (some ⟨b, o + 0, none⟩)) := fadr_of tfi68_0 (by decide)
theorem xfld68_0 {cs : List Value} : fld Tryd.prog 68 (.agg ⟨cs⟩) 0 = cs[0]? := fld_sc tfi68_0 tag2
theorem xfad68_1 {b o : Nat} : fadr Tryd.prog 68 (.pointer (some ⟨b, o, none⟩)) 1 = some (.pointer (some ⟨b, o + 1, none⟩)) := fadr_of tfi68_1 (by decide)
theorem xfld68_1 {cs : List Value} : fld Tryd.prog 68 (.agg ⟨cs⟩) 1 = cs[1]? := fld_sc tfi68_1 tag2
theorem xld68 {h : Heap} {b o : Nat} : ld Tryd.prog h 68 (.pointer (some ⟨b, o, none⟩)) = cells h b o 2 := ld_agg tsz68 tag68
theorem xst68 {ro : Nat} {h : Heap} {b o : Nat} {v : Value} : stv Tryd.prog ro h 68 (.pointer (some ⟨b, o, none⟩)) v = put ro h b o 2 v := stv_put tsz68
theorem xfad69_0 {b o : Nat} : fadr Tryd.prog 69 (.pointer (some ⟨b, o, none⟩)) 0 = some (.pointer (some ⟨b, o + 0, none⟩)) := fadr_of tfi69_0 (by decide)
theorem xfld69_0 {cs : List Value} : fld Tryd.prog 69 (.agg ⟨cs⟩) 0 = cs[0]? := fld_sc tfi69_0 tag2
theorem xfad69_1 {b o : Nat} : fadr Tryd.prog 69 (.pointer (some ⟨b, o, none⟩)) 1 = some (.pointer (some ⟨b, o + 1, none⟩)) := fadr_of tfi69_1 (by decide)
theorem xfld69_1 {cs : List Value} : fld Tryd.prog 69 (.agg ⟨cs⟩) 1 = cs[1]? := fld_sc tfi69_1 tag2
theorem xld69 {h : Heap} {b o : Nat} : ld Tryd.prog h 69 (.pointer (some ⟨b, o, none⟩)) = cells h b o 2 := ld_agg tsz69 tag69
theorem xst69 {ro : Nat} {h : Heap} {b o : Nat} {v : Value} : stv Tryd.prog ro h 69 (.pointer (some ⟨b, o, none⟩)) v = put ro h b o 2 v := stv_put tsz69
theorem xld70 {h : Heap} {b o : Nat} : ld Tryd.prog h 70 (.pointer (some ⟨b, o, none⟩)) = cell h b o := ld_sc tsz70 tag70
theorem xst70 {ro : Nat} {h : Heap} {b o : Nat} {v : Value} : stv Tryd.prog ro h 70 (.pointer (some ⟨b, o, none⟩)) v = put ro h b o 1 v := stv_put tsz70
theorem xld71 {h : Heap} {b o : Nat} : ld Tryd.prog h 71 (.pointer (some ⟨b, o, none⟩)) = cell h b o := ld_sc tsz71 tag71
theorem xst71 {ro : Nat} {h : Heap} {b o : Nat} {v : Value} : stv Tryd.prog ro h 71 (.pointer (some ⟨b, o, none⟩)) v = put ro h b o 1 v := stv_put tsz71
theorem xld72 {h : Heap} {b o : Nat} : ld Tryd.prog h 72 (.pointer (some ⟨b, o, none⟩)) = cell h b o := ld_sc tsz72 tag72
theorem xst72 {ro : Nat} {h : Heap} {b o : Nat} {v : Value} : stv Tryd.prog ro h 72 (.pointer (some ⟨b, o, none⟩)) v = put ro h b o 1 v := stv_put tsz72
theorem xld73 {h : Heap} {b o : Nat} : ld Tryd.prog h 73 (.pointer (some ⟨b, o, none⟩)) = cell h b o := ld_sc tsz73 tag73
theorem xst73 {ro : Nat} {h : Heap} {b o : Nat} {v : Value} : stv Tryd.prog ro h 73 (.pointer (some ⟨b, o, none⟩)) v = put ro h b o 1 v := stv_put tsz73
theorem xld74 {h : Heap} {b o : Nat} : ld Tryd.prog h 74 (.pointer (some ⟨b, o, none⟩)) = cell h b o := ld_sc tsz74 tag74
theorem xst74 {ro : Nat} {h : Heap} {b o : Nat} {v : Value} : stv Tryd.prog ro h 74 (.pointer (some ⟨b, o, none⟩)) v = put ro h b o 1 v := stv_put tsz74
theorem xld76 {h : Heap} {b o : Nat} : ld Tryd.prog h 76 (.pointer (some ⟨b, o, none⟩)) = cell h b o := ld_sc tsz76 tag76
theorem xst76 {ro : Nat} {h : Heap} {b o : Nat} {v : Value} : stv Tryd.prog ro h 76 (.pointer (some ⟨b, o, none⟩)) v = put ro h b o 1 v := stv_put tsz76
theorem xld77 {h : Heap} {b o : Nat} : ld Tryd.prog h 77 (.pointer (some ⟨b, o, none⟩)) = cell h b o := ld_sc tsz77 tag77
theorem xst77 {ro : Nat} {h : Heap} {b o : Nat} {v : Value} : stv Tryd.prog ro h 77 (.pointer (some ⟨b, o, none⟩)) v = put ro h b o 1 v := stv_put tsz77
theorem xld78 {h : Heap} {b o : Nat} : ld Tryd.prog h 78 (.pointer (some ⟨b, o, none⟩)) = cell h b o := ld_sc tsz78 tag78
theorem xst78 {ro : Nat} {h : Heap} {b o : Nat} {v : Value} : stv Tryd.prog ro h 78 (.pointer (some ⟨b, o, none⟩)) v = put ro h b o 1 v := stv_put tsz78
theorem xld79 {h : Heap} {b o : Nat} : ld Tryd.prog h 79 (.pointer (some ⟨b, o, none⟩)) = cell h b o := ld_sc tsz79 tag79
theorem xst79 {ro : Nat} {h : Heap} {b o : Nat} {v : Value} : stv Tryd.prog ro h 79 (.pointer (some ⟨b, o, none⟩)) v = put ro h b o 1 v := stv_put tsz79
theorem xld80 {h : Heap} {b o : Nat} : ld Tryd.prog h 80 (.pointer (some ⟨b, o, none⟩)) = cell h b o := ld_sc tsz80 tag80
theorem xst80 {ro : Nat} {h : Heap} {b o : Nat} {v : Value} : stv Tryd.prog ro h 80 (.pointer (some ⟨b, o, none⟩)) v = put ro h b o 1 v := stv_put tsz80
theorem xld81 {h : Heap} {b o : Nat} : ld Tryd.prog h 81 (.pointer (some ⟨b, o, none⟩)) = cell h b o := ld_sc tsz81 tag81
theorem xst81 {ro : Nat} {h : Heap} {b o : Nat} {v : Value} : stv Tryd.prog ro h 81 (.pointer (some ⟨b, o, none⟩)) v = put ro h b o 1 v := stv_put tsz81
theorem xld82 {h : Heap} {b o : Nat} : ld Tryd.prog h 82 (.pointer (some ⟨b, o, none⟩)) = cell h b o := ld_sc tsz82 tag82
theorem xst82 {ro : Nat} {h : Heap} {b o : Nat} {v : Value} : stv Tryd.prog ro h 82 (.pointer (some ⟨b, o, none⟩)) v = put ro h b o 1 v := stv_put tsz82
theorem xld83 {h : Heap} {b o : Nat} : ld Tryd.prog h 83 (.pointer (some ⟨b, o, none⟩)) = cell h b o := ld_sc tsz83 tag83
theorem xst83 {ro : Nat} {h : Heap} {b o : Nat} {v : Value} : stv Tryd.prog ro h 83 (.pointer (some ⟨b, o, none⟩)) v = put ro h b o 1 v := stv_put tsz83
theorem xld84 {h : Heap} {b o : Nat} : ld Tryd.prog h 84 (.pointer (some ⟨b, o, none⟩)) = cell h b o := ld_sc tsz84 tag84
theorem xst84 {ro : Nat} {h : Heap} {b o : Nat} {v : Value} : stv Tryd.prog ro h 84 (.pointer (some ⟨b, o, none⟩)) v = put ro h b o 1 v := stv_put tsz84
theorem xld85 {h : Heap} {b o : Nat} : ld Tryd.prog h 85 (.pointer (some ⟨b, o, none⟩)) = cell h b o := ld_sc tsz85 tag85
theorem xst85 {ro : Nat} {h : Heap} {b o : Nat} {v : Value} : stv Tryd.prog ro h 85 (.pointer (some ⟨b, o, none⟩)) v = put ro h b o 1 v := stv_put tsz85
theorem xld86 {h : Heap} {b o : Nat} : ld Tryd.prog h 86 (.pointer (some ⟨b, o, none⟩)) = cell h b o := ld_sc tsz86 tag86
theorem xst86 {ro : Nat} {h : Heap} {b o : Nat} {v : Value} : stv Tryd.prog ro h 86 (.pointer (some ⟨b, o, none⟩)) v = put ro h b o 1 v := stv_put tsz86
theorem xld87 {h : Heap} {b o : Nat} : ld Tryd.prog h 87 (.pointer (some ⟨b, o, none⟩)) = cell h b o := ld_sc tsz87 tag87
theorem xst87 {ro : Nat} {h : Heap} {b o : Nat} {v : Value} : stv Tryd.prog ro h 87 (.pointer (some ⟨b, o, none⟩)) v = put ro h b o 1 v := stv_put tsz87
theorem xld88 {h : Heap} {b o : Nat} : ld Tryd.prog h 88 (.pointer (some ⟨b, o, none⟩)) = cells h b o 24 := ld_agg tsz88 tag88
theorem xst88 {ro : Nat} {h : Heap} {b o : Nat} {v : Value} : stv Tryd.prog ro h 88 (.pointer (some ⟨b, o, none⟩)) v = put ro h b o 24 v := stv_put tsz88
theorem xld89 {h : Heap} {b o : Nat} : ld Tryd.prog h 89 (.pointer (some ⟨b, o, none⟩)) = cell h b o := ld_sc tsz89 tag89
theorem xst89 {ro : Nat} {h : Heap} {b o : Nat} {v : Value} : stv Tryd.prog ro h 89 (.pointer (some ⟨b, o, none⟩)) v = put ro h b o 1 v := stv_put tsz89
theorem xld90 {h : Heap} {b o : Nat} : ld Tryd.prog h 90 (.pointer (some ⟨b, o, none⟩)) = cell h b o := ld_sc tsz90 tag90
theorem xst90 {ro : Nat} {h : Heap} {b o : Nat} {v : Value} : stv Tryd.prog ro h 90 (.pointer (some ⟨b, o, none⟩)) v = put ro h b o 1 v := stv_put tsz90
theorem xld92 {h : Heap} {b o : Nat} : ld Tryd.prog h 92 (.pointer (some ⟨b, o, none⟩)) = cell h b o := ld_sc tsz92 tag92
theorem xst92 {ro : Nat} {h : Heap} {b o : Nat} {v : Value} : stv Tryd.prog ro h 92 (.pointer (some ⟨b, o, none⟩)) v = put ro h b o 1 v := stv_put tsz92
theorem xld93 {h : Heap} {b o : Nat} : ld Tryd.prog h 93 (.pointer (some ⟨b, o, none⟩)) = cell h b o := ld_sc tsz93 tag93
theorem xst93 {ro : Nat} {h : Heap} {b o : Nat} {v : Value} : stv Tryd.prog ro h 93 (.pointer (some ⟨b, o, none⟩)) v = put ro h b o 1 v := stv_put tsz93
theorem xld94 {h : Heap} {b o : Nat} : ld Tryd.prog h 94 (.pointer (some ⟨b, o, none⟩)) = cell h b o := ld_sc tsz94 tag94
theorem xst94 {ro : Nat} {h : Heap} {b o : Nat} {v : Value} : stv Tryd.prog ro h 94 (.pointer (some ⟨b, o, none⟩)) v = put ro h b o 1 v := stv_put tsz94
theorem xld95 {h : Heap} {b o : Nat} : ld Tryd.prog h 95 (.pointer (some ⟨b, o, none⟩)) = cell h b o := ld_sc tsz95 tag95
theorem xst95 {ro : Nat} {h : Heap} {b o : Nat} {v : Value} : stv Tryd.prog ro h 95 (.pointer (some ⟨b, o, none⟩)) v = put ro h b o 1 v := stv_put tsz95
theorem xld96 {h : Heap} {b o : Nat} : ld Tryd.prog h 96 (.pointer (some ⟨b, o, none⟩)) = cell h b o := ld_sc tsz96 tag96
theorem xst96 {ro : Nat} {h : Heap} {b o : Nat} {v : Value} : stv Tryd.prog ro h 96 (.pointer (some ⟨b, o, none⟩)) v = put ro h b o 1 v := stv_put tsz96
theorem xld98 {h : Heap} {b o : Nat} : ld Tryd.prog h 98 (.pointer (some ⟨b, o, none⟩)) = cell h b o := ld_sc tsz98 tag98
theorem xst98 {ro : Nat} {h : Heap} {b o : Nat} {v : Value} : stv Tryd.prog ro h 98 (.pointer (some ⟨b, o, none⟩)) v = put ro h b o 1 v := stv_put tsz98
theorem xld99 {h : Heap} {b o : Nat} : ld Tryd.prog h 99 (.pointer (some ⟨b, o, none⟩)) = cell h b o := ld_sc tsz99 tag99
theorem xst99 {ro : Nat} {h : Heap} {b o : Nat} {v : Value} : stv Tryd.prog ro h 99 (.pointer (some ⟨b, o, none⟩)) v = put ro h b o 1 v := stv_put tsz99
theorem xld100 {h : Heap} {b o : Nat} : ld Tryd.prog h 100 (.pointer (some ⟨b, o, none⟩)) = cells h b o 20 := ld_agg tsz100 tag100
theorem xst100 {ro : Nat} {h : Heap} {b o : Nat} {v : Value} : stv Tryd.prog ro h 100 (.pointer (some ⟨b, o, none⟩)) v = put ro h b o 20 v := stv_put tsz100
theorem xld101 {h : Heap} {b o : Nat} : ld Tryd.prog h 101 (.pointer (some ⟨b, o, none⟩)) = cells h b o 65 := ld_agg tsz101 tag101
theorem xst101 {ro : Nat} {h : Heap} {b o : Nat} {v : Value} : stv Tryd.prog ro h 101 (.pointer (some ⟨b, o, none⟩)) v = put ro h b o 65 v := stv_put tsz101
theorem xld102 {h : Heap} {b o : Nat} : ld Tryd.prog h 102 (.pointer (some ⟨b, o, none⟩)) = cell h b o := ld_sc tsz102 tag102
theorem xst102 {ro : Nat} {h : Heap} {b o : Nat} {v : Value} : stv Tryd.prog ro h 102 (.pointer (some ⟨b, o, none⟩)) v = put ro h b o 1 v := stv_put tsz102
theorem xld103 {h : Heap} {b o : Nat} : ld Tryd.prog h 103 (.pointer (some ⟨b, o, none⟩)) = cell h b o := ld_sc tsz103 tag103
theorem xst103 {ro : Nat} {h : Heap} {b o : Nat} {v : Value} : stv Tryd.prog ro h 103 (.pointer (some ⟨b, o, none⟩)) v = put ro h b o 1 v := stv_put tsz103
theorem xld104 {h : Heap} {b o : Nat} : ld Tryd.prog h 104 (.pointer (some ⟨b, o, none⟩)) = cell h b o := ld_sc tsz104 tag104
theorem xst104 {ro : Nat} {h : Heap} {b o : Nat} {v : Value} : stv Tryd.prog ro h 104 (.pointer (some ⟨b, o, none⟩)) v = put ro h b o 1 v := stv_put tsz104
theorem xld105 {h : Heap} {b o : Nat} : ld Tryd.prog h 105 (.pointer (some ⟨b, o, none⟩)) = cell h b o := ld_sc tsz105 tag105
theorem xst105 {ro : Nat} {h : Heap} {b o : Nat} {v : Value} : stv Tryd.prog ro h 105 (.pointer (some ⟨b, o, none⟩)) v = put ro h b o 1 v := stv_put tsz105
theorem xld106 {h : Heap} {b o : Nat} : ld Tryd.prog h 106 (.pointer (some ⟨b, o, none⟩)) = cell h b o := ld_sc tsz106 tag106
theorem xst106 {ro : Nat} {h : Heap} {b o : Nat} {v : Value} : stv Tryd.prog ro h 106 (.pointer (some ⟨b, o, none⟩)) v = put ro h b o 1 v := stv_put tsz106
theorem xld107 {h : Heap} {b o : Nat} : ld Tryd.prog h 107 (.pointer (some ⟨b, o, none⟩)) = cells h b o 32 := ld_agg tsz107 tag107
theorem xst107 {ro : Nat} {h : Heap} {b o : Nat} {v : Value} : stv Tryd.prog ro h 107 (.pointer (some ⟨b, o, none⟩)) v = put ro h b o 32 v := stv_put tsz107
theorem xld108 {h : Heap} {b o : Nat} : ld Tryd.prog h 108 (.pointer (some ⟨b, o, none⟩)) = cells h b o 64 := ld_agg tsz108 tag108
theorem xst108 {ro : Nat} {h : Heap} {b o : Nat} {v : Value} : stv Tryd.prog ro h 108 (.pointer (some ⟨b, o, none⟩)) v = put ro h b o 64 v := stv_put tsz108
theorem xfad109_0 {b o : Nat} : fadr Tryd.prog 109 (.pointer (some ⟨b, o, none⟩)) 0 = some (.pointer (some ⟨b, o + 0, none⟩)) := fadr_of tfi109_0 (by decide)
theorem xfld109_0 {cs : List Value} : fld Tryd.prog 109 (.agg ⟨cs⟩) 0 = cs[0]? := fld_sc tfi109_0 tag17
theorem xfad109_1 {b o : Nat} : fadr Tryd.prog 109 (.pointer (some ⟨b, o, none⟩)) 1 = some (.pointer (some ⟨b, o + 1, none⟩)) := fadr_of tfi109_1 (by decide)
theorem xfld109_1 {cs : List Value} : fld Tryd.prog 109 (.agg ⟨cs⟩) 1 = cs[1]? := fld_sc tfi109_1 tag17
theorem xfad109_2 {b o : Nat} : fadr Tryd.prog 109 (.pointer (some ⟨b, o, none⟩)) 2 = some (.pointer (some ⟨b, o + 2, none⟩)) := fadr_of tfi109_2 (by decide)
theorem xfld109_2 {cs : List Value} : fld Tryd.prog 109 (.agg ⟨cs⟩) 2 = cs[2]? := fld_sc tfi109_2 tag17
theorem xfad109_3 {b o : Nat} : fadr Tryd.prog 109 (.pointer (some ⟨b, o, none⟩)) 3 = some (.pointer (some ⟨b, o + 3, none⟩)) := fadr_of tfi109_3 (by decide)
theorem xfld109_3 {cs : List Value} : fld Tryd.prog 109 (.agg ⟨cs⟩) 3 = cs[3]? := fld_sc tfi109_3 tag9
theorem xld109 {h : Heap} {b o : Nat} : ld Tryd.prog h 109 (.pointer (some ⟨b, o, none⟩)) = cells h b o 4 := ld_agg tsz109 tag109
theorem xst109 {ro : Nat} {h : Heap} {b o : Nat} {v : Value} : stv Tryd.prog ro h 109 (.pointer (some ⟨b, o, none⟩)) v = put ro h b o 4 v := stv_put tsz109
theorem xfad110_0 {b o : Nat} : fadr Tryd.prog 110 (.pointer (some ⟨b, o, none⟩)) 0 = some (.pointer (some ⟨b, o + 0, none⟩)) := fadr_of tfi110_0 (by decide)
theorem xfld110_0 {cs : List Value} : fld Tryd.prog 110 (.agg ⟨cs⟩) 0 = cs[0]? := fld_sc tfi110_0 tag17
theorem xfad110_1 {b o : Nat} : fadr Tryd.prog 110 (.pointer (some ⟨b, o, none⟩)) 1 = some (.pointer (some ⟨b, o + 1, none⟩)) := fadr_of tfi110_1 (by decide)
theorem xfld110_1 {cs : List Value} : fld Tryd.prog 110 (.agg ⟨cs⟩) 1 = cs[1]? := fld_sc tfi110_1 tag17
theorem xfad110_2 {b o : Nat} : fadr Tryd.prog 110 (.pointer (some ⟨b, o, none⟩)) 2 = some (.pointer (some ⟨b, o + 2, none⟩)) := fadr_of tfi110_2 (by decide)
theorem xfld110_2 {cs : List Value} : fld Tryd.prog 110 (.agg ⟨cs⟩) 2 = cs[2]? := fld_sc tfi110_2 tag17
theorem xfad110_3 {b o : Nat} : fadr Tryd.prog 110 (.pointer (some ⟨b, o, none⟩)) 3 = some (.pointer (some ⟨b, o + 3, none⟩)) := fadr_of tfi110_3 (by decide)
theorem xfld110_3 {cs : List Value} : fld Tryd.prog 110 (.agg ⟨cs⟩) 3 = cs[3]? := fld_sc tfi110_3 tag9
theorem xld110 {h : Heap} {b o : Nat} : ld Tryd.prog h 110 (.pointer (some ⟨b, o, none⟩)) = cells h b o 4 := ld_agg tsz110 tag110
theorem xst110 {ro : Nat} {h : Heap} {b o : Nat} {v : Value} : stv Tryd.prog ro h 110 (.pointer (some ⟨b, o, none⟩)) v = put ro h b o 4 v := stv_put tsz110
theorem xld111 {h : Heap} {b o : Nat} : ld Tryd.prog h 111 (.pointer (some ⟨b, o, none⟩)) = cells h b o 0 := ld_agg tsz111 tag111
theorem xst111 {ro : Nat} {h : Heap} {b o : Nat} {v : Value} : stv Tryd.prog ro h 111 (.pointer (some ⟨b, o, none⟩)) v = put ro h b o 0 v := stv_put tsz111
theorem xfld112_0 {cs : List Value} : fld Tryd.prog 112 (.agg ⟨cs⟩) 0 = some (.agg ⟨(cs.drop 0).take 0⟩) := fld_agg tfi112_0 tag111
theorem xld112 {h : Heap} {b o : Nat} : ld Tryd.prog h 112 (.pointer (some ⟨b, o, none⟩)) = cells h b o 0 := ld_agg tsz112 tag112
theorem xst112 {ro : Nat} {h : Heap} {b o : Nat} {v : Value} : stv Tryd.prog ro h 112 (.pointer (some ⟨b, o, none⟩)) v = put ro h b o 0 v := stv_put tsz112
theorem xfld113_0 {cs : List Value} : fld Tryd.prog 113 (.agg ⟨cs⟩) 0 = some (.agg ⟨(cs.drop 0).take 0⟩) := fld_agg tfi113_0 tag111
theorem xld113 {h : Heap} {b o : Nat} : ld Tryd.prog h 113 (.pointer (some ⟨b, o, none⟩)) = cells h b o 0 := ld_agg tsz113 tag113
theorem xst113 {ro : Nat} {h : Heap} {b o : Nat} {v : Value} : stv Tryd.prog ro h 113 (.pointer (some ⟨b, o, none⟩)) v = put ro h b o 0 v := stv_put tsz113
theorem xld114 {h : Heap} {b o : Nat} : ld Tryd.prog h 114 (.pointer (some ⟨b, o, none⟩)) = cell h b o := ld_sc tsz114 tag114
theorem xst114 {ro : Nat} {h : Heap} {b o : Nat} {v : Value} : stv Tryd.prog ro h 114 (.pointer (some ⟨b, o, none⟩)) v = put ro h b o 1 v := stv_put tsz114
theorem xld115 {h : Heap} {b o : Nat} : ld Tryd.prog h 115 (.pointer (some ⟨b, o, none⟩)) = cell h b o := ld_sc tsz115 tag115
theorem xst115 {ro : Nat} {h : Heap} {b o : Nat} {v : Value} : stv Tryd.prog ro h 115 (.pointer (some ⟨b, o, none⟩)) v = put ro h b o 1 v := stv_put tsz115
theorem xld116 {h : Heap} {b o : Nat} : ld Tryd.prog h 116 (.pointer (some ⟨b, o, none⟩)) = cell h b o := ld_sc tsz116 tag116
theorem xst116 {ro : Nat} {h : Heap} {b o : Nat} {v : Value} : stv Tryd.prog ro h 116 (.pointer (some ⟨b, o, none⟩)) v = put ro h b o 1 v := stv_put tsz116
theorem xld117 {h : Heap} {b o : Nat} : ld Tryd.prog h 117 (.pointer (some ⟨b, o, none⟩)) = cell h b o := ld_sc tsz117 tag117
theorem xst117 {ro : Nat} {h : Heap} {b o : Nat} {v : Value} : stv Tryd.prog ro h 117 (.pointer (some ⟨b, o, none⟩)) v = put ro h b o 1 v := stv_put tsz117
theorem xld118 {h : Heap} {b o : Nat} : ld Tryd.prog h 118 (.pointer (some ⟨b, o, none⟩)) = cell h b o := ld_sc tsz118 tag118
theorem xst118 {ro : Nat} {h : Heap} {b o : Nat} {v : Value} : stv Tryd.prog ro h 118 (.pointer (some ⟨b, o, none⟩)) v = put ro h b o 1 v := stv_put tsz118
theorem xfad119_0 {b o : Nat} : fadr Tryd.prog 119 (.pointer (some ⟨b, o, none⟩)) 0 = some (.pointer (some ⟨b, o + 0, none⟩)) := fadr_of tfi119_0 (by decide)
theorem xfld119_0 {cs : List Value} : fld Tryd.prog 119 (.agg ⟨cs⟩) 0 = cs[0]? := fld_sc tfi119_0 tag12
theorem xfad119_1 {b o : Nat} : fadr Tryd.prog 119 (.pointer (some ⟨b, o, none⟩)) 1 = some (.pointer (some ⟨b, o + 1, none⟩)) := fadr_of tfi119_1 (by decide)
theorem xfld119_1 {cs : List Value} : fld Tryd.prog 119 (.agg ⟨cs⟩) 1 = cs[1]? := fld_sc tfi119_1 tag12
theorem xfad119_2 {b o : Nat} : fadr Tryd.prog 119 (.pointer (some ⟨b, o, none⟩)) 2 = some (.pointer (some ⟨b, o + 2, none⟩)) := fadr_of tfi119_2 (by decide)
theorem xfld119_2 {cs : List Value} : fld Tryd.prog 119 (.agg ⟨cs⟩) 2 = cs[2]? := fld_sc tfi119_2 tag96
theorem xfad119_3 {b o : Nat} : fadr Tryd.prog 119 (.pointer (some ⟨b, o, none⟩)) 3 = some (.pointer (some ⟨b, o + 3, none⟩)) := fadr_of tfi119_3 (by decide)
theorem xfld119_3 {cs : List Value} : fld Tryd.prog 119 (.agg ⟨cs⟩) 3 = cs[3]? := fld_sc tfi119_3 tag114
theorem xfad119_4 {b o : Nat} : fadr Tryd.prog 119 (.pointer (some ⟨b, o, none⟩)) 4 = some (.pointer (some ⟨b, o + 4, none⟩)) := fadr_of tfi119_4 (by decide)
theorem xfld119_4 {cs : List Value} : fld Tryd.prog 119 (.agg ⟨cs⟩) 4 = cs[4]? := fld_sc tfi119_4 tag5
theorem xfad119_5 {b o : Nat} : fadr Tryd.prog 119 (.pointer (some ⟨b, o, none⟩)) 5 = some (.pointer (some ⟨b, o + 5, none⟩)) := fadr_of tfi119_5 (by decide)
theorem xfld119_5 {cs : List Value} : fld Tryd.prog 119 (.agg ⟨cs⟩) 5 = cs[5]? := fld_sc tfi119_5 tag5
theorem xfad119_6 {b o : Nat} : fadr Tryd.prog 119 (.pointer (some ⟨b, o, none⟩)) 6 = some (.pointer (some ⟨b, o + 6, none⟩)) := fadr_of tfi119_6 (by decide)
theorem xfld119_6 {cs : List Value} : fld Tryd.prog 119 (.agg ⟨cs⟩) 6 = cs[6]? := fld_sc tfi119_6 tag115
theorem xfad119_7 {b o : Nat} : fadr Tryd.prog 119 (.pointer (some ⟨b, o, none⟩)) 7 = some (.pointer (some ⟨b, o + 7, none⟩)) := fadr_of tfi119_7 (by decide)
theorem xfld119_7 {cs : List Value} : fld Tryd.prog 119 (.agg ⟨cs⟩) 7 = cs[7]? := fld_sc tfi119_7 tag116
theorem xfad119_8 {b o : Nat} : fadr Tryd.prog 119 (.pointer (some ⟨b, o, none⟩)) 8 = some (.pointer (some ⟨b, o + 8, none⟩)) := fadr_of tfi119_8 (by decide)
theorem xfld119_8 {cs : List Value} : fld Tryd.prog 119 (.agg ⟨cs⟩) 8 = cs[8]? := fld_sc tfi119_8 tag73
theorem xfad119_9 {b o : Nat} : fadr Tryd.prog 119 (.pointer (some ⟨b, o, none⟩)) 9 = some (.pointer (some ⟨b, o + 9, none⟩)) := fadr_of tfi119_9 (by decide)
theorem xfld119_9 {cs : List Value} : fld Tryd.prog 119 (.agg ⟨cs⟩) 9 = cs[9]? := fld_sc tfi119_9 tag117
theorem xfad119_10 {b o : Nat} : fadr Tryd.prog 119 (.pointer (some ⟨b, o, none⟩)) 10 = some (.pointer (some ⟨b, o + 10, none⟩)) := fadr_of tfi119_10 (by decide)
theorem xfld119_10 {cs : List Value} : fld Tryd.prog 119 (.agg ⟨cs⟩) 10 = cs[10]? := fld_sc tfi119_10 tag118
theorem xld119 {h : Heap} {b o : Nat} : ld Tryd.prog h 119 (.pointer (some ⟨b, o, none⟩)) = cells h b o 11 := ld_agg tsz119 tag119
theorem xst119 {ro : Nat} {h : Heap} {b o : Nat} {v : Value} : stv Tryd.prog ro h 119 (.pointer (some ⟨b, o, none⟩)) v = put ro h b o 11 v := stv_put tsz119
theorem xfad120_0 {b o : Nat} : fadr Tryd.prog 120 (.pointer (some ⟨b, o, none⟩)) 0 = some (.pointer (some ⟨b, o + 0, none⟩)) := fadr_of tfi120_0 (by decide)
theorem xfld120_0 {cs : List Value} : fld Tryd.prog 120 (.agg ⟨cs⟩) 0 = cs[0]? := fld_sc tfi120_0 tag12
theorem xfad120_1 {b o : Nat} : fadr Tryd.prog 120 (.pointer (some ⟨b, o, none⟩)) 1 = some (.pointer (some ⟨b, o + 1, none⟩)) := fadr_of tfi120_1 (by decide)
theorem xfld120_1 {cs : List Value} : fld Tryd.prog 120 (.agg ⟨cs⟩) 1 = cs[1]? := fld_sc tfi120_1 tag12
theorem xfad120_2 {b o : Nat} : fadr Tryd.prog 120 (.pointer (some ⟨b, o, none⟩)) 2 = some (.pointer (some ⟨b, o + 2, none⟩)) := fadr_of tfi120_2 (by decide)
theorem xfld120_2 {cs : List Value} : fld Tryd.prog 120 (.agg ⟨cs⟩) 2 = cs[2]? := fld_sc tfi120_2 tag96
theorem xfad120_3 {b o : Nat} : fadr Tryd.prog 120 (.pointer (some ⟨b, o, none⟩)) 3 = some (.pointer (some ⟨b, o + 3, none⟩)) := fadr_of tfi120_3 (by decide)
theorem xfld120_3 {cs : List Value} : fld Tryd.prog 120 (.agg ⟨cs⟩) 3 = cs[3]? := fld_sc tfi120_3 tag114
theorem xfad120_4 {b o : Nat} : fadr Tryd.prog 120 (.pointer (some ⟨b, o, none⟩)) 4 = some (.pointer (some ⟨b, o + 4, none⟩)) := fadr_of tfi120_4 (by decide)
theorem xfld120_4 {cs : List Value} : fld Tryd.prog 120 (.agg ⟨cs⟩) 4 = cs[4]? := fld_sc tfi120_4 tag5
theorem xfad120_5 {b o : Nat} : fadr Tryd.prog 120 (.pointer (some ⟨b, o, none⟩)) 5 = some (.pointer (some ⟨b, o + 5, none⟩)) := fadr_of tfi120_5 (by decide)
theorem xfld120_5 {cs : List Value} : fld Tryd.prog 120 (.agg ⟨cs⟩) 5 = cs[5]? := fld_sc tfi120_5 tag5
theorem xfad120_6 {b o : Nat} : fadr Tryd.prog 120 (.pointer (some ⟨b, o, none⟩)) 6 = some (.pointer (some ⟨b, o + 6, none⟩)) := fadr_of tfi120_6 (by decide)
theorem xfld120_6 {cs : List Value} : fld Tryd.prog 120 (.agg ⟨cs⟩) 6 = cs[6]? := fld_sc tfi120_6 tag115
theorem xfad120_7 {b o : Nat} : fadr Tryd.prog 120 (.pointer (some ⟨b, o, none⟩)) 7 = some (.pointer (some ⟨b, o + 7, none⟩)) := fadr_of tfi120_7 (by decide)
theorem xfld120_7 {cs : List Value} : fld Tryd.prog 120 (.agg ⟨cs⟩) 7 = cs[7]? := fld_sc tfi120_7 tag116
theorem xfad120_8 {b o : Nat} : fadr Tryd.prog 120 (.pointer (some ⟨b, o, none⟩)) 8 = some (.pointer (some ⟨b, o + 8, none⟩)) := fadr_of tfi120_8 (by decide)
theorem xfld120_8 {cs : List Value} : fld Tryd.prog 120 (.agg ⟨cs⟩) 8 = cs[8]? := fld_sc tfi120_8 tag73
theorem xfad120_9 {b o : Nat} : fadr Tryd.prog 120 (.pointer (some ⟨b, o, none⟩)) 9 = some (.pointer (some ⟨b, o + 9, none⟩)) := fadr_of tfi120_9 (by decide)
theorem xfld120_9 {cs : List Value} : fld Tryd.prog 120 (.agg ⟨cs⟩) 9 = cs[9]? := fld_sc tfi120_9 tag117
theorem xfad120_10 {b o : Nat} : fadr Tryd.prog 120 (.pointer (some ⟨b, o, none⟩)) 10 = some (.pointer (some ⟨b, o + 10, none⟩)) := fadr_of tfi120_10 (by decide)
theorem xfld120_10 {cs : List Value} : fld Tryd.prog 120 (.agg ⟨cs⟩) 10 = cs[10]? := fld_sc tfi120_10 tag118
theorem xld120 {h : Heap} {b o : Nat} : ld Tryd.prog h 120 (.pointer (some ⟨b, o, none⟩)) = cells h b o 11 := ld_agg tsz120 tag120
theorem xst120 {ro : Nat} {h : Heap} {b o : Nat} {v : Value} : stv Tryd.prog ro h 120 (.pointer (some ⟨b, o, none⟩)) v = put ro h b o 11 v := stv_put tsz120
theorem xbls22_0 {h : Heap} : bldS Tryd.prog h 22 0 [] = some (.slice (some ⟨h.length, 0, none⟩) 0 0, h ++ [⟨5, []⟩]) := bldS_nil tel22 tsz5 tze5
theorem xbls22_1 {h : Heap} {v : Value} (hl : (cellsOf v).length = 1) (h1 : (cellsOf v).all one = true) : bldS Tryd.prog h 22 1 [(0, v)] = some (.slice (some ⟨h.length, 0, none⟩) 1 1, h ++ [⟨5, cellsOf v⟩]) := bldS_one tel22 tsz5 tze5 rfl (by decide) hl h1
theorem xbls24_0 {h : Heap} : bldS Tryd.prog h 24 0 [] = some (.slice (some ⟨h.length, 0, none⟩) 0 0, h ++ [⟨9, []⟩]) := bldS_nil tel24 tsz9 tze9
theorem xbls24_1 {h : Heap} {v : Value} (hl : (cellsOf v).length = 1) (h1 : (cellsOf v).all one = true) : bldS Tryd.prog h 24 1 [(0, v)] = some (.slice (some ⟨h.length, 0, none⟩) 1 1, h ++ [⟨9, cellsOf v⟩]) := bldS_one tel24 tsz9 tze9 rfl (by decide) hl h1
theorem xbls26_0 {h : Heap} : bldS Tryd.prog h 26 0 [] = some (.slice (some ⟨h.length, 0, none⟩) 0 0, h ++ [⟨69, []⟩]) := bldS_nil tel26 tsz69 tze69
theorem xbls26_1 {h : Heap} {v : Value} (hl : (cellsOf v).length = 2) (h1 : (cellsOf v).all one = true) : bldS Tryd.prog h 26 1 [(0, v)] = some (.slice (some ⟨h.length, 0, none⟩) 1 1, h ++ [⟨69, cellsOf v⟩]) := bldS_one tel26 tsz69 tze69 rfl (by decide) hl h1
theorem xbls27_0 {h : Heap} : bldS Tryd.prog h 27 0 [] = some (.slice (some ⟨h.length, 0, none⟩) 0 0, h ++ [⟨79, []⟩]) := bldS_nil tel27 tsz79 tze79
theorem xbls27_1 {h : Heap} {v : Value} (hl : (cellsOf v).length = 1) (h1 : (cellsOf v).all one = true) : bldS Tryd.prog h 27 1 [(0, v)] = some (.slice (some ⟨h.length, 0, none⟩) 1 1, h ++ [⟨79, cellsOf v⟩]) := bldS_one tel27 tsz79 tze79 rfl (by decide) hl h1
theorem xbls28_0 {h : Heap} : bldS Tryd.prog h 28 0 [] = some (.slice (some ⟨h.length, 0, none⟩) 0 0, h ++ [⟨27, []⟩]) := bldS_nil tel28 tsz27 tze27
theorem xbls28_1 {h : Heap} {v : Value} (hl : (cellsOf v).length = 1) (h1 : (cellsOf v).all one = true) : bldS Tryd.prog h 28 1 [(0, v)] = some (.slice (some ⟨h.length, 0, none⟩) 1 1, h ++ [⟨27, cellsOf v⟩]) := bldS_one tel28 tsz27 tze27 rfl (by decide) hl h1
theorem xbls65_0 {h : Heap} : bldS Tryd.prog h 65 0 [] = some (.slice (some ⟨h.length, 0, none⟩) 0 0, h ++ [⟨2, []⟩]) := bldS_nil tel65 tsz2 tze2
theorem xbls65_1 {h : Heap} {v : Value} (hl : (cellsOf v).length = 1) (h1 : (cellsOf v).all one = true) : bldS Tryd.prog h 65 1 [(0, v)] = some (.slice (some ⟨h.length, 0, none⟩) 1 1, h ++ [⟨2, cellsOf v⟩]) := bldS_one tel65 tsz2 tze2 rfl (by decide) hl h1
theorem xbld45  : bld Tryd.prog 45 [] = some (.agg ⟨[.pointer none, .slice none 0 0]⟩) := by
  simp only [bld, tze45, tpl45, Option.bind_some, lay, cellsOf_agg, List.getElem?_cons_zero, List.getElem?_cons_succ, List.length_cons, List.length_nil, ne_eq, not_true_eq_false, false_or, Nat.reduceAdd, Nat.reduceLeDiff, Nat.reduceGT, gt_iff_lt, Nat.reduceLT, Nat.lt_irrefl, if_false, Nat.not_lt_zero]
  simp [splice]
theorem xbld60_0 {v0 : Value} (h0 : cellsOf v0 = [v0]) : bld Tryd.prog 60 [(0, v0)] = some (.agg ⟨[v0, .int .i64 0, .int .u64 0]⟩) := by
  simp only [bld, tze60, tpl60, Option.bind_some, lay, cellsOf_agg, h0, List.getElem?_cons_zero, List.getElem?_cons_succ, List.length_cons, List.length_nil, ne_eq, not_true_eq_false, false_or, Nat.reduceAdd, Nat.reduceLeDiff, Nat.reduceGT, gt_iff_lt, Nat.reduceLT, Nat.lt_irrefl, if_false, Nat.not_lt_zero]
  simp [splice]
theorem xbld30_0_2 {v0 v1 : Value} (h0 : cellsOf v0 = [v0]) (h1 : cellsOf v1 = [v1]) : bld Tryd.prog 30 [(0, v0), (2, v1)] = some (.agg ⟨[v0, .slice none 0 0, v1]⟩) := by
  simp only [bld, tze30, tpl30, Option.bind_some, lay, cellsOf_agg, h0, h1, List.getElem?_cons_zero, List.getElem?_cons_succ, List.length_cons, List.length_nil, ne_eq, not_true_eq_false, false_or, Nat.reduceAdd, Nat.reduceLeDiff, Nat.reduceGT, gt_iff_lt, Nat.reduceLT, Nat.lt_irrefl, if_false, Nat.not_lt_zero]
  simp [splice]
theorem xbld69_0 {v0 : Value} (h0 : cellsOf v0 = [v0]) : bld Tryd.prog 69 [(0, v0)] = some (.agg ⟨[v0, .int .i64 0]⟩) := by
  simp only [bld, tze69, tpl69, Option.bind_some, lay, cellsOf_agg, h0, List.getElem?_cons_zero, List.getElem?_cons_succ, List.length_cons, List.length_nil, ne_eq, not_true_eq_false, false_or, Nat.reduceAdd, Nat.reduceLeDiff, Nat.reduceGT, gt_iff_lt, Nat.reduceLT, Nat.lt_irrefl, if_false, Nat.not_lt_zero]
  simp [splice]
theorem xcv2_5 {h : Heap} {k' : IntKind} {n : Int} : aconv Tryd.prog h 2 5 (.int k' n) = some (.int .u8 (IntKind.u8.wrap n)) := conv_int Tryd.underlying2 Tryd.underlying5
theorem xcv5_2 {h : Heap} {k' : IntKind} {n : Int} : aconv Tryd.prog h 5 2 (.int k' n) = some (.int .i64 (IntKind.i64.wrap n)) := conv_int Tryd.underlying5 Tryd.underlying2
theorem xcv5_3 {h : Heap} {k' : IntKind} {n : Int} : aconv Tryd.prog h 5 3 (.int k' n) = some (.int .i64 (IntKind.i64.wrap n)) := conv_int Tryd.underlying5 Tryd.underlying3
theorem xcv3_58 {h : Heap} {k' : IntKind} {n : Int} : aconv Tryd.prog h 3 58 (.int k' n) = some (.int .u64 (IntKind.u64.wrap n)) := conv_int Tryd.underlying3 Tryd.underlying58
theorem xcv58_2 {h : Heap} {k' : IntKind} {n : Int} : aconv Tryd.prog h 58 2 (.int k' n) = some (.int .i64 (IntKind.i64.wrap n)) := conv_int Tryd.underlying58 Tryd.underlying2
theorem xcv2_84 {h : Heap} {k' : IntKind} {n : Int} : aconv Tryd.prog h 2 84 (.int k' n) = some (.float .f32 (cf .f32 (FloatKind.nearest .f32 n))) := conv_if Tryd.underlying2 Tryd.underlying84
theorem xcv2_58 {h : Heap} {k' : IntKind} {n : Int} : aconv Tryd.prog h 2 58 (.int k' n) = some (.int .u64 (IntKind.u64.wrap n)) := conv_int Tryd.underlying2 Tryd.underlying58
theorem xcv3_77 {h : Heap} {k' : IntKind} {n : Int} : aconv Tryd.prog h 3 77 (.int k' n) = some (.int .u64 (IntKind.u64.wrap n)) := conv_int Tryd.underlying3 Tryd.underlying77
theorem xcv5_96 {h : Heap} {k' : IntKind} {n : Int} : aconv Tryd.prog h 5 96 (.int k' n) = some (.int .u32 (IntKind.u32.wrap n)) := conv_int Tryd.underlying5 Tryd.underlying96
theorem xcv58_96 {h : Heap} {k' : IntKind} {n : Int} : aconv Tryd.prog h 58 96 (.int k' n) = some (.int .u32 (IntKind.u32.wrap n)) := conv_int Tryd.underlying58 Tryd.underlying96
theorem xcv96_5 {h : Heap} {k' : IntKind} {n : Int} : aconv Tryd.prog h 96 5 (.int k' n) = some (.int .u8 (IntKind.u8.wrap n)) := conv_int Tryd.underlying96 Tryd.underlying5
theorem xcv96_2 {h : Heap} {k' : IntKind} {n : Int} : aconv Tryd.prog h 96 2 (.int k' n) = some (.int .i64 (IntKind.i64.wrap n)) := conv_int Tryd.underlying96 Tryd.underlying2
theorem xcv2_96 {h : Heap} {k' : IntKind} {n : Int} : aconv Tryd.prog h 2 96 (.int k' n) = some (.int .u32 (IntKind.u32.wrap n)) := conv_int Tryd.underlying2 Tryd.underlying96
theorem xcv58_5 {h : Heap} {k' : IntKind} {n : Int} : aconv Tryd.prog h 58 5 (.int k' n) = some (.int .u8 (IntKind.u8.wrap n)) := conv_int Tryd.underlying58 Tryd.underlying5
theorem xcv77_96 {h : Heap} {k' : IntKind} {n : Int} : aconv Tryd.prog h 77 96 (.int k' n) = some (.int .u32 (IntKind.u32.wrap n)) := conv_int Tryd.underlying77 Tryd.underlying96
theorem fr0 : Tryd.f0.results.toList = [] := rfl
theorem fr1 : Tryd.f1.results.toList = [] := rfl
theorem fr2 : Tryd.f2.results.toList = [] := rfl
theorem fr3 : Tryd.f3.results.toList = [.tmp 4] := rfl
theorem fr4 : Tryd.f4.results.toList = [.tmp 4] := rfl
theorem fr5 : Tryd.f5.results.toList = [.tmp 4] := rfl
theorem fr6 : Tryd.f6.results.toList = [.cell 2 30] := rfl
theorem fr7 : Tryd.f7.results.toList = [.tmp 2, .tmp 3] := rfl
theorem fr8 : Tryd.f8.results.toList = [.tmp 6] := rfl
theorem fr9 : Tryd.f9.results.toList = [.tmp 2, .tmp 3, .tmp 4] := rfl
theorem fr10 : Tryd.f10.results.toList = [.tmp 2] := rfl
theorem fr11 : Tryd.f11.results.toList = [.tmp 4] := rfl
theorem fr12 : Tryd.f12.results.toList = [.tmp 4] := rfl
theorem fr13 : Tryd.f13.results.toList = [.cell 2 30] := rfl
theorem fr14 : Tryd.f14.results.toList = [.tmp 4] := rfl
theorem fr15 : Tryd.f15.results.toList = [.tmp 4, .tmp 5] := rfl
theorem fr16 : Tryd.f16.results.toList = [.tmp 4, .tmp 5] := rfl
theorem fr17 : Tryd.f17.results.toList = [.tmp 2] := rfl
theorem fr18 : Tryd.f18.results.toList = [.tmp 2] := rfl
theorem fr19 : Tryd.f19.results.toList = [.tmp 2] := rfl
theorem fr20 : Tryd.f20.results.toList = [.tmp 2, .tmp 3] := rfl
theorem fr21 : Tryd.f21.results.toList = [.tmp 2] := rfl
theorem fr22 : Tryd.f22.results.toList = [.tmp 4] := rfl
theorem fr23 : Tryd.f23.results.toList = [.tmp 4] := rfl
theorem fr24 : Tryd.f24.results.toList = [.tmp 2] := rfl
theorem fr25 : Tryd.f25.results.toList = [.tmp 2] := rfl
theorem fr26 : Tryd.f26.results.toList = [.tmp 2] := rfl
theorem fr27 : Tryd.f27.results.toList = [.tmp 4] := rfl
theorem fr28 : Tryd.f28.results.toList = [.tmp 4] := rfl
theorem fr29 : Tryd.f29.results.toList = [.tmp 6] := rfl
theorem fr30 : Tryd.f30.results.toList = [] := rfl
theorem fr31 : Tryd.f31.results.toList = [.tmp 4] := rfl
theorem fr32 : Tryd.f32.results.toList = [.tmp 4] := rfl
theorem fr33 : Tryd.f33.results.toList = [.tmp 4, .tmp 5, .tmp 6] := rfl
theorem fr34 : Tryd.f34.results.toList = [.tmp 2] := rfl
theorem fr35 : Tryd.f35.results.toList = [.tmp 2] := rfl
theorem fr36 : Tryd.f36.results.toList = [.tmp 2] := rfl
theorem fr37 : Tryd.f37.results.toList = [.tmp 4] := rfl
theorem fr38 : Tryd.f38.results.toList = [] := rfl
theorem fr39 : Tryd.f39.results.toList = [.tmp 4] := rfl
theorem fr40 : Tryd.f40.results.toList = [.tmp 4] := rfl
theorem fr41 : Tryd.f41.results.toList = [.tmp 4, .tmp 5, .tmp 6] := rfl
theorem fr42 : Tryd.f42.results.toList = [.tmp 2] := rfl
theorem fr43 : Tryd.f43.results.toList = [.tmp 2] := rfl
theorem fr44 : Tryd.f44.results.toList = [] := rfl
theorem fr45 : Tryd.f45.results.toList = [.tmp 2] := rfl
theorem fr46 : Tryd.f46.results.toList = [.tmp 4] := rfl
theorem fr47 : Tryd.f47.results.toList = [.tmp 2] := rfl
theorem fr48 : Tryd.f48.results.toList = [.tmp 2] := rfl
theorem fr49 : Tryd.f49.results.toList = [] := rfl
theorem fr50 : Tryd.f50.results.toList = [.tmp 10, .tmp 11] := rfl
theorem fr51 : Tryd.f51.results.toList = [] := rfl
theorem fr52 : Tryd.f52.results.toList = [.tmp 2] := rfl
theorem fr53 : Tryd.f53.results.toList = [.tmp 2] := rfl
theorem fr54 : Tryd.f54.results.toList = [.tmp 2] := rfl
theorem fr55 : Tryd.f55.results.toList = [.tmp 4] := rfl
theorem fr56 : Tryd.f56.results.toList = [.tmp 2, .tmp 3] := rfl
theorem fr57 : Tryd.f57.results.toList = [.tmp 2] := rfl
theorem fr58 : Tryd.f58.results.toList = [.tmp 2] := rfl
theorem fr59 : Tryd.f59.results.toList = [.tmp 2] := rfl
theorem fr60 : Tryd.f60.results.toList = [.tmp 2] := rfl
theorem fr61 : Tryd.f61.results.toList = [.tmp 2] := rfl
theorem fr62 : Tryd.f62.results.toList = [] := rfl
theorem fr63 : Tryd.f63.results.toList = [] := rfl
theorem fr64 : Tryd.f64.results.toList = [.tmp 2] := rfl
theorem fr65 : Tryd.f65.results.toList = [.tmp 2] := rfl
theorem fr66 : Tryd.f66.results.toList = [] := rfl
theorem fr67 : Tryd.f67.results.toList = [] := rfl
theorem fr68 : Tryd.f68.results.toList = [] := rfl
theorem fr69 : Tryd.f69.results.toList = [] := rfl
theorem fr70 : Tryd.f70.results.toList = [] := rfl
theorem fr71 : Tryd.f71.results.toList = [] := rfl
theorem fr72 : Tryd.f72.results.toList = [] := rfl
theorem fr73 : Tryd.f73.results.toList = [] := rfl
theorem fr74 : Tryd.f74.results.toList = [] := rfl
theorem fr75 : Tryd.f75.results.toList = [] := rfl
theorem fr76 : Tryd.f76.results.toList = [] := rfl
theorem fr77 : Tryd.f77.results.toList = [] := rfl
theorem fr78 : Tryd.f78.results.toList = [] := rfl
theorem fr79 : Tryd.f79.results.toList = [] := rfl
theorem fr80 : Tryd.f80.results.toList = [] := rfl
theorem fr81 : Tryd.f81.results.toList = [] := rfl
theorem fr82 : Tryd.f82.results.toList = [] := rfl
theorem fr83 : Tryd.f83.results.toList = [] := rfl
theorem fr84 : Tryd.f84.results.toList = [] := rfl
theorem fr85 : Tryd.f85.results.toList = [] := rfl
theorem fr86 : Tryd.f86.results.toList = [] := rfl
theorem fr87 : Tryd.f87.results.toList = [] := rfl
theorem fr88 : Tryd.f88.results.toList = [] := rfl
theorem fr89 : Tryd.f89.results.toList = [] := rfl
end Go.Proofs.YtikanmboimjhgaaDoor.Sim
