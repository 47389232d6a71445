/- Closed facts on the types of this translation, as the abstract machine asks for them: sizes, zero values, places of fields. Written by a program of this session; no condition. -/
import Derived.Test.YtikanmboimjhgaaDoorSimM
import Derived.Test.YtikanmboimjhgaaDoorProg
import Derived.KernelRfl
namespace Go.Proofs.YtikanmboimjhgaaDoor.Sim
open Go

theorem tsz1 : szT Tryd.prog 1 = some 1 := by kernel_rfl
theorem tag1 : aggT Tryd.prog 1 = false := by kernel_rfl
theorem tze1 : zeroT Tryd.prog 1 = some .nilFunc := by kernel_rfl
theorem tsz2 : szT Tryd.prog 2 = some 1 := by kernel_rfl
theorem tby2 : byT Tryd.prog 2 = some 8 := by kernel_rfl
theorem tag2 : aggT Tryd.prog 2 = false := by kernel_rfl
theorem tze2 : zeroT Tryd.prog 2 = some (.int .i64 0) := by kernel_rfl
theorem tpl2 : placesT Tryd.prog 2 = none := by kernel_rfl
theorem tbt2 : byteT Tryd.prog 2 = false := by kernel_rfl
theorem tst2 : strT Tryd.prog 2 = false := by kernel_rfl
theorem tsz3 : szT Tryd.prog 3 = some 1 := by kernel_rfl
theorem tby3 : byT Tryd.prog 3 = some 8 := by kernel_rfl
theorem tag3 : aggT Tryd.prog 3 = false := by kernel_rfl
theorem tze3 : zeroT Tryd.prog 3 = some (.int .i64 0) := by kernel_rfl
theorem tpl3 : placesT Tryd.prog 3 = none := by kernel_rfl
theorem tbt3 : byteT Tryd.prog 3 = false := by kernel_rfl
theorem tst3 : strT Tryd.prog 3 = false := by kernel_rfl
theorem tsz4 : szT Tryd.prog 4 = some 1 := by kernel_rfl
theorem tby4 : byT Tryd.prog 4 = some 1 := by kernel_rfl
theorem tag4 : aggT Tryd.prog 4 = false := by kernel_rfl
theorem tze4 : zeroT Tryd.prog 4 = some (.bool false) := by kernel_rfl
theorem tpl4 : placesT Tryd.prog 4 = none := by kernel_rfl
theorem tbt4 : byteT Tryd.prog 4 = false := by kernel_rfl
theorem tst4 : strT Tryd.prog 4 = false := by kernel_rfl
theorem tsz5 : szT Tryd.prog 5 = some 1 := by kernel_rfl
theorem tby5 : byT Tryd.prog 5 = some 1 := by kernel_rfl
theorem tag5 : aggT Tryd.prog 5 = false := by kernel_rfl
theorem tze5 : zeroT Tryd.prog 5 = some (.int .u8 0) := by kernel_rfl
theorem tpl5 : placesT Tryd.prog 5 = none := by kernel_rfl
theorem tbt5 : byteT Tryd.prog 5 = true := by kernel_rfl
theorem tst5 : strT Tryd.prog 5 = false := by kernel_rfl
theorem tsz6 : szT Tryd.prog 6 = some 1 := by kernel_rfl
theorem tby6 : byT Tryd.prog 6 = some 1 := by kernel_rfl
theorem tag6 : aggT Tryd.prog 6 = false := by kernel_rfl
theorem tze6 : zeroT Tryd.prog 6 = some (.int .u8 0) := by kernel_rfl
theorem tpl6 : placesT Tryd.prog 6 = none := by kernel_rfl
theorem tbt6 : byteT Tryd.prog 6 = true := by kernel_rfl
theorem tst6 : strT Tryd.prog 6 = false := by kernel_rfl
theorem tsz7 : szT Tryd.prog 7 = some 4 := by kernel_rfl
theorem tby7 : byT Tryd.prog 7 = some 24 := by kernel_rfl
theorem tag7 : aggT Tryd.prog 7 = true := by kernel_rfl
theorem tze7 : zeroT Tryd.prog 7 = some (.agg ⟨[.int .i64 0, .int .i64 0, .bool false, .int .u8 0]⟩) := by kernel_rfl
theorem tpl7 : placesT Tryd.prog 7 = some [(0, 1), (1, 1), (2, 1), (3, 1)] := by kernel_rfl
theorem tfi7_0 : fieldOf Tryd.prog 7 0 = some (0, 2, 1) := by kernel_rfl
theorem tfi7_1 : fieldOf Tryd.prog 7 1 = some (1, 3, 1) := by kernel_rfl
theorem tfi7_2 : fieldOf Tryd.prog 7 2 = some (2, 4, 1) := by kernel_rfl
theorem tfi7_3 : fieldOf Tryd.prog 7 3 = some (3, 6, 1) := by kernel_rfl
theorem tar7 : arrT Tryd.prog 7 = none := by kernel_rfl
theorem tbt7 : byteT Tryd.prog 7 = false := by kernel_rfl
theorem tst7 : strT Tryd.prog 7 = false := by kernel_rfl
theorem tsz8 : szT Tryd.prog 8 = some 4 := by kernel_rfl
theorem tby8 : byT Tryd.prog 8 = some 24 := by kernel_rfl
theorem tag8 : aggT Tryd.prog 8 = true := by kernel_rfl
theorem tze8 : zeroT Tryd.prog 8 = some (.agg ⟨[.int .i64 0, .int .i64 0, .bool false, .int .u8 0]⟩) := by kernel_rfl
theorem tpl8 : placesT Tryd.prog 8 = some [(0, 1), (1, 1), (2, 1), (3, 1)] := by kernel_rfl
theorem tfi8_0 : fieldOf Tryd.prog 8 0 = some (0, 2, 1) := by kernel_rfl
theorem tfi8_1 : fieldOf Tryd.prog 8 1 = some (1, 3, 1) := by kernel_rfl
theorem tfi8_2 : fieldOf Tryd.prog 8 2 = some (2, 4, 1) := by kernel_rfl
theorem tfi8_3 : fieldOf Tryd.prog 8 3 = some (3, 6, 1) := by kernel_rfl
theorem tar8 : arrT Tryd.prog 8 = none := by kernel_rfl
theorem tbt8 : byteT Tryd.prog 8 = false := by kernel_rfl
theorem tst8 : strT Tryd.prog 8 = false := by kernel_rfl
theorem tsz9 : szT Tryd.prog 9 = some 1 := by kernel_rfl
theorem tby9 : byT Tryd.prog 9 = some 16 := by kernel_rfl
theorem tag9 : aggT Tryd.prog 9 = false := by kernel_rfl
theorem tze9 : zeroT Tryd.prog 9 = some (.string ⟨⟨[]⟩⟩) := by kernel_rfl
theorem tpl9 : placesT Tryd.prog 9 = none := by kernel_rfl
theorem tbt9 : byteT Tryd.prog 9 = false := by kernel_rfl
theorem tst9 : strT Tryd.prog 9 = true := by kernel_rfl
theorem tsz10 : szT Tryd.prog 10 = some 1 := by kernel_rfl
theorem tby10 : byT Tryd.prog 10 = some 16 := by kernel_rfl
theorem tag10 : aggT Tryd.prog 10 = false := by kernel_rfl
theorem tze10 : zeroT Tryd.prog 10 = some (.string ⟨⟨[]⟩⟩) := by kernel_rfl
theorem tpl10 : placesT Tryd.prog 10 = none := by kernel_rfl
theorem tbt10 : byteT Tryd.prog 10 = false := by kernel_rfl
theorem tst10 : strT Tryd.prog 10 = true := by kernel_rfl
theorem tsz11 : szT Tryd.prog 11 = some 1 := by kernel_rfl
theorem tby11 : byT Tryd.prog 11 = some 16 := by kernel_rfl
theorem tag11 : aggT Tryd.prog 11 = false := by kernel_rfl
theorem tze11 : zeroT Tryd.prog 11 = some (.string ⟨⟨[]⟩⟩) := by kernel_rfl
theorem tpl11 : placesT Tryd.prog 11 = none := by kernel_rfl
theorem tbt11 : byteT Tryd.prog 11 = false := by kernel_rfl
theorem tst11 : strT Tryd.prog 11 = true := by kernel_rfl
theorem tsz12 : szT Tryd.prog 12 = some 1 := by kernel_rfl
theorem tby12 : byT Tryd.prog 12 = some 8 := by kernel_rfl
theorem tag12 : aggT Tryd.prog 12 = false := by kernel_rfl
theorem tze12 : zeroT Tryd.prog 12 = some (.int .u64 0) := by kernel_rfl
theorem tpl12 : placesT Tryd.prog 12 = none := by kernel_rfl
theorem tbt12 : byteT Tryd.prog 12 = false := by kernel_rfl
theorem tst12 : strT Tryd.prog 12 = false := by kernel_rfl
theorem tsz13 : szT Tryd.prog 13 = some 2 := by kernel_rfl
theorem tby13 : byT Tryd.prog 13 = some 24 := by kernel_rfl
theorem tag13 : aggT Tryd.prog 13 = true := by kernel_rfl
theorem tze13 : zeroT Tryd.prog 13 = some (.agg ⟨[.string ⟨⟨[]⟩⟩, .int .u64 0]⟩) := by kernel_rfl
theorem tpl13 : placesT Tryd.prog 13 = some [(0, 1), (1, 1)] := by kernel_rfl
theorem tfi13_0 : fieldOf Tryd.prog 13 0 = some (0, 9, 1) := by kernel_rfl
theorem tfi13_1 : fieldOf Tryd.prog 13 1 = some (1, 12, 1) := by kernel_rfl
theorem tar13 : arrT Tryd.prog 13 = none := by kernel_rfl
theorem tbt13 : byteT Tryd.prog 13 = false := by kernel_rfl
theorem tst13 : strT Tryd.prog 13 = false := by kernel_rfl
theorem tsz14 : szT Tryd.prog 14 = some 2 := by kernel_rfl
theorem tby14 : byT Tryd.prog 14 = some 24 := by kernel_rfl
theorem tag14 : aggT Tryd.prog 14 = true := by kernel_rfl
theorem tze14 : zeroT Tryd.prog 14 = some (.agg ⟨[.string ⟨⟨[]⟩⟩, .int .u64 0]⟩) := by kernel_rfl
theorem tpl14 : placesT Tryd.prog 14 = some [(0, 1), (1, 1)] := by kernel_rfl
theorem tfi14_0 : fieldOf Tryd.prog 14 0 = some (0, 9, 1) := by kernel_rfl
theorem tfi14_1 : fieldOf Tryd.prog 14 1 = some (1, 12, 1) := by kernel_rfl
theorem tar14 : arrT Tryd.prog 14 = none := by kernel_rfl
theorem tbt14 : byteT Tryd.prog 14 = false := by kernel_rfl
theorem tst14 : strT Tryd.prog 14 = false := by kernel_rfl
theorem tsz15 : szT Tryd.prog 15 = some 1 := by kernel_rfl
theorem tby15 : byT Tryd.prog 15 = some 8 := by kernel_rfl
theorem tag15 : aggT Tryd.prog 15 = false := by kernel_rfl
theorem tze15 : zeroT Tryd.prog 15 = some (.pointer none) := by kernel_rfl
theorem tpl15 : placesT Tryd.prog 15 = none := by kernel_rfl
theorem tbt15 : byteT Tryd.prog 15 = false := by kernel_rfl
theorem tst15 : strT Tryd.prog 15 = false := by kernel_rfl
theorem tsz16 : szT Tryd.prog 16 = some 1 := by kernel_rfl
theorem tby16 : byT Tryd.prog 16 = some 8 := by kernel_rfl
theorem tag16 : aggT Tryd.prog 16 = false := by kernel_rfl
theorem tze16 : zeroT Tryd.prog 16 = some (.pointer none) := by kernel_rfl
theorem tpl16 : placesT Tryd.prog 16 = none := by kernel_rfl
theorem tbt16 : byteT Tryd.prog 16 = false := by kernel_rfl
theorem tst16 : strT Tryd.prog 16 = false := by kernel_rfl
theorem tsz17 : szT Tryd.prog 17 = some 1 := by kernel_rfl
theorem tby17 : byT Tryd.prog 17 = some 8 := by kernel_rfl
theorem tag17 : aggT Tryd.prog 17 = false := by kernel_rfl
theorem tze17 : zeroT Tryd.prog 17 = some (.pointer none) := by kernel_rfl
theorem tpl17 : placesT Tryd.prog 17 = none := by kernel_rfl
theorem tbt17 : byteT Tryd.prog 17 = false := by kernel_rfl
theorem tst17 : strT Tryd.prog 17 = false := by kernel_rfl
theorem tsz18 : szT Tryd.prog 18 = some 1 := by kernel_rfl
theorem tby18 : byT Tryd.prog 18 = some 8 := by kernel_rfl
theorem tag18 : aggT Tryd.prog 18 = true := by kernel_rfl
theorem tze18 : zeroT Tryd.prog 18 = some (.agg ⟨[.pointer none]⟩) := by kernel_rfl
theorem tpl18 : placesT Tryd.prog 18 = some [(0, 1)] := by kernel_rfl
theorem tfi18_0 : fieldOf Tryd.prog 18 0 = some (0, 17, 1) := by kernel_rfl
theorem tar18 : arrT Tryd.prog 18 = none := by kernel_rfl
theorem tbt18 : byteT Tryd.prog 18 = false := by kernel_rfl
theorem tst18 : strT Tryd.prog 18 = false := by kernel_rfl
theorem tsz19 : szT Tryd.prog 19 = some 1 := by kernel_rfl
theorem tby19 : byT Tryd.prog 19 = some 8 := by kernel_rfl
theorem tag19 : aggT Tryd.prog 19 = true := by kernel_rfl
theorem tze19 : zeroT Tryd.prog 19 = some (.agg ⟨[.pointer none]⟩) := by kernel_rfl
theorem tpl19 : placesT Tryd.prog 19 = some [(0, 1)] := by kernel_rfl
theorem tfi19_0 : fieldOf Tryd.prog 19 0 = some (0, 17, 1) := by kernel_rfl
theorem tar19 : arrT Tryd.prog 19 = none := by kernel_rfl
theorem tbt19 : byteT Tryd.prog 19 = false := by kernel_rfl
theorem tst19 : strT Tryd.prog 19 = false := by kernel_rfl
theorem tsz20 : szT Tryd.prog 20 = some 1 := by kernel_rfl
theorem tag20 : aggT Tryd.prog 20 = false := by kernel_rfl
theorem tsz21 : szT Tryd.prog 21 = some 1 := by kernel_rfl
theorem tby21 : byT Tryd.prog 21 = some 4 := by kernel_rfl
theorem tag21 : aggT Tryd.prog 21 = false := by kernel_rfl
theorem tze21 : zeroT Tryd.prog 21 = some (.int .i32 0) := by kernel_rfl
theorem tpl21 : placesT Tryd.prog 21 = none := by kernel_rfl
theorem tbt21 : byteT Tryd.prog 21 = false := by kernel_rfl
theorem tst21 : strT Tryd.prog 21 = false := by kernel_rfl
theorem tsz22 : szT Tryd.prog 22 = some 1 := by kernel_rfl
theorem tby22 : byT Tryd.prog 22 = some 24 := by kernel_rfl
theorem tag22 : aggT Tryd.prog 22 = false := by kernel_rfl
theorem tze22 : zeroT Tryd.prog 22 = some (.slice none 0 0) := by kernel_rfl
theorem tpl22 : placesT Tryd.prog 22 = none := by kernel_rfl
theorem tel22 : elemT Tryd.prog 22 = some 5 := by kernel_rfl
theorem tbt22 : byteT Tryd.prog 22 = false := by kernel_rfl
theorem tst22 : strT Tryd.prog 22 = false := by kernel_rfl
theorem tsz23 : szT Tryd.prog 23 = some 1 := by kernel_rfl
theorem tag23 : aggT Tryd.prog 23 = false := by kernel_rfl
theorem tze23 : zeroT Tryd.prog 23 = some .nilFunc := by kernel_rfl
theorem tsz24 : szT Tryd.prog 24 = some 1 := by kernel_rfl
theorem tby24 : byT Tryd.prog 24 = some 24 := by kernel_rfl
theorem tag24 : aggT Tryd.prog 24 = false := by kernel_rfl
theorem tze24 : zeroT Tryd.prog 24 = some (.slice none 0 0) := by kernel_rfl
theorem tpl24 : placesT Tryd.prog 24 = none := by kernel_rfl
theorem tel24 : elemT Tryd.prog 24 = some 9 := by kernel_rfl
theorem tbt24 : byteT Tryd.prog 24 = false := by kernel_rfl
theorem tst24 : strT Tryd.prog 24 = false := by kernel_rfl
theorem tsz25 : szT Tryd.prog 25 = some 1 := by kernel_rfl
theorem tag25 : aggT Tryd.prog 25 = false := by kernel_rfl
theorem tze25 : zeroT Tryd.prog 25 = some .nilFunc := by kernel_rfl
theorem tsz26 : szT Tryd.prog 26 = some 1 := by kernel_rfl
theorem tby26 : byT Tryd.prog 26 = some 24 := by kernel_rfl
theorem tag26 : aggT Tryd.prog 26 = false := by kernel_rfl
theorem tze26 : zeroT Tryd.prog 26 = some (.slice none 0 0) := by kernel_rfl
theorem tpl26 : placesT Tryd.prog 26 = none := by kernel_rfl
theorem tel26 : elemT Tryd.prog 26 = some 69 := by kernel_rfl
theorem tbt26 : byteT Tryd.prog 26 = false := by kernel_rfl
theorem tst26 : strT Tryd.prog 26 = false := by kernel_rfl
theorem tsz27 : szT Tryd.prog 27 = some 1 := by kernel_rfl
theorem tby27 : byT Tryd.prog 27 = some 24 := by kernel_rfl
theorem tag27 : aggT Tryd.prog 27 = false := by kernel_rfl
theorem tze27 : zeroT Tryd.prog 27 = some (.slice none 0 0) := by kernel_rfl
theorem tpl27 : placesT Tryd.prog 27 = none := by kernel_rfl
theorem tel27 : elemT Tryd.prog 27 = some 79 := by kernel_rfl
theorem tbt27 : byteT Tryd.prog 27 = false := by kernel_rfl
theorem tst27 : strT Tryd.prog 27 = false := by kernel_rfl
theorem tsz28 : szT Tryd.prog 28 = some 1 := by kernel_rfl
theorem tby28 : byT Tryd.prog 28 = some 24 := by kernel_rfl
theorem tag28 : aggT Tryd.prog 28 = false := by kernel_rfl
theorem tze28 : zeroT Tryd.prog 28 = some (.slice none 0 0) := by kernel_rfl
theorem tpl28 : placesT Tryd.prog 28 = none := by kernel_rfl
theorem tel28 : elemT Tryd.prog 28 = some 27 := by kernel_rfl
theorem tbt28 : byteT Tryd.prog 28 = false := by kernel_rfl
theorem tst28 : strT Tryd.prog 28 = false := by kernel_rfl
theorem tsz29 : szT Tryd.prog 29 = some 3 := by kernel_rfl
theorem tby29 : byT Tryd.prog 29 = some 72 := by kernel_rfl
theorem tag29 : aggT Tryd.prog 29 = true := by kernel_rfl
theorem tze29 : zeroT Tryd.prog 29 = some (.agg ⟨[.slice none 0 0, .slice none 0 0, .slice none 0 0]⟩) := by kernel_rfl
theorem tpl29 : placesT Tryd.prog 29 = some [(0, 1), (1, 1), (2, 1)] := by kernel_rfl
theorem tfi29_0 : fieldOf Tryd.prog 29 0 = some (0, 26, 1) := by kernel_rfl
theorem tfi29_1 : fieldOf Tryd.prog 29 1 = some (1, 27, 1) := by kernel_rfl
theorem tfi29_2 : fieldOf Tryd.prog 29 2 = some (2, 28, 1) := by kernel_rfl
theorem tar29 : arrT Tryd.prog 29 = none := by kernel_rfl
theorem tbt29 : byteT Tryd.prog 29 = false := by kernel_rfl
theorem tst29 : strT Tryd.prog 29 = false := by kernel_rfl
theorem tsz30 : szT Tryd.prog 30 = some 3 := by kernel_rfl
theorem tby30 : byT Tryd.prog 30 = some 72 := by kernel_rfl
theorem tag30 : aggT Tryd.prog 30 = true := by kernel_rfl
theorem tze30 : zeroT Tryd.prog 30 = some (.agg ⟨[.slice none 0 0, .slice none 0 0, .slice none 0 0]⟩) := by kernel_rfl
theorem tpl30 : placesT Tryd.prog 30 = some [(0, 1), (1, 1), (2, 1)] := by kernel_rfl
theorem tfi30_0 : fieldOf Tryd.prog 30 0 = some (0, 26, 1) := by kernel_rfl
theorem tfi30_1 : fieldOf Tryd.prog 30 1 = some (1, 27, 1) := by kernel_rfl
theorem tfi30_2 : fieldOf Tryd.prog 30 2 = some (2, 28, 1) := by kernel_rfl
theorem tar30 : arrT Tryd.prog 30 = none := by kernel_rfl
theorem tbt30 : byteT Tryd.prog 30 = false := by kernel_rfl
theorem tst30 : strT Tryd.prog 30 = false := by kernel_rfl
theorem tsz31 : szT Tryd.prog 31 = some 1 := by kernel_rfl
theorem tag31 : aggT Tryd.prog 31 = false := by kernel_rfl
theorem tze31 : zeroT Tryd.prog 31 = some .nilFunc := by kernel_rfl
theorem tsz33 : szT Tryd.prog 33 = some 1 := by kernel_rfl
theorem tag33 : aggT Tryd.prog 33 = false := by kernel_rfl
theorem tze33 : zeroT Tryd.prog 33 = some .nilFunc := by kernel_rfl
theorem tsz34 : szT Tryd.prog 34 = some 1 := by kernel_rfl
theorem tag34 : aggT Tryd.prog 34 = false := by kernel_rfl
theorem tze34 : zeroT Tryd.prog 34 = some .nilFunc := by kernel_rfl
theorem tsz36 : szT Tryd.prog 36 = some 1 := by kernel_rfl
theorem tag36 : aggT Tryd.prog 36 = false := by kernel_rfl
theorem tze36 : zeroT Tryd.prog 36 = some .nilFunc := by kernel_rfl
theorem tsz37 : szT Tryd.prog 37 = some 1 := by kernel_rfl
theorem tby37 : byT Tryd.prog 37 = some 8 := by kernel_rfl
theorem tag37 : aggT Tryd.prog 37 = false := by kernel_rfl
theorem tze37 : zeroT Tryd.prog 37 = some (.pointer none) := by kernel_rfl
theorem tpl37 : placesT Tryd.prog 37 = none := by kernel_rfl
theorem tbt37 : byteT Tryd.prog 37 = false := by kernel_rfl
theorem tst37 : strT Tryd.prog 37 = false := by kernel_rfl
theorem tsz38 : szT Tryd.prog 38 = some 1 := by kernel_rfl
theorem tag38 : aggT Tryd.prog 38 = false := by kernel_rfl
theorem tze38 : zeroT Tryd.prog 38 = some .nilFunc := by kernel_rfl
theorem tsz39 : szT Tryd.prog 39 = some 1 := by kernel_rfl
theorem tag39 : aggT Tryd.prog 39 = false := by kernel_rfl
theorem tze39 : zeroT Tryd.prog 39 = some .nilFunc := by kernel_rfl
theorem tsz40 : szT Tryd.prog 40 = some 1 := by kernel_rfl
theorem tag40 : aggT Tryd.prog 40 = false := by kernel_rfl
theorem tze40 : zeroT Tryd.prog 40 = some .nilFunc := by kernel_rfl
theorem tsz41 : szT Tryd.prog 41 = some 1 := by kernel_rfl
theorem tby41 : byT Tryd.prog 41 = some 8 := by kernel_rfl
theorem tag41 : aggT Tryd.prog 41 = false := by kernel_rfl
theorem tze41 : zeroT Tryd.prog 41 = some (.pointer none) := by kernel_rfl
theorem tpl41 : placesT Tryd.prog 41 = none := by kernel_rfl
theorem tbt41 : byteT Tryd.prog 41 = false := by kernel_rfl
theorem tst41 : strT Tryd.prog 41 = false := by kernel_rfl
theorem tsz42 : szT Tryd.prog 42 = some 1 := by kernel_rfl
theorem tag42 : aggT Tryd.prog 42 = false := by kernel_rfl
theorem tze42 : zeroT Tryd.prog 42 = some .nilFunc := by kernel_rfl
theorem tsz43 : szT Tryd.prog 43 = some 1 := by kernel_rfl
theorem tby43 : byT Tryd.prog 43 = some 8 := by kernel_rfl
theorem tag43 : aggT Tryd.prog 43 = false := by kernel_rfl
theorem tze43 : zeroT Tryd.prog 43 = some (.pointer none) := by kernel_rfl
theorem tpl43 : placesT Tryd.prog 43 = none := by kernel_rfl
theorem tbt43 : byteT Tryd.prog 43 = false := by kernel_rfl
theorem tst43 : strT Tryd.prog 43 = false := by kernel_rfl
theorem tsz44 : szT Tryd.prog 44 = some 2 := by kernel_rfl
theorem tby44 : byT Tryd.prog 44 = some 32 := by kernel_rfl
theorem tag44 : aggT Tryd.prog 44 = true := by kernel_rfl
theorem tze44 : zeroT Tryd.prog 44 = some (.agg ⟨[.pointer none, .slice none 0 0]⟩) := by kernel_rfl
theorem tpl44 : placesT Tryd.prog 44 = some [(0, 1), (1, 1)] := by kernel_rfl
theorem tfi44_0 : fieldOf Tryd.prog 44 0 = some (0, 43, 1) := by kernel_rfl
theorem tfi44_1 : fieldOf Tryd.prog 44 1 = some (1, 22, 1) := by kernel_rfl
theorem tar44 : arrT Tryd.prog 44 = none := by kernel_rfl
theorem tbt44 : byteT Tryd.prog 44 = false := by kernel_rfl
theorem tst44 : strT Tryd.prog 44 = false := by kernel_rfl
theorem tsz45 : szT Tryd.prog 45 = some 2 := by kernel_rfl
theorem tby45 : byT Tryd.prog 45 = some 32 := by kernel_rfl
theorem tag45 : aggT Tryd.prog 45 = true := by kernel_rfl
theorem tze45 : zeroT Tryd.prog 45 = some (.agg ⟨[.pointer none, .slice none 0 0]⟩) := by kernel_rfl
theorem tpl45 : placesT Tryd.prog 45 = some [(0, 1), (1, 1)] := by kernel_rfl
theorem tfi45_0 : fieldOf Tryd.prog 45 0 = some (0, 43, 1) := by kernel_rfl
theorem tfi45_1 : fieldOf Tryd.prog 45 1 = some (1, 22, 1) := by kernel_rfl
theorem tar45 : arrT Tryd.prog 45 = none := by kernel_rfl
theorem tbt45 : byteT Tryd.prog 45 = false := by kernel_rfl
theorem tst45 : strT Tryd.prog 45 = false := by kernel_rfl
theorem tsz46 : szT Tryd.prog 46 = some 1 := by kernel_rfl
theorem tag46 : aggT Tryd.prog 46 = false := by kernel_rfl
theorem tze46 : zeroT Tryd.prog 46 = some .nilFunc := by kernel_rfl
theorem tsz48 : szT Tryd.prog 48 = some 1 := by kernel_rfl
theorem tag48 : aggT Tryd.prog 48 = false := by kernel_rfl
theorem tze48 : zeroT Tryd.prog 48 = some .nilFunc := by kernel_rfl
theorem tsz49 : szT Tryd.prog 49 = some 1 := by kernel_rfl
theorem tag49 : aggT Tryd.prog 49 = false := by kernel_rfl
theorem tsz50 : szT Tryd.prog 50 = some 1 := by kernel_rfl
theorem tag50 : aggT Tryd.prog 50 = false := by kernel_rfl
theorem tsz52 : szT Tryd.prog 52 = some 1 := by kernel_rfl
theorem tag52 : aggT Tryd.prog 52 = false := by kernel_rfl
theorem tze52 : zeroT Tryd.prog 52 = some .nilFunc := by kernel_rfl
theorem tsz53 : szT Tryd.prog 53 = some 1 := by kernel_rfl
theorem tag53 : aggT Tryd.prog 53 = false := by kernel_rfl
theorem tze53 : zeroT Tryd.prog 53 = some .nilFunc := by kernel_rfl
theorem tsz54 : szT Tryd.prog 54 = some 1 := by kernel_rfl
theorem tag54 : aggT Tryd.prog 54 = false := by kernel_rfl
theorem tze54 : zeroT Tryd.prog 54 = some .nilFunc := by kernel_rfl
theorem tsz55 : szT Tryd.prog 55 = some 1 := by kernel_rfl
theorem tag55 : aggT Tryd.prog 55 = false := by kernel_rfl
theorem tze55 : zeroT Tryd.prog 55 = some .nilFunc := by kernel_rfl
theorem tsz57 : szT Tryd.prog 57 = some 1 := by kernel_rfl
theorem tag57 : aggT Tryd.prog 57 = false := by kernel_rfl
theorem tze57 : zeroT Tryd.prog 57 = some .nilFunc := by kernel_rfl
theorem tsz58 : szT Tryd.prog 58 = some 1 := by kernel_rfl
theorem tby58 : byT Tryd.prog 58 = some 8 := by kernel_rfl
theorem tag58 : aggT Tryd.prog 58 = false := by kernel_rfl
theorem tze58 : zeroT Tryd.prog 58 = some (.int .u64 0) := by kernel_rfl
theorem tpl58 : placesT Tryd.prog 58 = none := by kernel_rfl
theorem tbt58 : byteT Tryd.prog 58 = false := by kernel_rfl
theorem tst58 : strT Tryd.prog 58 = false := by kernel_rfl
theorem tsz59 : szT Tryd.prog 59 = some 3 := by kernel_rfl
theorem tby59 : byT Tryd.prog 59 = some 40 := by kernel_rfl
theorem tag59 : aggT Tryd.prog 59 = true := by kernel_rfl
theorem tze59 : zeroT Tryd.prog 59 = some (.agg ⟨[.slice none 0 0, .int .i64 0, .int .u64 0]⟩) := by kernel_rfl
theorem tpl59 : placesT Tryd.prog 59 = some [(0, 1), (1, 1), (2, 1)] := by kernel_rfl
theorem tfi59_0 : fieldOf Tryd.prog 59 0 = some (0, 22, 1) := by kernel_rfl
theorem tfi59_1 : fieldOf Tryd.prog 59 1 = some (1, 3, 1) := by kernel_rfl
theorem tfi59_2 : fieldOf Tryd.prog 59 2 = some (2, 58, 1) := by kernel_rfl
theorem tar59 : arrT Tryd.prog 59 = none := by kernel_rfl
theorem tbt59 : byteT Tryd.prog 59 = false := by kernel_rfl
theorem tst59 : strT Tryd.prog 59 = false := by kernel_rfl
theorem tsz60 : szT Tryd.prog 60 = some 3 := by kernel_rfl
theorem tby60 : byT Tryd.prog 60 = some 40 := by kernel_rfl
theorem tag60 : aggT Tryd.prog 60 = true := by kernel_rfl
theorem tze60 : zeroT Tryd.prog 60 = some (.agg ⟨[.slice none 0 0, .int .i64 0, .int .u64 0]⟩) := by kernel_rfl
theorem tpl60 : placesT Tryd.prog 60 = some [(0, 1), (1, 1), (2, 1)] := by kernel_rfl
theorem tfi60_0 : fieldOf Tryd.prog 60 0 = some (0, 22, 1) := by kernel_rfl
theorem tfi60_1 : fieldOf Tryd.prog 60 1 = some (1, 3, 1) := by kernel_rfl
theorem tfi60_2 : fieldOf Tryd.prog 60 2 = some (2, 58, 1) := by kernel_rfl
theorem tar60 : arrT Tryd.prog 60 = none := by kernel_rfl
theorem tbt60 : byteT Tryd.prog 60 = false := by kernel_rfl
theorem tst60 : strT Tryd.prog 60 = false := by kernel_rfl
theorem tsz61 : szT Tryd.prog 61 = some 1 := by kernel_rfl
theorem tag61 : aggT Tryd.prog 61 = false := by kernel_rfl
theorem tze61 : zeroT Tryd.prog 61 = some .nilFunc := by kernel_rfl
theorem tsz62 : szT Tryd.prog 62 = some 1 := by kernel_rfl
theorem tag62 : aggT Tryd.prog 62 = false := by kernel_rfl
theorem tze62 : zeroT Tryd.prog 62 = some .nilFunc := by kernel_rfl
theorem tsz63 : szT Tryd.prog 63 = some 1 := by kernel_rfl
theorem tag63 : aggT Tryd.prog 63 = false := by kernel_rfl
theorem tze63 : zeroT Tryd.prog 63 = some .nilFunc := by kernel_rfl
theorem tsz64 : szT Tryd.prog 64 = some 1 := by kernel_rfl
theorem tag64 : aggT Tryd.prog 64 = false := by kernel_rfl
theorem tze64 : zeroT Tryd.prog 64 = some .nilFunc := by kernel_rfl
theorem tsz65 : szT Tryd.prog 65 = some 1 := by kernel_rfl
theorem tby65 : byT Tryd.prog 65 = some 24 := by kernel_rfl
theorem tag65 : aggT Tryd.prog 65 = false := by kernel_rfl
theorem tze65 : zeroT Tryd.prog 65 = some (.slice none 0 0) := by kernel_rfl
theorem tpl65 : placesT Tryd.prog 65 = none := by kernel_rfl
theorem tel65 : elemT Tryd.prog 65 = some 2 := by kernel_rfl
theorem tbt65 : byteT Tryd.prog 65 = false := by kernel_rfl
theorem tst65 : strT Tryd.prog 65 = false := by kernel_rfl
theorem tsz66 : szT Tryd.prog 66 = some 1 := by kernel_rfl
theorem tag66 : aggT Tryd.prog 66 = false := by kernel_rfl
theorem tze66 : zeroT Tryd.prog 66 = some .nilFunc := by kernel_rfl
theorem tsz67 : szT Tryd.prog 67 = some 1 := by kernel_rfl
theorem tag67 : aggT Tryd.prog 67 = false := by kernel_rfl
theorem tze67 : zeroT Tryd.prog 67 = some .nilFunc := by kernel_rfl
theorem tsz68 : szT Tryd.prog 68 = some 2 := by kernel_rfl
theorem tby68 : byT Tryd.prog 68 = some 16 := by kernel_rfl
theorem tag68 : aggT Tryd.prog 68 = true := by kernel_rfl
theorem tze68 : zeroT Tryd.prog 68 = some (.agg ⟨[.int .i64 0, .int .i64 0]⟩) := by kernel_rfl
theorem tpl68 : placesT Tryd.prog 68 = some [(0, 1), (1, 1)] := by kernel_rfl
theorem tfi68_0 : fieldOf Tryd.prog 68 0 = some (0, 2, 1) := by kernel_rfl
theorem tfi68_1 : fieldOf Tryd.prog 68 1 = some (1, 2, 1) := by kernel_rfl
theorem tar68 : arrT Tryd.prog 68 = none := by kernel_rfl
theorem tbt68 : byteT Tryd.prog 68 = false := by kernel_rfl
theorem tst68 : strT Tryd.prog 68 = false := by kernel_rfl
theorem tsz69 : szT Tryd.prog 69 = some 2 := by kernel_rfl
theorem tby69 : byT Tryd.prog 69 = some 16 := by kernel_rfl
theorem tag69 : aggT Tryd.prog 69 = true := by kernel_rfl
theorem tze69 : zeroT Tryd.prog 69 = some (.agg ⟨[.int .i64 0, .int .i64 0]⟩) := by kernel_rfl
theorem tpl69 : placesT Tryd.prog 69 = some [(0, 1), (1, 1)] := by kernel_rfl
theorem tfi69_0 : fieldOf Tryd.prog 69 0 = some (0, 2, 1) := by kernel_rfl
theorem tfi69_1 : fieldOf Tryd.prog 69 1 = some (1, 2, 1) := by kernel_rfl
theorem tar69 : arrT Tryd.prog 69 = none := by kernel_rfl
theorem tbt69 : byteT Tryd.prog 69 = false := by kernel_rfl
theorem tst69 : strT Tryd.prog 69 = false := by kernel_rfl
theorem tsz70 : szT Tryd.prog 70 = some 1 := by kernel_rfl
theorem tag70 : aggT Tryd.prog 70 = false := by kernel_rfl
theorem tze70 : zeroT Tryd.prog 70 = some .nilFunc := by kernel_rfl
theorem tsz71 : szT Tryd.prog 71 = some 1 := by kernel_rfl
theorem tag71 : aggT Tryd.prog 71 = false := by kernel_rfl
theorem tze71 : zeroT Tryd.prog 71 = some .nilFunc := by kernel_rfl
theorem tsz72 : szT Tryd.prog 72 = some 1 := by kernel_rfl
theorem tag72 : aggT Tryd.prog 72 = false := by kernel_rfl
theorem tze72 : zeroT Tryd.prog 72 = some .nilFunc := by kernel_rfl
theorem tsz73 : szT Tryd.prog 73 = some 1 := by kernel_rfl
theorem tby73 : byT Tryd.prog 73 = some 8 := by kernel_rfl
theorem tag73 : aggT Tryd.prog 73 = false := by kernel_rfl
theorem tze73 : zeroT Tryd.prog 73 = some (.pointer none) := by kernel_rfl
theorem tpl73 : placesT Tryd.prog 73 = none := by kernel_rfl
theorem tbt73 : byteT Tryd.prog 73 = false := by kernel_rfl
theorem tst73 : strT Tryd.prog 73 = false := by kernel_rfl
theorem tsz74 : szT Tryd.prog 74 = some 1 := by kernel_rfl
theorem tag74 : aggT Tryd.prog 74 = false := by kernel_rfl
theorem tze74 : zeroT Tryd.prog 74 = some .nilFunc := by kernel_rfl
theorem tsz76 : szT Tryd.prog 76 = some 1 := by kernel_rfl
theorem tag76 : aggT Tryd.prog 76 = false := by kernel_rfl
theorem tze76 : zeroT Tryd.prog 76 = some .nilFunc := by kernel_rfl
theorem tsz77 : szT Tryd.prog 77 = some 1 := by kernel_rfl
theorem tby77 : byT Tryd.prog 77 = some 8 := by kernel_rfl
theorem tag77 : aggT Tryd.prog 77 = false := by kernel_rfl
theorem tze77 : zeroT Tryd.prog 77 = some (.int .u64 0) := by kernel_rfl
theorem tpl77 : placesT Tryd.prog 77 = none := by kernel_rfl
theorem tbt77 : byteT Tryd.prog 77 = false := by kernel_rfl
theorem tst77 : strT Tryd.prog 77 = false := by kernel_rfl
theorem tsz78 : szT Tryd.prog 78 = some 1 := by kernel_rfl
theorem tag78 : aggT Tryd.prog 78 = false := by kernel_rfl
theorem tze78 : zeroT Tryd.prog 78 = some .nilFunc := by kernel_rfl
theorem tsz79 : szT Tryd.prog 79 = some 1 := by kernel_rfl
theorem tby79 : byT Tryd.prog 79 = some 8 := by kernel_rfl
theorem tag79 : aggT Tryd.prog 79 = false := by kernel_rfl
theorem tze79 : zeroT Tryd.prog 79 = some (.complex .f32 0 0) := by kernel_rfl
theorem tpl79 : placesT Tryd.prog 79 = none := by kernel_rfl
theorem tbt79 : byteT Tryd.prog 79 = false := by kernel_rfl
theorem tst79 : strT Tryd.prog 79 = false := by kernel_rfl
theorem tsz80 : szT Tryd.prog 80 = some 1 := by kernel_rfl
theorem tag80 : aggT Tryd.prog 80 = false := by kernel_rfl
theorem tze80 : zeroT Tryd.prog 80 = some .nilFunc := by kernel_rfl
theorem tsz81 : szT Tryd.prog 81 = some 1 := by kernel_rfl
theorem tby81 : byT Tryd.prog 81 = some 8 := by kernel_rfl
theorem tag81 : aggT Tryd.prog 81 = false := by kernel_rfl
theorem tze81 : zeroT Tryd.prog 81 = some (.pointer none) := by kernel_rfl
theorem tpl81 : placesT Tryd.prog 81 = none := by kernel_rfl
theorem tbt81 : byteT Tryd.prog 81 = false := by kernel_rfl
theorem tst81 : strT Tryd.prog 81 = false := by kernel_rfl
theorem tsz82 : szT Tryd.prog 82 = some 1 := by kernel_rfl
theorem tag82 : aggT Tryd.prog 82 = false := by kernel_rfl
theorem tze82 : zeroT Tryd.prog 82 = some .nilFunc := by kernel_rfl
theorem tsz83 : szT Tryd.prog 83 = some 1 := by kernel_rfl
theorem tag83 : aggT Tryd.prog 83 = false := by kernel_rfl
theorem tze83 : zeroT Tryd.prog 83 = some .nilFunc := by kernel_rfl
theorem tsz84 : szT Tryd.prog 84 = some 1 := by kernel_rfl
theorem tby84 : byT Tryd.prog 84 = some 4 := by kernel_rfl
theorem tag84 : aggT Tryd.prog 84 = false := by kernel_rfl
theorem tze84 : zeroT Tryd.prog 84 = some (.float .f32 0) := by kernel_rfl
theorem tpl84 : placesT Tryd.prog 84 = none := by kernel_rfl
theorem tbt84 : byteT Tryd.prog 84 = false := by kernel_rfl
theorem tst84 : strT Tryd.prog 84 = false := by kernel_rfl
theorem tsz85 : szT Tryd.prog 85 = some 1 := by kernel_rfl
theorem tag85 : aggT Tryd.prog 85 = false := by kernel_rfl
theorem tze85 : zeroT Tryd.prog 85 = some .nilFunc := by kernel_rfl
theorem tsz86 : szT Tryd.prog 86 = some 1 := by kernel_rfl
theorem tag86 : aggT Tryd.prog 86 = false := by kernel_rfl
theorem tze86 : zeroT Tryd.prog 86 = some .nilFunc := by kernel_rfl
theorem tsz87 : szT Tryd.prog 87 = some 1 := by kernel_rfl
theorem tag87 : aggT Tryd.prog 87 = false := by kernel_rfl
theorem tze87 : zeroT Tryd.prog 87 = some .nilFunc := by kernel_rfl
theorem tsz88 : szT Tryd.prog 88 = some 24 := by kernel_rfl
theorem tby88 : byT Tryd.prog 88 = some 24 := by kernel_rfl
theorem tag88 : aggT Tryd.prog 88 = true := by kernel_rfl
theorem tze88 : zeroT Tryd.prog 88 = some (.agg ⟨[.int .u8 0, .int .u8 0, .int .u8 0, .int .u8 0, .int .u8 0, .int .u8 0, .int .u8 0, .int .u8 0, .int .u8 0, .int .u8 0, .int .u8 0, .int .u8 0, .int .u8 0, .int .u8 0, .int .u8 0, .int .u8 0, .int .u8 0, .int .u8 0, .int .u8 0, .int .u8 0, .int .u8 0, .int .u8 0, .int .u8 0, .int .u8 0]⟩) := by kernel_rfl
theorem tpl88 : placesT Tryd.prog 88 = none := by kernel_rfl
theorem tar88 : arrT Tryd.prog 88 = some 1 := by kernel_rfl
theorem tbt88 : byteT Tryd.prog 88 = false := by kernel_rfl
theorem tst88 : strT Tryd.prog 88 = false := by kernel_rfl
theorem tsz89 : szT Tryd.prog 89 = some 1 := by kernel_rfl
theorem tag89 : aggT Tryd.prog 89 = false := by kernel_rfl
theorem tze89 : zeroT Tryd.prog 89 = some .nilFunc := by kernel_rfl
theorem tsz90 : szT Tryd.prog 90 = some 1 := by kernel_rfl
theorem tag90 : aggT Tryd.prog 90 = false := by kernel_rfl
theorem tze90 : zeroT Tryd.prog 90 = some .nilFunc := by kernel_rfl
theorem tsz92 : szT Tryd.prog 92 = some 1 := by kernel_rfl
theorem tag92 : aggT Tryd.prog 92 = false := by kernel_rfl
theorem tze92 : zeroT Tryd.prog 92 = some .nilFunc := by kernel_rfl
theorem tsz93 : szT Tryd.prog 93 = some 1 := by kernel_rfl
theorem tag93 : aggT Tryd.prog 93 = false := by kernel_rfl
theorem tze93 : zeroT Tryd.prog 93 = some .nilFunc := by kernel_rfl
theorem tsz94 : szT Tryd.prog 94 = some 1 := by kernel_rfl
theorem tag94 : aggT Tryd.prog 94 = false := by kernel_rfl
theorem tze94 : zeroT Tryd.prog 94 = some .nilFunc := by kernel_rfl
theorem tsz95 : szT Tryd.prog 95 = some 1 := by kernel_rfl
theorem tag95 : aggT Tryd.prog 95 = false := by kernel_rfl
theorem tze95 : zeroT Tryd.prog 95 = some .nilFunc := by kernel_rfl
theorem tsz96 : szT Tryd.prog 96 = some 1 := by kernel_rfl
theorem tby96 : byT Tryd.prog 96 = some 4 := by kernel_rfl
theorem tag96 : aggT Tryd.prog 96 = false := by kernel_rfl
theorem tze96 : zeroT Tryd.prog 96 = some (.int .u32 0) := by kernel_rfl
theorem tpl96 : placesT Tryd.prog 96 = none := by kernel_rfl
theorem tbt96 : byteT Tryd.prog 96 = false := by kernel_rfl
theorem tst96 : strT Tryd.prog 96 = false := by kernel_rfl
theorem tsz98 : szT Tryd.prog 98 = some 1 := by kernel_rfl
theorem tag98 : aggT Tryd.prog 98 = false := by kernel_rfl
theorem tze98 : zeroT Tryd.prog 98 = some .nilFunc := by kernel_rfl
theorem tsz99 : szT Tryd.prog 99 = some 1 := by kernel_rfl
theorem tag99 : aggT Tryd.prog 99 = false := by kernel_rfl
theorem tze99 : zeroT Tryd.prog 99 = some .nilFunc := by kernel_rfl
theorem tsz100 : szT Tryd.prog 100 = some 20 := by kernel_rfl
theorem tby100 : byT Tryd.prog 100 = some 160 := by kernel_rfl
theorem tag100 : aggT Tryd.prog 100 = true := by kernel_rfl
theorem tze100 : zeroT Tryd.prog 100 = some (.agg ⟨[.int .u64 0, .int .u64 0, .int .u64 0, .int .u64 0, .int .u64 0, .int .u64 0, .int .u64 0, .int .u64 0, .int .u64 0, .int .u64 0, .int .u64 0, .int .u64 0, .int .u64 0, .int .u64 0, .int .u64 0, .int .u64 0, .int .u64 0, .int .u64 0, .int .u64 0, .int .u64 0]⟩) := by kernel_rfl
theorem tpl100 : placesT Tryd.prog 100 = none := by kernel_rfl
theorem tar100 : arrT Tryd.prog 100 = some 1 := by kernel_rfl
theorem tbt100 : byteT Tryd.prog 100 = false := by kernel_rfl
theorem tst100 : strT Tryd.prog 100 = false := by kernel_rfl
theorem tsz101 : szT Tryd.prog 101 = some 65 := by kernel_rfl
theorem tby101 : byT Tryd.prog 101 = some 65 := by kernel_rfl
theorem tag101 : aggT Tryd.prog 101 = true := by kernel_rfl
theorem tpl101 : placesT Tryd.prog 101 = none := by kernel_rfl
theorem tar101 : arrT Tryd.prog 101 = some 1 := by kernel_rfl
theorem tbt101 : byteT Tryd.prog 101 = false := by kernel_rfl
theorem tst101 : strT Tryd.prog 101 = false := by kernel_rfl
theorem tsz102 : szT Tryd.prog 102 = some 1 := by kernel_rfl
theorem tag102 : aggT Tryd.prog 102 = false := by kernel_rfl
theorem tze102 : zeroT Tryd.prog 102 = some .nilFunc := by kernel_rfl
theorem tsz103 : szT Tryd.prog 103 = some 1 := by kernel_rfl
theorem tag103 : aggT Tryd.prog 103 = false := by kernel_rfl
theorem tze103 : zeroT Tryd.prog 103 = some .nilFunc := by kernel_rfl
theorem tsz104 : szT Tryd.prog 104 = some 1 := by kernel_rfl
theorem tag104 : aggT Tryd.prog 104 = false := by kernel_rfl
theorem tze104 : zeroT Tryd.prog 104 = some .nilFunc := by kernel_rfl
theorem tsz105 : szT Tryd.prog 105 = some 1 := by kernel_rfl
theorem tag105 : aggT Tryd.prog 105 = false := by kernel_rfl
theorem tze105 : zeroT Tryd.prog 105 = some .nilFunc := by kernel_rfl
theorem tsz106 : szT Tryd.prog 106 = some 1 := by kernel_rfl
theorem tag106 : aggT Tryd.prog 106 = false := by kernel_rfl
theorem tze106 : zeroT Tryd.prog 106 = some .nilFunc := by kernel_rfl
theorem tsz107 : szT Tryd.prog 107 = some 32 := by kernel_rfl
theorem tby107 : byT Tryd.prog 107 = some 32 := by kernel_rfl
theorem tag107 : aggT Tryd.prog 107 = true := by kernel_rfl
theorem tze107 : zeroT Tryd.prog 107 = some (.agg ⟨[.int .u8 0, .int .u8 0, .int .u8 0, .int .u8 0, .int .u8 0, .int .u8 0, .int .u8 0, .int .u8 0, .int .u8 0, .int .u8 0, .int .u8 0, .int .u8 0, .int .u8 0, .int .u8 0, .int .u8 0, .int .u8 0, .int .u8 0, .int .u8 0, .int .u8 0, .int .u8 0, .int .u8 0, .int .u8 0, .int .u8 0, .int .u8 0, .int .u8 0, .int .u8 0, .int .u8 0, .int .u8 0, .int .u8 0, .int .u8 0, .int .u8 0, .int .u8 0]⟩) := by kernel_rfl
theorem tpl107 : placesT Tryd.prog 107 = none := by kernel_rfl
theorem tar107 : arrT Tryd.prog 107 = some 1 := by kernel_rfl
theorem tbt107 : byteT Tryd.prog 107 = false := by kernel_rfl
theorem tst107 : strT Tryd.prog 107 = false := by kernel_rfl
theorem tsz108 : szT Tryd.prog 108 = some 64 := by kernel_rfl
theorem tby108 : byT Tryd.prog 108 = some 64 := by kernel_rfl
theorem tag108 : aggT Tryd.prog 108 = true := by kernel_rfl
theorem tpl108 : placesT Tryd.prog 108 = none := by kernel_rfl
theorem tar108 : arrT Tryd.prog 108 = some 1 := by kernel_rfl
theorem tbt108 : byteT Tryd.prog 108 = false := by kernel_rfl
theorem tst108 : strT Tryd.prog 108 = false := by kernel_rfl
theorem tsz109 : szT Tryd.prog 109 = some 4 := by kernel_rfl
theorem tby109 : byT Tryd.prog 109 = some 40 := by kernel_rfl
theorem tag109 : aggT Tryd.prog 109 = true := by kernel_rfl
theorem tze109 : zeroT Tryd.prog 109 = some (.agg ⟨[.pointer none, .pointer none, .pointer none, .string ⟨⟨[]⟩⟩]⟩) := by kernel_rfl
theorem tpl109 : placesT Tryd.prog 109 = some [(0, 1), (1, 1), (2, 1), (3, 1)] := by kernel_rfl
theorem tfi109_0 : fieldOf Tryd.prog 109 0 = some (0, 17, 1) := by kernel_rfl
theorem tfi109_1 : fieldOf Tryd.prog 109 1 = some (1, 17, 1) := by kernel_rfl
theorem tfi109_2 : fieldOf Tryd.prog 109 2 = some (2, 17, 1) := by kernel_rfl
theorem tfi109_3 : fieldOf Tryd.prog 109 3 = some (3, 9, 1) := by kernel_rfl
theorem tar109 : arrT Tryd.prog 109 = none := by kernel_rfl
theorem tbt109 : byteT Tryd.prog 109 = false := by kernel_rfl
theorem tst109 : strT Tryd.prog 109 = false := by kernel_rfl
theorem tsz110 : szT Tryd.prog 110 = some 4 := by kernel_rfl
theorem tby110 : byT Tryd.prog 110 = some 40 := by kernel_rfl
theorem tag110 : aggT Tryd.prog 110 = true := by kernel_rfl
theorem tze110 : zeroT Tryd.prog 110 = some (.agg ⟨[.pointer none, .pointer none, .pointer none, .string ⟨⟨[]⟩⟩]⟩) := by kernel_rfl
theorem tpl110 : placesT Tryd.prog 110 = some [(0, 1), (1, 1), (2, 1), (3, 1)] := by kernel_rfl
theorem tfi110_0 : fieldOf Tryd.prog 110 0 = some (0, 17, 1) := by kernel_rfl
theorem tfi110_1 : fieldOf Tryd.prog 110 1 = some (1, 17, 1) := by kernel_rfl
theorem tfi110_2 : fieldOf Tryd.prog 110 2 = some (2, 17, 1) := by kernel_rfl
theorem tfi110_3 : fieldOf Tryd.prog 110 3 = some (3, 9, 1) := by kernel_rfl
theorem tar110 : arrT Tryd.prog 110 = none := by kernel_rfl
theorem tbt110 : byteT Tryd.prog 110 = false := by kernel_rfl
theorem tst110 : strT Tryd.prog 110 = false := by kernel_rfl
theorem tsz111 : szT Tryd.prog 111 = some 0 := by kernel_rfl
theorem tby111 : byT Tryd.prog 111 = some 0 := by kernel_rfl
theorem tag111 : aggT Tryd.prog 111 = true := by kernel_rfl
theorem tpl111 : placesT Tryd.prog 111 = none := by kernel_rfl
theorem tar111 : arrT Tryd.prog 111 = some 1 := by kernel_rfl
theorem tbt111 : byteT Tryd.prog 111 = false := by kernel_rfl
theorem tst111 : strT Tryd.prog 111 = false := by kernel_rfl
theorem tsz112 : szT Tryd.prog 112 = some 0 := by kernel_rfl
theorem tby112 : byT Tryd.prog 112 = some 0 := by kernel_rfl
theorem tag112 : aggT Tryd.prog 112 = true := by kernel_rfl
theorem tpl112 : placesT Tryd.prog 112 = some [(0, 0)] := by kernel_rfl
theorem tfi112_0 : fieldOf Tryd.prog 112 0 = some (0, 111, 0) := by kernel_rfl
theorem tar112 : arrT Tryd.prog 112 = none := by kernel_rfl
theorem tbt112 : byteT Tryd.prog 112 = false := by kernel_rfl
theorem tst112 : strT Tryd.prog 112 = false := by kernel_rfl
theorem tsz113 : szT Tryd.prog 113 = some 0 := by kernel_rfl
theorem tby113 : byT Tryd.prog 113 = some 0 := by kernel_rfl
theorem tag113 : aggT Tryd.prog 113 = true := by kernel_rfl
theorem tpl113 : placesT Tryd.prog 113 = some [(0, 0)] := by kernel_rfl
theorem tfi113_0 : fieldOf Tryd.prog 113 0 = some (0, 111, 0) := by kernel_rfl
theorem tar113 : arrT Tryd.prog 113 = none := by kernel_rfl
theorem tbt113 : byteT Tryd.prog 113 = false := by kernel_rfl
theorem tst113 : strT Tryd.prog 113 = false := by kernel_rfl
theorem tsz114 : szT Tryd.prog 114 = some 1 := by kernel_rfl
theorem tby114 : byT Tryd.prog 114 = some 1 := by kernel_rfl
theorem tag114 : aggT Tryd.prog 114 = false := by kernel_rfl
theorem tze114 : zeroT Tryd.prog 114 = some (.int .u8 0) := by kernel_rfl
theorem tpl114 : placesT Tryd.prog 114 = none := by kernel_rfl
theorem tbt114 : byteT Tryd.prog 114 = true := by kernel_rfl
theorem tst114 : strT Tryd.prog 114 = false := by kernel_rfl
theorem tsz115 : szT Tryd.prog 115 = some 1 := by kernel_rfl
theorem tby115 : byT Tryd.prog 115 = some 1 := by kernel_rfl
theorem tag115 : aggT Tryd.prog 115 = false := by kernel_rfl
theorem tze115 : zeroT Tryd.prog 115 = some (.int .u8 0) := by kernel_rfl
theorem tpl115 : placesT Tryd.prog 115 = none := by kernel_rfl
theorem tbt115 : byteT Tryd.prog 115 = true := by kernel_rfl
theorem tst115 : strT Tryd.prog 115 = false := by kernel_rfl
theorem tsz116 : szT Tryd.prog 116 = some 1 := by kernel_rfl
theorem tag116 : aggT Tryd.prog 116 = false := by kernel_rfl
theorem tze116 : zeroT Tryd.prog 116 = some .nilFunc := by kernel_rfl
theorem tsz117 : szT Tryd.prog 117 = some 1 := by kernel_rfl
theorem tby117 : byT Tryd.prog 117 = some 4 := by kernel_rfl
theorem tag117 : aggT Tryd.prog 117 = false := by kernel_rfl
theorem tze117 : zeroT Tryd.prog 117 = some (.int .i32 0) := by kernel_rfl
theorem tpl117 : placesT Tryd.prog 117 = none := by kernel_rfl
theorem tbt117 : byteT Tryd.prog 117 = false := by kernel_rfl
theorem tst117 : strT Tryd.prog 117 = false := by kernel_rfl
theorem tsz118 : szT Tryd.prog 118 = some 1 := by kernel_rfl
theorem tby118 : byT Tryd.prog 118 = some 4 := by kernel_rfl
theorem tag118 : aggT Tryd.prog 118 = false := by kernel_rfl
theorem tze118 : zeroT Tryd.prog 118 = some (.int .i32 0) := by kernel_rfl
theorem tpl118 : placesT Tryd.prog 118 = none := by kernel_rfl
theorem tbt118 : byteT Tryd.prog 118 = false := by kernel_rfl
theorem tst118 : strT Tryd.prog 118 = false := by kernel_rfl
theorem tsz119 : szT Tryd.prog 119 = some 11 := by kernel_rfl
theorem tby119 : byT Tryd.prog 119 = some 48 := by kernel_rfl
theorem tag119 : aggT Tryd.prog 119 = true := by kernel_rfl
theorem tze119 : zeroT Tryd.prog 119 = some (.agg ⟨[.int .u64 0, .int .u64 0, .int .u32 0, .int .u8 0, .int .u8 0, .int .u8 0, .int .u8 0, .nilFunc, .pointer none, .int .i32 0, .int .i32 0]⟩) := by kernel_rfl
theorem tpl119 : placesT Tryd.prog 119 = some [(0, 1), (1, 1), (2, 1), (3, 1), (4, 1), (5, 1), (6, 1), (7, 1), (8, 1), (9, 1), (10, 1)] := by kernel_rfl
theorem tfi119_0 : fieldOf Tryd.prog 119 0 = some (0, 12, 1) := by kernel_rfl
theorem tfi119_1 : fieldOf Tryd.prog 119 1 = some (1, 12, 1) := by kernel_rfl
theorem tfi119_2 : fieldOf Tryd.prog 119 2 = some (2, 96, 1) := by kernel_rfl
theorem tfi119_3 : fieldOf Tryd.prog 119 3 = some (3, 114, 1) := by kernel_rfl
theorem tfi119_4 : fieldOf Tryd.prog 119 4 = some (4, 5, 1) := by kernel_rfl
theorem tfi119_5 : fieldOf Tryd.prog 119 5 = some (5, 5, 1) := by kernel_rfl
theorem tfi119_6 : fieldOf Tryd.prog 119 6 = some (6, 115, 1) := by kernel_rfl
theorem tfi119_7 : fieldOf Tryd.prog 119 7 = some (7, 116, 1) := by kernel_rfl
theorem tfi119_8 : fieldOf Tryd.prog 119 8 = some (8, 73, 1) := by kernel_rfl
theorem tfi119_9 : fieldOf Tryd.prog 119 9 = some (9, 117, 1) := by kernel_rfl
theorem tfi119_10 : fieldOf Tryd.prog 119 10 = some (10, 118, 1) := by kernel_rfl
theorem tar119 : arrT Tryd.prog 119 = none := by kernel_rfl
theorem tbt119 : byteT Tryd.prog 119 = false := by kernel_rfl
theorem tst119 : strT Tryd.prog 119 = false := by kernel_rfl
theorem tsz120 : szT Tryd.prog 120 = some 11 := by kernel_rfl
theorem tby120 : byT Tryd.prog 120 = some 48 := by kernel_rfl
theorem tag120 : aggT Tryd.prog 120 = true := by kernel_rfl
theorem tze120 : zeroT Tryd.prog 120 = some (.agg ⟨[.int .u64 0, .int .u64 0, .int .u32 0, .int .u8 0, .int .u8 0, .int .u8 0, .int .u8 0, .nilFunc, .pointer none, .int .i32 0, .int .i32 0]⟩) := by kernel_rfl
theorem tpl120 : placesT Tryd.prog 120 = some [(0, 1), (1, 1), (2, 1), (3, 1), (4, 1), (5, 1), (6, 1), (7, 1), (8, 1), (9, 1), (10, 1)] := by kernel_rfl
theorem tfi120_0 : fieldOf Tryd.prog 120 0 = some (0, 12, 1) := by kernel_rfl
theorem tfi120_1 : fieldOf Tryd.prog 120 1 = some (1, 12, 1) := by kernel_rfl
theorem tfi120_2 : fieldOf Tryd.prog 120 2 = some (2, 96, 1) := by kernel_rfl
theorem tfi120_3 : fieldOf Tryd.prog 120 3 = some (3, 114, 1) := by kernel_rfl
theorem tfi120_4 : fieldOf Tryd.prog 120 4 = some (4, 5, 1) := by kernel_rfl
theorem tfi120_5 : fieldOf Tryd.prog 120 5 = some (5, 5, 1) := by kernel_rfl
theorem tfi120_6 : fieldOf Tryd.prog 120 6 = some (6, 115, 1) := by kernel_rfl
theorem tfi120_7 : fieldOf Tryd.prog 120 7 = some (7, 116, 1) := by kernel_rfl
theorem tfi120_8 : fieldOf Tryd.prog 120 8 = some (8, 73, 1) := by kernel_rfl
theorem tfi120_9 : fieldOf Tryd.prog 120 9 = some (9, 117, 1) := by kernel_rfl
theorem tfi120_10 : fieldOf Tryd.prog 120 10 = some (10, 118, 1) := by kernel_rfl
theorem tar120 : arrT Tryd.prog 120 = none := by kernel_rfl
theorem tbt120 : byteT Tryd.prog 120 = false := by kernel_rfl
theorem tst120 : strT Tryd.prog 120 = false := by kernel_rfl
/-- Functions without a body. -/
def noBody : List Nat := [0, 1, 38, 44, 51, 62, 63, 66, 67, 68, 69, 70, 71, 72, 73, 74, 75, 76, 77, 78, 79, 80, 81, 82, 83, 84, 85, 86, 87, 88]
/-- That nothing is known from outside of functions with a body. -/
def XN (X : Ext) : Prop := ∀ f, noBody.contains f = false → X f = none
theorem mixed : Tryd.prog.follows .mixedOrders = true := by kernel_rfl
end Go.Proofs.YtikanmboimjhgaaDoor.Sim
