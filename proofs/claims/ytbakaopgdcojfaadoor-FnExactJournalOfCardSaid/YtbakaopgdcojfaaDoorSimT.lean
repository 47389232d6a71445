/- Closed facts on the types of this translation, as the abstract machine asks for them: sizes, zero values, places of fields. Written by a program of this session; no condition. -/
import Derived.Test.YtbakaopgdcojfaaDoorSimM
import Derived.Test.YtbakaopgdcojfaaDoorProg
import Derived.KernelRfl
namespace Go.Proofs.YtbakaopgdcojfaaDoor.Sim
open Go

theorem tsz1 : szT Tryd.prog 1 = some 1 := by kernel_rfl
theorem tag1 : aggT Tryd.prog 1 = false := by kernel_rfl
theorem tze1 : zeroT Tryd.prog 1 = some .nilFunc := by kernel_rfl
theorem tsz2 : szT Tryd.prog 2 = some 1 := by kernel_rfl
theorem tby2 : byT Tryd.prog 2 = some 8 := by kernel_rfl
theorem tag2 : aggT Tryd.prog 2 = false := by kernel_rfl
theorem tze2 : zeroT Tryd.prog 2 = some (.int .i64 0) := by kernel_rfl
theorem tpl2 : placesT Tryd.prog 2 = none := by kernel_rfl
theorem tbt2 : byteT Tryd.prog 2 = false := by kernel_rfl
theorem tst2 : strT Tryd.prog 2 = false := by kernel_rfl
theorem tsz3 : szT Tryd.prog 3 = some 1 := by kernel_rfl
theorem tby3 : byT Tryd.prog 3 = some 8 := by kernel_rfl
theorem tag3 : aggT Tryd.prog 3 = false := by kernel_rfl
theorem tze3 : zeroT Tryd.prog 3 = some (.int .i64 0) := by kernel_rfl
theorem tpl3 : placesT Tryd.prog 3 = none := by kernel_rfl
theorem tbt3 : byteT Tryd.prog 3 = false := by kernel_rfl
theorem tst3 : strT Tryd.prog 3 = false := by kernel_rfl
theorem tsz4 : szT Tryd.prog 4 = some 1 := by kernel_rfl
theorem tby4 : byT Tryd.prog 4 = some 1 := by kernel_rfl
theorem tag4 : aggT Tryd.prog 4 = false := by kernel_rfl
theorem tze4 : zeroT Tryd.prog 4 = some (.bool false) := by kernel_rfl
theorem tpl4 : placesT Tryd.prog 4 = none := by kernel_rfl
theorem tbt4 : byteT Tryd.prog 4 = false := by kernel_rfl
theorem tst4 : strT Tryd.prog 4 = false := by kernel_rfl
theorem tsz5 : szT Tryd.prog 5 = some 1 := by kernel_rfl
theorem tby5 : byT Tryd.prog 5 = some 1 := by kernel_rfl
theorem tag5 : aggT Tryd.prog 5 = false := by kernel_rfl
theorem tze5 : zeroT Tryd.prog 5 = some (.int .u8 0) := by kernel_rfl
theorem tpl5 : placesT Tryd.prog 5 = none := by kernel_rfl
theorem tbt5 : byteT Tryd.prog 5 = true := by kernel_rfl
theorem tst5 : strT Tryd.prog 5 = false := by kernel_rfl
theorem tsz6 : szT Tryd.prog 6 = some 1 := by kernel_rfl
theorem tby6 : byT Tryd.prog 6 = some 1 := by kernel_rfl
theorem tag6 : aggT Tryd.prog 6 = false := by kernel_rfl
theorem tze6 : zeroT Tryd.prog 6 = some (.int .u8 0) := by kernel_rfl
theorem tpl6 : placesT Tryd.prog 6 = none := by kernel_rfl
theorem tbt6 : byteT Tryd.prog 6 = true := by kernel_rfl
theorem tst6 : strT Tryd.prog 6 = false := by kernel_rfl
theorem tsz7 : szT Tryd.prog 7 = some 4 := by kernel_rfl
theorem tby7 : byT Tryd.prog 7 = some 24 := by kernel_rfl
theorem tag7 : aggT Tryd.prog 7 = true := by kernel_rfl
theorem tze7 : zeroT Tryd.prog 7 = some (.agg ⟨[.int .i64 0, .int .i64 0, .bool false, .int .u8 0]⟩) := by kernel_rfl
theorem tpl7 : placesT Tryd.prog 7 = some [(0, 1), (1, 1), (2, 1), (3, 1)] := by kernel_rfl
theorem tfi7_0 : fieldOf Tryd.prog 7 0 = some (0, 2, 1) := by kernel_rfl
theorem tfi7_1 : fieldOf Tryd.prog 7 1 = some (1, 3, 1) := by kernel_rfl
theorem tfi7_2 : fieldOf Tryd.prog 7 2 = some (2, 4, 1) := by kernel_rfl
theorem tfi7_3 : fieldOf Tryd.prog 7 3 = some (3, 6, 1) := by kernel_rfl
theorem tar7 : arrT Tryd.prog 7 = none := by kernel_rfl
theorem tbt7 : byteT Tryd.prog 7 = false := by kernel_rfl
theorem tst7 : strT Tryd.prog 7 = false := by kernel_rfl
theorem tsz8 : szT Tryd.prog 8 = some 4 := by kernel_rfl
theorem tby8 : byT Tryd.prog 8 = some 24 := by kernel_rfl
theorem tag8 : aggT Tryd.prog 8 = true := by kernel_rfl
theorem tze8 : zeroT Tryd.prog 8 = some (.agg ⟨[.int .i64 0, .int .i64 0, .bool false, .int .u8 0]⟩) := by kernel_rfl
theorem tpl8 : placesT Tryd.prog 8 = some [(0, 1), (1, 1), (2, 1), (3, 1)] := by kernel_rfl
theorem tfi8_0 : fieldOf Tryd.prog 8 0 = some (0, 2, 1) := by kernel_rfl
theorem tfi8_1 : fieldOf Tryd.prog 8 1 = some (1, 3, 1) := by kernel_rfl
theorem tfi8_2 : fieldOf Tryd.prog 8 2 = some (2, 4, 1) := by kernel_rfl
theorem tfi8_3 : fieldOf Tryd.prog 8 3 = some (3, 6, 1) := by kernel_rfl
theorem tar8 : arrT Tryd.prog 8 = none := by kernel_rfl
theorem tbt8 : byteT Tryd.prog 8 = false := by kernel_rfl
theorem tst8 : strT Tryd.prog 8 = false := by kernel_rfl
theorem tsz9 : szT Tryd.prog 9 = some 1 := by kernel_rfl
theorem tby9 : byT Tryd.prog 9 = some 16 := by kernel_rfl
theorem tag9 : aggT Tryd.prog 9 = false := by kernel_rfl
theorem tze9 : zeroT Tryd.prog 9 = some (.string ⟨⟨[]⟩⟩) := by kernel_rfl
theorem tpl9 : placesT Tryd.prog 9 = none := by kernel_rfl
theorem tbt9 : byteT Tryd.prog 9 = false := by kernel_rfl
theorem tst9 : strT Tryd.prog 9 = true := by kernel_rfl
theorem tsz10 : szT Tryd.prog 10 = some 1 := by kernel_rfl
theorem tby10 : byT Tryd.prog 10 = some 16 := by kernel_rfl
theorem tag10 : aggT Tryd.prog 10 = false := by kernel_rfl
theorem tze10 : zeroT Tryd.prog 10 = some (.string ⟨⟨[]⟩⟩) := by kernel_rfl
theorem tpl10 : placesT Tryd.prog 10 = none := by kernel_rfl
theorem tbt10 : byteT Tryd.prog 10 = false := by kernel_rfl
theorem tst10 : strT Tryd.prog 10 = true := by kernel_rfl
theorem tsz11 : szT Tryd.prog 11 = some 1 := by kernel_rfl
theorem tby11 : byT Tryd.prog 11 = some 16 := by kernel_rfl
theorem tag11 : aggT Tryd.prog 11 = false := by kernel_rfl
theorem tze11 : zeroT Tryd.prog 11 = some (.string ⟨⟨[]⟩⟩) := by kernel_rfl
theorem tpl11 : placesT Tryd.prog 11 = none := by kernel_rfl
theorem tbt11 : byteT Tryd.prog 11 = false := by kernel_rfl
theorem tst11 : strT Tryd.prog 11 = true := by kernel_rfl
theorem tsz12 : szT Tryd.prog 12 = some 1 := by kernel_rfl
theorem tby12 : byT Tryd.prog 12 = some 8 := by kernel_rfl
theorem tag12 : aggT Tryd.prog 12 = false := by kernel_rfl
theorem tze12 : zeroT Tryd.prog 12 = some (.int .u64 0) := by kernel_rfl
theorem tpl12 : placesT Tryd.prog 12 = none := by kernel_rfl
theorem tbt12 : byteT Tryd.prog 12 = false := by kernel_rfl
theorem tst12 : strT Tryd.prog 12 = false := by kernel_rfl
theorem tsz13 : szT Tryd.prog 13 = some 2 := by kernel_rfl
theorem tby13 : byT Tryd.prog 13 = some 24 := by kernel_rfl
theorem tag13 : aggT Tryd.prog 13 = true := by kernel_rfl
theorem tze13 : zeroT Tryd.prog 13 = some (.agg ⟨[.string ⟨⟨[]⟩⟩, .int .u64 0]⟩) := by kernel_rfl
theorem tpl13 : placesT Tryd.prog 13 = some [(0, 1), (1, 1)] := by kernel_rfl
theorem tfi13_0 : fieldOf Tryd.prog 13 0 = some (0, 9, 1) := by kernel_rfl
theorem tfi13_1 : fieldOf Tryd.prog 13 1 = some (1, 12, 1) := by kernel_rfl
theorem tar13 : arrT Tryd.prog 13 = none := by kernel_rfl
theorem tbt13 : byteT Tryd.prog 13 = false := by kernel_rfl
theorem tst13 : strT Tryd.prog 13 = false := by kernel_rfl
theorem tsz14 : szT Tryd.prog 14 = some 2 := by kernel_rfl
theorem tby14 : byT Tryd.prog 14 = some 24 := by kernel_rfl
theorem tag14 : aggT Tryd.prog 14 = true := by kernel_rfl
theorem tze14 : zeroT Tryd.prog 14 = some (.agg ⟨[.string ⟨⟨[]⟩⟩, .int .u64 0]⟩) := by kernel_rfl
theorem tpl14 : placesT Tryd.prog 14 = some [(0, 1), (1, 1)] := by kernel_rfl
theorem tfi14_0 : fieldOf Tryd.prog 14 0 = some (0, 9, 1) := by kernel_rfl
theorem tfi14_1 : fieldOf Tryd.prog 14 1 = some (1, 12, 1) := by kernel_rfl
theorem tar14 : arrT Tryd.prog 14 = none := by kernel_rfl
theorem tbt14 : byteT Tryd.prog 14 = false := by kernel_rfl
theorem tst14 : strT Tryd.prog 14 = false := by kernel_rfl
theorem tsz15 : szT Tryd.prog 15 = some 1 := by kernel_rfl
theorem tby15 : byT Tryd.prog 15 = some 8 := by kernel_rfl
theorem tag15 : aggT Tryd.prog 15 = false := by kernel_rfl
theorem tze15 : zeroT Tryd.prog 15 = some (.pointer none) := by kernel_rfl
theorem tpl15 : placesT Tryd.prog 15 = none := by kernel_rfl
theorem tbt15 : byteT Tryd.prog 15 = false := by kernel_rfl
theorem tst15 : strT Tryd.prog 15 = false := by kernel_rfl
theorem tsz16 : szT Tryd.prog 16 = some 1 := by kernel_rfl
theorem tby16 : byT Tryd.prog 16 = some 8 := by kernel_rfl
theorem tag16 : aggT Tryd.prog 16 = false := by kernel_rfl
theorem tze16 : zeroT Tryd.prog 16 = some (.pointer none) := by kernel_rfl
theorem tpl16 : placesT Tryd.prog 16 = none := by kernel_rfl
theorem tbt16 : byteT Tryd.prog 16 = false := by kernel_rfl
theorem tst16 : strT Tryd.prog 16 = false := by kernel_rfl
theorem tsz17 : szT Tryd.prog 17 = some 1 := by kernel_rfl
theorem tby17 : byT Tryd.prog 17 = some 8 := by kernel_rfl
theorem tag17 : aggT Tryd.prog 17 = false := by kernel_rfl
theorem tze17 : zeroT Tryd.prog 17 = some (.pointer none) := by kernel_rfl
theorem tpl17 : placesT Tryd.prog 17 = none := by kernel_rfl
theorem tbt17 : byteT Tryd.prog 17 = false := by kernel_rfl
theorem tst17 : strT Tryd.prog 17 = false := by kernel_rfl
theorem tsz18 : szT Tryd.prog 18 = some 1 := by kernel_rfl
theorem tby18 : byT Tryd.prog 18 = some 8 := by kernel_rfl
theorem tag18 : aggT Tryd.prog 18 = true := by kernel_rfl
theorem tze18 : zeroT Tryd.prog 18 = some (.agg ⟨[.pointer none]⟩) := by kernel_rfl
theorem tpl18 : placesT Tryd.prog 18 = some [(0, 1)] := by kernel_rfl
theorem tfi18_0 : fieldOf Tryd.prog 18 0 = some (0, 17, 1) := by kernel_rfl
theorem tar18 : arrT Tryd.prog 18 = none := by kernel_rfl
theorem tbt18 : byteT Tryd.prog 18 = false := by kernel_rfl
theorem tst18 : strT Tryd.prog 18 = false := by kernel_rfl
theorem tsz19 : szT Tryd.prog 19 = some 1 := by kernel_rfl
theorem tby19 : byT Tryd.prog 19 = some 8 := by kernel_rfl
theorem tag19 : aggT Tryd.prog 19 = true := by kernel_rfl
theorem tze19 : zeroT Tryd.prog 19 = some (.agg ⟨[.pointer none]⟩) := by kernel_rfl
theorem tpl19 : placesT Tryd.prog 19 = some [(0, 1)] := by kernel_rfl
theorem tfi19_0 : fieldOf Tryd.prog 19 0 = some (0, 17, 1) := by kernel_rfl
theorem tar19 : arrT Tryd.prog 19 = none := by kernel_rfl
theorem tbt19 : byteT Tryd.prog 19 = false := by kernel_rfl
theorem tst19 : strT Tryd.prog 19 = false := by kernel_rfl
theorem tsz20 : szT Tryd.prog 20 = some 1 := by kernel_rfl
theorem tag20 : aggT Tryd.prog 20 = false := by kernel_rfl
theorem tsz21 : szT Tryd.prog 21 = some 1 := by kernel_rfl
theorem tby21 : byT Tryd.prog 21 = some 4 := by kernel_rfl
theorem tag21 : aggT Tryd.prog 21 = false := by kernel_rfl
theorem tze21 : zeroT Tryd.prog 21 = some (.int .i32 0) := by kernel_rfl
theorem tpl21 : placesT Tryd.prog 21 = none := by kernel_rfl
theorem tbt21 : byteT Tryd.prog 21 = false := by kernel_rfl
theorem tst21 : strT Tryd.prog 21 = false := by kernel_rfl
theorem tsz22 : szT Tryd.prog 22 = some 1 := by kernel_rfl
theorem tby22 : byT Tryd.prog 22 = some 24 := by kernel_rfl
theorem tag22 : aggT Tryd.prog 22 = false := by kernel_rfl
theorem tze22 : zeroT Tryd.prog 22 = some (.slice none 0 0) := by kernel_rfl
theorem tpl22 : placesT Tryd.prog 22 = none := by kernel_rfl
theorem tel22 : elemT Tryd.prog 22 = some 9 := by kernel_rfl
theorem tbt22 : byteT Tryd.prog 22 = false := by kernel_rfl
theorem tst22 : strT Tryd.prog 22 = false := by kernel_rfl
theorem tsz23 : szT Tryd.prog 23 = some 1 := by kernel_rfl
theorem tag23 : aggT Tryd.prog 23 = false := by kernel_rfl
theorem tze23 : zeroT Tryd.prog 23 = some .nilFunc := by kernel_rfl
theorem tsz25 : szT Tryd.prog 25 = some 1 := by kernel_rfl
theorem tag25 : aggT Tryd.prog 25 = false := by kernel_rfl
theorem tze25 : zeroT Tryd.prog 25 = some .nilFunc := by kernel_rfl
theorem tsz26 : szT Tryd.prog 26 = some 1 := by kernel_rfl
theorem tag26 : aggT Tryd.prog 26 = false := by kernel_rfl
theorem tze26 : zeroT Tryd.prog 26 = some .nilFunc := by kernel_rfl
theorem tsz27 : szT Tryd.prog 27 = some 1 := by kernel_rfl
theorem tag27 : aggT Tryd.prog 27 = false := by kernel_rfl
theorem tze27 : zeroT Tryd.prog 27 = some .nilFunc := by kernel_rfl
theorem tsz28 : szT Tryd.prog 28 = some 1 := by kernel_rfl
theorem tag28 : aggT Tryd.prog 28 = false := by kernel_rfl
theorem tze28 : zeroT Tryd.prog 28 = some .nilFunc := by kernel_rfl
theorem tsz30 : szT Tryd.prog 30 = some 1 := by kernel_rfl
theorem tag30 : aggT Tryd.prog 30 = false := by kernel_rfl
theorem tze30 : zeroT Tryd.prog 30 = some .nilFunc := by kernel_rfl
theorem tsz31 : szT Tryd.prog 31 = some 1 := by kernel_rfl
theorem tag31 : aggT Tryd.prog 31 = false := by kernel_rfl
theorem tze31 : zeroT Tryd.prog 31 = some .nilFunc := by kernel_rfl
theorem tsz32 : szT Tryd.prog 32 = some 1 := by kernel_rfl
theorem tag32 : aggT Tryd.prog 32 = false := by kernel_rfl
theorem tze32 : zeroT Tryd.prog 32 = some .nilFunc := by kernel_rfl
theorem tsz33 : szT Tryd.prog 33 = some 1 := by kernel_rfl
theorem tby33 : byT Tryd.prog 33 = some 8 := by kernel_rfl
theorem tag33 : aggT Tryd.prog 33 = false := by kernel_rfl
theorem tze33 : zeroT Tryd.prog 33 = some (.pointer none) := by kernel_rfl
theorem tpl33 : placesT Tryd.prog 33 = none := by kernel_rfl
theorem tbt33 : byteT Tryd.prog 33 = false := by kernel_rfl
theorem tst33 : strT Tryd.prog 33 = false := by kernel_rfl
theorem tsz34 : szT Tryd.prog 34 = some 1 := by kernel_rfl
theorem tby34 : byT Tryd.prog 34 = some 24 := by kernel_rfl
theorem tag34 : aggT Tryd.prog 34 = false := by kernel_rfl
theorem tze34 : zeroT Tryd.prog 34 = some (.slice none 0 0) := by kernel_rfl
theorem tpl34 : placesT Tryd.prog 34 = none := by kernel_rfl
theorem tel34 : elemT Tryd.prog 34 = some 5 := by kernel_rfl
theorem tbt34 : byteT Tryd.prog 34 = false := by kernel_rfl
theorem tst34 : strT Tryd.prog 34 = false := by kernel_rfl
theorem tsz35 : szT Tryd.prog 35 = some 2 := by kernel_rfl
theorem tby35 : byT Tryd.prog 35 = some 32 := by kernel_rfl
theorem tag35 : aggT Tryd.prog 35 = true := by kernel_rfl
theorem tze35 : zeroT Tryd.prog 35 = some (.agg ⟨[.pointer none, .slice none 0 0]⟩) := by kernel_rfl
theorem tpl35 : placesT Tryd.prog 35 = some [(0, 1), (1, 1)] := by kernel_rfl
theorem tfi35_0 : fieldOf Tryd.prog 35 0 = some (0, 33, 1) := by kernel_rfl
theorem tfi35_1 : fieldOf Tryd.prog 35 1 = some (1, 34, 1) := by kernel_rfl
theorem tar35 : arrT Tryd.prog 35 = none := by kernel_rfl
theorem tbt35 : byteT Tryd.prog 35 = false := by kernel_rfl
theorem tst35 : strT Tryd.prog 35 = false := by kernel_rfl
theorem tsz36 : szT Tryd.prog 36 = some 2 := by kernel_rfl
theorem tby36 : byT Tryd.prog 36 = some 32 := by kernel_rfl
theorem tag36 : aggT Tryd.prog 36 = true := by kernel_rfl
theorem tze36 : zeroT Tryd.prog 36 = some (.agg ⟨[.pointer none, .slice none 0 0]⟩) := by kernel_rfl
theorem tpl36 : placesT Tryd.prog 36 = some [(0, 1), (1, 1)] := by kernel_rfl
theorem tfi36_0 : fieldOf Tryd.prog 36 0 = some (0, 33, 1) := by kernel_rfl
theorem tfi36_1 : fieldOf Tryd.prog 36 1 = some (1, 34, 1) := by kernel_rfl
theorem tar36 : arrT Tryd.prog 36 = none := by kernel_rfl
theorem tbt36 : byteT Tryd.prog 36 = false := by kernel_rfl
theorem tst36 : strT Tryd.prog 36 = false := by kernel_rfl
theorem tsz37 : szT Tryd.prog 37 = some 1 := by kernel_rfl
theorem tag37 : aggT Tryd.prog 37 = false := by kernel_rfl
theorem tze37 : zeroT Tryd.prog 37 = some .nilFunc := by kernel_rfl
theorem tsz39 : szT Tryd.prog 39 = some 1 := by kernel_rfl
theorem tag39 : aggT Tryd.prog 39 = false := by kernel_rfl
theorem tze39 : zeroT Tryd.prog 39 = some .nilFunc := by kernel_rfl
theorem tsz40 : szT Tryd.prog 40 = some 1 := by kernel_rfl
theorem tag40 : aggT Tryd.prog 40 = false := by kernel_rfl
theorem tsz41 : szT Tryd.prog 41 = some 1 := by kernel_rfl
theorem tag41 : aggT Tryd.prog 41 = false := by kernel_rfl
theorem tsz43 : szT Tryd.prog 43 = some 1 := by kernel_rfl
theorem tag43 : aggT Tryd.prog 43 = false := by kernel_rfl
theorem tze43 : zeroT Tryd.prog 43 = some .nilFunc := by kernel_rfl
theorem tsz44 : szT Tryd.prog 44 = some 1 := by kernel_rfl
theorem tag44 : aggT Tryd.prog 44 = false := by kernel_rfl
theorem tze44 : zeroT Tryd.prog 44 = some .nilFunc := by kernel_rfl
theorem tsz45 : szT Tryd.prog 45 = some 1 := by kernel_rfl
theorem tag45 : aggT Tryd.prog 45 = false := by kernel_rfl
theorem tze45 : zeroT Tryd.prog 45 = some .nilFunc := by kernel_rfl
theorem tsz46 : szT Tryd.prog 46 = some 1 := by kernel_rfl
theorem tag46 : aggT Tryd.prog 46 = false := by kernel_rfl
theorem tze46 : zeroT Tryd.prog 46 = some .nilFunc := by kernel_rfl
theorem tsz48 : szT Tryd.prog 48 = some 1 := by kernel_rfl
theorem tag48 : aggT Tryd.prog 48 = false := by kernel_rfl
theorem tze48 : zeroT Tryd.prog 48 = some .nilFunc := by kernel_rfl
theorem tsz49 : szT Tryd.prog 49 = some 1 := by kernel_rfl
theorem tag49 : aggT Tryd.prog 49 = false := by kernel_rfl
theorem tze49 : zeroT Tryd.prog 49 = some .nilFunc := by kernel_rfl
theorem tsz51 : szT Tryd.prog 51 = some 1 := by kernel_rfl
theorem tag51 : aggT Tryd.prog 51 = false := by kernel_rfl
theorem tze51 : zeroT Tryd.prog 51 = some .nilFunc := by kernel_rfl
theorem tsz52 : szT Tryd.prog 52 = some 1 := by kernel_rfl
theorem tag52 : aggT Tryd.prog 52 = false := by kernel_rfl
theorem tze52 : zeroT Tryd.prog 52 = some .nilFunc := by kernel_rfl
theorem tsz53 : szT Tryd.prog 53 = some 1 := by kernel_rfl
theorem tag53 : aggT Tryd.prog 53 = false := by kernel_rfl
theorem tze53 : zeroT Tryd.prog 53 = some .nilFunc := by kernel_rfl
theorem tsz54 : szT Tryd.prog 54 = some 1 := by kernel_rfl
theorem tag54 : aggT Tryd.prog 54 = false := by kernel_rfl
theorem tze54 : zeroT Tryd.prog 54 = some .nilFunc := by kernel_rfl
theorem tsz55 : szT Tryd.prog 55 = some 1 := by kernel_rfl
theorem tag55 : aggT Tryd.prog 55 = false := by kernel_rfl
theorem tze55 : zeroT Tryd.prog 55 = some .nilFunc := by kernel_rfl
theorem tsz56 : szT Tryd.prog 56 = some 1 := by kernel_rfl
theorem tby56 : byT Tryd.prog 56 = some 8 := by kernel_rfl
theorem tag56 : aggT Tryd.prog 56 = false := by kernel_rfl
theorem tze56 : zeroT Tryd.prog 56 = some (.pointer none) := by kernel_rfl
theorem tpl56 : placesT Tryd.prog 56 = none := by kernel_rfl
theorem tbt56 : byteT Tryd.prog 56 = false := by kernel_rfl
theorem tst56 : strT Tryd.prog 56 = false := by kernel_rfl
theorem tsz57 : szT Tryd.prog 57 = some 1 := by kernel_rfl
theorem tag57 : aggT Tryd.prog 57 = false := by kernel_rfl
theorem tze57 : zeroT Tryd.prog 57 = some .nilFunc := by kernel_rfl
theorem tsz58 : szT Tryd.prog 58 = some 1 := by kernel_rfl
theorem tag58 : aggT Tryd.prog 58 = false := by kernel_rfl
theorem tze58 : zeroT Tryd.prog 58 = some .nilFunc := by kernel_rfl
theorem tsz60 : szT Tryd.prog 60 = some 1 := by kernel_rfl
theorem tag60 : aggT Tryd.prog 60 = false := by kernel_rfl
theorem tze60 : zeroT Tryd.prog 60 = some .nilFunc := by kernel_rfl
theorem tsz61 : szT Tryd.prog 61 = some 1 := by kernel_rfl
theorem tby61 : byT Tryd.prog 61 = some 8 := by kernel_rfl
theorem tag61 : aggT Tryd.prog 61 = false := by kernel_rfl
theorem tze61 : zeroT Tryd.prog 61 = some (.pointer none) := by kernel_rfl
theorem tpl61 : placesT Tryd.prog 61 = none := by kernel_rfl
theorem tbt61 : byteT Tryd.prog 61 = false := by kernel_rfl
theorem tst61 : strT Tryd.prog 61 = false := by kernel_rfl
theorem tsz62 : szT Tryd.prog 62 = some 1 := by kernel_rfl
theorem tag62 : aggT Tryd.prog 62 = false := by kernel_rfl
theorem tze62 : zeroT Tryd.prog 62 = some .nilFunc := by kernel_rfl
theorem tsz63 : szT Tryd.prog 63 = some 1 := by kernel_rfl
theorem tag63 : aggT Tryd.prog 63 = false := by kernel_rfl
theorem tze63 : zeroT Tryd.prog 63 = some .nilFunc := by kernel_rfl
theorem tsz64 : szT Tryd.prog 64 = some 1 := by kernel_rfl
theorem tby64 : byT Tryd.prog 64 = some 8 := by kernel_rfl
theorem tag64 : aggT Tryd.prog 64 = false := by kernel_rfl
theorem tze64 : zeroT Tryd.prog 64 = some (.int .u64 0) := by kernel_rfl
theorem tpl64 : placesT Tryd.prog 64 = none := by kernel_rfl
theorem tbt64 : byteT Tryd.prog 64 = false := by kernel_rfl
theorem tst64 : strT Tryd.prog 64 = false := by kernel_rfl
theorem tsz65 : szT Tryd.prog 65 = some 24 := by kernel_rfl
theorem tby65 : byT Tryd.prog 65 = some 24 := by kernel_rfl
theorem tag65 : aggT Tryd.prog 65 = true := by kernel_rfl
theorem tze65 : zeroT Tryd.prog 65 = some (.agg ⟨[.int .u8 0, .int .u8 0, .int .u8 0, .int .u8 0, .int .u8 0, .int .u8 0, .int .u8 0, .int .u8 0, .int .u8 0, .int .u8 0, .int .u8 0, .int .u8 0, .int .u8 0, .int .u8 0, .int .u8 0, .int .u8 0, .int .u8 0, .int .u8 0, .int .u8 0, .int .u8 0, .int .u8 0, .int .u8 0, .int .u8 0, .int .u8 0]⟩) := by kernel_rfl
theorem tpl65 : placesT Tryd.prog 65 = none := by kernel_rfl
theorem tar65 : arrT Tryd.prog 65 = some 1 := by kernel_rfl
theorem tbt65 : byteT Tryd.prog 65 = false := by kernel_rfl
theorem tst65 : strT Tryd.prog 65 = false := by kernel_rfl
theorem tsz66 : szT Tryd.prog 66 = some 1 := by kernel_rfl
theorem tby66 : byT Tryd.prog 66 = some 8 := by kernel_rfl
theorem tag66 : aggT Tryd.prog 66 = false := by kernel_rfl
theorem tze66 : zeroT Tryd.prog 66 = some (.int .u64 0) := by kernel_rfl
theorem tpl66 : placesT Tryd.prog 66 = none := by kernel_rfl
theorem tbt66 : byteT Tryd.prog 66 = false := by kernel_rfl
theorem tst66 : strT Tryd.prog 66 = false := by kernel_rfl
theorem tsz67 : szT Tryd.prog 67 = some 1 := by kernel_rfl
theorem tag67 : aggT Tryd.prog 67 = false := by kernel_rfl
theorem tze67 : zeroT Tryd.prog 67 = some .nilFunc := by kernel_rfl
theorem tsz68 : szT Tryd.prog 68 = some 1 := by kernel_rfl
theorem tag68 : aggT Tryd.prog 68 = false := by kernel_rfl
theorem tze68 : zeroT Tryd.prog 68 = some .nilFunc := by kernel_rfl
theorem tsz70 : szT Tryd.prog 70 = some 1 := by kernel_rfl
theorem tag70 : aggT Tryd.prog 70 = false := by kernel_rfl
theorem tze70 : zeroT Tryd.prog 70 = some .nilFunc := by kernel_rfl
theorem tsz71 : szT Tryd.prog 71 = some 1 := by kernel_rfl
theorem tby71 : byT Tryd.prog 71 = some 4 := by kernel_rfl
theorem tag71 : aggT Tryd.prog 71 = false := by kernel_rfl
theorem tze71 : zeroT Tryd.prog 71 = some (.int .u32 0) := by kernel_rfl
theorem tpl71 : placesT Tryd.prog 71 = none := by kernel_rfl
theorem tbt71 : byteT Tryd.prog 71 = false := by kernel_rfl
theorem tst71 : strT Tryd.prog 71 = false := by kernel_rfl
theorem tsz73 : szT Tryd.prog 73 = some 1 := by kernel_rfl
theorem tag73 : aggT Tryd.prog 73 = false := by kernel_rfl
theorem tze73 : zeroT Tryd.prog 73 = some .nilFunc := by kernel_rfl
theorem tsz74 : szT Tryd.prog 74 = some 1 := by kernel_rfl
theorem tag74 : aggT Tryd.prog 74 = false := by kernel_rfl
theorem tze74 : zeroT Tryd.prog 74 = some .nilFunc := by kernel_rfl
theorem tsz75 : szT Tryd.prog 75 = some 20 := by kernel_rfl
theorem tby75 : byT Tryd.prog 75 = some 160 := by kernel_rfl
theorem tag75 : aggT Tryd.prog 75 = true := by kernel_rfl
theorem tze75 : zeroT Tryd.prog 75 = some (.agg ⟨[.int .u64 0, .int .u64 0, .int .u64 0, .int .u64 0, .int .u64 0, .int .u64 0, .int .u64 0, .int .u64 0, .int .u64 0, .int .u64 0, .int .u64 0, .int .u64 0, .int .u64 0, .int .u64 0, .int .u64 0, .int .u64 0, .int .u64 0, .int .u64 0, .int .u64 0, .int .u64 0]⟩) := by kernel_rfl
theorem tpl75 : placesT Tryd.prog 75 = none := by kernel_rfl
theorem tar75 : arrT Tryd.prog 75 = some 1 := by kernel_rfl
theorem tbt75 : byteT Tryd.prog 75 = false := by kernel_rfl
theorem tst75 : strT Tryd.prog 75 = false := by kernel_rfl
theorem tsz76 : szT Tryd.prog 76 = some 65 := by kernel_rfl
theorem tby76 : byT Tryd.prog 76 = some 65 := by kernel_rfl
theorem tag76 : aggT Tryd.prog 76 = true := by kernel_rfl
theorem tpl76 : placesT Tryd.prog 76 = none := by kernel_rfl
theorem tar76 : arrT Tryd.prog 76 = some 1 := by kernel_rfl
theorem tbt76 : byteT Tryd.prog 76 = false := by kernel_rfl
theorem tst76 : strT Tryd.prog 76 = false := by kernel_rfl
theorem tsz77 : szT Tryd.prog 77 = some 1 := by kernel_rfl
theorem tag77 : aggT Tryd.prog 77 = false := by kernel_rfl
theorem tze77 : zeroT Tryd.prog 77 = some .nilFunc := by kernel_rfl
theorem tsz78 : szT Tryd.prog 78 = some 1 := by kernel_rfl
theorem tag78 : aggT Tryd.prog 78 = false := by kernel_rfl
theorem tze78 : zeroT Tryd.prog 78 = some .nilFunc := by kernel_rfl
theorem tsz79 : szT Tryd.prog 79 = some 1 := by kernel_rfl
theorem tag79 : aggT Tryd.prog 79 = false := by kernel_rfl
theorem tze79 : zeroT Tryd.prog 79 = some .nilFunc := by kernel_rfl
theorem tsz80 : szT Tryd.prog 80 = some 32 := by kernel_rfl
theorem tby80 : byT Tryd.prog 80 = some 32 := by kernel_rfl
theorem tag80 : aggT Tryd.prog 80 = true := by kernel_rfl
theorem tze80 : zeroT Tryd.prog 80 = some (.agg ⟨[.int .u8 0, .int .u8 0, .int .u8 0, .int .u8 0, .int .u8 0, .int .u8 0, .int .u8 0, .int .u8 0, .int .u8 0, .int .u8 0, .int .u8 0, .int .u8 0, .int .u8 0, .int .u8 0, .int .u8 0, .int .u8 0, .int .u8 0, .int .u8 0, .int .u8 0, .int .u8 0, .int .u8 0, .int .u8 0, .int .u8 0, .int .u8 0, .int .u8 0, .int .u8 0, .int .u8 0, .int .u8 0, .int .u8 0, .int .u8 0, .int .u8 0, .int .u8 0]⟩) := by kernel_rfl
theorem tpl80 : placesT Tryd.prog 80 = none := by kernel_rfl
theorem tar80 : arrT Tryd.prog 80 = some 1 := by kernel_rfl
theorem tbt80 : byteT Tryd.prog 80 = false := by kernel_rfl
theorem tst80 : strT Tryd.prog 80 = false := by kernel_rfl
theorem tsz81 : szT Tryd.prog 81 = some 64 := by kernel_rfl
theorem tby81 : byT Tryd.prog 81 = some 64 := by kernel_rfl
theorem tag81 : aggT Tryd.prog 81 = true := by kernel_rfl
theorem tpl81 : placesT Tryd.prog 81 = none := by kernel_rfl
theorem tar81 : arrT Tryd.prog 81 = some 1 := by kernel_rfl
theorem tbt81 : byteT Tryd.prog 81 = false := by kernel_rfl
theorem tst81 : strT Tryd.prog 81 = false := by kernel_rfl
theorem tsz82 : szT Tryd.prog 82 = some 4 := by kernel_rfl
theorem tby82 : byT Tryd.prog 82 = some 40 := by kernel_rfl
theorem tag82 : aggT Tryd.prog 82 = true := by kernel_rfl
theorem tze82 : zeroT Tryd.prog 82 = some (.agg ⟨[.pointer none, .pointer none, .pointer none, .string ⟨⟨[]⟩⟩]⟩) := by kernel_rfl
theorem tpl82 : placesT Tryd.prog 82 = some [(0, 1), (1, 1), (2, 1), (3, 1)] := by kernel_rfl
theorem tfi82_0 : fieldOf Tryd.prog 82 0 = some (0, 17, 1) := by kernel_rfl
theorem tfi82_1 : fieldOf Tryd.prog 82 1 = some (1, 17, 1) := by kernel_rfl
theorem tfi82_2 : fieldOf Tryd.prog 82 2 = some (2, 17, 1) := by kernel_rfl
theorem tfi82_3 : fieldOf Tryd.prog 82 3 = some (3, 9, 1) := by kernel_rfl
theorem tar82 : arrT Tryd.prog 82 = none := by kernel_rfl
theorem tbt82 : byteT Tryd.prog 82 = false := by kernel_rfl
theorem tst82 : strT Tryd.prog 82 = false := by kernel_rfl
theorem tsz83 : szT Tryd.prog 83 = some 4 := by kernel_rfl
theorem tby83 : byT Tryd.prog 83 = some 40 := by kernel_rfl
theorem tag83 : aggT Tryd.prog 83 = true := by kernel_rfl
theorem tze83 : zeroT Tryd.prog 83 = some (.agg ⟨[.pointer none, .pointer none, .pointer none, .string ⟨⟨[]⟩⟩]⟩) := by kernel_rfl
theorem tpl83 : placesT Tryd.prog 83 = some [(0, 1), (1, 1), (2, 1), (3, 1)] := by kernel_rfl
theorem tfi83_0 : fieldOf Tryd.prog 83 0 = some (0, 17, 1) := by kernel_rfl
theorem tfi83_1 : fieldOf Tryd.prog 83 1 = some (1, 17, 1) := by kernel_rfl
theorem tfi83_2 : fieldOf Tryd.prog 83 2 = some (2, 17, 1) := by kernel_rfl
theorem tfi83_3 : fieldOf Tryd.prog 83 3 = some (3, 9, 1) := by kernel_rfl
theorem tar83 : arrT Tryd.prog 83 = none := by kernel_rfl
theorem tbt83 : byteT Tryd.prog 83 = false := by kernel_rfl
theorem tst83 : strT Tryd.prog 83 = false := by kernel_rfl
theorem tsz84 : szT Tryd.prog 84 = some 0 := by kernel_rfl
theorem tby84 : byT Tryd.prog 84 = some 0 := by kernel_rfl
theorem tag84 : aggT Tryd.prog 84 = true := by kernel_rfl
theorem tpl84 : placesT Tryd.prog 84 = none := by kernel_rfl
theorem tar84 : arrT Tryd.prog 84 = some 1 := by kernel_rfl
theorem tbt84 : byteT Tryd.prog 84 = false := by kernel_rfl
theorem tst84 : strT Tryd.prog 84 = false := by kernel_rfl
theorem tsz85 : szT Tryd.prog 85 = some 0 := by kernel_rfl
theorem tby85 : byT Tryd.prog 85 = some 0 := by kernel_rfl
theorem tag85 : aggT Tryd.prog 85 = true := by kernel_rfl
theorem tpl85 : placesT Tryd.prog 85 = some [(0, 0)] := by kernel_rfl
theorem tfi85_0 : fieldOf Tryd.prog 85 0 = some (0, 84, 0) := by kernel_rfl
theorem tar85 : arrT Tryd.prog 85 = none := by kernel_rfl
theorem tbt85 : byteT Tryd.prog 85 = false := by kernel_rfl
theorem tst85 : strT Tryd.prog 85 = false := by kernel_rfl
theorem tsz86 : szT Tryd.prog 86 = some 0 := by kernel_rfl
theorem tby86 : byT Tryd.prog 86 = some 0 := by kernel_rfl
theorem tag86 : aggT Tryd.prog 86 = true := by kernel_rfl
theorem tpl86 : placesT Tryd.prog 86 = some [(0, 0)] := by kernel_rfl
theorem tfi86_0 : fieldOf Tryd.prog 86 0 = some (0, 84, 0) := by kernel_rfl
theorem tar86 : arrT Tryd.prog 86 = none := by kernel_rfl
theorem tbt86 : byteT Tryd.prog 86 = false := by kernel_rfl
theorem tst86 : strT Tryd.prog 86 = false := by kernel_rfl
theorem tsz87 : szT Tryd.prog 87 = some 1 := by kernel_rfl
theorem tby87 : byT Tryd.prog 87 = some 1 := by kernel_rfl
theorem tag87 : aggT Tryd.prog 87 = false := by kernel_rfl
theorem tze87 : zeroT Tryd.prog 87 = some (.int .u8 0) := by kernel_rfl
theorem tpl87 : placesT Tryd.prog 87 = none := by kernel_rfl
theorem tbt87 : byteT Tryd.prog 87 = true := by kernel_rfl
theorem tst87 : strT Tryd.prog 87 = false := by kernel_rfl
theorem tsz88 : szT Tryd.prog 88 = some 1 := by kernel_rfl
theorem tby88 : byT Tryd.prog 88 = some 1 := by kernel_rfl
theorem tag88 : aggT Tryd.prog 88 = false := by kernel_rfl
theorem tze88 : zeroT Tryd.prog 88 = some (.int .u8 0) := by kernel_rfl
theorem tpl88 : placesT Tryd.prog 88 = none := by kernel_rfl
theorem tbt88 : byteT Tryd.prog 88 = true := by kernel_rfl
theorem tst88 : strT Tryd.prog 88 = false := by kernel_rfl
theorem tsz89 : szT Tryd.prog 89 = some 1 := by kernel_rfl
theorem tag89 : aggT Tryd.prog 89 = false := by kernel_rfl
theorem tze89 : zeroT Tryd.prog 89 = some .nilFunc := by kernel_rfl
theorem tsz90 : szT Tryd.prog 90 = some 1 := by kernel_rfl
theorem tby90 : byT Tryd.prog 90 = some 4 := by kernel_rfl
theorem tag90 : aggT Tryd.prog 90 = false := by kernel_rfl
theorem tze90 : zeroT Tryd.prog 90 = some (.int .i32 0) := by kernel_rfl
theorem tpl90 : placesT Tryd.prog 90 = none := by kernel_rfl
theorem tbt90 : byteT Tryd.prog 90 = false := by kernel_rfl
theorem tst90 : strT Tryd.prog 90 = false := by kernel_rfl
theorem tsz91 : szT Tryd.prog 91 = some 1 := by kernel_rfl
theorem tby91 : byT Tryd.prog 91 = some 4 := by kernel_rfl
theorem tag91 : aggT Tryd.prog 91 = false := by kernel_rfl
theorem tze91 : zeroT Tryd.prog 91 = some (.int .i32 0) := by kernel_rfl
theorem tpl91 : placesT Tryd.prog 91 = none := by kernel_rfl
theorem tbt91 : byteT Tryd.prog 91 = false := by kernel_rfl
theorem tst91 : strT Tryd.prog 91 = false := by kernel_rfl
theorem tsz92 : szT Tryd.prog 92 = some 11 := by kernel_rfl
theorem tby92 : byT Tryd.prog 92 = some 48 := by kernel_rfl
theorem tag92 : aggT Tryd.prog 92 = true := by kernel_rfl
theorem tze92 : zeroT Tryd.prog 92 = some (.agg ⟨[.int .u64 0, .int .u64 0, .int .u32 0, .int .u8 0, .int .u8 0, .int .u8 0, .int .u8 0, .nilFunc, .pointer none, .int .i32 0, .int .i32 0]⟩) := by kernel_rfl
theorem tpl92 : placesT Tryd.prog 92 = some [(0, 1), (1, 1), (2, 1), (3, 1), (4, 1), (5, 1), (6, 1), (7, 1), (8, 1), (9, 1), (10, 1)] := by kernel_rfl
theorem tfi92_0 : fieldOf Tryd.prog 92 0 = some (0, 12, 1) := by kernel_rfl
theorem tfi92_1 : fieldOf Tryd.prog 92 1 = some (1, 12, 1) := by kernel_rfl
theorem tfi92_2 : fieldOf Tryd.prog 92 2 = some (2, 71, 1) := by kernel_rfl
theorem tfi92_3 : fieldOf Tryd.prog 92 3 = some (3, 87, 1) := by kernel_rfl
theorem tfi92_4 : fieldOf Tryd.prog 92 4 = some (4, 5, 1) := by kernel_rfl
theorem tfi92_5 : fieldOf Tryd.prog 92 5 = some (5, 5, 1) := by kernel_rfl
theorem tfi92_6 : fieldOf Tryd.prog 92 6 = some (6, 88, 1) := by kernel_rfl
theorem tfi92_7 : fieldOf Tryd.prog 92 7 = some (7, 89, 1) := by kernel_rfl
theorem tfi92_8 : fieldOf Tryd.prog 92 8 = some (8, 56, 1) := by kernel_rfl
theorem tfi92_9 : fieldOf Tryd.prog 92 9 = some (9, 90, 1) := by kernel_rfl
theorem tfi92_10 : fieldOf Tryd.prog 92 10 = some (10, 91, 1) := by kernel_rfl
theorem tar92 : arrT Tryd.prog 92 = none := by kernel_rfl
theorem tbt92 : byteT Tryd.prog 92 = false := by kernel_rfl
theorem tst92 : strT Tryd.prog 92 = false := by kernel_rfl
theorem tsz93 : szT Tryd.prog 93 = some 11 := by kernel_rfl
theorem tby93 : byT Tryd.prog 93 = some 48 := by kernel_rfl
theorem tag93 : aggT Tryd.prog 93 = true := by kernel_rfl
theorem tze93 : zeroT Tryd.prog 93 = some (.agg ⟨[.int .u64 0, .int .u64 0, .int .u32 0, .int .u8 0, .int .u8 0, .int .u8 0, .int .u8 0, .nilFunc, .pointer none, .int .i32 0, .int .i32 0]⟩) := by kernel_rfl
theorem tpl93 : placesT Tryd.prog 93 = some [(0, 1), (1, 1), (2, 1), (3, 1), (4, 1), (5, 1), (6, 1), (7, 1), (8, 1), (9, 1), (10, 1)] := by kernel_rfl
theorem tfi93_0 : fieldOf Tryd.prog 93 0 = some (0, 12, 1) := by kernel_rfl
theorem tfi93_1 : fieldOf Tryd.prog 93 1 = some (1, 12, 1) := by kernel_rfl
theorem tfi93_2 : fieldOf Tryd.prog 93 2 = some (2, 71, 1) := by kernel_rfl
theorem tfi93_3 : fieldOf Tryd.prog 93 3 = some (3, 87, 1) := by kernel_rfl
theorem tfi93_4 : fieldOf Tryd.prog 93 4 = some (4, 5, 1) := by kernel_rfl
theorem tfi93_5 : fieldOf Tryd.prog 93 5 = some (5, 5, 1) := by kernel_rfl
theorem tfi93_6 : fieldOf Tryd.prog 93 6 = some (6, 88, 1) := by kernel_rfl
theorem tfi93_7 : fieldOf Tryd.prog 93 7 = some (7, 89, 1) := by kernel_rfl
theorem tfi93_8 : fieldOf Tryd.prog 93 8 = some (8, 56, 1) := by kernel_rfl
theorem tfi93_9 : fieldOf Tryd.prog 93 9 = some (9, 90, 1) := by kernel_rfl
theorem tfi93_10 : fieldOf Tryd.prog 93 10 = some (10, 91, 1) := by kernel_rfl
theorem tar93 : arrT Tryd.prog 93 = none := by kernel_rfl
theorem tbt93 : byteT Tryd.prog 93 = false := by kernel_rfl
theorem tst93 : strT Tryd.prog 93 = false := by kernel_rfl
/-- Functions without a body. -/
def noBody : List Nat := [0, 1, 34, 38, 45, 54, 55, 56, 57, 58, 59, 60, 61, 62, 63, 64, 65, 66, 67, 68, 69, 70, 71, 72, 73, 74, 75]
/-- That nothing is known from outside of functions with a body. -/
def XN (X : Ext) : Prop := ∀ f, noBody.contains f = false → X f = none
theorem mixed : Tryd.prog.follows .mixedOrders = true := by kernel_rfl
end Go.Proofs.YtbakaopgdcojfaaDoor.Sim
