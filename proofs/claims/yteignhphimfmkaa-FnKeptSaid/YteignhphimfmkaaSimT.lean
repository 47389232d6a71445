/- Closed facts on the types of this translation, as the abstract machine asks for them: sizes, zero values, places of fields. Written by a program of this session; no condition. -/
import Derived.Test.YteignhphimfmkaaSimM
import Derived.Test.YteignhphimfmkaaProg
import Derived.KernelRfl
namespace Go.Proofs.Yteignhphimfmkaa.Sim
open Go

theorem tsz1 : szT Try.prog 1 = some 1 := by kernel_rfl
theorem tag1 : aggT Try.prog 1 = false := by kernel_rfl
theorem tze1 : zeroT Try.prog 1 = some .nilFunc := by kernel_rfl
theorem tsz2 : szT Try.prog 2 = some 1 := by kernel_rfl
theorem tby2 : byT Try.prog 2 = some 8 := by kernel_rfl
theorem tag2 : aggT Try.prog 2 = false := by kernel_rfl
theorem tze2 : zeroT Try.prog 2 = some (.int .i64 0) := by kernel_rfl
theorem tpl2 : placesT Try.prog 2 = none := by kernel_rfl
theorem tbt2 : byteT Try.prog 2 = false := by kernel_rfl
theorem tst2 : strT Try.prog 2 = false := by kernel_rfl
theorem tsz3 : szT Try.prog 3 = some 1 := by kernel_rfl
theorem tby3 : byT Try.prog 3 = some 8 := by kernel_rfl
theorem tag3 : aggT Try.prog 3 = false := by kernel_rfl
theorem tze3 : zeroT Try.prog 3 = some (.int .i64 0) := by kernel_rfl
theorem tpl3 : placesT Try.prog 3 = none := by kernel_rfl
theorem tbt3 : byteT Try.prog 3 = false := by kernel_rfl
theorem tst3 : strT Try.prog 3 = false := by kernel_rfl
theorem tsz4 : szT Try.prog 4 = some 1 := by kernel_rfl
theorem tby4 : byT Try.prog 4 = some 1 := by kernel_rfl
theorem tag4 : aggT Try.prog 4 = false := by kernel_rfl
theorem tze4 : zeroT Try.prog 4 = some (.bool false) := by kernel_rfl
theorem tpl4 : placesT Try.prog 4 = none := by kernel_rfl
theorem tbt4 : byteT Try.prog 4 = false := by kernel_rfl
theorem tst4 : strT Try.prog 4 = false := by kernel_rfl
theorem tsz5 : szT Try.prog 5 = some 1 := by kernel_rfl
theorem tby5 : byT Try.prog 5 = some 1 := by kernel_rfl
theorem tag5 : aggT Try.prog 5 = false := by kernel_rfl
theorem tze5 : zeroT Try.prog 5 = some (.int .u8 0) := by kernel_rfl
theorem tpl5 : placesT Try.prog 5 = none := by kernel_rfl
theorem tbt5 : byteT Try.prog 5 = true := by kernel_rfl
theorem tst5 : strT Try.prog 5 = false := by kernel_rfl
theorem tsz6 : szT Try.prog 6 = some 1 := by kernel_rfl
theorem tby6 : byT Try.prog 6 = some 1 := by kernel_rfl
theorem tag6 : aggT Try.prog 6 = false := by kernel_rfl
theorem tze6 : zeroT Try.prog 6 = some (.int .u8 0) := by kernel_rfl
theorem tpl6 : placesT Try.prog 6 = none := by kernel_rfl
theorem tbt6 : byteT Try.prog 6 = true := by kernel_rfl
theorem tst6 : strT Try.prog 6 = false := by kernel_rfl
theorem tsz7 : szT Try.prog 7 = some 4 := by kernel_rfl
theorem tby7 : byT Try.prog 7 = some 24 := by kernel_rfl
theorem tag7 : aggT Try.prog 7 = true := by kernel_rfl
theorem tze7 : zeroT Try.prog 7 = some (.agg ⟨[.int .i64 0, .int .i64 0, .bool false, .int .u8 0]⟩) := by kernel_rfl
theorem tpl7 : placesT Try.prog 7 = some [(0, 1), (1, 1), (2, 1), (3, 1)] := by kernel_rfl
theorem tfi7_0 : fieldOf Try.prog 7 0 = some (0, 2, 1) := by kernel_rfl
theorem tfi7_1 : fieldOf Try.prog 7 1 = some (1, 3, 1) := by kernel_rfl
theorem tfi7_2 : fieldOf Try.prog 7 2 = some (2, 4, 1) := by kernel_rfl
theorem tfi7_3 : fieldOf Try.prog 7 3 = some (3, 6, 1) := by kernel_rfl
theorem tar7 : arrT Try.prog 7 = none := by kernel_rfl
theorem tbt7 : byteT Try.prog 7 = false := by kernel_rfl
theorem tst7 : strT Try.prog 7 = false := by kernel_rfl
theorem tsz8 : szT Try.prog 8 = some 4 := by kernel_rfl
theorem tby8 : byT Try.prog 8 = some 24 := by kernel_rfl
theorem tag8 : aggT Try.prog 8 = true := by kernel_rfl
theorem tze8 : zeroT Try.prog 8 = some (.agg ⟨[.int .i64 0, .int .i64 0, .bool false, .int .u8 0]⟩) := by kernel_rfl
theorem tpl8 : placesT Try.prog 8 = some [(0, 1), (1, 1), (2, 1), (3, 1)] := by kernel_rfl
theorem tfi8_0 : fieldOf Try.prog 8 0 = some (0, 2, 1) := by kernel_rfl
theorem tfi8_1 : fieldOf Try.prog 8 1 = some (1, 3, 1) := by kernel_rfl
theorem tfi8_2 : fieldOf Try.prog 8 2 = some (2, 4, 1) := by kernel_rfl
theorem tfi8_3 : fieldOf Try.prog 8 3 = some (3, 6, 1) := by kernel_rfl
theorem tar8 : arrT Try.prog 8 = none := by kernel_rfl
theorem tbt8 : byteT Try.prog 8 = false := by kernel_rfl
theorem tst8 : strT Try.prog 8 = false := by kernel_rfl
theorem tsz9 : szT Try.prog 9 = some 1 := by kernel_rfl
theorem tby9 : byT Try.prog 9 = some 16 := by kernel_rfl
theorem tag9 : aggT Try.prog 9 = false := by kernel_rfl
theorem tze9 : zeroT Try.prog 9 = some (.string ⟨⟨[]⟩⟩) := by kernel_rfl
theorem tpl9 : placesT Try.prog 9 = none := by kernel_rfl
theorem tbt9 : byteT Try.prog 9 = false := by kernel_rfl
theorem tst9 : strT Try.prog 9 = true := by kernel_rfl
theorem tsz10 : szT Try.prog 10 = some 1 := by kernel_rfl
theorem tby10 : byT Try.prog 10 = some 16 := by kernel_rfl
theorem tag10 : aggT Try.prog 10 = false := by kernel_rfl
theorem tze10 : zeroT Try.prog 10 = some (.string ⟨⟨[]⟩⟩) := by kernel_rfl
theorem tpl10 : placesT Try.prog 10 = none := by kernel_rfl
theorem tbt10 : byteT Try.prog 10 = false := by kernel_rfl
theorem tst10 : strT Try.prog 10 = true := by kernel_rfl
theorem tsz11 : szT Try.prog 11 = some 1 := by kernel_rfl
theorem tby11 : byT Try.prog 11 = some 16 := by kernel_rfl
theorem tag11 : aggT Try.prog 11 = false := by kernel_rfl
theorem tze11 : zeroT Try.prog 11 = some (.string ⟨⟨[]⟩⟩) := by kernel_rfl
theorem tpl11 : placesT Try.prog 11 = none := by kernel_rfl
theorem tbt11 : byteT Try.prog 11 = false := by kernel_rfl
theorem tst11 : strT Try.prog 11 = true := by kernel_rfl
theorem tsz12 : szT Try.prog 12 = some 1 := by kernel_rfl
theorem tby12 : byT Try.prog 12 = some 8 := by kernel_rfl
theorem tag12 : aggT Try.prog 12 = false := by kernel_rfl
theorem tze12 : zeroT Try.prog 12 = some (.int .u64 0) := by kernel_rfl
theorem tpl12 : placesT Try.prog 12 = none := by kernel_rfl
theorem tbt12 : byteT Try.prog 12 = false := by kernel_rfl
theorem tst12 : strT Try.prog 12 = false := by kernel_rfl
theorem tsz13 : szT Try.prog 13 = some 2 := by kernel_rfl
theorem tby13 : byT Try.prog 13 = some 24 := by kernel_rfl
theorem tag13 : aggT Try.prog 13 = true := by kernel_rfl
theorem tze13 : zeroT Try.prog 13 = some (.agg ⟨[.string ⟨⟨[]⟩⟩, .int .u64 0]⟩) := by kernel_rfl
theorem tpl13 : placesT Try.prog 13 = some [(0, 1), (1, 1)] := by kernel_rfl
theorem tfi13_0 : fieldOf Try.prog 13 0 = some (0, 9, 1) := by kernel_rfl
theorem tfi13_1 : fieldOf Try.prog 13 1 = some (1, 12, 1) := by kernel_rfl
theorem tar13 : arrT Try.prog 13 = none := by kernel_rfl
theorem tbt13 : byteT Try.prog 13 = false := by kernel_rfl
theorem tst13 : strT Try.prog 13 = false := by kernel_rfl
theorem tsz14 : szT Try.prog 14 = some 2 := by kernel_rfl
theorem tby14 : byT Try.prog 14 = some 24 := by kernel_rfl
theorem tag14 : aggT Try.prog 14 = true := by kernel_rfl
theorem tze14 : zeroT Try.prog 14 = some (.agg ⟨[.string ⟨⟨[]⟩⟩, .int .u64 0]⟩) := by kernel_rfl
theorem tpl14 : placesT Try.prog 14 = some [(0, 1), (1, 1)] := by kernel_rfl
theorem tfi14_0 : fieldOf Try.prog 14 0 = some (0, 9, 1) := by kernel_rfl
theorem tfi14_1 : fieldOf Try.prog 14 1 = some (1, 12, 1) := by kernel_rfl
theorem tar14 : arrT Try.prog 14 = none := by kernel_rfl
theorem tbt14 : byteT Try.prog 14 = false := by kernel_rfl
theorem tst14 : strT Try.prog 14 = false := by kernel_rfl
theorem tsz15 : szT Try.prog 15 = some 1 := by kernel_rfl
theorem tby15 : byT Try.prog 15 = some 8 := by kernel_rfl
theorem tag15 : aggT Try.prog 15 = false := by kernel_rfl
theorem tze15 : zeroT Try.prog 15 = some (.pointer none) := by kernel_rfl
theorem tpl15 : placesT Try.prog 15 = none := by kernel_rfl
theorem tbt15 : byteT Try.prog 15 = false := by kernel_rfl
theorem tst15 : strT Try.prog 15 = false := by kernel_rfl
theorem tsz16 : szT Try.prog 16 = some 1 := by kernel_rfl
theorem tby16 : byT Try.prog 16 = some 8 := by kernel_rfl
theorem tag16 : aggT Try.prog 16 = false := by kernel_rfl
theorem tze16 : zeroT Try.prog 16 = some (.pointer none) := by kernel_rfl
theorem tpl16 : placesT Try.prog 16 = none := by kernel_rfl
theorem tbt16 : byteT Try.prog 16 = false := by kernel_rfl
theorem tst16 : strT Try.prog 16 = false := by kernel_rfl
theorem tsz17 : szT Try.prog 17 = some 1 := by kernel_rfl
theorem tby17 : byT Try.prog 17 = some 8 := by kernel_rfl
theorem tag17 : aggT Try.prog 17 = false := by kernel_rfl
theorem tze17 : zeroT Try.prog 17 = some (.pointer none) := by kernel_rfl
theorem tpl17 : placesT Try.prog 17 = none := by kernel_rfl
theorem tbt17 : byteT Try.prog 17 = false := by kernel_rfl
theorem tst17 : strT Try.prog 17 = false := by kernel_rfl
theorem tsz18 : szT Try.prog 18 = some 1 := by kernel_rfl
theorem tby18 : byT Try.prog 18 = some 8 := by kernel_rfl
theorem tag18 : aggT Try.prog 18 = true := by kernel_rfl
theorem tze18 : zeroT Try.prog 18 = some (.agg ⟨[.pointer none]⟩) := by kernel_rfl
theorem tpl18 : placesT Try.prog 18 = some [(0, 1)] := by kernel_rfl
theorem tfi18_0 : fieldOf Try.prog 18 0 = some (0, 17, 1) := by kernel_rfl
theorem tar18 : arrT Try.prog 18 = none := by kernel_rfl
theorem tbt18 : byteT Try.prog 18 = false := by kernel_rfl
theorem tst18 : strT Try.prog 18 = false := by kernel_rfl
theorem tsz19 : szT Try.prog 19 = some 1 := by kernel_rfl
theorem tby19 : byT Try.prog 19 = some 8 := by kernel_rfl
theorem tag19 : aggT Try.prog 19 = true := by kernel_rfl
theorem tze19 : zeroT Try.prog 19 = some (.agg ⟨[.pointer none]⟩) := by kernel_rfl
theorem tpl19 : placesT Try.prog 19 = some [(0, 1)] := by kernel_rfl
theorem tfi19_0 : fieldOf Try.prog 19 0 = some (0, 17, 1) := by kernel_rfl
theorem tar19 : arrT Try.prog 19 = none := by kernel_rfl
theorem tbt19 : byteT Try.prog 19 = false := by kernel_rfl
theorem tst19 : strT Try.prog 19 = false := by kernel_rfl
theorem tsz20 : szT Try.prog 20 = some 1 := by kernel_rfl
theorem tag20 : aggT Try.prog 20 = false := by kernel_rfl
theorem tsz21 : szT Try.prog 21 = some 1 := by kernel_rfl
theorem tby21 : byT Try.prog 21 = some 4 := by kernel_rfl
theorem tag21 : aggT Try.prog 21 = false := by kernel_rfl
theorem tze21 : zeroT Try.prog 21 = some (.int .i32 0) := by kernel_rfl
theorem tpl21 : placesT Try.prog 21 = none := by kernel_rfl
theorem tbt21 : byteT Try.prog 21 = false := by kernel_rfl
theorem tst21 : strT Try.prog 21 = false := by kernel_rfl
theorem tsz22 : szT Try.prog 22 = some 1 := by kernel_rfl
theorem tby22 : byT Try.prog 22 = some 24 := by kernel_rfl
theorem tag22 : aggT Try.prog 22 = false := by kernel_rfl
theorem tze22 : zeroT Try.prog 22 = some (.slice none 0 0) := by kernel_rfl
theorem tpl22 : placesT Try.prog 22 = none := by kernel_rfl
theorem tel22 : elemT Try.prog 22 = some 5 := by kernel_rfl
theorem tbt22 : byteT Try.prog 22 = false := by kernel_rfl
theorem tst22 : strT Try.prog 22 = false := by kernel_rfl
theorem tsz23 : szT Try.prog 23 = some 1 := by kernel_rfl
theorem tag23 : aggT Try.prog 23 = false := by kernel_rfl
theorem tze23 : zeroT Try.prog 23 = some .nilFunc := by kernel_rfl
theorem tsz24 : szT Try.prog 24 = some 1 := by kernel_rfl
theorem tby24 : byT Try.prog 24 = some 24 := by kernel_rfl
theorem tag24 : aggT Try.prog 24 = false := by kernel_rfl
theorem tze24 : zeroT Try.prog 24 = some (.slice none 0 0) := by kernel_rfl
theorem tpl24 : placesT Try.prog 24 = none := by kernel_rfl
theorem tel24 : elemT Try.prog 24 = some 41 := by kernel_rfl
theorem tbt24 : byteT Try.prog 24 = false := by kernel_rfl
theorem tst24 : strT Try.prog 24 = false := by kernel_rfl
theorem tsz25 : szT Try.prog 25 = some 2 := by kernel_rfl
theorem tby25 : byT Try.prog 25 = some 32 := by kernel_rfl
theorem tag25 : aggT Try.prog 25 = true := by kernel_rfl
theorem tze25 : zeroT Try.prog 25 = some (.agg ⟨[.int .i64 0, .slice none 0 0]⟩) := by kernel_rfl
theorem tpl25 : placesT Try.prog 25 = some [(0, 1), (1, 1)] := by kernel_rfl
theorem tfi25_0 : fieldOf Try.prog 25 0 = some (0, 2, 1) := by kernel_rfl
theorem tfi25_1 : fieldOf Try.prog 25 1 = some (1, 24, 1) := by kernel_rfl
theorem tar25 : arrT Try.prog 25 = none := by kernel_rfl
theorem tbt25 : byteT Try.prog 25 = false := by kernel_rfl
theorem tst25 : strT Try.prog 25 = false := by kernel_rfl
theorem tsz26 : szT Try.prog 26 = some 2 := by kernel_rfl
theorem tby26 : byT Try.prog 26 = some 32 := by kernel_rfl
theorem tag26 : aggT Try.prog 26 = true := by kernel_rfl
theorem tze26 : zeroT Try.prog 26 = some (.agg ⟨[.int .i64 0, .slice none 0 0]⟩) := by kernel_rfl
theorem tpl26 : placesT Try.prog 26 = some [(0, 1), (1, 1)] := by kernel_rfl
theorem tfi26_0 : fieldOf Try.prog 26 0 = some (0, 2, 1) := by kernel_rfl
theorem tfi26_1 : fieldOf Try.prog 26 1 = some (1, 24, 1) := by kernel_rfl
theorem tar26 : arrT Try.prog 26 = none := by kernel_rfl
theorem tbt26 : byteT Try.prog 26 = false := by kernel_rfl
theorem tst26 : strT Try.prog 26 = false := by kernel_rfl
theorem tsz27 : szT Try.prog 27 = some 1 := by kernel_rfl
theorem tag27 : aggT Try.prog 27 = false := by kernel_rfl
theorem tze27 : zeroT Try.prog 27 = some .nilFunc := by kernel_rfl
theorem tsz29 : szT Try.prog 29 = some 1 := by kernel_rfl
theorem tag29 : aggT Try.prog 29 = false := by kernel_rfl
theorem tze29 : zeroT Try.prog 29 = some .nilFunc := by kernel_rfl
theorem tsz31 : szT Try.prog 31 = some 1 := by kernel_rfl
theorem tag31 : aggT Try.prog 31 = false := by kernel_rfl
theorem tze31 : zeroT Try.prog 31 = some .nilFunc := by kernel_rfl
theorem tsz33 : szT Try.prog 33 = some 1 := by kernel_rfl
theorem tag33 : aggT Try.prog 33 = false := by kernel_rfl
theorem tze33 : zeroT Try.prog 33 = some .nilFunc := by kernel_rfl
theorem tsz34 : szT Try.prog 34 = some 1 := by kernel_rfl
theorem tag34 : aggT Try.prog 34 = false := by kernel_rfl
theorem tze34 : zeroT Try.prog 34 = some .nilFunc := by kernel_rfl
theorem tsz35 : szT Try.prog 35 = some 1 := by kernel_rfl
theorem tag35 : aggT Try.prog 35 = false := by kernel_rfl
theorem tze35 : zeroT Try.prog 35 = some .nilFunc := by kernel_rfl
theorem tsz36 : szT Try.prog 36 = some 1 := by kernel_rfl
theorem tag36 : aggT Try.prog 36 = false := by kernel_rfl
theorem tze36 : zeroT Try.prog 36 = some .nilFunc := by kernel_rfl
theorem tsz38 : szT Try.prog 38 = some 1 := by kernel_rfl
theorem tag38 : aggT Try.prog 38 = false := by kernel_rfl
theorem tze38 : zeroT Try.prog 38 = some .nilFunc := by kernel_rfl
theorem tsz39 : szT Try.prog 39 = some 1 := by kernel_rfl
theorem tby39 : byT Try.prog 39 = some 24 := by kernel_rfl
theorem tag39 : aggT Try.prog 39 = false := by kernel_rfl
theorem tze39 : zeroT Try.prog 39 = some (.slice none 0 0) := by kernel_rfl
theorem tpl39 : placesT Try.prog 39 = none := by kernel_rfl
theorem tel39 : elemT Try.prog 39 = some 65 := by kernel_rfl
theorem tbt39 : byteT Try.prog 39 = false := by kernel_rfl
theorem tst39 : strT Try.prog 39 = false := by kernel_rfl
theorem tsz40 : szT Try.prog 40 = some 2 := by kernel_rfl
theorem tby40 : byT Try.prog 40 = some 32 := by kernel_rfl
theorem tag40 : aggT Try.prog 40 = true := by kernel_rfl
theorem tze40 : zeroT Try.prog 40 = some (.agg ⟨[.int .i64 0, .slice none 0 0]⟩) := by kernel_rfl
theorem tpl40 : placesT Try.prog 40 = some [(0, 1), (1, 1)] := by kernel_rfl
theorem tfi40_0 : fieldOf Try.prog 40 0 = some (0, 2, 1) := by kernel_rfl
theorem tfi40_1 : fieldOf Try.prog 40 1 = some (1, 39, 1) := by kernel_rfl
theorem tar40 : arrT Try.prog 40 = none := by kernel_rfl
theorem tbt40 : byteT Try.prog 40 = false := by kernel_rfl
theorem tst40 : strT Try.prog 40 = false := by kernel_rfl
theorem tsz41 : szT Try.prog 41 = some 2 := by kernel_rfl
theorem tby41 : byT Try.prog 41 = some 32 := by kernel_rfl
theorem tag41 : aggT Try.prog 41 = true := by kernel_rfl
theorem tze41 : zeroT Try.prog 41 = some (.agg ⟨[.int .i64 0, .slice none 0 0]⟩) := by kernel_rfl
theorem tpl41 : placesT Try.prog 41 = some [(0, 1), (1, 1)] := by kernel_rfl
theorem tfi41_0 : fieldOf Try.prog 41 0 = some (0, 2, 1) := by kernel_rfl
theorem tfi41_1 : fieldOf Try.prog 41 1 = some (1, 39, 1) := by kernel_rfl
theorem tar41 : arrT Try.prog 41 = none := by kernel_rfl
theorem tbt41 : byteT Try.prog 41 = false := by kernel_rfl
theorem tst41 : strT Try.prog 41 = false := by kernel_rfl
theorem tsz43 : szT Try.prog 43 = some 1 := by kernel_rfl
theorem tag43 : aggT Try.prog 43 = false := by kernel_rfl
theorem tze43 : zeroT Try.prog 43 = some .nilFunc := by kernel_rfl
theorem tsz44 : szT Try.prog 44 = some 1 := by kernel_rfl
theorem tag44 : aggT Try.prog 44 = false := by kernel_rfl
theorem tze44 : zeroT Try.prog 44 = some .nilFunc := by kernel_rfl
theorem tsz46 : szT Try.prog 46 = some 1 := by kernel_rfl
theorem tag46 : aggT Try.prog 46 = false := by kernel_rfl
theorem tze46 : zeroT Try.prog 46 = some .nilFunc := by kernel_rfl
theorem tsz47 : szT Try.prog 47 = some 1 := by kernel_rfl
theorem tby47 : byT Try.prog 47 = some 8 := by kernel_rfl
theorem tag47 : aggT Try.prog 47 = false := by kernel_rfl
theorem tze47 : zeroT Try.prog 47 = some (.pointer none) := by kernel_rfl
theorem tpl47 : placesT Try.prog 47 = none := by kernel_rfl
theorem tbt47 : byteT Try.prog 47 = false := by kernel_rfl
theorem tst47 : strT Try.prog 47 = false := by kernel_rfl
theorem tsz48 : szT Try.prog 48 = some 1 := by kernel_rfl
theorem tag48 : aggT Try.prog 48 = false := by kernel_rfl
theorem tze48 : zeroT Try.prog 48 = some .nilFunc := by kernel_rfl
theorem tsz49 : szT Try.prog 49 = some 1 := by kernel_rfl
theorem tag49 : aggT Try.prog 49 = false := by kernel_rfl
theorem tze49 : zeroT Try.prog 49 = some .nilFunc := by kernel_rfl
theorem tsz50 : szT Try.prog 50 = some 1 := by kernel_rfl
theorem tby50 : byT Try.prog 50 = some 8 := by kernel_rfl
theorem tag50 : aggT Try.prog 50 = false := by kernel_rfl
theorem tze50 : zeroT Try.prog 50 = some (.pointer none) := by kernel_rfl
theorem tpl50 : placesT Try.prog 50 = none := by kernel_rfl
theorem tbt50 : byteT Try.prog 50 = false := by kernel_rfl
theorem tst50 : strT Try.prog 50 = false := by kernel_rfl
theorem tsz51 : szT Try.prog 51 = some 2 := by kernel_rfl
theorem tby51 : byT Try.prog 51 = some 32 := by kernel_rfl
theorem tag51 : aggT Try.prog 51 = true := by kernel_rfl
theorem tze51 : zeroT Try.prog 51 = some (.agg ⟨[.pointer none, .slice none 0 0]⟩) := by kernel_rfl
theorem tpl51 : placesT Try.prog 51 = some [(0, 1), (1, 1)] := by kernel_rfl
theorem tfi51_0 : fieldOf Try.prog 51 0 = some (0, 50, 1) := by kernel_rfl
theorem tfi51_1 : fieldOf Try.prog 51 1 = some (1, 22, 1) := by kernel_rfl
theorem tar51 : arrT Try.prog 51 = none := by kernel_rfl
theorem tbt51 : byteT Try.prog 51 = false := by kernel_rfl
theorem tst51 : strT Try.prog 51 = false := by kernel_rfl
theorem tsz52 : szT Try.prog 52 = some 2 := by kernel_rfl
theorem tby52 : byT Try.prog 52 = some 32 := by kernel_rfl
theorem tag52 : aggT Try.prog 52 = true := by kernel_rfl
theorem tze52 : zeroT Try.prog 52 = some (.agg ⟨[.pointer none, .slice none 0 0]⟩) := by kernel_rfl
theorem tpl52 : placesT Try.prog 52 = some [(0, 1), (1, 1)] := by kernel_rfl
theorem tfi52_0 : fieldOf Try.prog 52 0 = some (0, 50, 1) := by kernel_rfl
theorem tfi52_1 : fieldOf Try.prog 52 1 = some (1, 22, 1) := by kernel_rfl
theorem tar52 : arrT Try.prog 52 = none := by kernel_rfl
theorem tbt52 : byteT Try.prog 52 = false := by kernel_rfl
theorem tst52 : strT Try.prog 52 = false := by kernel_rfl
theorem tsz53 : szT Try.prog 53 = some 1 := by kernel_rfl
theorem tag53 : aggT Try.prog 53 = false := by kernel_rfl
theorem tsz54 : szT Try.prog 54 = some 1 := by kernel_rfl
theorem tag54 : aggT Try.prog 54 = false := by kernel_rfl
theorem tsz56 : szT Try.prog 56 = some 1 := by kernel_rfl
theorem tag56 : aggT Try.prog 56 = false := by kernel_rfl
theorem tze56 : zeroT Try.prog 56 = some .nilFunc := by kernel_rfl
theorem tsz57 : szT Try.prog 57 = some 1 := by kernel_rfl
theorem tag57 : aggT Try.prog 57 = false := by kernel_rfl
theorem tze57 : zeroT Try.prog 57 = some .nilFunc := by kernel_rfl
theorem tsz58 : szT Try.prog 58 = some 1 := by kernel_rfl
theorem tag58 : aggT Try.prog 58 = false := by kernel_rfl
theorem tze58 : zeroT Try.prog 58 = some .nilFunc := by kernel_rfl
theorem tsz59 : szT Try.prog 59 = some 1 := by kernel_rfl
theorem tag59 : aggT Try.prog 59 = false := by kernel_rfl
theorem tze59 : zeroT Try.prog 59 = some .nilFunc := by kernel_rfl
theorem tsz60 : szT Try.prog 60 = some 1 := by kernel_rfl
theorem tag60 : aggT Try.prog 60 = false := by kernel_rfl
theorem tze60 : zeroT Try.prog 60 = some .nilFunc := by kernel_rfl
theorem tsz61 : szT Try.prog 61 = some 1 := by kernel_rfl
theorem tag61 : aggT Try.prog 61 = false := by kernel_rfl
theorem tze61 : zeroT Try.prog 61 = some .nilFunc := by kernel_rfl
theorem tsz62 : szT Try.prog 62 = some 1 := by kernel_rfl
theorem tag62 : aggT Try.prog 62 = false := by kernel_rfl
theorem tze62 : zeroT Try.prog 62 = some .nilFunc := by kernel_rfl
theorem tsz63 : szT Try.prog 63 = some 1 := by kernel_rfl
theorem tag63 : aggT Try.prog 63 = false := by kernel_rfl
theorem tze63 : zeroT Try.prog 63 = some .nilFunc := by kernel_rfl
theorem tsz64 : szT Try.prog 64 = some 1 := by kernel_rfl
theorem tag64 : aggT Try.prog 64 = false := by kernel_rfl
theorem tze64 : zeroT Try.prog 64 = some .nilFunc := by kernel_rfl
theorem tsz65 : szT Try.prog 65 = some 1 := by kernel_rfl
theorem tby65 : byT Try.prog 65 = some 8 := by kernel_rfl
theorem tag65 : aggT Try.prog 65 = false := by kernel_rfl
theorem tze65 : zeroT Try.prog 65 = some (.complex .f32 0 0) := by kernel_rfl
theorem tpl65 : placesT Try.prog 65 = none := by kernel_rfl
theorem tbt65 : byteT Try.prog 65 = false := by kernel_rfl
theorem tst65 : strT Try.prog 65 = false := by kernel_rfl
theorem tsz66 : szT Try.prog 66 = some 1 := by kernel_rfl
theorem tby66 : byT Try.prog 66 = some 8 := by kernel_rfl
theorem tag66 : aggT Try.prog 66 = false := by kernel_rfl
theorem tze66 : zeroT Try.prog 66 = some (.int .u64 0) := by kernel_rfl
theorem tpl66 : placesT Try.prog 66 = none := by kernel_rfl
theorem tbt66 : byteT Try.prog 66 = false := by kernel_rfl
theorem tst66 : strT Try.prog 66 = false := by kernel_rfl
theorem tsz67 : szT Try.prog 67 = some 3 := by kernel_rfl
theorem tby67 : byT Try.prog 67 = some 40 := by kernel_rfl
theorem tag67 : aggT Try.prog 67 = true := by kernel_rfl
theorem tze67 : zeroT Try.prog 67 = some (.agg ⟨[.slice none 0 0, .int .i64 0, .int .u64 0]⟩) := by kernel_rfl
theorem tpl67 : placesT Try.prog 67 = some [(0, 1), (1, 1), (2, 1)] := by kernel_rfl
theorem tfi67_0 : fieldOf Try.prog 67 0 = some (0, 22, 1) := by kernel_rfl
theorem tfi67_1 : fieldOf Try.prog 67 1 = some (1, 3, 1) := by kernel_rfl
theorem tfi67_2 : fieldOf Try.prog 67 2 = some (2, 66, 1) := by kernel_rfl
theorem tar67 : arrT Try.prog 67 = none := by kernel_rfl
theorem tbt67 : byteT Try.prog 67 = false := by kernel_rfl
theorem tst67 : strT Try.prog 67 = false := by kernel_rfl
theorem tsz68 : szT Try.prog 68 = some 3 := by kernel_rfl
theorem tby68 : byT Try.prog 68 = some 40 := by kernel_rfl
theorem tag68 : aggT Try.prog 68 = true := by kernel_rfl
theorem tze68 : zeroT Try.prog 68 = some (.agg ⟨[.slice none 0 0, .int .i64 0, .int .u64 0]⟩) := by kernel_rfl
theorem tpl68 : placesT Try.prog 68 = some [(0, 1), (1, 1), (2, 1)] := by kernel_rfl
theorem tfi68_0 : fieldOf Try.prog 68 0 = some (0, 22, 1) := by kernel_rfl
theorem tfi68_1 : fieldOf Try.prog 68 1 = some (1, 3, 1) := by kernel_rfl
theorem tfi68_2 : fieldOf Try.prog 68 2 = some (2, 66, 1) := by kernel_rfl
theorem tar68 : arrT Try.prog 68 = none := by kernel_rfl
theorem tbt68 : byteT Try.prog 68 = false := by kernel_rfl
theorem tst68 : strT Try.prog 68 = false := by kernel_rfl
theorem tsz69 : szT Try.prog 69 = some 1 := by kernel_rfl
theorem tag69 : aggT Try.prog 69 = false := by kernel_rfl
theorem tze69 : zeroT Try.prog 69 = some .nilFunc := by kernel_rfl
theorem tsz70 : szT Try.prog 70 = some 1 := by kernel_rfl
theorem tag70 : aggT Try.prog 70 = false := by kernel_rfl
theorem tze70 : zeroT Try.prog 70 = some .nilFunc := by kernel_rfl
theorem tsz71 : szT Try.prog 71 = some 1 := by kernel_rfl
theorem tag71 : aggT Try.prog 71 = false := by kernel_rfl
theorem tze71 : zeroT Try.prog 71 = some .nilFunc := by kernel_rfl
theorem tsz72 : szT Try.prog 72 = some 1 := by kernel_rfl
theorem tag72 : aggT Try.prog 72 = false := by kernel_rfl
theorem tze72 : zeroT Try.prog 72 = some .nilFunc := by kernel_rfl
theorem tsz73 : szT Try.prog 73 = some 1 := by kernel_rfl
theorem tby73 : byT Try.prog 73 = some 4 := by kernel_rfl
theorem tag73 : aggT Try.prog 73 = false := by kernel_rfl
theorem tze73 : zeroT Try.prog 73 = some (.float .f32 0) := by kernel_rfl
theorem tpl73 : placesT Try.prog 73 = none := by kernel_rfl
theorem tbt73 : byteT Try.prog 73 = false := by kernel_rfl
theorem tst73 : strT Try.prog 73 = false := by kernel_rfl
theorem tsz74 : szT Try.prog 74 = some 1 := by kernel_rfl
theorem tag74 : aggT Try.prog 74 = false := by kernel_rfl
theorem tze74 : zeroT Try.prog 74 = some .nilFunc := by kernel_rfl
theorem tsz75 : szT Try.prog 75 = some 1 := by kernel_rfl
theorem tby75 : byT Try.prog 75 = some 8 := by kernel_rfl
theorem tag75 : aggT Try.prog 75 = false := by kernel_rfl
theorem tze75 : zeroT Try.prog 75 = some (.pointer none) := by kernel_rfl
theorem tpl75 : placesT Try.prog 75 = none := by kernel_rfl
theorem tbt75 : byteT Try.prog 75 = false := by kernel_rfl
theorem tst75 : strT Try.prog 75 = false := by kernel_rfl
theorem tsz76 : szT Try.prog 76 = some 1 := by kernel_rfl
theorem tag76 : aggT Try.prog 76 = false := by kernel_rfl
theorem tze76 : zeroT Try.prog 76 = some .nilFunc := by kernel_rfl
theorem tsz77 : szT Try.prog 77 = some 1 := by kernel_rfl
theorem tag77 : aggT Try.prog 77 = false := by kernel_rfl
theorem tze77 : zeroT Try.prog 77 = some .nilFunc := by kernel_rfl
theorem tsz79 : szT Try.prog 79 = some 1 := by kernel_rfl
theorem tag79 : aggT Try.prog 79 = false := by kernel_rfl
theorem tze79 : zeroT Try.prog 79 = some .nilFunc := by kernel_rfl
theorem tsz80 : szT Try.prog 80 = some 1 := by kernel_rfl
theorem tag80 : aggT Try.prog 80 = false := by kernel_rfl
theorem tze80 : zeroT Try.prog 80 = some .nilFunc := by kernel_rfl
theorem tsz81 : szT Try.prog 81 = some 1 := by kernel_rfl
theorem tag81 : aggT Try.prog 81 = false := by kernel_rfl
theorem tze81 : zeroT Try.prog 81 = some .nilFunc := by kernel_rfl
theorem tsz82 : szT Try.prog 82 = some 1 := by kernel_rfl
theorem tag82 : aggT Try.prog 82 = false := by kernel_rfl
theorem tze82 : zeroT Try.prog 82 = some .nilFunc := by kernel_rfl
theorem tsz83 : szT Try.prog 83 = some 1 := by kernel_rfl
theorem tby83 : byT Try.prog 83 = some 8 := by kernel_rfl
theorem tag83 : aggT Try.prog 83 = false := by kernel_rfl
theorem tze83 : zeroT Try.prog 83 = some (.pointer none) := by kernel_rfl
theorem tpl83 : placesT Try.prog 83 = none := by kernel_rfl
theorem tbt83 : byteT Try.prog 83 = false := by kernel_rfl
theorem tst83 : strT Try.prog 83 = false := by kernel_rfl
theorem tsz84 : szT Try.prog 84 = some 1 := by kernel_rfl
theorem tag84 : aggT Try.prog 84 = false := by kernel_rfl
theorem tze84 : zeroT Try.prog 84 = some .nilFunc := by kernel_rfl
theorem tsz85 : szT Try.prog 85 = some 1 := by kernel_rfl
theorem tby85 : byT Try.prog 85 = some 8 := by kernel_rfl
theorem tag85 : aggT Try.prog 85 = false := by kernel_rfl
theorem tze85 : zeroT Try.prog 85 = some (.int .u64 0) := by kernel_rfl
theorem tpl85 : placesT Try.prog 85 = none := by kernel_rfl
theorem tbt85 : byteT Try.prog 85 = false := by kernel_rfl
theorem tst85 : strT Try.prog 85 = false := by kernel_rfl
theorem tsz86 : szT Try.prog 86 = some 1 := by kernel_rfl
theorem tby86 : byT Try.prog 86 = some 4 := by kernel_rfl
theorem tag86 : aggT Try.prog 86 = false := by kernel_rfl
theorem tze86 : zeroT Try.prog 86 = some (.int .u32 0) := by kernel_rfl
theorem tpl86 : placesT Try.prog 86 = none := by kernel_rfl
theorem tbt86 : byteT Try.prog 86 = false := by kernel_rfl
theorem tst86 : strT Try.prog 86 = false := by kernel_rfl
theorem tsz87 : szT Try.prog 87 = some 1 := by kernel_rfl
theorem tag87 : aggT Try.prog 87 = false := by kernel_rfl
theorem tze87 : zeroT Try.prog 87 = some .nilFunc := by kernel_rfl
theorem tsz88 : szT Try.prog 88 = some 1 := by kernel_rfl
theorem tag88 : aggT Try.prog 88 = false := by kernel_rfl
theorem tze88 : zeroT Try.prog 88 = some .nilFunc := by kernel_rfl
theorem tsz89 : szT Try.prog 89 = some 1 := by kernel_rfl
theorem tag89 : aggT Try.prog 89 = false := by kernel_rfl
theorem tze89 : zeroT Try.prog 89 = some .nilFunc := by kernel_rfl
theorem tsz90 : szT Try.prog 90 = some 1 := by kernel_rfl
theorem tag90 : aggT Try.prog 90 = false := by kernel_rfl
theorem tze90 : zeroT Try.prog 90 = some .nilFunc := by kernel_rfl
theorem tsz91 : szT Try.prog 91 = some 1 := by kernel_rfl
theorem tby91 : byT Try.prog 91 = some 8 := by kernel_rfl
theorem tag91 : aggT Try.prog 91 = false := by kernel_rfl
theorem tze91 : zeroT Try.prog 91 = some (.float .f64 0) := by kernel_rfl
theorem tpl91 : placesT Try.prog 91 = none := by kernel_rfl
theorem tbt91 : byteT Try.prog 91 = false := by kernel_rfl
theorem tst91 : strT Try.prog 91 = false := by kernel_rfl
theorem tsz92 : szT Try.prog 92 = some 1 := by kernel_rfl
theorem tag92 : aggT Try.prog 92 = false := by kernel_rfl
theorem tze92 : zeroT Try.prog 92 = some .nilFunc := by kernel_rfl
theorem tsz93 : szT Try.prog 93 = some 1 := by kernel_rfl
theorem tag93 : aggT Try.prog 93 = false := by kernel_rfl
theorem tze93 : zeroT Try.prog 93 = some .nilFunc := by kernel_rfl
theorem tsz94 : szT Try.prog 94 = some 1 := by kernel_rfl
theorem tag94 : aggT Try.prog 94 = false := by kernel_rfl
theorem tze94 : zeroT Try.prog 94 = some .nilFunc := by kernel_rfl
theorem tsz95 : szT Try.prog 95 = some 1 := by kernel_rfl
theorem tag95 : aggT Try.prog 95 = false := by kernel_rfl
theorem tze95 : zeroT Try.prog 95 = some .nilFunc := by kernel_rfl
theorem tsz96 : szT Try.prog 96 = some 1 := by kernel_rfl
theorem tag96 : aggT Try.prog 96 = false := by kernel_rfl
theorem tze96 : zeroT Try.prog 96 = some .nilFunc := by kernel_rfl
theorem tsz97 : szT Try.prog 97 = some 1 := by kernel_rfl
theorem tby97 : byT Try.prog 97 = some 24 := by kernel_rfl
theorem tag97 : aggT Try.prog 97 = false := by kernel_rfl
theorem tze97 : zeroT Try.prog 97 = some (.slice none 0 0) := by kernel_rfl
theorem tpl97 : placesT Try.prog 97 = none := by kernel_rfl
theorem tel97 : elemT Try.prog 97 = some 2 := by kernel_rfl
theorem tbt97 : byteT Try.prog 97 = false := by kernel_rfl
theorem tst97 : strT Try.prog 97 = false := by kernel_rfl
theorem tsz98 : szT Try.prog 98 = some 4 := by kernel_rfl
theorem tby98 : byT Try.prog 98 = some 40 := by kernel_rfl
theorem tag98 : aggT Try.prog 98 = true := by kernel_rfl
theorem tze98 : zeroT Try.prog 98 = some (.agg ⟨[.pointer none, .pointer none, .pointer none, .string ⟨⟨[]⟩⟩]⟩) := by kernel_rfl
theorem tpl98 : placesT Try.prog 98 = some [(0, 1), (1, 1), (2, 1), (3, 1)] := by kernel_rfl
theorem tfi98_0 : fieldOf Try.prog 98 0 = some (0, 17, 1) := by kernel_rfl
theorem tfi98_1 : fieldOf Try.prog 98 1 = some (1, 17, 1) := by kernel_rfl
theorem tfi98_2 : fieldOf Try.prog 98 2 = some (2, 17, 1) := by kernel_rfl
theorem tfi98_3 : fieldOf Try.prog 98 3 = some (3, 9, 1) := by kernel_rfl
theorem tar98 : arrT Try.prog 98 = none := by kernel_rfl
theorem tbt98 : byteT Try.prog 98 = false := by kernel_rfl
theorem tst98 : strT Try.prog 98 = false := by kernel_rfl
theorem tsz99 : szT Try.prog 99 = some 4 := by kernel_rfl
theorem tby99 : byT Try.prog 99 = some 40 := by kernel_rfl
theorem tag99 : aggT Try.prog 99 = true := by kernel_rfl
theorem tze99 : zeroT Try.prog 99 = some (.agg ⟨[.pointer none, .pointer none, .pointer none, .string ⟨⟨[]⟩⟩]⟩) := by kernel_rfl
theorem tpl99 : placesT Try.prog 99 = some [(0, 1), (1, 1), (2, 1), (3, 1)] := by kernel_rfl
theorem tfi99_0 : fieldOf Try.prog 99 0 = some (0, 17, 1) := by kernel_rfl
theorem tfi99_1 : fieldOf Try.prog 99 1 = some (1, 17, 1) := by kernel_rfl
theorem tfi99_2 : fieldOf Try.prog 99 2 = some (2, 17, 1) := by kernel_rfl
theorem tfi99_3 : fieldOf Try.prog 99 3 = some (3, 9, 1) := by kernel_rfl
theorem tar99 : arrT Try.prog 99 = none := by kernel_rfl
theorem tbt99 : byteT Try.prog 99 = false := by kernel_rfl
theorem tst99 : strT Try.prog 99 = false := by kernel_rfl
theorem tsz100 : szT Try.prog 100 = some 0 := by kernel_rfl
theorem tby100 : byT Try.prog 100 = some 0 := by kernel_rfl
theorem tag100 : aggT Try.prog 100 = true := by kernel_rfl
theorem tpl100 : placesT Try.prog 100 = none := by kernel_rfl
theorem tar100 : arrT Try.prog 100 = some 1 := by kernel_rfl
theorem tbt100 : byteT Try.prog 100 = false := by kernel_rfl
theorem tst100 : strT Try.prog 100 = false := by kernel_rfl
theorem tsz101 : szT Try.prog 101 = some 0 := by kernel_rfl
theorem tby101 : byT Try.prog 101 = some 0 := by kernel_rfl
theorem tag101 : aggT Try.prog 101 = true := by kernel_rfl
theorem tpl101 : placesT Try.prog 101 = some [(0, 0)] := by kernel_rfl
theorem tfi101_0 : fieldOf Try.prog 101 0 = some (0, 100, 0) := by kernel_rfl
theorem tar101 : arrT Try.prog 101 = none := by kernel_rfl
theorem tbt101 : byteT Try.prog 101 = false := by kernel_rfl
theorem tst101 : strT Try.prog 101 = false := by kernel_rfl
theorem tsz102 : szT Try.prog 102 = some 0 := by kernel_rfl
theorem tby102 : byT Try.prog 102 = some 0 := by kernel_rfl
theorem tag102 : aggT Try.prog 102 = true := by kernel_rfl
theorem tpl102 : placesT Try.prog 102 = some [(0, 0)] := by kernel_rfl
theorem tfi102_0 : fieldOf Try.prog 102 0 = some (0, 100, 0) := by kernel_rfl
theorem tar102 : arrT Try.prog 102 = none := by kernel_rfl
theorem tbt102 : byteT Try.prog 102 = false := by kernel_rfl
theorem tst102 : strT Try.prog 102 = false := by kernel_rfl
theorem tsz103 : szT Try.prog 103 = some 1 := by kernel_rfl
theorem tag103 : aggT Try.prog 103 = false := by kernel_rfl
theorem tze103 : zeroT Try.prog 103 = some .nilFunc := by kernel_rfl
theorem tsz104 : szT Try.prog 104 = some 1 := by kernel_rfl
theorem tby104 : byT Try.prog 104 = some 1 := by kernel_rfl
theorem tag104 : aggT Try.prog 104 = false := by kernel_rfl
theorem tze104 : zeroT Try.prog 104 = some (.int .u8 0) := by kernel_rfl
theorem tpl104 : placesT Try.prog 104 = none := by kernel_rfl
theorem tbt104 : byteT Try.prog 104 = true := by kernel_rfl
theorem tst104 : strT Try.prog 104 = false := by kernel_rfl
theorem tsz105 : szT Try.prog 105 = some 1 := by kernel_rfl
theorem tby105 : byT Try.prog 105 = some 1 := by kernel_rfl
theorem tag105 : aggT Try.prog 105 = false := by kernel_rfl
theorem tze105 : zeroT Try.prog 105 = some (.int .u8 0) := by kernel_rfl
theorem tpl105 : placesT Try.prog 105 = none := by kernel_rfl
theorem tbt105 : byteT Try.prog 105 = true := by kernel_rfl
theorem tst105 : strT Try.prog 105 = false := by kernel_rfl
theorem tsz106 : szT Try.prog 106 = some 1 := by kernel_rfl
theorem tag106 : aggT Try.prog 106 = false := by kernel_rfl
theorem tze106 : zeroT Try.prog 106 = some .nilFunc := by kernel_rfl
theorem tsz107 : szT Try.prog 107 = some 1 := by kernel_rfl
theorem tby107 : byT Try.prog 107 = some 4 := by kernel_rfl
theorem tag107 : aggT Try.prog 107 = false := by kernel_rfl
theorem tze107 : zeroT Try.prog 107 = some (.int .i32 0) := by kernel_rfl
theorem tpl107 : placesT Try.prog 107 = none := by kernel_rfl
theorem tbt107 : byteT Try.prog 107 = false := by kernel_rfl
theorem tst107 : strT Try.prog 107 = false := by kernel_rfl
theorem tsz108 : szT Try.prog 108 = some 1 := by kernel_rfl
theorem tby108 : byT Try.prog 108 = some 4 := by kernel_rfl
theorem tag108 : aggT Try.prog 108 = false := by kernel_rfl
theorem tze108 : zeroT Try.prog 108 = some (.int .i32 0) := by kernel_rfl
theorem tpl108 : placesT Try.prog 108 = none := by kernel_rfl
theorem tbt108 : byteT Try.prog 108 = false := by kernel_rfl
theorem tst108 : strT Try.prog 108 = false := by kernel_rfl
theorem tsz109 : szT Try.prog 109 = some 11 := by kernel_rfl
theorem tby109 : byT Try.prog 109 = some 48 := by kernel_rfl
theorem tag109 : aggT Try.prog 109 = true := by kernel_rfl
theorem tze109 : zeroT Try.prog 109 = some (.agg ⟨[.int .u64 0, .int .u64 0, .int .u32 0, .int .u8 0, .int .u8 0, .int .u8 0, .int .u8 0, .nilFunc, .pointer none, .int .i32 0, .int .i32 0]⟩) := by kernel_rfl
theorem tpl109 : placesT Try.prog 109 = some [(0, 1), (1, 1), (2, 1), (3, 1), (4, 1), (5, 1), (6, 1), (7, 1), (8, 1), (9, 1), (10, 1)] := by kernel_rfl
theorem tfi109_0 : fieldOf Try.prog 109 0 = some (0, 12, 1) := by kernel_rfl
theorem tfi109_1 : fieldOf Try.prog 109 1 = some (1, 12, 1) := by kernel_rfl
theorem tfi109_2 : fieldOf Try.prog 109 2 = some (2, 86, 1) := by kernel_rfl
theorem tfi109_3 : fieldOf Try.prog 109 3 = some (3, 104, 1) := by kernel_rfl
theorem tfi109_4 : fieldOf Try.prog 109 4 = some (4, 5, 1) := by kernel_rfl
theorem tfi109_5 : fieldOf Try.prog 109 5 = some (5, 5, 1) := by kernel_rfl
theorem tfi109_6 : fieldOf Try.prog 109 6 = some (6, 105, 1) := by kernel_rfl
theorem tfi109_7 : fieldOf Try.prog 109 7 = some (7, 106, 1) := by kernel_rfl
theorem tfi109_8 : fieldOf Try.prog 109 8 = some (8, 75, 1) := by kernel_rfl
theorem tfi109_9 : fieldOf Try.prog 109 9 = some (9, 107, 1) := by kernel_rfl
theorem tfi109_10 : fieldOf Try.prog 109 10 = some (10, 108, 1) := by kernel_rfl
theorem tar109 : arrT Try.prog 109 = none := by kernel_rfl
theorem tbt109 : byteT Try.prog 109 = false := by kernel_rfl
theorem tst109 : strT Try.prog 109 = false := by kernel_rfl
theorem tsz110 : szT Try.prog 110 = some 11 := by kernel_rfl
theorem tby110 : byT Try.prog 110 = some 48 := by kernel_rfl
theorem tag110 : aggT Try.prog 110 = true := by kernel_rfl
theorem tze110 : zeroT Try.prog 110 = some (.agg ⟨[.int .u64 0, .int .u64 0, .int .u32 0, .int .u8 0, .int .u8 0, .int .u8 0, .int .u8 0, .nilFunc, .pointer none, .int .i32 0, .int .i32 0]⟩) := by kernel_rfl
theorem tpl110 : placesT Try.prog 110 = some [(0, 1), (1, 1), (2, 1), (3, 1), (4, 1), (5, 1), (6, 1), (7, 1), (8, 1), (9, 1), (10, 1)] := by kernel_rfl
theorem tfi110_0 : fieldOf Try.prog 110 0 = some (0, 12, 1) := by kernel_rfl
theorem tfi110_1 : fieldOf Try.prog 110 1 = some (1, 12, 1) := by kernel_rfl
theorem tfi110_2 : fieldOf Try.prog 110 2 = some (2, 86, 1) := by kernel_rfl
theorem tfi110_3 : fieldOf Try.prog 110 3 = some (3, 104, 1) := by kernel_rfl
theorem tfi110_4 : fieldOf Try.prog 110 4 = some (4, 5, 1) := by kernel_rfl
theorem tfi110_5 : fieldOf Try.prog 110 5 = some (5, 5, 1) := by kernel_rfl
theorem tfi110_6 : fieldOf Try.prog 110 6 = some (6, 105, 1) := by kernel_rfl
theorem tfi110_7 : fieldOf Try.prog 110 7 = some (7, 106, 1) := by kernel_rfl
theorem tfi110_8 : fieldOf Try.prog 110 8 = some (8, 75, 1) := by kernel_rfl
theorem tfi110_9 : fieldOf Try.prog 110 9 = some (9, 107, 1) := by kernel_rfl
theorem tfi110_10 : fieldOf Try.prog 110 10 = some (10, 108, 1) := by kernel_rfl
theorem tar110 : arrT Try.prog 110 = none := by kernel_rfl
theorem tbt110 : byteT Try.prog 110 = false := by kernel_rfl
theorem tst110 : strT Try.prog 110 = false := by kernel_rfl
/-- Functions without a body, and some that are told apart. -/
def noBody : List Nat := [0, 1, 43, 44, 47, 51, 56, 57, 58, 59, 60, 61, 62, 63, 64, 65, 66, 67, 68, 69, 70, 71, 72, 20, 30, 31]
/-- That nothing is known from outside of functions with a body. -/
def XN (X : Ext) : Prop := ∀ f, noBody.contains f = false → X f = none
theorem mixed : Try.prog.follows .mixedOrders = true := by kernel_rfl
end Go.Proofs.Yteignhphimfmkaa.Sim
