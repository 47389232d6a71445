/- Closed facts on the types of this translation, as the abstract machine asks for them: sizes, zero values, places of fields. Written by a program of this session; no condition. -/
import Derived.Test.YtelogajobjflfaaSimM
import Derived.Test.YtelogajobjflfaaProg
import Derived.KernelRfl
namespace Go.Proofs.Ytelogajobjflfaa.Sim
open Go

theorem tsz1 : szT Try.prog 1 = some 1 := by kernel_rfl
theorem tag1 : aggT Try.prog 1 = false := by kernel_rfl
theorem tze1 : zeroT Try.prog 1 = some .nilFunc := by kernel_rfl
theorem tsz2 : szT Try.prog 2 = some 1 := by kernel_rfl
theorem tby2 : byT Try.prog 2 = some 8 := by kernel_rfl
theorem tag2 : aggT Try.prog 2 = false := by kernel_rfl
theorem tze2 : zeroT Try.prog 2 = some (.int .i64 0) := by kernel_rfl
theorem tpl2 : placesT Try.prog 2 = none := by kernel_rfl
theorem tbt2 : byteT Try.prog 2 = false := by kernel_rfl
theorem tst2 : strT Try.prog 2 = false := by kernel_rfl
theorem tsz3 : szT Try.prog 3 = some 1 := by kernel_rfl
theorem tby3 : byT Try.prog 3 = some 8 := by kernel_rfl
theorem tag3 : aggT Try.prog 3 = false := by kernel_rfl
theorem tze3 : zeroT Try.prog 3 = some (.int .i64 0) := by kernel_rfl
theorem tpl3 : placesT Try.prog 3 = none := by kernel_rfl
theorem tbt3 : byteT Try.prog 3 = false := by kernel_rfl
theorem tst3 : strT Try.prog 3 = false := by kernel_rfl
theorem tsz4 : szT Try.prog 4 = some 1 := by kernel_rfl
theorem tby4 : byT Try.prog 4 = some 1 := by kernel_rfl
theorem tag4 : aggT Try.prog 4 = false := by kernel_rfl
theorem tze4 : zeroT Try.prog 4 = some (.bool false) := by kernel_rfl
theorem tpl4 : placesT Try.prog 4 = none := by kernel_rfl
theorem tbt4 : byteT Try.prog 4 = false := by kernel_rfl
theorem tst4 : strT Try.prog 4 = false := by kernel_rfl
theorem tsz5 : szT Try.prog 5 = some 1 := by kernel_rfl
theorem tby5 : byT Try.prog 5 = some 1 := by kernel_rfl
theorem tag5 : aggT Try.prog 5 = false := by kernel_rfl
theorem tze5 : zeroT Try.prog 5 = some (.int .u8 0) := by kernel_rfl
theorem tpl5 : placesT Try.prog 5 = none := by kernel_rfl
theorem tbt5 : byteT Try.prog 5 = true := by kernel_rfl
theorem tst5 : strT Try.prog 5 = false := by kernel_rfl
theorem tsz6 : szT Try.prog 6 = some 1 := by kernel_rfl
theorem tby6 : byT Try.prog 6 = some 1 := by kernel_rfl
theorem tag6 : aggT Try.prog 6 = false := by kernel_rfl
theorem tze6 : zeroT Try.prog 6 = some (.int .u8 0) := by kernel_rfl
theorem tpl6 : placesT Try.prog 6 = none := by kernel_rfl
theorem tbt6 : byteT Try.prog 6 = true := by kernel_rfl
theorem tst6 : strT Try.prog 6 = false := by kernel_rfl
theorem tsz7 : szT Try.prog 7 = some 4 := by kernel_rfl
theorem tby7 : byT Try.prog 7 = some 24 := by kernel_rfl
theorem tag7 : aggT Try.prog 7 = true := by kernel_rfl
theorem tze7 : zeroT Try.prog 7 = some (.agg ⟨[.int .i64 0, .int .i64 0, .bool false, .int .u8 0]⟩) := by kernel_rfl
theorem tpl7 : placesT Try.prog 7 = some [(0, 1), (1, 1), (2, 1), (3, 1)] := by kernel_rfl
theorem tfi7_0 : fieldOf Try.prog 7 0 = some (0, 2, 1) := by kernel_rfl
theorem tfi7_1 : fieldOf Try.prog 7 1 = some (1, 3, 1) := by kernel_rfl
theorem tfi7_2 : fieldOf Try.prog 7 2 = some (2, 4, 1) := by kernel_rfl
theorem tfi7_3 : fieldOf Try.prog 7 3 = some (3, 6, 1) := by kernel_rfl
theorem tar7 : arrT Try.prog 7 = none := by kernel_rfl
theorem tbt7 : byteT Try.prog 7 = false := by kernel_rfl
theorem tst7 : strT Try.prog 7 = false := by kernel_rfl
theorem tsz8 : szT Try.prog 8 = some 4 := by kernel_rfl
theorem tby8 : byT Try.prog 8 = some 24 := by kernel_rfl
theorem tag8 : aggT Try.prog 8 = true := by kernel_rfl
theorem tze8 : zeroT Try.prog 8 = some (.agg ⟨[.int .i64 0, .int .i64 0, .bool false, .int .u8 0]⟩) := by kernel_rfl
theorem tpl8 : placesT Try.prog 8 = some [(0, 1), (1, 1), (2, 1), (3, 1)] := by kernel_rfl
theorem tfi8_0 : fieldOf Try.prog 8 0 = some (0, 2, 1) := by kernel_rfl
theorem tfi8_1 : fieldOf Try.prog 8 1 = some (1, 3, 1) := by kernel_rfl
theorem tfi8_2 : fieldOf Try.prog 8 2 = some (2, 4, 1) := by kernel_rfl
theorem tfi8_3 : fieldOf Try.prog 8 3 = some (3, 6, 1) := by kernel_rfl
theorem tar8 : arrT Try.prog 8 = none := by kernel_rfl
theorem tbt8 : byteT Try.prog 8 = false := by kernel_rfl
theorem tst8 : strT Try.prog 8 = false := by kernel_rfl
theorem tsz9 : szT Try.prog 9 = some 1 := by kernel_rfl
theorem tby9 : byT Try.prog 9 = some 16 := by kernel_rfl
theorem tag9 : aggT Try.prog 9 = false := by kernel_rfl
theorem tze9 : zeroT Try.prog 9 = some (.string ⟨⟨[]⟩⟩) := by kernel_rfl
theorem tpl9 : placesT Try.prog 9 = none := by kernel_rfl
theorem tbt9 : byteT Try.prog 9 = false := by kernel_rfl
theorem tst9 : strT Try.prog 9 = true := by kernel_rfl
theorem tsz10 : szT Try.prog 10 = some 1 := by kernel_rfl
theorem tby10 : byT Try.prog 10 = some 16 := by kernel_rfl
theorem tag10 : aggT Try.prog 10 = false := by kernel_rfl
theorem tze10 : zeroT Try.prog 10 = some (.string ⟨⟨[]⟩⟩) := by kernel_rfl
theorem tpl10 : placesT Try.prog 10 = none := by kernel_rfl
theorem tbt10 : byteT Try.prog 10 = false := by kernel_rfl
theorem tst10 : strT Try.prog 10 = true := by kernel_rfl
theorem tsz11 : szT Try.prog 11 = some 1 := by kernel_rfl
theorem tby11 : byT Try.prog 11 = some 16 := by kernel_rfl
theorem tag11 : aggT Try.prog 11 = false := by kernel_rfl
theorem tze11 : zeroT Try.prog 11 = some (.string ⟨⟨[]⟩⟩) := by kernel_rfl
theorem tpl11 : placesT Try.prog 11 = none := by kernel_rfl
theorem tbt11 : byteT Try.prog 11 = false := by kernel_rfl
theorem tst11 : strT Try.prog 11 = true := by kernel_rfl
theorem tsz12 : szT Try.prog 12 = some 1 := by kernel_rfl
theorem tby12 : byT Try.prog 12 = some 8 := by kernel_rfl
theorem tag12 : aggT Try.prog 12 = false := by kernel_rfl
theorem tze12 : zeroT Try.prog 12 = some (.int .u64 0) := by kernel_rfl
theorem tpl12 : placesT Try.prog 12 = none := by kernel_rfl
theorem tbt12 : byteT Try.prog 12 = false := by kernel_rfl
theorem tst12 : strT Try.prog 12 = false := by kernel_rfl
theorem tsz13 : szT Try.prog 13 = some 2 := by kernel_rfl
theorem tby13 : byT Try.prog 13 = some 24 := by kernel_rfl
theorem tag13 : aggT Try.prog 13 = true := by kernel_rfl
theorem tze13 : zeroT Try.prog 13 = some (.agg ⟨[.string ⟨⟨[]⟩⟩, .int .u64 0]⟩) := by kernel_rfl
theorem tpl13 : placesT Try.prog 13 = some [(0, 1), (1, 1)] := by kernel_rfl
theorem tfi13_0 : fieldOf Try.prog 13 0 = some (0, 9, 1) := by kernel_rfl
theorem tfi13_1 : fieldOf Try.prog 13 1 = some (1, 12, 1) := by kernel_rfl
theorem tar13 : arrT Try.prog 13 = none := by kernel_rfl
theorem tbt13 : byteT Try.prog 13 = false := by kernel_rfl
theorem tst13 : strT Try.prog 13 = false := by kernel_rfl
theorem tsz14 : szT Try.prog 14 = some 2 := by kernel_rfl
theorem tby14 : byT Try.prog 14 = some 24 := by kernel_rfl
theorem tag14 : aggT Try.prog 14 = true := by kernel_rfl
theorem tze14 : zeroT Try.prog 14 = some (.agg ⟨[.string ⟨⟨[]⟩⟩, .int .u64 0]⟩) := by kernel_rfl
theorem tpl14 : placesT Try.prog 14 = some [(0, 1), (1, 1)] := by kernel_rfl
theorem tfi14_0 : fieldOf Try.prog 14 0 = some (0, 9, 1) := by kernel_rfl
theorem tfi14_1 : fieldOf Try.prog 14 1 = some (1, 12, 1) := by kernel_rfl
theorem tar14 : arrT Try.prog 14 = none := by kernel_rfl
theorem tbt14 : byteT Try.prog 14 = false := by kernel_rfl
theorem tst14 : strT Try.prog 14 = false := by kernel_rfl
theorem tsz15 : szT Try.prog 15 = some 1 := by kernel_rfl
theorem tby15 : byT Try.prog 15 = some 8 := by kernel_rfl
theorem tag15 : aggT Try.prog 15 = false := by kernel_rfl
theorem tze15 : zeroT Try.prog 15 = some (.pointer none) := by kernel_rfl
theorem tpl15 : placesT Try.prog 15 = none := by kernel_rfl
theorem tbt15 : byteT Try.prog 15 = false := by kernel_rfl
theorem tst15 : strT Try.prog 15 = false := by kernel_rfl
theorem tsz16 : szT Try.prog 16 = some 1 := by kernel_rfl
theorem tby16 : byT Try.prog 16 = some 8 := by kernel_rfl
theorem tag16 : aggT Try.prog 16 = false := by kernel_rfl
theorem tze16 : zeroT Try.prog 16 = some (.pointer none) := by kernel_rfl
theorem tpl16 : placesT Try.prog 16 = none := by kernel_rfl
theorem tbt16 : byteT Try.prog 16 = false := by kernel_rfl
theorem tst16 : strT Try.prog 16 = false := by kernel_rfl
theorem tsz17 : szT Try.prog 17 = some 1 := by kernel_rfl
theorem tby17 : byT Try.prog 17 = some 8 := by kernel_rfl
theorem tag17 : aggT Try.prog 17 = false := by kernel_rfl
theorem tze17 : zeroT Try.prog 17 = some (.pointer none) := by kernel_rfl
theorem tpl17 : placesT Try.prog 17 = none := by kernel_rfl
theorem tbt17 : byteT Try.prog 17 = false := by kernel_rfl
theorem tst17 : strT Try.prog 17 = false := by kernel_rfl
theorem tsz18 : szT Try.prog 18 = some 1 := by kernel_rfl
theorem tby18 : byT Try.prog 18 = some 8 := by kernel_rfl
theorem tag18 : aggT Try.prog 18 = true := by kernel_rfl
theorem tze18 : zeroT Try.prog 18 = some (.agg ⟨[.pointer none]⟩) := by kernel_rfl
theorem tpl18 : placesT Try.prog 18 = some [(0, 1)] := by kernel_rfl
theorem tfi18_0 : fieldOf Try.prog 18 0 = some (0, 17, 1) := by kernel_rfl
theorem tar18 : arrT Try.prog 18 = none := by kernel_rfl
theorem tbt18 : byteT Try.prog 18 = false := by kernel_rfl
theorem tst18 : strT Try.prog 18 = false := by kernel_rfl
theorem tsz19 : szT Try.prog 19 = some 1 := by kernel_rfl
theorem tby19 : byT Try.prog 19 = some 8 := by kernel_rfl
theorem tag19 : aggT Try.prog 19 = true := by kernel_rfl
theorem tze19 : zeroT Try.prog 19 = some (.agg ⟨[.pointer none]⟩) := by kernel_rfl
theorem tpl19 : placesT Try.prog 19 = some [(0, 1)] := by kernel_rfl
theorem tfi19_0 : fieldOf Try.prog 19 0 = some (0, 17, 1) := by kernel_rfl
theorem tar19 : arrT Try.prog 19 = none := by kernel_rfl
theorem tbt19 : byteT Try.prog 19 = false := by kernel_rfl
theorem tst19 : strT Try.prog 19 = false := by kernel_rfl
theorem tsz20 : szT Try.prog 20 = some 1 := by kernel_rfl
theorem tag20 : aggT Try.prog 20 = false := by kernel_rfl
theorem tsz21 : szT Try.prog 21 = some 1 := by kernel_rfl
theorem tby21 : byT Try.prog 21 = some 4 := by kernel_rfl
theorem tag21 : aggT Try.prog 21 = false := by kernel_rfl
theorem tze21 : zeroT Try.prog 21 = some (.int .i32 0) := by kernel_rfl
theorem tpl21 : placesT Try.prog 21 = none := by kernel_rfl
theorem tbt21 : byteT Try.prog 21 = false := by kernel_rfl
theorem tst21 : strT Try.prog 21 = false := by kernel_rfl
theorem tsz22 : szT Try.prog 22 = some 1 := by kernel_rfl
theorem tby22 : byT Try.prog 22 = some 24 := by kernel_rfl
theorem tag22 : aggT Try.prog 22 = false := by kernel_rfl
theorem tze22 : zeroT Try.prog 22 = some (.slice none 0 0) := by kernel_rfl
theorem tpl22 : placesT Try.prog 22 = none := by kernel_rfl
theorem tel22 : elemT Try.prog 22 = some 5 := by kernel_rfl
theorem tbt22 : byteT Try.prog 22 = false := by kernel_rfl
theorem tst22 : strT Try.prog 22 = false := by kernel_rfl
theorem tsz23 : szT Try.prog 23 = some 1 := by kernel_rfl
theorem tag23 : aggT Try.prog 23 = false := by kernel_rfl
theorem tze23 : zeroT Try.prog 23 = some .nilFunc := by kernel_rfl
theorem tsz24 : szT Try.prog 24 = some 1 := by kernel_rfl
theorem tby24 : byT Try.prog 24 = some 24 := by kernel_rfl
theorem tag24 : aggT Try.prog 24 = false := by kernel_rfl
theorem tze24 : zeroT Try.prog 24 = some (.slice none 0 0) := by kernel_rfl
theorem tpl24 : placesT Try.prog 24 = none := by kernel_rfl
theorem tel24 : elemT Try.prog 24 = some 29 := by kernel_rfl
theorem tbt24 : byteT Try.prog 24 = false := by kernel_rfl
theorem tst24 : strT Try.prog 24 = false := by kernel_rfl
theorem tsz25 : szT Try.prog 25 = some 1 := by kernel_rfl
theorem tag25 : aggT Try.prog 25 = false := by kernel_rfl
theorem tze25 : zeroT Try.prog 25 = some .nilFunc := by kernel_rfl
theorem tsz26 : szT Try.prog 26 = some 1 := by kernel_rfl
theorem tag26 : aggT Try.prog 26 = false := by kernel_rfl
theorem tze26 : zeroT Try.prog 26 = some .nilFunc := by kernel_rfl
theorem tsz28 : szT Try.prog 28 = some 1 := by kernel_rfl
theorem tag28 : aggT Try.prog 28 = false := by kernel_rfl
theorem tze28 : zeroT Try.prog 28 = some .nilFunc := by kernel_rfl
theorem tsz29 : szT Try.prog 29 = some 1 := by kernel_rfl
theorem tby29 : byT Try.prog 29 = some 4 := by kernel_rfl
theorem tag29 : aggT Try.prog 29 = false := by kernel_rfl
theorem tze29 : zeroT Try.prog 29 = some (.float .f32 0) := by kernel_rfl
theorem tpl29 : placesT Try.prog 29 = none := by kernel_rfl
theorem tbt29 : byteT Try.prog 29 = false := by kernel_rfl
theorem tst29 : strT Try.prog 29 = false := by kernel_rfl
theorem tsz31 : szT Try.prog 31 = some 1 := by kernel_rfl
theorem tag31 : aggT Try.prog 31 = false := by kernel_rfl
theorem tze31 : zeroT Try.prog 31 = some .nilFunc := by kernel_rfl
theorem tsz32 : szT Try.prog 32 = some 1 := by kernel_rfl
theorem tby32 : byT Try.prog 32 = some 24 := by kernel_rfl
theorem tag32 : aggT Try.prog 32 = false := by kernel_rfl
theorem tze32 : zeroT Try.prog 32 = some (.slice none 0 0) := by kernel_rfl
theorem tpl32 : placesT Try.prog 32 = none := by kernel_rfl
theorem tel32 : elemT Try.prog 32 = some 2 := by kernel_rfl
theorem tbt32 : byteT Try.prog 32 = false := by kernel_rfl
theorem tst32 : strT Try.prog 32 = false := by kernel_rfl
theorem tsz34 : szT Try.prog 34 = some 1 := by kernel_rfl
theorem tag34 : aggT Try.prog 34 = false := by kernel_rfl
theorem tze34 : zeroT Try.prog 34 = some .nilFunc := by kernel_rfl
theorem tsz35 : szT Try.prog 35 = some 1 := by kernel_rfl
theorem tag35 : aggT Try.prog 35 = false := by kernel_rfl
theorem tze35 : zeroT Try.prog 35 = some .nilFunc := by kernel_rfl
theorem tsz36 : szT Try.prog 36 = some 1 := by kernel_rfl
theorem tby36 : byT Try.prog 36 = some 24 := by kernel_rfl
theorem tag36 : aggT Try.prog 36 = false := by kernel_rfl
theorem tze36 : zeroT Try.prog 36 = some (.slice none 0 0) := by kernel_rfl
theorem tpl36 : placesT Try.prog 36 = none := by kernel_rfl
theorem tel36 : elemT Try.prog 36 = some 44 := by kernel_rfl
theorem tbt36 : byteT Try.prog 36 = false := by kernel_rfl
theorem tst36 : strT Try.prog 36 = false := by kernel_rfl
theorem tsz37 : szT Try.prog 37 = some 1 := by kernel_rfl
theorem tby37 : byT Try.prog 37 = some 24 := by kernel_rfl
theorem tag37 : aggT Try.prog 37 = true := by kernel_rfl
theorem tze37 : zeroT Try.prog 37 = some (.agg ⟨[.slice none 0 0]⟩) := by kernel_rfl
theorem tpl37 : placesT Try.prog 37 = some [(0, 1)] := by kernel_rfl
theorem tfi37_0 : fieldOf Try.prog 37 0 = some (0, 36, 1) := by kernel_rfl
theorem tar37 : arrT Try.prog 37 = none := by kernel_rfl
theorem tbt37 : byteT Try.prog 37 = false := by kernel_rfl
theorem tst37 : strT Try.prog 37 = false := by kernel_rfl
theorem tsz38 : szT Try.prog 38 = some 1 := by kernel_rfl
theorem tby38 : byT Try.prog 38 = some 24 := by kernel_rfl
theorem tag38 : aggT Try.prog 38 = true := by kernel_rfl
theorem tze38 : zeroT Try.prog 38 = some (.agg ⟨[.slice none 0 0]⟩) := by kernel_rfl
theorem tpl38 : placesT Try.prog 38 = some [(0, 1)] := by kernel_rfl
theorem tfi38_0 : fieldOf Try.prog 38 0 = some (0, 36, 1) := by kernel_rfl
theorem tar38 : arrT Try.prog 38 = none := by kernel_rfl
theorem tbt38 : byteT Try.prog 38 = false := by kernel_rfl
theorem tst38 : strT Try.prog 38 = false := by kernel_rfl
theorem tsz39 : szT Try.prog 39 = some 1 := by kernel_rfl
theorem tag39 : aggT Try.prog 39 = false := by kernel_rfl
theorem tze39 : zeroT Try.prog 39 = some .nilFunc := by kernel_rfl
theorem tsz41 : szT Try.prog 41 = some 1 := by kernel_rfl
theorem tag41 : aggT Try.prog 41 = false := by kernel_rfl
theorem tze41 : zeroT Try.prog 41 = some .nilFunc := by kernel_rfl
theorem tsz42 : szT Try.prog 42 = some 1 := by kernel_rfl
theorem tag42 : aggT Try.prog 42 = false := by kernel_rfl
theorem tze42 : zeroT Try.prog 42 = some .nilFunc := by kernel_rfl
theorem tsz43 : szT Try.prog 43 = some 1 := by kernel_rfl
theorem tag43 : aggT Try.prog 43 = false := by kernel_rfl
theorem tze43 : zeroT Try.prog 43 = some .nilFunc := by kernel_rfl
theorem tsz44 : szT Try.prog 44 = some 1 := by kernel_rfl
theorem tby44 : byT Try.prog 44 = some 24 := by kernel_rfl
theorem tag44 : aggT Try.prog 44 = false := by kernel_rfl
theorem tze44 : zeroT Try.prog 44 = some (.slice none 0 0) := by kernel_rfl
theorem tpl44 : placesT Try.prog 44 = none := by kernel_rfl
theorem tel44 : elemT Try.prog 44 = some 46 := by kernel_rfl
theorem tbt44 : byteT Try.prog 44 = false := by kernel_rfl
theorem tst44 : strT Try.prog 44 = false := by kernel_rfl
theorem tsz45 : szT Try.prog 45 = some 1 := by kernel_rfl
theorem tag45 : aggT Try.prog 45 = false := by kernel_rfl
theorem tze45 : zeroT Try.prog 45 = some .nilFunc := by kernel_rfl
theorem tsz46 : szT Try.prog 46 = some 1 := by kernel_rfl
theorem tby46 : byT Try.prog 46 = some 8 := by kernel_rfl
theorem tag46 : aggT Try.prog 46 = false := by kernel_rfl
theorem tze46 : zeroT Try.prog 46 = some (.complex .f32 0 0) := by kernel_rfl
theorem tpl46 : placesT Try.prog 46 = none := by kernel_rfl
theorem tbt46 : byteT Try.prog 46 = false := by kernel_rfl
theorem tst46 : strT Try.prog 46 = false := by kernel_rfl
theorem tsz48 : szT Try.prog 48 = some 1 := by kernel_rfl
theorem tag48 : aggT Try.prog 48 = false := by kernel_rfl
theorem tze48 : zeroT Try.prog 48 = some .nilFunc := by kernel_rfl
theorem tsz50 : szT Try.prog 50 = some 1 := by kernel_rfl
theorem tag50 : aggT Try.prog 50 = false := by kernel_rfl
theorem tze50 : zeroT Try.prog 50 = some .nilFunc := by kernel_rfl
theorem tsz51 : szT Try.prog 51 = some 1 := by kernel_rfl
theorem tag51 : aggT Try.prog 51 = false := by kernel_rfl
theorem tze51 : zeroT Try.prog 51 = some .nilFunc := by kernel_rfl
theorem tsz52 : szT Try.prog 52 = some 1 := by kernel_rfl
theorem tag52 : aggT Try.prog 52 = false := by kernel_rfl
theorem tze52 : zeroT Try.prog 52 = some .nilFunc := by kernel_rfl
theorem tsz53 : szT Try.prog 53 = some 1 := by kernel_rfl
theorem tag53 : aggT Try.prog 53 = false := by kernel_rfl
theorem tze53 : zeroT Try.prog 53 = some .nilFunc := by kernel_rfl
theorem tsz54 : szT Try.prog 54 = some 1 := by kernel_rfl
theorem tby54 : byT Try.prog 54 = some 24 := by kernel_rfl
theorem tag54 : aggT Try.prog 54 = false := by kernel_rfl
theorem tze54 : zeroT Try.prog 54 = some (.slice none 0 0) := by kernel_rfl
theorem tpl54 : placesT Try.prog 54 = none := by kernel_rfl
theorem tel54 : elemT Try.prog 54 = some 126 := by kernel_rfl
theorem tbt54 : byteT Try.prog 54 = false := by kernel_rfl
theorem tst54 : strT Try.prog 54 = false := by kernel_rfl
theorem tsz55 : szT Try.prog 55 = some 1 := by kernel_rfl
theorem tag55 : aggT Try.prog 55 = false := by kernel_rfl
theorem tze55 : zeroT Try.prog 55 = some .nilFunc := by kernel_rfl
theorem tsz56 : szT Try.prog 56 = some 1 := by kernel_rfl
theorem tag56 : aggT Try.prog 56 = false := by kernel_rfl
theorem tze56 : zeroT Try.prog 56 = some .nilFunc := by kernel_rfl
theorem tsz58 : szT Try.prog 58 = some 1 := by kernel_rfl
theorem tag58 : aggT Try.prog 58 = false := by kernel_rfl
theorem tze58 : zeroT Try.prog 58 = some .nilFunc := by kernel_rfl
theorem tsz59 : szT Try.prog 59 = some 1 := by kernel_rfl
theorem tby59 : byT Try.prog 59 = some 8 := by kernel_rfl
theorem tag59 : aggT Try.prog 59 = false := by kernel_rfl
theorem tze59 : zeroT Try.prog 59 = some (.float .f64 0) := by kernel_rfl
theorem tpl59 : placesT Try.prog 59 = none := by kernel_rfl
theorem tbt59 : byteT Try.prog 59 = false := by kernel_rfl
theorem tst59 : strT Try.prog 59 = false := by kernel_rfl
theorem tsz60 : szT Try.prog 60 = some 1 := by kernel_rfl
theorem tag60 : aggT Try.prog 60 = false := by kernel_rfl
theorem tze60 : zeroT Try.prog 60 = some .nilFunc := by kernel_rfl
theorem tsz61 : szT Try.prog 61 = some 2 := by kernel_rfl
theorem tby61 : byT Try.prog 61 = some 16 := by kernel_rfl
theorem tag61 : aggT Try.prog 61 = true := by kernel_rfl
theorem tze61 : zeroT Try.prog 61 = some (.agg ⟨[.int .i64 0, .int .i64 0]⟩) := by kernel_rfl
theorem tpl61 : placesT Try.prog 61 = some [(0, 1), (1, 1)] := by kernel_rfl
theorem tfi61_0 : fieldOf Try.prog 61 0 = some (0, 2, 1) := by kernel_rfl
theorem tfi61_1 : fieldOf Try.prog 61 1 = some (1, 2, 1) := by kernel_rfl
theorem tar61 : arrT Try.prog 61 = none := by kernel_rfl
theorem tbt61 : byteT Try.prog 61 = false := by kernel_rfl
theorem tst61 : strT Try.prog 61 = false := by kernel_rfl
theorem tsz62 : szT Try.prog 62 = some 2 := by kernel_rfl
theorem tby62 : byT Try.prog 62 = some 16 := by kernel_rfl
theorem tag62 : aggT Try.prog 62 = true := by kernel_rfl
theorem tze62 : zeroT Try.prog 62 = some (.agg ⟨[.int .i64 0, .int .i64 0]⟩) := by kernel_rfl
theorem tpl62 : placesT Try.prog 62 = some [(0, 1), (1, 1)] := by kernel_rfl
theorem tfi62_0 : fieldOf Try.prog 62 0 = some (0, 2, 1) := by kernel_rfl
theorem tfi62_1 : fieldOf Try.prog 62 1 = some (1, 2, 1) := by kernel_rfl
theorem tar62 : arrT Try.prog 62 = none := by kernel_rfl
theorem tbt62 : byteT Try.prog 62 = false := by kernel_rfl
theorem tst62 : strT Try.prog 62 = false := by kernel_rfl
theorem tsz63 : szT Try.prog 63 = some 1 := by kernel_rfl
theorem tag63 : aggT Try.prog 63 = false := by kernel_rfl
theorem tze63 : zeroT Try.prog 63 = some .nilFunc := by kernel_rfl
theorem tsz64 : szT Try.prog 64 = some 1 := by kernel_rfl
theorem tby64 : byT Try.prog 64 = some 24 := by kernel_rfl
theorem tag64 : aggT Try.prog 64 = false := by kernel_rfl
theorem tze64 : zeroT Try.prog 64 = some (.slice none 0 0) := by kernel_rfl
theorem tpl64 : placesT Try.prog 64 = none := by kernel_rfl
theorem tel64 : elemT Try.prog 64 = some 79 := by kernel_rfl
theorem tbt64 : byteT Try.prog 64 = false := by kernel_rfl
theorem tst64 : strT Try.prog 64 = false := by kernel_rfl
theorem tsz65 : szT Try.prog 65 = some 2 := by kernel_rfl
theorem tby65 : byT Try.prog 65 = some 32 := by kernel_rfl
theorem tag65 : aggT Try.prog 65 = true := by kernel_rfl
theorem tze65 : zeroT Try.prog 65 = some (.agg ⟨[.int .i64 0, .slice none 0 0]⟩) := by kernel_rfl
theorem tpl65 : placesT Try.prog 65 = some [(0, 1), (1, 1)] := by kernel_rfl
theorem tfi65_0 : fieldOf Try.prog 65 0 = some (0, 2, 1) := by kernel_rfl
theorem tfi65_1 : fieldOf Try.prog 65 1 = some (1, 64, 1) := by kernel_rfl
theorem tar65 : arrT Try.prog 65 = none := by kernel_rfl
theorem tbt65 : byteT Try.prog 65 = false := by kernel_rfl
theorem tst65 : strT Try.prog 65 = false := by kernel_rfl
theorem tsz66 : szT Try.prog 66 = some 2 := by kernel_rfl
theorem tby66 : byT Try.prog 66 = some 32 := by kernel_rfl
theorem tag66 : aggT Try.prog 66 = true := by kernel_rfl
theorem tze66 : zeroT Try.prog 66 = some (.agg ⟨[.int .i64 0, .slice none 0 0]⟩) := by kernel_rfl
theorem tpl66 : placesT Try.prog 66 = some [(0, 1), (1, 1)] := by kernel_rfl
theorem tfi66_0 : fieldOf Try.prog 66 0 = some (0, 2, 1) := by kernel_rfl
theorem tfi66_1 : fieldOf Try.prog 66 1 = some (1, 64, 1) := by kernel_rfl
theorem tar66 : arrT Try.prog 66 = none := by kernel_rfl
theorem tbt66 : byteT Try.prog 66 = false := by kernel_rfl
theorem tst66 : strT Try.prog 66 = false := by kernel_rfl
theorem tsz67 : szT Try.prog 67 = some 1 := by kernel_rfl
theorem tag67 : aggT Try.prog 67 = false := by kernel_rfl
theorem tze67 : zeroT Try.prog 67 = some .nilFunc := by kernel_rfl
theorem tsz69 : szT Try.prog 69 = some 1 := by kernel_rfl
theorem tag69 : aggT Try.prog 69 = false := by kernel_rfl
theorem tze69 : zeroT Try.prog 69 = some .nilFunc := by kernel_rfl
theorem tsz71 : szT Try.prog 71 = some 1 := by kernel_rfl
theorem tag71 : aggT Try.prog 71 = false := by kernel_rfl
theorem tze71 : zeroT Try.prog 71 = some .nilFunc := by kernel_rfl
theorem tsz73 : szT Try.prog 73 = some 1 := by kernel_rfl
theorem tag73 : aggT Try.prog 73 = false := by kernel_rfl
theorem tze73 : zeroT Try.prog 73 = some .nilFunc := by kernel_rfl
theorem tsz74 : szT Try.prog 74 = some 1 := by kernel_rfl
theorem tag74 : aggT Try.prog 74 = false := by kernel_rfl
theorem tze74 : zeroT Try.prog 74 = some .nilFunc := by kernel_rfl
theorem tsz75 : szT Try.prog 75 = some 1 := by kernel_rfl
theorem tag75 : aggT Try.prog 75 = false := by kernel_rfl
theorem tze75 : zeroT Try.prog 75 = some .nilFunc := by kernel_rfl
theorem tsz77 : szT Try.prog 77 = some 1 := by kernel_rfl
theorem tag77 : aggT Try.prog 77 = false := by kernel_rfl
theorem tze77 : zeroT Try.prog 77 = some .nilFunc := by kernel_rfl
theorem tsz78 : szT Try.prog 78 = some 2 := by kernel_rfl
theorem tby78 : byT Try.prog 78 = some 32 := by kernel_rfl
theorem tag78 : aggT Try.prog 78 = true := by kernel_rfl
theorem tze78 : zeroT Try.prog 78 = some (.agg ⟨[.int .i64 0, .slice none 0 0]⟩) := by kernel_rfl
theorem tpl78 : placesT Try.prog 78 = some [(0, 1), (1, 1)] := by kernel_rfl
theorem tfi78_0 : fieldOf Try.prog 78 0 = some (0, 2, 1) := by kernel_rfl
theorem tfi78_1 : fieldOf Try.prog 78 1 = some (1, 44, 1) := by kernel_rfl
theorem tar78 : arrT Try.prog 78 = none := by kernel_rfl
theorem tbt78 : byteT Try.prog 78 = false := by kernel_rfl
theorem tst78 : strT Try.prog 78 = false := by kernel_rfl
theorem tsz79 : szT Try.prog 79 = some 2 := by kernel_rfl
theorem tby79 : byT Try.prog 79 = some 32 := by kernel_rfl
theorem tag79 : aggT Try.prog 79 = true := by kernel_rfl
theorem tze79 : zeroT Try.prog 79 = some (.agg ⟨[.int .i64 0, .slice none 0 0]⟩) := by kernel_rfl
theorem tpl79 : placesT Try.prog 79 = some [(0, 1), (1, 1)] := by kernel_rfl
theorem tfi79_0 : fieldOf Try.prog 79 0 = some (0, 2, 1) := by kernel_rfl
theorem tfi79_1 : fieldOf Try.prog 79 1 = some (1, 44, 1) := by kernel_rfl
theorem tar79 : arrT Try.prog 79 = none := by kernel_rfl
theorem tbt79 : byteT Try.prog 79 = false := by kernel_rfl
theorem tst79 : strT Try.prog 79 = false := by kernel_rfl
theorem tsz81 : szT Try.prog 81 = some 1 := by kernel_rfl
theorem tag81 : aggT Try.prog 81 = false := by kernel_rfl
theorem tze81 : zeroT Try.prog 81 = some .nilFunc := by kernel_rfl
theorem tsz82 : szT Try.prog 82 = some 1 := by kernel_rfl
theorem tag82 : aggT Try.prog 82 = false := by kernel_rfl
theorem tze82 : zeroT Try.prog 82 = some .nilFunc := by kernel_rfl
theorem tsz83 : szT Try.prog 83 = some 1 := by kernel_rfl
theorem tag83 : aggT Try.prog 83 = false := by kernel_rfl
theorem tze83 : zeroT Try.prog 83 = some .nilFunc := by kernel_rfl
theorem tsz84 : szT Try.prog 84 = some 1 := by kernel_rfl
theorem tag84 : aggT Try.prog 84 = false := by kernel_rfl
theorem tze84 : zeroT Try.prog 84 = some .nilFunc := by kernel_rfl
theorem tsz85 : szT Try.prog 85 = some 1 := by kernel_rfl
theorem tag85 : aggT Try.prog 85 = false := by kernel_rfl
theorem tze85 : zeroT Try.prog 85 = some .nilFunc := by kernel_rfl
theorem tsz87 : szT Try.prog 87 = some 1 := by kernel_rfl
theorem tag87 : aggT Try.prog 87 = false := by kernel_rfl
theorem tze87 : zeroT Try.prog 87 = some .nilFunc := by kernel_rfl
theorem tsz88 : szT Try.prog 88 = some 1 := by kernel_rfl
theorem tag88 : aggT Try.prog 88 = false := by kernel_rfl
theorem tze88 : zeroT Try.prog 88 = some .nilFunc := by kernel_rfl
theorem tsz89 : szT Try.prog 89 = some 1 := by kernel_rfl
theorem tag89 : aggT Try.prog 89 = false := by kernel_rfl
theorem tze89 : zeroT Try.prog 89 = some .nilFunc := by kernel_rfl
theorem tsz90 : szT Try.prog 90 = some 1 := by kernel_rfl
theorem tag90 : aggT Try.prog 90 = false := by kernel_rfl
theorem tze90 : zeroT Try.prog 90 = some .nilFunc := by kernel_rfl
theorem tsz91 : szT Try.prog 91 = some 1 := by kernel_rfl
theorem tag91 : aggT Try.prog 91 = false := by kernel_rfl
theorem tze91 : zeroT Try.prog 91 = some .nilFunc := by kernel_rfl
theorem tsz92 : szT Try.prog 92 = some 1 := by kernel_rfl
theorem tag92 : aggT Try.prog 92 = false := by kernel_rfl
theorem tze92 : zeroT Try.prog 92 = some .nilFunc := by kernel_rfl
theorem tsz93 : szT Try.prog 93 = some 3 := by kernel_rfl
theorem tby93 : byT Try.prog 93 = some 32 := by kernel_rfl
theorem tag93 : aggT Try.prog 93 = true := by kernel_rfl
theorem tze93 : zeroT Try.prog 93 = some (.agg ⟨[.slice none 0 0, .float .f32 0, .float .f32 0]⟩) := by kernel_rfl
theorem tpl93 : placesT Try.prog 93 = some [(0, 1), (1, 1), (2, 1)] := by kernel_rfl
theorem tfi93_0 : fieldOf Try.prog 93 0 = some (0, 44, 1) := by kernel_rfl
theorem tfi93_1 : fieldOf Try.prog 93 1 = some (1, 29, 1) := by kernel_rfl
theorem tfi93_2 : fieldOf Try.prog 93 2 = some (2, 29, 1) := by kernel_rfl
theorem tar93 : arrT Try.prog 93 = none := by kernel_rfl
theorem tbt93 : byteT Try.prog 93 = false := by kernel_rfl
theorem tst93 : strT Try.prog 93 = false := by kernel_rfl
theorem tsz94 : szT Try.prog 94 = some 3 := by kernel_rfl
theorem tby94 : byT Try.prog 94 = some 32 := by kernel_rfl
theorem tag94 : aggT Try.prog 94 = true := by kernel_rfl
theorem tze94 : zeroT Try.prog 94 = some (.agg ⟨[.slice none 0 0, .float .f32 0, .float .f32 0]⟩) := by kernel_rfl
theorem tpl94 : placesT Try.prog 94 = some [(0, 1), (1, 1), (2, 1)] := by kernel_rfl
theorem tfi94_0 : fieldOf Try.prog 94 0 = some (0, 44, 1) := by kernel_rfl
theorem tfi94_1 : fieldOf Try.prog 94 1 = some (1, 29, 1) := by kernel_rfl
theorem tfi94_2 : fieldOf Try.prog 94 2 = some (2, 29, 1) := by kernel_rfl
theorem tar94 : arrT Try.prog 94 = none := by kernel_rfl
theorem tbt94 : byteT Try.prog 94 = false := by kernel_rfl
theorem tst94 : strT Try.prog 94 = false := by kernel_rfl
theorem tsz96 : szT Try.prog 96 = some 1 := by kernel_rfl
theorem tag96 : aggT Try.prog 96 = false := by kernel_rfl
theorem tze96 : zeroT Try.prog 96 = some .nilFunc := by kernel_rfl
theorem tsz97 : szT Try.prog 97 = some 1 := by kernel_rfl
theorem tag97 : aggT Try.prog 97 = false := by kernel_rfl
theorem tze97 : zeroT Try.prog 97 = some .nilFunc := by kernel_rfl
theorem tsz99 : szT Try.prog 99 = some 1 := by kernel_rfl
theorem tag99 : aggT Try.prog 99 = false := by kernel_rfl
theorem tze99 : zeroT Try.prog 99 = some .nilFunc := by kernel_rfl
theorem tsz100 : szT Try.prog 100 = some 1 := by kernel_rfl
theorem tag100 : aggT Try.prog 100 = false := by kernel_rfl
theorem tze100 : zeroT Try.prog 100 = some .nilFunc := by kernel_rfl
theorem tsz101 : szT Try.prog 101 = some 1 := by kernel_rfl
theorem tag101 : aggT Try.prog 101 = false := by kernel_rfl
theorem tze101 : zeroT Try.prog 101 = some .nilFunc := by kernel_rfl
theorem tsz102 : szT Try.prog 102 = some 1 := by kernel_rfl
theorem tag102 : aggT Try.prog 102 = false := by kernel_rfl
theorem tze102 : zeroT Try.prog 102 = some .nilFunc := by kernel_rfl
theorem tsz103 : szT Try.prog 103 = some 1 := by kernel_rfl
theorem tag103 : aggT Try.prog 103 = false := by kernel_rfl
theorem tze103 : zeroT Try.prog 103 = some .nilFunc := by kernel_rfl
theorem tsz104 : szT Try.prog 104 = some 1 := by kernel_rfl
theorem tag104 : aggT Try.prog 104 = false := by kernel_rfl
theorem tze104 : zeroT Try.prog 104 = some .nilFunc := by kernel_rfl
theorem tsz105 : szT Try.prog 105 = some 1 := by kernel_rfl
theorem tag105 : aggT Try.prog 105 = false := by kernel_rfl
theorem tze105 : zeroT Try.prog 105 = some .nilFunc := by kernel_rfl
theorem tsz106 : szT Try.prog 106 = some 4 := by kernel_rfl
theorem tby106 : byT Try.prog 106 = some 32 := by kernel_rfl
theorem tag106 : aggT Try.prog 106 = true := by kernel_rfl
theorem tze106 : zeroT Try.prog 106 = some (.agg ⟨[.int .i64 0, .int .i64 0, .float .f32 0, .int .i64 0]⟩) := by kernel_rfl
theorem tpl106 : placesT Try.prog 106 = some [(0, 2), (2, 1), (3, 1)] := by kernel_rfl
theorem tfi106_0 : fieldOf Try.prog 106 0 = some (0, 62, 2) := by kernel_rfl
theorem tfi106_1 : fieldOf Try.prog 106 1 = some (2, 29, 1) := by kernel_rfl
theorem tfi106_2 : fieldOf Try.prog 106 2 = some (3, 2, 1) := by kernel_rfl
theorem tar106 : arrT Try.prog 106 = none := by kernel_rfl
theorem tbt106 : byteT Try.prog 106 = false := by kernel_rfl
theorem tst106 : strT Try.prog 106 = false := by kernel_rfl
theorem tsz107 : szT Try.prog 107 = some 4 := by kernel_rfl
theorem tby107 : byT Try.prog 107 = some 32 := by kernel_rfl
theorem tag107 : aggT Try.prog 107 = true := by kernel_rfl
theorem tze107 : zeroT Try.prog 107 = some (.agg ⟨[.int .i64 0, .int .i64 0, .float .f32 0, .int .i64 0]⟩) := by kernel_rfl
theorem tpl107 : placesT Try.prog 107 = some [(0, 2), (2, 1), (3, 1)] := by kernel_rfl
theorem tfi107_0 : fieldOf Try.prog 107 0 = some (0, 62, 2) := by kernel_rfl
theorem tfi107_1 : fieldOf Try.prog 107 1 = some (2, 29, 1) := by kernel_rfl
theorem tfi107_2 : fieldOf Try.prog 107 2 = some (3, 2, 1) := by kernel_rfl
theorem tar107 : arrT Try.prog 107 = none := by kernel_rfl
theorem tbt107 : byteT Try.prog 107 = false := by kernel_rfl
theorem tst107 : strT Try.prog 107 = false := by kernel_rfl
theorem tsz108 : szT Try.prog 108 = some 1 := by kernel_rfl
theorem tby108 : byT Try.prog 108 = some 24 := by kernel_rfl
theorem tag108 : aggT Try.prog 108 = false := by kernel_rfl
theorem tze108 : zeroT Try.prog 108 = some (.slice none 0 0) := by kernel_rfl
theorem tpl108 : placesT Try.prog 108 = none := by kernel_rfl
theorem tel108 : elemT Try.prog 108 = some 107 := by kernel_rfl
theorem tbt108 : byteT Try.prog 108 = false := by kernel_rfl
theorem tst108 : strT Try.prog 108 = false := by kernel_rfl
theorem tsz109 : szT Try.prog 109 = some 1 := by kernel_rfl
theorem tag109 : aggT Try.prog 109 = false := by kernel_rfl
theorem tze109 : zeroT Try.prog 109 = some .nilFunc := by kernel_rfl
theorem tsz110 : szT Try.prog 110 = some 1 := by kernel_rfl
theorem tag110 : aggT Try.prog 110 = false := by kernel_rfl
theorem tze110 : zeroT Try.prog 110 = some .nilFunc := by kernel_rfl
theorem tsz111 : szT Try.prog 111 = some 1 := by kernel_rfl
theorem tag111 : aggT Try.prog 111 = false := by kernel_rfl
theorem tze111 : zeroT Try.prog 111 = some .nilFunc := by kernel_rfl
theorem tsz112 : szT Try.prog 112 = some 1 := by kernel_rfl
theorem tag112 : aggT Try.prog 112 = false := by kernel_rfl
theorem tze112 : zeroT Try.prog 112 = some .nilFunc := by kernel_rfl
theorem tsz113 : szT Try.prog 113 = some 1 := by kernel_rfl
theorem tag113 : aggT Try.prog 113 = false := by kernel_rfl
theorem tze113 : zeroT Try.prog 113 = some .nilFunc := by kernel_rfl
theorem tsz114 : szT Try.prog 114 = some 1 := by kernel_rfl
theorem tag114 : aggT Try.prog 114 = false := by kernel_rfl
theorem tze114 : zeroT Try.prog 114 = some .nilFunc := by kernel_rfl
theorem tsz115 : szT Try.prog 115 = some 1 := by kernel_rfl
theorem tag115 : aggT Try.prog 115 = false := by kernel_rfl
theorem tze115 : zeroT Try.prog 115 = some .nilFunc := by kernel_rfl
theorem tsz116 : szT Try.prog 116 = some 1 := by kernel_rfl
theorem tag116 : aggT Try.prog 116 = false := by kernel_rfl
theorem tze116 : zeroT Try.prog 116 = some .nilFunc := by kernel_rfl
theorem tsz117 : szT Try.prog 117 = some 1 := by kernel_rfl
theorem tag117 : aggT Try.prog 117 = false := by kernel_rfl
theorem tze117 : zeroT Try.prog 117 = some .nilFunc := by kernel_rfl
theorem tsz118 : szT Try.prog 118 = some 1 := by kernel_rfl
theorem tag118 : aggT Try.prog 118 = false := by kernel_rfl
theorem tze118 : zeroT Try.prog 118 = some .nilFunc := by kernel_rfl
theorem tsz119 : szT Try.prog 119 = some 1 := by kernel_rfl
theorem tag119 : aggT Try.prog 119 = false := by kernel_rfl
theorem tze119 : zeroT Try.prog 119 = some .nilFunc := by kernel_rfl
theorem tsz120 : szT Try.prog 120 = some 1 := by kernel_rfl
theorem tag120 : aggT Try.prog 120 = false := by kernel_rfl
theorem tze120 : zeroT Try.prog 120 = some .nilFunc := by kernel_rfl
theorem tsz121 : szT Try.prog 121 = some 1 := by kernel_rfl
theorem tag121 : aggT Try.prog 121 = false := by kernel_rfl
theorem tze121 : zeroT Try.prog 121 = some .nilFunc := by kernel_rfl
theorem tsz123 : szT Try.prog 123 = some 1 := by kernel_rfl
theorem tag123 : aggT Try.prog 123 = false := by kernel_rfl
theorem tze123 : zeroT Try.prog 123 = some .nilFunc := by kernel_rfl
theorem tsz124 : szT Try.prog 124 = some 1 := by kernel_rfl
theorem tag124 : aggT Try.prog 124 = false := by kernel_rfl
theorem tze124 : zeroT Try.prog 124 = some .nilFunc := by kernel_rfl
theorem tsz125 : szT Try.prog 125 = some 2 := by kernel_rfl
theorem tby125 : byT Try.prog 125 = some 16 := by kernel_rfl
theorem tag125 : aggT Try.prog 125 = true := by kernel_rfl
theorem tze125 : zeroT Try.prog 125 = some (.agg ⟨[.int .i64 0, .int .i64 0]⟩) := by kernel_rfl
theorem tpl125 : placesT Try.prog 125 = some [(0, 1), (1, 1)] := by kernel_rfl
theorem tfi125_0 : fieldOf Try.prog 125 0 = some (0, 2, 1) := by kernel_rfl
theorem tfi125_1 : fieldOf Try.prog 125 1 = some (1, 2, 1) := by kernel_rfl
theorem tar125 : arrT Try.prog 125 = none := by kernel_rfl
theorem tbt125 : byteT Try.prog 125 = false := by kernel_rfl
theorem tst125 : strT Try.prog 125 = false := by kernel_rfl
theorem tsz126 : szT Try.prog 126 = some 2 := by kernel_rfl
theorem tby126 : byT Try.prog 126 = some 16 := by kernel_rfl
theorem tag126 : aggT Try.prog 126 = true := by kernel_rfl
theorem tze126 : zeroT Try.prog 126 = some (.agg ⟨[.int .i64 0, .int .i64 0]⟩) := by kernel_rfl
theorem tpl126 : placesT Try.prog 126 = some [(0, 1), (1, 1)] := by kernel_rfl
theorem tfi126_0 : fieldOf Try.prog 126 0 = some (0, 2, 1) := by kernel_rfl
theorem tfi126_1 : fieldOf Try.prog 126 1 = some (1, 2, 1) := by kernel_rfl
theorem tar126 : arrT Try.prog 126 = none := by kernel_rfl
theorem tbt126 : byteT Try.prog 126 = false := by kernel_rfl
theorem tst126 : strT Try.prog 126 = false := by kernel_rfl
theorem tsz127 : szT Try.prog 127 = some 1 := by kernel_rfl
theorem tag127 : aggT Try.prog 127 = false := by kernel_rfl
theorem tze127 : zeroT Try.prog 127 = some .nilFunc := by kernel_rfl
theorem tsz128 : szT Try.prog 128 = some 1 := by kernel_rfl
theorem tag128 : aggT Try.prog 128 = false := by kernel_rfl
theorem tze128 : zeroT Try.prog 128 = some .nilFunc := by kernel_rfl
theorem tsz129 : szT Try.prog 129 = some 1 := by kernel_rfl
theorem tag129 : aggT Try.prog 129 = false := by kernel_rfl
theorem tze129 : zeroT Try.prog 129 = some .nilFunc := by kernel_rfl
theorem tsz130 : szT Try.prog 130 = some 1 := by kernel_rfl
theorem tag130 : aggT Try.prog 130 = false := by kernel_rfl
theorem tze130 : zeroT Try.prog 130 = some .nilFunc := by kernel_rfl
theorem tsz131 : szT Try.prog 131 = some 1 := by kernel_rfl
theorem tag131 : aggT Try.prog 131 = false := by kernel_rfl
theorem tze131 : zeroT Try.prog 131 = some .nilFunc := by kernel_rfl
theorem tsz132 : szT Try.prog 132 = some 1 := by kernel_rfl
theorem tag132 : aggT Try.prog 132 = false := by kernel_rfl
theorem tze132 : zeroT Try.prog 132 = some .nilFunc := by kernel_rfl
theorem tsz134 : szT Try.prog 134 = some 1 := by kernel_rfl
theorem tag134 : aggT Try.prog 134 = false := by kernel_rfl
theorem tze134 : zeroT Try.prog 134 = some .nilFunc := by kernel_rfl
theorem tsz135 : szT Try.prog 135 = some 1 := by kernel_rfl
theorem tag135 : aggT Try.prog 135 = false := by kernel_rfl
theorem tze135 : zeroT Try.prog 135 = some .nilFunc := by kernel_rfl
theorem tsz137 : szT Try.prog 137 = some 1 := by kernel_rfl
theorem tag137 : aggT Try.prog 137 = false := by kernel_rfl
theorem tze137 : zeroT Try.prog 137 = some .nilFunc := by kernel_rfl
theorem tsz138 : szT Try.prog 138 = some 1 := by kernel_rfl
theorem tag138 : aggT Try.prog 138 = false := by kernel_rfl
theorem tze138 : zeroT Try.prog 138 = some .nilFunc := by kernel_rfl
theorem tsz139 : szT Try.prog 139 = some 1 := by kernel_rfl
theorem tag139 : aggT Try.prog 139 = false := by kernel_rfl
theorem tze139 : zeroT Try.prog 139 = some .nilFunc := by kernel_rfl
theorem tsz140 : szT Try.prog 140 = some 1 := by kernel_rfl
theorem tby140 : byT Try.prog 140 = some 8 := by kernel_rfl
theorem tag140 : aggT Try.prog 140 = false := by kernel_rfl
theorem tze140 : zeroT Try.prog 140 = some (.pointer none) := by kernel_rfl
theorem tpl140 : placesT Try.prog 140 = none := by kernel_rfl
theorem tbt140 : byteT Try.prog 140 = false := by kernel_rfl
theorem tst140 : strT Try.prog 140 = false := by kernel_rfl
theorem tsz141 : szT Try.prog 141 = some 1 := by kernel_rfl
theorem tag141 : aggT Try.prog 141 = false := by kernel_rfl
theorem tze141 : zeroT Try.prog 141 = some .nilFunc := by kernel_rfl
theorem tsz142 : szT Try.prog 142 = some 1 := by kernel_rfl
theorem tag142 : aggT Try.prog 142 = false := by kernel_rfl
theorem tze142 : zeroT Try.prog 142 = some .nilFunc := by kernel_rfl
theorem tsz143 : szT Try.prog 143 = some 1 := by kernel_rfl
theorem tag143 : aggT Try.prog 143 = false := by kernel_rfl
theorem tze143 : zeroT Try.prog 143 = some .nilFunc := by kernel_rfl
theorem tsz145 : szT Try.prog 145 = some 1 := by kernel_rfl
theorem tag145 : aggT Try.prog 145 = false := by kernel_rfl
theorem tze145 : zeroT Try.prog 145 = some .nilFunc := by kernel_rfl
theorem tsz146 : szT Try.prog 146 = some 1 := by kernel_rfl
theorem tag146 : aggT Try.prog 146 = false := by kernel_rfl
theorem tze146 : zeroT Try.prog 146 = some .nilFunc := by kernel_rfl
theorem tsz147 : szT Try.prog 147 = some 1 := by kernel_rfl
theorem tag147 : aggT Try.prog 147 = false := by kernel_rfl
theorem tze147 : zeroT Try.prog 147 = some .nilFunc := by kernel_rfl
theorem tsz148 : szT Try.prog 148 = some 1 := by kernel_rfl
theorem tag148 : aggT Try.prog 148 = false := by kernel_rfl
theorem tze148 : zeroT Try.prog 148 = some .nilFunc := by kernel_rfl
theorem tsz149 : szT Try.prog 149 = some 1 := by kernel_rfl
theorem tag149 : aggT Try.prog 149 = false := by kernel_rfl
theorem tze149 : zeroT Try.prog 149 = some .nilFunc := by kernel_rfl
theorem tsz150 : szT Try.prog 150 = some 1 := by kernel_rfl
theorem tag150 : aggT Try.prog 150 = false := by kernel_rfl
theorem tze150 : zeroT Try.prog 150 = some .nilFunc := by kernel_rfl
theorem tsz151 : szT Try.prog 151 = some 1 := by kernel_rfl
theorem tag151 : aggT Try.prog 151 = false := by kernel_rfl
theorem tze151 : zeroT Try.prog 151 = some .nilFunc := by kernel_rfl
theorem tsz152 : szT Try.prog 152 = some 1 := by kernel_rfl
theorem tag152 : aggT Try.prog 152 = false := by kernel_rfl
theorem tze152 : zeroT Try.prog 152 = some .nilFunc := by kernel_rfl
theorem tsz153 : szT Try.prog 153 = some 1 := by kernel_rfl
theorem tag153 : aggT Try.prog 153 = false := by kernel_rfl
theorem tze153 : zeroT Try.prog 153 = some .nilFunc := by kernel_rfl
theorem tsz154 : szT Try.prog 154 = some 1 := by kernel_rfl
theorem tag154 : aggT Try.prog 154 = false := by kernel_rfl
theorem tze154 : zeroT Try.prog 154 = some .nilFunc := by kernel_rfl
theorem tsz155 : szT Try.prog 155 = some 1 := by kernel_rfl
theorem tag155 : aggT Try.prog 155 = false := by kernel_rfl
theorem tze155 : zeroT Try.prog 155 = some .nilFunc := by kernel_rfl
theorem tsz156 : szT Try.prog 156 = some 1 := by kernel_rfl
theorem tag156 : aggT Try.prog 156 = false := by kernel_rfl
theorem tze156 : zeroT Try.prog 156 = some .nilFunc := by kernel_rfl
theorem tsz157 : szT Try.prog 157 = some 1 := by kernel_rfl
theorem tag157 : aggT Try.prog 157 = false := by kernel_rfl
theorem tze157 : zeroT Try.prog 157 = some .nilFunc := by kernel_rfl
theorem tsz158 : szT Try.prog 158 = some 1 := by kernel_rfl
theorem tag158 : aggT Try.prog 158 = false := by kernel_rfl
theorem tze158 : zeroT Try.prog 158 = some .nilFunc := by kernel_rfl
theorem tsz159 : szT Try.prog 159 = some 1 := by kernel_rfl
theorem tag159 : aggT Try.prog 159 = false := by kernel_rfl
theorem tze159 : zeroT Try.prog 159 = some .nilFunc := by kernel_rfl
theorem tsz160 : szT Try.prog 160 = some 1 := by kernel_rfl
theorem tag160 : aggT Try.prog 160 = false := by kernel_rfl
theorem tze160 : zeroT Try.prog 160 = some .nilFunc := by kernel_rfl
theorem tsz161 : szT Try.prog 161 = some 1 := by kernel_rfl
theorem tag161 : aggT Try.prog 161 = false := by kernel_rfl
theorem tze161 : zeroT Try.prog 161 = some .nilFunc := by kernel_rfl
theorem tsz162 : szT Try.prog 162 = some 1 := by kernel_rfl
theorem tag162 : aggT Try.prog 162 = false := by kernel_rfl
theorem tze162 : zeroT Try.prog 162 = some .nilFunc := by kernel_rfl
theorem tsz163 : szT Try.prog 163 = some 1 := by kernel_rfl
theorem tag163 : aggT Try.prog 163 = false := by kernel_rfl
theorem tze163 : zeroT Try.prog 163 = some .nilFunc := by kernel_rfl
theorem tsz164 : szT Try.prog 164 = some 1 := by kernel_rfl
theorem tby164 : byT Try.prog 164 = some 8 := by kernel_rfl
theorem tag164 : aggT Try.prog 164 = false := by kernel_rfl
theorem tze164 : zeroT Try.prog 164 = some (.pointer none) := by kernel_rfl
theorem tpl164 : placesT Try.prog 164 = none := by kernel_rfl
theorem tbt164 : byteT Try.prog 164 = false := by kernel_rfl
theorem tst164 : strT Try.prog 164 = false := by kernel_rfl
theorem tsz165 : szT Try.prog 165 = some 2 := by kernel_rfl
theorem tby165 : byT Try.prog 165 = some 32 := by kernel_rfl
theorem tag165 : aggT Try.prog 165 = true := by kernel_rfl
theorem tze165 : zeroT Try.prog 165 = some (.agg ⟨[.pointer none, .slice none 0 0]⟩) := by kernel_rfl
theorem tpl165 : placesT Try.prog 165 = some [(0, 1), (1, 1)] := by kernel_rfl
theorem tfi165_0 : fieldOf Try.prog 165 0 = some (0, 164, 1) := by kernel_rfl
theorem tfi165_1 : fieldOf Try.prog 165 1 = some (1, 22, 1) := by kernel_rfl
theorem tar165 : arrT Try.prog 165 = none := by kernel_rfl
theorem tbt165 : byteT Try.prog 165 = false := by kernel_rfl
theorem tst165 : strT Try.prog 165 = false := by kernel_rfl
theorem tsz166 : szT Try.prog 166 = some 2 := by kernel_rfl
theorem tby166 : byT Try.prog 166 = some 32 := by kernel_rfl
theorem tag166 : aggT Try.prog 166 = true := by kernel_rfl
theorem tze166 : zeroT Try.prog 166 = some (.agg ⟨[.pointer none, .slice none 0 0]⟩) := by kernel_rfl
theorem tpl166 : placesT Try.prog 166 = some [(0, 1), (1, 1)] := by kernel_rfl
theorem tfi166_0 : fieldOf Try.prog 166 0 = some (0, 164, 1) := by kernel_rfl
theorem tfi166_1 : fieldOf Try.prog 166 1 = some (1, 22, 1) := by kernel_rfl
theorem tar166 : arrT Try.prog 166 = none := by kernel_rfl
theorem tbt166 : byteT Try.prog 166 = false := by kernel_rfl
theorem tst166 : strT Try.prog 166 = false := by kernel_rfl
theorem tsz167 : szT Try.prog 167 = some 1 := by kernel_rfl
theorem tag167 : aggT Try.prog 167 = false := by kernel_rfl
theorem tsz168 : szT Try.prog 168 = some 1 := by kernel_rfl
theorem tag168 : aggT Try.prog 168 = false := by kernel_rfl
theorem tsz170 : szT Try.prog 170 = some 1 := by kernel_rfl
theorem tag170 : aggT Try.prog 170 = false := by kernel_rfl
theorem tze170 : zeroT Try.prog 170 = some .nilFunc := by kernel_rfl
theorem tsz171 : szT Try.prog 171 = some 1 := by kernel_rfl
theorem tag171 : aggT Try.prog 171 = false := by kernel_rfl
theorem tze171 : zeroT Try.prog 171 = some .nilFunc := by kernel_rfl
theorem tsz172 : szT Try.prog 172 = some 1 := by kernel_rfl
theorem tag172 : aggT Try.prog 172 = false := by kernel_rfl
theorem tze172 : zeroT Try.prog 172 = some .nilFunc := by kernel_rfl
theorem tsz173 : szT Try.prog 173 = some 1 := by kernel_rfl
theorem tag173 : aggT Try.prog 173 = false := by kernel_rfl
theorem tze173 : zeroT Try.prog 173 = some .nilFunc := by kernel_rfl
theorem tsz174 : szT Try.prog 174 = some 1 := by kernel_rfl
theorem tag174 : aggT Try.prog 174 = false := by kernel_rfl
theorem tze174 : zeroT Try.prog 174 = some .nilFunc := by kernel_rfl
theorem tsz175 : szT Try.prog 175 = some 1 := by kernel_rfl
theorem tag175 : aggT Try.prog 175 = false := by kernel_rfl
theorem tze175 : zeroT Try.prog 175 = some .nilFunc := by kernel_rfl
theorem tsz176 : szT Try.prog 176 = some 1 := by kernel_rfl
theorem tag176 : aggT Try.prog 176 = false := by kernel_rfl
theorem tze176 : zeroT Try.prog 176 = some .nilFunc := by kernel_rfl
theorem tsz177 : szT Try.prog 177 = some 1 := by kernel_rfl
theorem tag177 : aggT Try.prog 177 = false := by kernel_rfl
theorem tze177 : zeroT Try.prog 177 = some .nilFunc := by kernel_rfl
theorem tsz178 : szT Try.prog 178 = some 1 := by kernel_rfl
theorem tag178 : aggT Try.prog 178 = false := by kernel_rfl
theorem tze178 : zeroT Try.prog 178 = some .nilFunc := by kernel_rfl
theorem tsz179 : szT Try.prog 179 = some 1 := by kernel_rfl
theorem tag179 : aggT Try.prog 179 = false := by kernel_rfl
theorem tze179 : zeroT Try.prog 179 = some .nilFunc := by kernel_rfl
theorem tsz180 : szT Try.prog 180 = some 1 := by kernel_rfl
theorem tag180 : aggT Try.prog 180 = false := by kernel_rfl
theorem tze180 : zeroT Try.prog 180 = some .nilFunc := by kernel_rfl
theorem tsz181 : szT Try.prog 181 = some 1 := by kernel_rfl
theorem tag181 : aggT Try.prog 181 = false := by kernel_rfl
theorem tze181 : zeroT Try.prog 181 = some .nilFunc := by kernel_rfl
theorem tsz182 : szT Try.prog 182 = some 1 := by kernel_rfl
theorem tag182 : aggT Try.prog 182 = false := by kernel_rfl
theorem tze182 : zeroT Try.prog 182 = some .nilFunc := by kernel_rfl
theorem tsz183 : szT Try.prog 183 = some 1 := by kernel_rfl
theorem tag183 : aggT Try.prog 183 = false := by kernel_rfl
theorem tze183 : zeroT Try.prog 183 = some .nilFunc := by kernel_rfl
theorem tsz184 : szT Try.prog 184 = some 1 := by kernel_rfl
theorem tag184 : aggT Try.prog 184 = false := by kernel_rfl
theorem tze184 : zeroT Try.prog 184 = some .nilFunc := by kernel_rfl
theorem tsz185 : szT Try.prog 185 = some 1 := by kernel_rfl
theorem tag185 : aggT Try.prog 185 = false := by kernel_rfl
theorem tze185 : zeroT Try.prog 185 = some .nilFunc := by kernel_rfl
theorem tsz186 : szT Try.prog 186 = some 1 := by kernel_rfl
theorem tag186 : aggT Try.prog 186 = false := by kernel_rfl
theorem tze186 : zeroT Try.prog 186 = some .nilFunc := by kernel_rfl
theorem tsz188 : szT Try.prog 188 = some 1 := by kernel_rfl
theorem tag188 : aggT Try.prog 188 = false := by kernel_rfl
theorem tze188 : zeroT Try.prog 188 = some .nilFunc := by kernel_rfl
theorem tsz189 : szT Try.prog 189 = some 1 := by kernel_rfl
theorem tag189 : aggT Try.prog 189 = false := by kernel_rfl
theorem tze189 : zeroT Try.prog 189 = some .nilFunc := by kernel_rfl
theorem tsz190 : szT Try.prog 190 = some 1 := by kernel_rfl
theorem tag190 : aggT Try.prog 190 = false := by kernel_rfl
theorem tze190 : zeroT Try.prog 190 = some .nilFunc := by kernel_rfl
theorem tsz191 : szT Try.prog 191 = some 1 := by kernel_rfl
theorem tag191 : aggT Try.prog 191 = false := by kernel_rfl
theorem tze191 : zeroT Try.prog 191 = some .nilFunc := by kernel_rfl
theorem tsz192 : szT Try.prog 192 = some 1 := by kernel_rfl
theorem tag192 : aggT Try.prog 192 = false := by kernel_rfl
theorem tze192 : zeroT Try.prog 192 = some .nilFunc := by kernel_rfl
theorem tsz193 : szT Try.prog 193 = some 1 := by kernel_rfl
theorem tag193 : aggT Try.prog 193 = false := by kernel_rfl
theorem tze193 : zeroT Try.prog 193 = some .nilFunc := by kernel_rfl
theorem tsz194 : szT Try.prog 194 = some 1 := by kernel_rfl
theorem tag194 : aggT Try.prog 194 = false := by kernel_rfl
theorem tze194 : zeroT Try.prog 194 = some .nilFunc := by kernel_rfl
theorem tsz195 : szT Try.prog 195 = some 1 := by kernel_rfl
theorem tag195 : aggT Try.prog 195 = false := by kernel_rfl
theorem tze195 : zeroT Try.prog 195 = some .nilFunc := by kernel_rfl
theorem tsz196 : szT Try.prog 196 = some 1 := by kernel_rfl
theorem tag196 : aggT Try.prog 196 = false := by kernel_rfl
theorem tze196 : zeroT Try.prog 196 = some .nilFunc := by kernel_rfl
theorem tsz198 : szT Try.prog 198 = some 1 := by kernel_rfl
theorem tag198 : aggT Try.prog 198 = false := by kernel_rfl
theorem tze198 : zeroT Try.prog 198 = some .nilFunc := by kernel_rfl
theorem tsz199 : szT Try.prog 199 = some 1 := by kernel_rfl
theorem tag199 : aggT Try.prog 199 = false := by kernel_rfl
theorem tze199 : zeroT Try.prog 199 = some .nilFunc := by kernel_rfl
theorem tsz200 : szT Try.prog 200 = some 1 := by kernel_rfl
theorem tby200 : byT Try.prog 200 = some 24 := by kernel_rfl
theorem tag200 : aggT Try.prog 200 = false := by kernel_rfl
theorem tze200 : zeroT Try.prog 200 = some (.slice none 0 0) := by kernel_rfl
theorem tpl200 : placesT Try.prog 200 = none := by kernel_rfl
theorem tel200 : elemT Try.prog 200 = some 38 := by kernel_rfl
theorem tbt200 : byteT Try.prog 200 = false := by kernel_rfl
theorem tst200 : strT Try.prog 200 = false := by kernel_rfl
theorem tsz201 : szT Try.prog 201 = some 0 := by kernel_rfl
theorem tby201 : byT Try.prog 201 = some 0 := by kernel_rfl
theorem tag201 : aggT Try.prog 201 = true := by kernel_rfl
theorem tpl201 : placesT Try.prog 201 = some [] := by kernel_rfl
theorem tar201 : arrT Try.prog 201 = none := by kernel_rfl
theorem tbt201 : byteT Try.prog 201 = false := by kernel_rfl
theorem tst201 : strT Try.prog 201 = false := by kernel_rfl
theorem tsz202 : szT Try.prog 202 = some 0 := by kernel_rfl
theorem tby202 : byT Try.prog 202 = some 0 := by kernel_rfl
theorem tag202 : aggT Try.prog 202 = true := by kernel_rfl
theorem tpl202 : placesT Try.prog 202 = some [] := by kernel_rfl
theorem tar202 : arrT Try.prog 202 = none := by kernel_rfl
theorem tbt202 : byteT Try.prog 202 = false := by kernel_rfl
theorem tst202 : strT Try.prog 202 = false := by kernel_rfl
theorem tsz203 : szT Try.prog 203 = some 0 := by kernel_rfl
theorem tby203 : byT Try.prog 203 = some 0 := by kernel_rfl
theorem tag203 : aggT Try.prog 203 = true := by kernel_rfl
theorem tpl203 : placesT Try.prog 203 = some [] := by kernel_rfl
theorem tar203 : arrT Try.prog 203 = none := by kernel_rfl
theorem tbt203 : byteT Try.prog 203 = false := by kernel_rfl
theorem tst203 : strT Try.prog 203 = false := by kernel_rfl
theorem tsz204 : szT Try.prog 204 = some 0 := by kernel_rfl
theorem tby204 : byT Try.prog 204 = some 0 := by kernel_rfl
theorem tag204 : aggT Try.prog 204 = true := by kernel_rfl
theorem tpl204 : placesT Try.prog 204 = some [] := by kernel_rfl
theorem tar204 : arrT Try.prog 204 = none := by kernel_rfl
theorem tbt204 : byteT Try.prog 204 = false := by kernel_rfl
theorem tst204 : strT Try.prog 204 = false := by kernel_rfl
theorem tsz205 : szT Try.prog 205 = some 1 := by kernel_rfl
theorem tby205 : byT Try.prog 205 = some 8 := by kernel_rfl
theorem tag205 : aggT Try.prog 205 = false := by kernel_rfl
theorem tze205 : zeroT Try.prog 205 = some (.int .u64 0) := by kernel_rfl
theorem tpl205 : placesT Try.prog 205 = none := by kernel_rfl
theorem tbt205 : byteT Try.prog 205 = false := by kernel_rfl
theorem tst205 : strT Try.prog 205 = false := by kernel_rfl
theorem tsz206 : szT Try.prog 206 = some 1 := by kernel_rfl
theorem tby206 : byT Try.prog 206 = some 8 := by kernel_rfl
theorem tag206 : aggT Try.prog 206 = true := by kernel_rfl
theorem tze206 : zeroT Try.prog 206 = some (.agg ⟨[.int .u64 0]⟩) := by kernel_rfl
theorem tpl206 : placesT Try.prog 206 = some [(0, 0), (0, 0), (0, 1)] := by kernel_rfl
theorem tfi206_0 : fieldOf Try.prog 206 0 = some (0, 203, 0) := by kernel_rfl
theorem tfi206_1 : fieldOf Try.prog 206 1 = some (0, 204, 0) := by kernel_rfl
theorem tfi206_2 : fieldOf Try.prog 206 2 = some (0, 205, 1) := by kernel_rfl
theorem tar206 : arrT Try.prog 206 = none := by kernel_rfl
theorem tbt206 : byteT Try.prog 206 = false := by kernel_rfl
theorem tst206 : strT Try.prog 206 = false := by kernel_rfl
theorem tsz207 : szT Try.prog 207 = some 1 := by kernel_rfl
theorem tby207 : byT Try.prog 207 = some 8 := by kernel_rfl
theorem tag207 : aggT Try.prog 207 = true := by kernel_rfl
theorem tze207 : zeroT Try.prog 207 = some (.agg ⟨[.int .u64 0]⟩) := by kernel_rfl
theorem tpl207 : placesT Try.prog 207 = some [(0, 0), (0, 0), (0, 1)] := by kernel_rfl
theorem tfi207_0 : fieldOf Try.prog 207 0 = some (0, 203, 0) := by kernel_rfl
theorem tfi207_1 : fieldOf Try.prog 207 1 = some (0, 204, 0) := by kernel_rfl
theorem tfi207_2 : fieldOf Try.prog 207 2 = some (0, 205, 1) := by kernel_rfl
theorem tar207 : arrT Try.prog 207 = none := by kernel_rfl
theorem tbt207 : byteT Try.prog 207 = false := by kernel_rfl
theorem tst207 : strT Try.prog 207 = false := by kernel_rfl
theorem tsz208 : szT Try.prog 208 = some 1 := by kernel_rfl
theorem tby208 : byT Try.prog 208 = some 4 := by kernel_rfl
theorem tag208 : aggT Try.prog 208 = false := by kernel_rfl
theorem tze208 : zeroT Try.prog 208 = some (.int .u32 0) := by kernel_rfl
theorem tpl208 : placesT Try.prog 208 = none := by kernel_rfl
theorem tbt208 : byteT Try.prog 208 = false := by kernel_rfl
theorem tst208 : strT Try.prog 208 = false := by kernel_rfl
theorem tsz209 : szT Try.prog 209 = some 2 := by kernel_rfl
theorem tby209 : byT Try.prog 209 = some 16 := by kernel_rfl
theorem tag209 : aggT Try.prog 209 = true := by kernel_rfl
theorem tze209 : zeroT Try.prog 209 = some (.agg ⟨[.int .u64 0, .int .u32 0]⟩) := by kernel_rfl
theorem tpl209 : placesT Try.prog 209 = some [(0, 0), (0, 1), (1, 1)] := by kernel_rfl
theorem tfi209_0 : fieldOf Try.prog 209 0 = some (0, 202, 0) := by kernel_rfl
theorem tfi209_1 : fieldOf Try.prog 209 1 = some (0, 207, 1) := by kernel_rfl
theorem tfi209_2 : fieldOf Try.prog 209 2 = some (1, 208, 1) := by kernel_rfl
theorem tar209 : arrT Try.prog 209 = none := by kernel_rfl
theorem tbt209 : byteT Try.prog 209 = false := by kernel_rfl
theorem tst209 : strT Try.prog 209 = false := by kernel_rfl
theorem tsz210 : szT Try.prog 210 = some 2 := by kernel_rfl
theorem tby210 : byT Try.prog 210 = some 16 := by kernel_rfl
theorem tag210 : aggT Try.prog 210 = true := by kernel_rfl
theorem tze210 : zeroT Try.prog 210 = some (.agg ⟨[.int .u64 0, .int .u32 0]⟩) := by kernel_rfl
theorem tpl210 : placesT Try.prog 210 = some [(0, 0), (0, 1), (1, 1)] := by kernel_rfl
theorem tfi210_0 : fieldOf Try.prog 210 0 = some (0, 202, 0) := by kernel_rfl
theorem tfi210_1 : fieldOf Try.prog 210 1 = some (0, 207, 1) := by kernel_rfl
theorem tfi210_2 : fieldOf Try.prog 210 2 = some (1, 208, 1) := by kernel_rfl
theorem tar210 : arrT Try.prog 210 = none := by kernel_rfl
theorem tbt210 : byteT Try.prog 210 = false := by kernel_rfl
theorem tst210 : strT Try.prog 210 = false := by kernel_rfl
theorem tsz211 : szT Try.prog 211 = some 1 := by kernel_rfl
theorem tag211 : aggT Try.prog 211 = false := by kernel_rfl
theorem tze211 : zeroT Try.prog 211 = some .nilFunc := by kernel_rfl
theorem tsz212 : szT Try.prog 212 = some 1 := by kernel_rfl
theorem tag212 : aggT Try.prog 212 = false := by kernel_rfl
theorem tze212 : zeroT Try.prog 212 = some .nilFunc := by kernel_rfl
theorem tsz213 : szT Try.prog 213 = some 1 := by kernel_rfl
theorem tag213 : aggT Try.prog 213 = false := by kernel_rfl
theorem tze213 : zeroT Try.prog 213 = some .nilFunc := by kernel_rfl
theorem tsz214 : szT Try.prog 214 = some 1 := by kernel_rfl
theorem tag214 : aggT Try.prog 214 = false := by kernel_rfl
theorem tze214 : zeroT Try.prog 214 = some .nilFunc := by kernel_rfl
theorem tsz215 : szT Try.prog 215 = some 1 := by kernel_rfl
theorem tag215 : aggT Try.prog 215 = false := by kernel_rfl
theorem tze215 : zeroT Try.prog 215 = some .nilFunc := by kernel_rfl
theorem tsz216 : szT Try.prog 216 = some 1 := by kernel_rfl
theorem tag216 : aggT Try.prog 216 = false := by kernel_rfl
theorem tze216 : zeroT Try.prog 216 = some .nilFunc := by kernel_rfl
theorem tsz217 : szT Try.prog 217 = some 1 := by kernel_rfl
theorem tag217 : aggT Try.prog 217 = false := by kernel_rfl
theorem tze217 : zeroT Try.prog 217 = some .nilFunc := by kernel_rfl
theorem tsz218 : szT Try.prog 218 = some 1 := by kernel_rfl
theorem tag218 : aggT Try.prog 218 = false := by kernel_rfl
theorem tze218 : zeroT Try.prog 218 = some .nilFunc := by kernel_rfl
theorem tsz219 : szT Try.prog 219 = some 1 := by kernel_rfl
theorem tag219 : aggT Try.prog 219 = false := by kernel_rfl
theorem tze219 : zeroT Try.prog 219 = some .nilFunc := by kernel_rfl
theorem tsz220 : szT Try.prog 220 = some 1 := by kernel_rfl
theorem tag220 : aggT Try.prog 220 = false := by kernel_rfl
theorem tze220 : zeroT Try.prog 220 = some .nilFunc := by kernel_rfl
theorem tsz221 : szT Try.prog 221 = some 3 := by kernel_rfl
theorem tby221 : byT Try.prog 221 = some 40 := by kernel_rfl
theorem tag221 : aggT Try.prog 221 = true := by kernel_rfl
theorem tze221 : zeroT Try.prog 221 = some (.agg ⟨[.slice none 0 0, .int .i64 0, .int .u64 0]⟩) := by kernel_rfl
theorem tpl221 : placesT Try.prog 221 = some [(0, 1), (1, 1), (2, 1)] := by kernel_rfl
theorem tfi221_0 : fieldOf Try.prog 221 0 = some (0, 22, 1) := by kernel_rfl
theorem tfi221_1 : fieldOf Try.prog 221 1 = some (1, 3, 1) := by kernel_rfl
theorem tfi221_2 : fieldOf Try.prog 221 2 = some (2, 205, 1) := by kernel_rfl
theorem tar221 : arrT Try.prog 221 = none := by kernel_rfl
theorem tbt221 : byteT Try.prog 221 = false := by kernel_rfl
theorem tst221 : strT Try.prog 221 = false := by kernel_rfl
theorem tsz222 : szT Try.prog 222 = some 3 := by kernel_rfl
theorem tby222 : byT Try.prog 222 = some 40 := by kernel_rfl
theorem tag222 : aggT Try.prog 222 = true := by kernel_rfl
theorem tze222 : zeroT Try.prog 222 = some (.agg ⟨[.slice none 0 0, .int .i64 0, .int .u64 0]⟩) := by kernel_rfl
theorem tpl222 : placesT Try.prog 222 = some [(0, 1), (1, 1), (2, 1)] := by kernel_rfl
theorem tfi222_0 : fieldOf Try.prog 222 0 = some (0, 22, 1) := by kernel_rfl
theorem tfi222_1 : fieldOf Try.prog 222 1 = some (1, 3, 1) := by kernel_rfl
theorem tfi222_2 : fieldOf Try.prog 222 2 = some (2, 205, 1) := by kernel_rfl
theorem tar222 : arrT Try.prog 222 = none := by kernel_rfl
theorem tbt222 : byteT Try.prog 222 = false := by kernel_rfl
theorem tst222 : strT Try.prog 222 = false := by kernel_rfl
theorem tsz223 : szT Try.prog 223 = some 1 := by kernel_rfl
theorem tag223 : aggT Try.prog 223 = false := by kernel_rfl
theorem tze223 : zeroT Try.prog 223 = some .nilFunc := by kernel_rfl
theorem tsz224 : szT Try.prog 224 = some 1 := by kernel_rfl
theorem tag224 : aggT Try.prog 224 = false := by kernel_rfl
theorem tze224 : zeroT Try.prog 224 = some .nilFunc := by kernel_rfl
theorem tsz225 : szT Try.prog 225 = some 1 := by kernel_rfl
theorem tag225 : aggT Try.prog 225 = false := by kernel_rfl
theorem tze225 : zeroT Try.prog 225 = some .nilFunc := by kernel_rfl
theorem tsz226 : szT Try.prog 226 = some 1 := by kernel_rfl
theorem tag226 : aggT Try.prog 226 = false := by kernel_rfl
theorem tze226 : zeroT Try.prog 226 = some .nilFunc := by kernel_rfl
theorem tsz227 : szT Try.prog 227 = some 1 := by kernel_rfl
theorem tby227 : byT Try.prog 227 = some 8 := by kernel_rfl
theorem tag227 : aggT Try.prog 227 = false := by kernel_rfl
theorem tze227 : zeroT Try.prog 227 = some (.int .u64 0) := by kernel_rfl
theorem tpl227 : placesT Try.prog 227 = none := by kernel_rfl
theorem tbt227 : byteT Try.prog 227 = false := by kernel_rfl
theorem tst227 : strT Try.prog 227 = false := by kernel_rfl
theorem tsz228 : szT Try.prog 228 = some 1 := by kernel_rfl
theorem tag228 : aggT Try.prog 228 = false := by kernel_rfl
theorem tze228 : zeroT Try.prog 228 = some .nilFunc := by kernel_rfl
theorem tsz229 : szT Try.prog 229 = some 1 := by kernel_rfl
theorem tag229 : aggT Try.prog 229 = false := by kernel_rfl
theorem tze229 : zeroT Try.prog 229 = some .nilFunc := by kernel_rfl
theorem tsz230 : szT Try.prog 230 = some 1 := by kernel_rfl
theorem tag230 : aggT Try.prog 230 = false := by kernel_rfl
theorem tze230 : zeroT Try.prog 230 = some .nilFunc := by kernel_rfl
theorem tsz231 : szT Try.prog 231 = some 1 := by kernel_rfl
theorem tag231 : aggT Try.prog 231 = false := by kernel_rfl
theorem tze231 : zeroT Try.prog 231 = some .nilFunc := by kernel_rfl
theorem tsz232 : szT Try.prog 232 = some 1 := by kernel_rfl
theorem tag232 : aggT Try.prog 232 = false := by kernel_rfl
theorem tze232 : zeroT Try.prog 232 = some .nilFunc := by kernel_rfl
theorem tsz233 : szT Try.prog 233 = some 1 := by kernel_rfl
theorem tby233 : byT Try.prog 233 = some 8 := by kernel_rfl
theorem tag233 : aggT Try.prog 233 = false := by kernel_rfl
theorem tze233 : zeroT Try.prog 233 = some (.pointer none) := by kernel_rfl
theorem tpl233 : placesT Try.prog 233 = none := by kernel_rfl
theorem tbt233 : byteT Try.prog 233 = false := by kernel_rfl
theorem tst233 : strT Try.prog 233 = false := by kernel_rfl
theorem tsz234 : szT Try.prog 234 = some 1 := by kernel_rfl
theorem tag234 : aggT Try.prog 234 = false := by kernel_rfl
theorem tze234 : zeroT Try.prog 234 = some .nilFunc := by kernel_rfl
theorem tsz235 : szT Try.prog 235 = some 1 := by kernel_rfl
theorem tag235 : aggT Try.prog 235 = false := by kernel_rfl
theorem tze235 : zeroT Try.prog 235 = some .nilFunc := by kernel_rfl
theorem tsz236 : szT Try.prog 236 = some 1 := by kernel_rfl
theorem tag236 : aggT Try.prog 236 = false := by kernel_rfl
theorem tze236 : zeroT Try.prog 236 = some .nilFunc := by kernel_rfl
theorem tsz237 : szT Try.prog 237 = some 1 := by kernel_rfl
theorem tag237 : aggT Try.prog 237 = false := by kernel_rfl
theorem tze237 : zeroT Try.prog 237 = some .nilFunc := by kernel_rfl
theorem tsz238 : szT Try.prog 238 = some 1 := by kernel_rfl
theorem tag238 : aggT Try.prog 238 = false := by kernel_rfl
theorem tze238 : zeroT Try.prog 238 = some .nilFunc := by kernel_rfl
theorem tsz239 : szT Try.prog 239 = some 1 := by kernel_rfl
theorem tag239 : aggT Try.prog 239 = false := by kernel_rfl
theorem tze239 : zeroT Try.prog 239 = some .nilFunc := by kernel_rfl
theorem tsz240 : szT Try.prog 240 = some 1 := by kernel_rfl
theorem tag240 : aggT Try.prog 240 = false := by kernel_rfl
theorem tze240 : zeroT Try.prog 240 = some .nilFunc := by kernel_rfl
theorem tsz241 : szT Try.prog 241 = some 1 := by kernel_rfl
theorem tag241 : aggT Try.prog 241 = false := by kernel_rfl
theorem tze241 : zeroT Try.prog 241 = some .nilFunc := by kernel_rfl
theorem tsz242 : szT Try.prog 242 = some 1 := by kernel_rfl
theorem tag242 : aggT Try.prog 242 = false := by kernel_rfl
theorem tze242 : zeroT Try.prog 242 = some .nilFunc := by kernel_rfl
theorem tsz243 : szT Try.prog 243 = some 1 := by kernel_rfl
theorem tag243 : aggT Try.prog 243 = false := by kernel_rfl
theorem tze243 : zeroT Try.prog 243 = some .nilFunc := by kernel_rfl
theorem tsz244 : szT Try.prog 244 = some 1 := by kernel_rfl
theorem tag244 : aggT Try.prog 244 = false := by kernel_rfl
theorem tze244 : zeroT Try.prog 244 = some .nilFunc := by kernel_rfl
theorem tsz245 : szT Try.prog 245 = some 1 := by kernel_rfl
theorem tby245 : byT Try.prog 245 = some 8 := by kernel_rfl
theorem tag245 : aggT Try.prog 245 = false := by kernel_rfl
theorem tze245 : zeroT Try.prog 245 = some (.pointer none) := by kernel_rfl
theorem tpl245 : placesT Try.prog 245 = none := by kernel_rfl
theorem tbt245 : byteT Try.prog 245 = false := by kernel_rfl
theorem tst245 : strT Try.prog 245 = false := by kernel_rfl
theorem tsz246 : szT Try.prog 246 = some 1 := by kernel_rfl
theorem tag246 : aggT Try.prog 246 = false := by kernel_rfl
theorem tze246 : zeroT Try.prog 246 = some .nilFunc := by kernel_rfl
theorem tsz247 : szT Try.prog 247 = some 1 := by kernel_rfl
theorem tag247 : aggT Try.prog 247 = false := by kernel_rfl
theorem tze247 : zeroT Try.prog 247 = some .nilFunc := by kernel_rfl
theorem tsz248 : szT Try.prog 248 = some 1 := by kernel_rfl
theorem tag248 : aggT Try.prog 248 = false := by kernel_rfl
theorem tze248 : zeroT Try.prog 248 = some .nilFunc := by kernel_rfl
theorem tsz249 : szT Try.prog 249 = some 1 := by kernel_rfl
theorem tby249 : byT Try.prog 249 = some 8 := by kernel_rfl
theorem tag249 : aggT Try.prog 249 = false := by kernel_rfl
theorem tze249 : zeroT Try.prog 249 = some (.pointer none) := by kernel_rfl
theorem tpl249 : placesT Try.prog 249 = none := by kernel_rfl
theorem tbt249 : byteT Try.prog 249 = false := by kernel_rfl
theorem tst249 : strT Try.prog 249 = false := by kernel_rfl
theorem tsz250 : szT Try.prog 250 = some 1 := by kernel_rfl
theorem tag250 : aggT Try.prog 250 = false := by kernel_rfl
theorem tze250 : zeroT Try.prog 250 = some .nilFunc := by kernel_rfl
theorem tsz251 : szT Try.prog 251 = some 1 := by kernel_rfl
theorem tag251 : aggT Try.prog 251 = false := by kernel_rfl
theorem tze251 : zeroT Try.prog 251 = some .nilFunc := by kernel_rfl
theorem tsz252 : szT Try.prog 252 = some 1 := by kernel_rfl
theorem tag252 : aggT Try.prog 252 = false := by kernel_rfl
theorem tze252 : zeroT Try.prog 252 = some .nilFunc := by kernel_rfl
theorem tsz253 : szT Try.prog 253 = some 1 := by kernel_rfl
theorem tby253 : byT Try.prog 253 = some 8 := by kernel_rfl
theorem tag253 : aggT Try.prog 253 = false := by kernel_rfl
theorem tze253 : zeroT Try.prog 253 = some (.pointer none) := by kernel_rfl
theorem tpl253 : placesT Try.prog 253 = none := by kernel_rfl
theorem tbt253 : byteT Try.prog 253 = false := by kernel_rfl
theorem tst253 : strT Try.prog 253 = false := by kernel_rfl
theorem tsz254 : szT Try.prog 254 = some 1 := by kernel_rfl
theorem tag254 : aggT Try.prog 254 = false := by kernel_rfl
theorem tze254 : zeroT Try.prog 254 = some .nilFunc := by kernel_rfl
theorem tsz255 : szT Try.prog 255 = some 1 := by kernel_rfl
theorem tag255 : aggT Try.prog 255 = false := by kernel_rfl
theorem tze255 : zeroT Try.prog 255 = some .nilFunc := by kernel_rfl
theorem tsz256 : szT Try.prog 256 = some 1 := by kernel_rfl
theorem tag256 : aggT Try.prog 256 = false := by kernel_rfl
theorem tze256 : zeroT Try.prog 256 = some .nilFunc := by kernel_rfl
theorem tsz257 : szT Try.prog 257 = some 1 := by kernel_rfl
theorem tag257 : aggT Try.prog 257 = false := by kernel_rfl
theorem tze257 : zeroT Try.prog 257 = some .nilFunc := by kernel_rfl
theorem tsz258 : szT Try.prog 258 = some 1 := by kernel_rfl
theorem tag258 : aggT Try.prog 258 = false := by kernel_rfl
theorem tze258 : zeroT Try.prog 258 = some .nilFunc := by kernel_rfl
theorem tsz259 : szT Try.prog 259 = some 1 := by kernel_rfl
theorem tag259 : aggT Try.prog 259 = false := by kernel_rfl
theorem tze259 : zeroT Try.prog 259 = some .nilFunc := by kernel_rfl
theorem tsz260 : szT Try.prog 260 = some 1 := by kernel_rfl
theorem tag260 : aggT Try.prog 260 = false := by kernel_rfl
theorem tze260 : zeroT Try.prog 260 = some .nilFunc := by kernel_rfl
theorem tsz261 : szT Try.prog 261 = some 1 := by kernel_rfl
theorem tag261 : aggT Try.prog 261 = false := by kernel_rfl
theorem tze261 : zeroT Try.prog 261 = some .nilFunc := by kernel_rfl
theorem tsz262 : szT Try.prog 262 = some 1 := by kernel_rfl
theorem tby262 : byT Try.prog 262 = some 8 := by kernel_rfl
theorem tag262 : aggT Try.prog 262 = false := by kernel_rfl
theorem tze262 : zeroT Try.prog 262 = some (.int .i64 0) := by kernel_rfl
theorem tpl262 : placesT Try.prog 262 = none := by kernel_rfl
theorem tbt262 : byteT Try.prog 262 = false := by kernel_rfl
theorem tst262 : strT Try.prog 262 = false := by kernel_rfl
theorem tsz264 : szT Try.prog 264 = some 1 := by kernel_rfl
theorem tag264 : aggT Try.prog 264 = false := by kernel_rfl
theorem tze264 : zeroT Try.prog 264 = some .nilFunc := by kernel_rfl
theorem tsz265 : szT Try.prog 265 = some 1 := by kernel_rfl
theorem tag265 : aggT Try.prog 265 = false := by kernel_rfl
theorem tze265 : zeroT Try.prog 265 = some .nilFunc := by kernel_rfl
theorem tsz266 : szT Try.prog 266 = some 1 := by kernel_rfl
theorem tag266 : aggT Try.prog 266 = false := by kernel_rfl
theorem tze266 : zeroT Try.prog 266 = some .nilFunc := by kernel_rfl
theorem tsz267 : szT Try.prog 267 = some 1 := by kernel_rfl
theorem tag267 : aggT Try.prog 267 = false := by kernel_rfl
theorem tze267 : zeroT Try.prog 267 = some .nilFunc := by kernel_rfl
theorem tsz269 : szT Try.prog 269 = some 1 := by kernel_rfl
theorem tag269 : aggT Try.prog 269 = false := by kernel_rfl
theorem tze269 : zeroT Try.prog 269 = some .nilFunc := by kernel_rfl
theorem tsz270 : szT Try.prog 270 = some 1 := by kernel_rfl
theorem tag270 : aggT Try.prog 270 = false := by kernel_rfl
theorem tze270 : zeroT Try.prog 270 = some .nilFunc := by kernel_rfl
theorem tsz271 : szT Try.prog 271 = some 1 := by kernel_rfl
theorem tag271 : aggT Try.prog 271 = false := by kernel_rfl
theorem tze271 : zeroT Try.prog 271 = some .nilFunc := by kernel_rfl
theorem tsz272 : szT Try.prog 272 = some 1 := by kernel_rfl
theorem tag272 : aggT Try.prog 272 = false := by kernel_rfl
theorem tze272 : zeroT Try.prog 272 = some .nilFunc := by kernel_rfl
theorem tsz273 : szT Try.prog 273 = some 1 := by kernel_rfl
theorem tag273 : aggT Try.prog 273 = false := by kernel_rfl
theorem tze273 : zeroT Try.prog 273 = some .nilFunc := by kernel_rfl
theorem tsz274 : szT Try.prog 274 = some 1 := by kernel_rfl
theorem tag274 : aggT Try.prog 274 = false := by kernel_rfl
theorem tze274 : zeroT Try.prog 274 = some .nilFunc := by kernel_rfl
theorem tsz275 : szT Try.prog 275 = some 1 := by kernel_rfl
theorem tag275 : aggT Try.prog 275 = false := by kernel_rfl
theorem tze275 : zeroT Try.prog 275 = some .nilFunc := by kernel_rfl
theorem tsz276 : szT Try.prog 276 = some 1 := by kernel_rfl
theorem tag276 : aggT Try.prog 276 = false := by kernel_rfl
theorem tze276 : zeroT Try.prog 276 = some .nilFunc := by kernel_rfl
theorem tsz277 : szT Try.prog 277 = some 1 := by kernel_rfl
theorem tag277 : aggT Try.prog 277 = false := by kernel_rfl
theorem tze277 : zeroT Try.prog 277 = some .nilFunc := by kernel_rfl
theorem tsz278 : szT Try.prog 278 = some 1 := by kernel_rfl
theorem tag278 : aggT Try.prog 278 = false := by kernel_rfl
theorem tze278 : zeroT Try.prog 278 = some .nilFunc := by kernel_rfl
theorem tsz279 : szT Try.prog 279 = some 1 := by kernel_rfl
theorem tag279 : aggT Try.prog 279 = false := by kernel_rfl
theorem tze279 : zeroT Try.prog 279 = some .nilFunc := by kernel_rfl
theorem tsz280 : szT Try.prog 280 = some 1 := by kernel_rfl
theorem tag280 : aggT Try.prog 280 = false := by kernel_rfl
theorem tze280 : zeroT Try.prog 280 = some .nilFunc := by kernel_rfl
theorem tsz281 : szT Try.prog 281 = some 1 := by kernel_rfl
theorem tby281 : byT Try.prog 281 = some 8 := by kernel_rfl
theorem tag281 : aggT Try.prog 281 = false := by kernel_rfl
theorem tze281 : zeroT Try.prog 281 = some (.int .i64 0) := by kernel_rfl
theorem tpl281 : placesT Try.prog 281 = none := by kernel_rfl
theorem tbt281 : byteT Try.prog 281 = false := by kernel_rfl
theorem tst281 : strT Try.prog 281 = false := by kernel_rfl
theorem tsz282 : szT Try.prog 282 = some 1 := by kernel_rfl
theorem tag282 : aggT Try.prog 282 = false := by kernel_rfl
theorem tze282 : zeroT Try.prog 282 = some .nilFunc := by kernel_rfl
theorem tsz283 : szT Try.prog 283 = some 1 := by kernel_rfl
theorem tag283 : aggT Try.prog 283 = false := by kernel_rfl
theorem tze283 : zeroT Try.prog 283 = some .nilFunc := by kernel_rfl
theorem tsz284 : szT Try.prog 284 = some 1 := by kernel_rfl
theorem tag284 : aggT Try.prog 284 = false := by kernel_rfl
theorem tze284 : zeroT Try.prog 284 = some .nilFunc := by kernel_rfl
theorem tsz285 : szT Try.prog 285 = some 1 := by kernel_rfl
theorem tag285 : aggT Try.prog 285 = false := by kernel_rfl
theorem tze285 : zeroT Try.prog 285 = some .nilFunc := by kernel_rfl
theorem tsz286 : szT Try.prog 286 = some 1 := by kernel_rfl
theorem tag286 : aggT Try.prog 286 = false := by kernel_rfl
theorem tze286 : zeroT Try.prog 286 = some .nilFunc := by kernel_rfl
theorem tsz287 : szT Try.prog 287 = some 1 := by kernel_rfl
theorem tby287 : byT Try.prog 287 = some 8 := by kernel_rfl
theorem tag287 : aggT Try.prog 287 = false := by kernel_rfl
theorem tze287 : zeroT Try.prog 287 = some (.pointer none) := by kernel_rfl
theorem tpl287 : placesT Try.prog 287 = none := by kernel_rfl
theorem tbt287 : byteT Try.prog 287 = false := by kernel_rfl
theorem tst287 : strT Try.prog 287 = false := by kernel_rfl
theorem tsz288 : szT Try.prog 288 = some 1 := by kernel_rfl
theorem tag288 : aggT Try.prog 288 = false := by kernel_rfl
theorem tze288 : zeroT Try.prog 288 = some .nilFunc := by kernel_rfl
theorem tsz289 : szT Try.prog 289 = some 1 := by kernel_rfl
theorem tby289 : byT Try.prog 289 = some 8 := by kernel_rfl
theorem tag289 : aggT Try.prog 289 = false := by kernel_rfl
theorem tze289 : zeroT Try.prog 289 = some (.pointer none) := by kernel_rfl
theorem tpl289 : placesT Try.prog 289 = none := by kernel_rfl
theorem tbt289 : byteT Try.prog 289 = false := by kernel_rfl
theorem tst289 : strT Try.prog 289 = false := by kernel_rfl
theorem tsz290 : szT Try.prog 290 = some 1 := by kernel_rfl
theorem tag290 : aggT Try.prog 290 = false := by kernel_rfl
theorem tze290 : zeroT Try.prog 290 = some .nilFunc := by kernel_rfl
theorem tsz291 : szT Try.prog 291 = some 1 := by kernel_rfl
theorem tby291 : byT Try.prog 291 = some 8 := by kernel_rfl
theorem tag291 : aggT Try.prog 291 = false := by kernel_rfl
theorem tze291 : zeroT Try.prog 291 = some (.int .u64 0) := by kernel_rfl
theorem tpl291 : placesT Try.prog 291 = none := by kernel_rfl
theorem tbt291 : byteT Try.prog 291 = false := by kernel_rfl
theorem tst291 : strT Try.prog 291 = false := by kernel_rfl
theorem tsz292 : szT Try.prog 292 = some 1 := by kernel_rfl
theorem tag292 : aggT Try.prog 292 = false := by kernel_rfl
theorem tze292 : zeroT Try.prog 292 = some .nilFunc := by kernel_rfl
theorem tsz293 : szT Try.prog 293 = some 1 := by kernel_rfl
theorem tag293 : aggT Try.prog 293 = false := by kernel_rfl
theorem tze293 : zeroT Try.prog 293 = some .nilFunc := by kernel_rfl
theorem tsz294 : szT Try.prog 294 = some 1 := by kernel_rfl
theorem tby294 : byT Try.prog 294 = some 8 := by kernel_rfl
theorem tag294 : aggT Try.prog 294 = false := by kernel_rfl
theorem tze294 : zeroT Try.prog 294 = some (.pointer none) := by kernel_rfl
theorem tpl294 : placesT Try.prog 294 = none := by kernel_rfl
theorem tbt294 : byteT Try.prog 294 = false := by kernel_rfl
theorem tst294 : strT Try.prog 294 = false := by kernel_rfl
theorem tsz295 : szT Try.prog 295 = some 1 := by kernel_rfl
theorem tag295 : aggT Try.prog 295 = false := by kernel_rfl
theorem tze295 : zeroT Try.prog 295 = some .nilFunc := by kernel_rfl
theorem tsz296 : szT Try.prog 296 = some 1 := by kernel_rfl
theorem tag296 : aggT Try.prog 296 = false := by kernel_rfl
theorem tze296 : zeroT Try.prog 296 = some .nilFunc := by kernel_rfl
theorem tsz297 : szT Try.prog 297 = some 1 := by kernel_rfl
theorem tag297 : aggT Try.prog 297 = false := by kernel_rfl
theorem tze297 : zeroT Try.prog 297 = some .nilFunc := by kernel_rfl
theorem tsz298 : szT Try.prog 298 = some 1 := by kernel_rfl
theorem tag298 : aggT Try.prog 298 = false := by kernel_rfl
theorem tze298 : zeroT Try.prog 298 = some .nilFunc := by kernel_rfl
theorem tsz299 : szT Try.prog 299 = some 1 := by kernel_rfl
theorem tag299 : aggT Try.prog 299 = false := by kernel_rfl
theorem tze299 : zeroT Try.prog 299 = some .nilFunc := by kernel_rfl
theorem tsz300 : szT Try.prog 300 = some 1 := by kernel_rfl
theorem tag300 : aggT Try.prog 300 = false := by kernel_rfl
theorem tze300 : zeroT Try.prog 300 = some .nilFunc := by kernel_rfl
theorem tsz301 : szT Try.prog 301 = some 1 := by kernel_rfl
theorem tby301 : byT Try.prog 301 = some 8 := by kernel_rfl
theorem tag301 : aggT Try.prog 301 = false := by kernel_rfl
theorem tze301 : zeroT Try.prog 301 = some (.pointer none) := by kernel_rfl
theorem tpl301 : placesT Try.prog 301 = none := by kernel_rfl
theorem tbt301 : byteT Try.prog 301 = false := by kernel_rfl
theorem tst301 : strT Try.prog 301 = false := by kernel_rfl
theorem tsz303 : szT Try.prog 303 = some 1 := by kernel_rfl
theorem tag303 : aggT Try.prog 303 = false := by kernel_rfl
theorem tze303 : zeroT Try.prog 303 = some .nilFunc := by kernel_rfl
theorem tsz304 : szT Try.prog 304 = some 1 := by kernel_rfl
theorem tag304 : aggT Try.prog 304 = false := by kernel_rfl
theorem tze304 : zeroT Try.prog 304 = some .nilFunc := by kernel_rfl
theorem tsz305 : szT Try.prog 305 = some 4 := by kernel_rfl
theorem tby305 : byT Try.prog 305 = some 40 := by kernel_rfl
theorem tag305 : aggT Try.prog 305 = true := by kernel_rfl
theorem tze305 : zeroT Try.prog 305 = some (.agg ⟨[.pointer none, .pointer none, .pointer none, .string ⟨⟨[]⟩⟩]⟩) := by kernel_rfl
theorem tpl305 : placesT Try.prog 305 = some [(0, 1), (1, 1), (2, 1), (3, 1)] := by kernel_rfl
theorem tfi305_0 : fieldOf Try.prog 305 0 = some (0, 17, 1) := by kernel_rfl
theorem tfi305_1 : fieldOf Try.prog 305 1 = some (1, 17, 1) := by kernel_rfl
theorem tfi305_2 : fieldOf Try.prog 305 2 = some (2, 17, 1) := by kernel_rfl
theorem tfi305_3 : fieldOf Try.prog 305 3 = some (3, 9, 1) := by kernel_rfl
theorem tar305 : arrT Try.prog 305 = none := by kernel_rfl
theorem tbt305 : byteT Try.prog 305 = false := by kernel_rfl
theorem tst305 : strT Try.prog 305 = false := by kernel_rfl
theorem tsz306 : szT Try.prog 306 = some 4 := by kernel_rfl
theorem tby306 : byT Try.prog 306 = some 40 := by kernel_rfl
theorem tag306 : aggT Try.prog 306 = true := by kernel_rfl
theorem tze306 : zeroT Try.prog 306 = some (.agg ⟨[.pointer none, .pointer none, .pointer none, .string ⟨⟨[]⟩⟩]⟩) := by kernel_rfl
theorem tpl306 : placesT Try.prog 306 = some [(0, 1), (1, 1), (2, 1), (3, 1)] := by kernel_rfl
theorem tfi306_0 : fieldOf Try.prog 306 0 = some (0, 17, 1) := by kernel_rfl
theorem tfi306_1 : fieldOf Try.prog 306 1 = some (1, 17, 1) := by kernel_rfl
theorem tfi306_2 : fieldOf Try.prog 306 2 = some (2, 17, 1) := by kernel_rfl
theorem tfi306_3 : fieldOf Try.prog 306 3 = some (3, 9, 1) := by kernel_rfl
theorem tar306 : arrT Try.prog 306 = none := by kernel_rfl
theorem tbt306 : byteT Try.prog 306 = false := by kernel_rfl
theorem tst306 : strT Try.prog 306 = false := by kernel_rfl
theorem tsz307 : szT Try.prog 307 = some 0 := by kernel_rfl
theorem tby307 : byT Try.prog 307 = some 0 := by kernel_rfl
theorem tag307 : aggT Try.prog 307 = true := by kernel_rfl
theorem tpl307 : placesT Try.prog 307 = none := by kernel_rfl
theorem tar307 : arrT Try.prog 307 = some 1 := by kernel_rfl
theorem tbt307 : byteT Try.prog 307 = false := by kernel_rfl
theorem tst307 : strT Try.prog 307 = false := by kernel_rfl
theorem tsz308 : szT Try.prog 308 = some 0 := by kernel_rfl
theorem tby308 : byT Try.prog 308 = some 0 := by kernel_rfl
theorem tag308 : aggT Try.prog 308 = true := by kernel_rfl
theorem tpl308 : placesT Try.prog 308 = some [(0, 0)] := by kernel_rfl
theorem tfi308_0 : fieldOf Try.prog 308 0 = some (0, 307, 0) := by kernel_rfl
theorem tar308 : arrT Try.prog 308 = none := by kernel_rfl
theorem tbt308 : byteT Try.prog 308 = false := by kernel_rfl
theorem tst308 : strT Try.prog 308 = false := by kernel_rfl
theorem tsz309 : szT Try.prog 309 = some 0 := by kernel_rfl
theorem tby309 : byT Try.prog 309 = some 0 := by kernel_rfl
theorem tag309 : aggT Try.prog 309 = true := by kernel_rfl
theorem tpl309 : placesT Try.prog 309 = some [(0, 0)] := by kernel_rfl
theorem tfi309_0 : fieldOf Try.prog 309 0 = some (0, 307, 0) := by kernel_rfl
theorem tar309 : arrT Try.prog 309 = none := by kernel_rfl
theorem tbt309 : byteT Try.prog 309 = false := by kernel_rfl
theorem tst309 : strT Try.prog 309 = false := by kernel_rfl
theorem tsz310 : szT Try.prog 310 = some 1 := by kernel_rfl
theorem tag310 : aggT Try.prog 310 = false := by kernel_rfl
theorem tze310 : zeroT Try.prog 310 = some .nilFunc := by kernel_rfl
theorem tsz311 : szT Try.prog 311 = some 1 := by kernel_rfl
theorem tby311 : byT Try.prog 311 = some 1 := by kernel_rfl
theorem tag311 : aggT Try.prog 311 = false := by kernel_rfl
theorem tze311 : zeroT Try.prog 311 = some (.int .u8 0) := by kernel_rfl
theorem tpl311 : placesT Try.prog 311 = none := by kernel_rfl
theorem tbt311 : byteT Try.prog 311 = true := by kernel_rfl
theorem tst311 : strT Try.prog 311 = false := by kernel_rfl
theorem tsz312 : szT Try.prog 312 = some 1 := by kernel_rfl
theorem tby312 : byT Try.prog 312 = some 1 := by kernel_rfl
theorem tag312 : aggT Try.prog 312 = false := by kernel_rfl
theorem tze312 : zeroT Try.prog 312 = some (.int .u8 0) := by kernel_rfl
theorem tpl312 : placesT Try.prog 312 = none := by kernel_rfl
theorem tbt312 : byteT Try.prog 312 = true := by kernel_rfl
theorem tst312 : strT Try.prog 312 = false := by kernel_rfl
theorem tsz313 : szT Try.prog 313 = some 1 := by kernel_rfl
theorem tag313 : aggT Try.prog 313 = false := by kernel_rfl
theorem tze313 : zeroT Try.prog 313 = some .nilFunc := by kernel_rfl
theorem tsz314 : szT Try.prog 314 = some 1 := by kernel_rfl
theorem tby314 : byT Try.prog 314 = some 4 := by kernel_rfl
theorem tag314 : aggT Try.prog 314 = false := by kernel_rfl
theorem tze314 : zeroT Try.prog 314 = some (.int .i32 0) := by kernel_rfl
theorem tpl314 : placesT Try.prog 314 = none := by kernel_rfl
theorem tbt314 : byteT Try.prog 314 = false := by kernel_rfl
theorem tst314 : strT Try.prog 314 = false := by kernel_rfl
theorem tsz315 : szT Try.prog 315 = some 1 := by kernel_rfl
theorem tby315 : byT Try.prog 315 = some 4 := by kernel_rfl
theorem tag315 : aggT Try.prog 315 = false := by kernel_rfl
theorem tze315 : zeroT Try.prog 315 = some (.int .i32 0) := by kernel_rfl
theorem tpl315 : placesT Try.prog 315 = none := by kernel_rfl
theorem tbt315 : byteT Try.prog 315 = false := by kernel_rfl
theorem tst315 : strT Try.prog 315 = false := by kernel_rfl
theorem tsz316 : szT Try.prog 316 = some 11 := by kernel_rfl
theorem tby316 : byT Try.prog 316 = some 48 := by kernel_rfl
theorem tag316 : aggT Try.prog 316 = true := by kernel_rfl
theorem tze316 : zeroT Try.prog 316 = some (.agg ⟨[.int .u64 0, .int .u64 0, .int .u32 0, .int .u8 0, .int .u8 0, .int .u8 0, .int .u8 0, .nilFunc, .pointer none, .int .i32 0, .int .i32 0]⟩) := by kernel_rfl
theorem tpl316 : placesT Try.prog 316 = some [(0, 1), (1, 1), (2, 1), (3, 1), (4, 1), (5, 1), (6, 1), (7, 1), (8, 1), (9, 1), (10, 1)] := by kernel_rfl
theorem tfi316_0 : fieldOf Try.prog 316 0 = some (0, 12, 1) := by kernel_rfl
theorem tfi316_1 : fieldOf Try.prog 316 1 = some (1, 12, 1) := by kernel_rfl
theorem tfi316_2 : fieldOf Try.prog 316 2 = some (2, 208, 1) := by kernel_rfl
theorem tfi316_3 : fieldOf Try.prog 316 3 = some (3, 311, 1) := by kernel_rfl
theorem tfi316_4 : fieldOf Try.prog 316 4 = some (4, 5, 1) := by kernel_rfl
theorem tfi316_5 : fieldOf Try.prog 316 5 = some (5, 5, 1) := by kernel_rfl
theorem tfi316_6 : fieldOf Try.prog 316 6 = some (6, 312, 1) := by kernel_rfl
theorem tfi316_7 : fieldOf Try.prog 316 7 = some (7, 313, 1) := by kernel_rfl
theorem tfi316_8 : fieldOf Try.prog 316 8 = some (8, 233, 1) := by kernel_rfl
theorem tfi316_9 : fieldOf Try.prog 316 9 = some (9, 314, 1) := by kernel_rfl
theorem tfi316_10 : fieldOf Try.prog 316 10 = some (10, 315, 1) := by kernel_rfl
theorem tar316 : arrT Try.prog 316 = none := by kernel_rfl
theorem tbt316 : byteT Try.prog 316 = false := by kernel_rfl
theorem tst316 : strT Try.prog 316 = false := by kernel_rfl
theorem tsz317 : szT Try.prog 317 = some 11 := by kernel_rfl
theorem tby317 : byT Try.prog 317 = some 48 := by kernel_rfl
theorem tag317 : aggT Try.prog 317 = true := by kernel_rfl
theorem tze317 : zeroT Try.prog 317 = some (.agg ⟨[.int .u64 0, .int .u64 0, .int .u32 0, .int .u8 0, .int .u8 0, .int .u8 0, .int .u8 0, .nilFunc, .pointer none, .int .i32 0, .int .i32 0]⟩) := by kernel_rfl
theorem tpl317 : placesT Try.prog 317 = some [(0, 1), (1, 1), (2, 1), (3, 1), (4, 1), (5, 1), (6, 1), (7, 1), (8, 1), (9, 1), (10, 1)] := by kernel_rfl
theorem tfi317_0 : fieldOf Try.prog 317 0 = some (0, 12, 1) := by kernel_rfl
theorem tfi317_1 : fieldOf Try.prog 317 1 = some (1, 12, 1) := by kernel_rfl
theorem tfi317_2 : fieldOf Try.prog 317 2 = some (2, 208, 1) := by kernel_rfl
theorem tfi317_3 : fieldOf Try.prog 317 3 = some (3, 311, 1) := by kernel_rfl
theorem tfi317_4 : fieldOf Try.prog 317 4 = some (4, 5, 1) := by kernel_rfl
theorem tfi317_5 : fieldOf Try.prog 317 5 = some (5, 5, 1) := by kernel_rfl
theorem tfi317_6 : fieldOf Try.prog 317 6 = some (6, 312, 1) := by kernel_rfl
theorem tfi317_7 : fieldOf Try.prog 317 7 = some (7, 313, 1) := by kernel_rfl
theorem tfi317_8 : fieldOf Try.prog 317 8 = some (8, 233, 1) := by kernel_rfl
theorem tfi317_9 : fieldOf Try.prog 317 9 = some (9, 314, 1) := by kernel_rfl
theorem tfi317_10 : fieldOf Try.prog 317 10 = some (10, 315, 1) := by kernel_rfl
theorem tar317 : arrT Try.prog 317 = none := by kernel_rfl
theorem tbt317 : byteT Try.prog 317 = false := by kernel_rfl
theorem tst317 : strT Try.prog 317 = false := by kernel_rfl
/-- Functions without a body, and some that are told apart. -/
def noBody : List Nat := [0, 1, 186, 226, 228, 229, 230, 232, 233, 234, 235, 238, 239, 256, 257, 259, 269, 270, 271, 274, 276, 277, 278, 279, 293, 294, 295, 299, 300, 301, 302, 303, 304, 305, 306, 307, 308, 309, 310, 311, 312, 313, 314, 315, 4, 24, 29, 57, 62, 82, 98, 116, 119, 127, 144, 145, 154]
/-- That nothing is known from outside of functions with a body. -/
def XN (X : Ext) : Prop := ∀ f, noBody.contains f = false → X f = none
theorem mixed : Try.prog.follows .mixedOrders = true := by kernel_rfl
end Go.Proofs.Ytelogajobjflfaa.Sim
