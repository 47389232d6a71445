/- Closed facts on the types of this translation, as the abstract machine asks for them: sizes, zero values, places of fields. Written by a program of this session; no condition. -/
import Derived.Test.YtbakaopgdcojfaaSimM
import Derived.Test.YtbakaopgdcojfaaProg
import Derived.KernelRfl
namespace Go.Proofs.Ytbakaopgdcojfaa.Sim
open Go

theorem tsz1 : szT Try.prog 1 = some 1 := by kernel_rfl
theorem tag1 : aggT Try.prog 1 = false := by kernel_rfl
theorem tze1 : zeroT Try.prog 1 = some .nilFunc := by kernel_rfl
theorem tsz2 : szT Try.prog 2 = some 1 := by kernel_rfl
theorem tby2 : byT Try.prog 2 = some 8 := by kernel_rfl
theorem tag2 : aggT Try.prog 2 = false := by kernel_rfl
theorem tze2 : zeroT Try.prog 2 = some (.int .i64 0) := by kernel_rfl
theorem tpl2 : placesT Try.prog 2 = none := by kernel_rfl
theorem tbt2 : byteT Try.prog 2 = false := by kernel_rfl
theorem tst2 : strT Try.prog 2 = false := by kernel_rfl
theorem tsz3 : szT Try.prog 3 = some 1 := by kernel_rfl
theorem tby3 : byT Try.prog 3 = some 8 := by kernel_rfl
theorem tag3 : aggT Try.prog 3 = false := by kernel_rfl
theorem tze3 : zeroT Try.prog 3 = some (.int .i64 0) := by kernel_rfl
theorem tpl3 : placesT Try.prog 3 = none := by kernel_rfl
theorem tbt3 : byteT Try.prog 3 = false := by kernel_rfl
theorem tst3 : strT Try.prog 3 = false := by kernel_rfl
theorem tsz4 : szT Try.prog 4 = some 1 := by kernel_rfl
theorem tby4 : byT Try.prog 4 = some 1 := by kernel_rfl
theorem tag4 : aggT Try.prog 4 = false := by kernel_rfl
theorem tze4 : zeroT Try.prog 4 = some (.bool false) := by kernel_rfl
theorem tpl4 : placesT Try.prog 4 = none := by kernel_rfl
theorem tbt4 : byteT Try.prog 4 = false := by kernel_rfl
theorem tst4 : strT Try.prog 4 = false := by kernel_rfl
theorem tsz5 : szT Try.prog 5 = some 1 := by kernel_rfl
theorem tby5 : byT Try.prog 5 = some 1 := by kernel_rfl
theorem tag5 : aggT Try.prog 5 = false := by kernel_rfl
theorem tze5 : zeroT Try.prog 5 = some (.int .u8 0) := by kernel_rfl
theorem tpl5 : placesT Try.prog 5 = none := by kernel_rfl
theorem tbt5 : byteT Try.prog 5 = true := by kernel_rfl
theorem tst5 : strT Try.prog 5 = false := by kernel_rfl
theorem tsz6 : szT Try.prog 6 = some 1 := by kernel_rfl
theorem tby6 : byT Try.prog 6 = some 1 := by kernel_rfl
theorem tag6 : aggT Try.prog 6 = false := by kernel_rfl
theorem tze6 : zeroT Try.prog 6 = some (.int .u8 0) := by kernel_rfl
theorem tpl6 : placesT Try.prog 6 = none := by kernel_rfl
theorem tbt6 : byteT Try.prog 6 = true := by kernel_rfl
theorem tst6 : strT Try.prog 6 = false := by kernel_rfl
theorem tsz7 : szT Try.prog 7 = some 4 := by kernel_rfl
theorem tby7 : byT Try.prog 7 = some 24 := by kernel_rfl
theorem tag7 : aggT Try.prog 7 = true := by kernel_rfl
theorem tze7 : zeroT Try.prog 7 = some (.agg ⟨[.int .i64 0, .int .i64 0, .bool false, .int .u8 0]⟩) := by kernel_rfl
theorem tpl7 : placesT Try.prog 7 = some [(0, 1), (1, 1), (2, 1), (3, 1)] := by kernel_rfl
theorem tfi7_0 : fieldOf Try.prog 7 0 = some (0, 2, 1) := by kernel_rfl
theorem tfi7_1 : fieldOf Try.prog 7 1 = some (1, 3, 1) := by kernel_rfl
theorem tfi7_2 : fieldOf Try.prog 7 2 = some (2, 4, 1) := by kernel_rfl
theorem tfi7_3 : fieldOf Try.prog 7 3 = some (3, 6, 1) := by kernel_rfl
theorem tar7 : arrT Try.prog 7 = none := by kernel_rfl
theorem tbt7 : byteT Try.prog 7 = false := by kernel_rfl
theorem tst7 : strT Try.prog 7 = false := by kernel_rfl
theorem tsz8 : szT Try.prog 8 = some 4 := by kernel_rfl
theorem tby8 : byT Try.prog 8 = some 24 := by kernel_rfl
theorem tag8 : aggT Try.prog 8 = true := by kernel_rfl
theorem tze8 : zeroT Try.prog 8 = some (.agg ⟨[.int .i64 0, .int .i64 0, .bool false, .int .u8 0]⟩) := by kernel_rfl
theorem tpl8 : placesT Try.prog 8 = some [(0, 1), (1, 1), (2, 1), (3, 1)] := by kernel_rfl
theorem tfi8_0 : fieldOf Try.prog 8 0 = some (0, 2, 1) := by kernel_rfl
theorem tfi8_1 : fieldOf Try.prog 8 1 = some (1, 3, 1) := by kernel_rfl
theorem tfi8_2 : fieldOf Try.prog 8 2 = some (2, 4, 1) := by kernel_rfl
theorem tfi8_3 : fieldOf Try.prog 8 3 = some (3, 6, 1) := by kernel_rfl
theorem tar8 : arrT Try.prog 8 = none := by kernel_rfl
theorem tbt8 : byteT Try.prog 8 = false := by kernel_rfl
theorem tst8 : strT Try.prog 8 = false := by kernel_rfl
theorem tsz9 : szT Try.prog 9 = some 1 := by kernel_rfl
theorem tby9 : byT Try.prog 9 = some 16 := by kernel_rfl
theorem tag9 : aggT Try.prog 9 = false := by kernel_rfl
theorem tze9 : zeroT Try.prog 9 = some (.string ⟨⟨[]⟩⟩) := by kernel_rfl
theorem tpl9 : placesT Try.prog 9 = none := by kernel_rfl
theorem tbt9 : byteT Try.prog 9 = false := by kernel_rfl
theorem tst9 : strT Try.prog 9 = true := by kernel_rfl
theorem tsz10 : szT Try.prog 10 = some 1 := by kernel_rfl
theorem tby10 : byT Try.prog 10 = some 16 := by kernel_rfl
theorem tag10 : aggT Try.prog 10 = false := by kernel_rfl
theorem tze10 : zeroT Try.prog 10 = some (.string ⟨⟨[]⟩⟩) := by kernel_rfl
theorem tpl10 : placesT Try.prog 10 = none := by kernel_rfl
theorem tbt10 : byteT Try.prog 10 = false := by kernel_rfl
theorem tst10 : strT Try.prog 10 = true := by kernel_rfl
theorem tsz11 : szT Try.prog 11 = some 1 := by kernel_rfl
theorem tby11 : byT Try.prog 11 = some 16 := by kernel_rfl
theorem tag11 : aggT Try.prog 11 = false := by kernel_rfl
theorem tze11 : zeroT Try.prog 11 = some (.string ⟨⟨[]⟩⟩) := by kernel_rfl
theorem tpl11 : placesT Try.prog 11 = none := by kernel_rfl
theorem tbt11 : byteT Try.prog 11 = false := by kernel_rfl
theorem tst11 : strT Try.prog 11 = true := by kernel_rfl
theorem tsz12 : szT Try.prog 12 = some 1 := by kernel_rfl
theorem tby12 : byT Try.prog 12 = some 8 := by kernel_rfl
theorem tag12 : aggT Try.prog 12 = false := by kernel_rfl
theorem tze12 : zeroT Try.prog 12 = some (.int .u64 0) := by kernel_rfl
theorem tpl12 : placesT Try.prog 12 = none := by kernel_rfl
theorem tbt12 : byteT Try.prog 12 = false := by kernel_rfl
theorem tst12 : strT Try.prog 12 = false := by kernel_rfl
theorem tsz13 : szT Try.prog 13 = some 2 := by kernel_rfl
theorem tby13 : byT Try.prog 13 = some 24 := by kernel_rfl
theorem tag13 : aggT Try.prog 13 = true := by kernel_rfl
theorem tze13 : zeroT Try.prog 13 = some (.agg ⟨[.string ⟨⟨[]⟩⟩, .int .u64 0]⟩) := by kernel_rfl
theorem tpl13 : placesT Try.prog 13 = some [(0, 1), (1, 1)] := by kernel_rfl
theorem tfi13_0 : fieldOf Try.prog 13 0 = some (0, 9, 1) := by kernel_rfl
theorem tfi13_1 : fieldOf Try.prog 13 1 = some (1, 12, 1) := by kernel_rfl
theorem tar13 : arrT Try.prog 13 = none := by kernel_rfl
theorem tbt13 : byteT Try.prog 13 = false := by kernel_rfl
theorem tst13 : strT Try.prog 13 = false := by kernel_rfl
theorem tsz14 : szT Try.prog 14 = some 2 := by kernel_rfl
theorem tby14 : byT Try.prog 14 = some 24 := by kernel_rfl
theorem tag14 : aggT Try.prog 14 = true := by kernel_rfl
theorem tze14 : zeroT Try.prog 14 = some (.agg ⟨[.string ⟨⟨[]⟩⟩, .int .u64 0]⟩) := by kernel_rfl
theorem tpl14 : placesT Try.prog 14 = some [(0, 1), (1, 1)] := by kernel_rfl
theorem tfi14_0 : fieldOf Try.prog 14 0 = some (0, 9, 1) := by kernel_rfl
theorem tfi14_1 : fieldOf Try.prog 14 1 = some (1, 12, 1) := by kernel_rfl
theorem tar14 : arrT Try.prog 14 = none := by kernel_rfl
theorem tbt14 : byteT Try.prog 14 = false := by kernel_rfl
theorem tst14 : strT Try.prog 14 = false := by kernel_rfl
theorem tsz15 : szT Try.prog 15 = some 1 := by kernel_rfl
theorem tby15 : byT Try.prog 15 = some 8 := by kernel_rfl
theorem tag15 : aggT Try.prog 15 = false := by kernel_rfl
theorem tze15 : zeroT Try.prog 15 = some (.pointer none) := by kernel_rfl
theorem tpl15 : placesT Try.prog 15 = none := by kernel_rfl
theorem tbt15 : byteT Try.prog 15 = false := by kernel_rfl
theorem tst15 : strT Try.prog 15 = false := by kernel_rfl
theorem tsz16 : szT Try.prog 16 = some 1 := by kernel_rfl
theorem tby16 : byT Try.prog 16 = some 8 := by kernel_rfl
theorem tag16 : aggT Try.prog 16 = false := by kernel_rfl
theorem tze16 : zeroT Try.prog 16 = some (.pointer none) := by kernel_rfl
theorem tpl16 : placesT Try.prog 16 = none := by kernel_rfl
theorem tbt16 : byteT Try.prog 16 = false := by kernel_rfl
theorem tst16 : strT Try.prog 16 = false := by kernel_rfl
theorem tsz17 : szT Try.prog 17 = some 1 := by kernel_rfl
theorem tby17 : byT Try.prog 17 = some 8 := by kernel_rfl
theorem tag17 : aggT Try.prog 17 = false := by kernel_rfl
theorem tze17 : zeroT Try.prog 17 = some (.pointer none) := by kernel_rfl
theorem tpl17 : placesT Try.prog 17 = none := by kernel_rfl
theorem tbt17 : byteT Try.prog 17 = false := by kernel_rfl
theorem tst17 : strT Try.prog 17 = false := by kernel_rfl
theorem tsz18 : szT Try.prog 18 = some 1 := by kernel_rfl
theorem tby18 : byT Try.prog 18 = some 8 := by kernel_rfl
theorem tag18 : aggT Try.prog 18 = true := by kernel_rfl
theorem tze18 : zeroT Try.prog 18 = some (.agg ⟨[.pointer none]⟩) := by kernel_rfl
theorem tpl18 : placesT Try.prog 18 = some [(0, 1)] := by kernel_rfl
theorem tfi18_0 : fieldOf Try.prog 18 0 = some (0, 17, 1) := by kernel_rfl
theorem tar18 : arrT Try.prog 18 = none := by kernel_rfl
theorem tbt18 : byteT Try.prog 18 = false := by kernel_rfl
theorem tst18 : strT Try.prog 18 = false := by kernel_rfl
theorem tsz19 : szT Try.prog 19 = some 1 := by kernel_rfl
theorem tby19 : byT Try.prog 19 = some 8 := by kernel_rfl
theorem tag19 : aggT Try.prog 19 = true := by kernel_rfl
theorem tze19 : zeroT Try.prog 19 = some (.agg ⟨[.pointer none]⟩) := by kernel_rfl
theorem tpl19 : placesT Try.prog 19 = some [(0, 1)] := by kernel_rfl
theorem tfi19_0 : fieldOf Try.prog 19 0 = some (0, 17, 1) := by kernel_rfl
theorem tar19 : arrT Try.prog 19 = none := by kernel_rfl
theorem tbt19 : byteT Try.prog 19 = false := by kernel_rfl
theorem tst19 : strT Try.prog 19 = false := by kernel_rfl
theorem tsz20 : szT Try.prog 20 = some 1 := by kernel_rfl
theorem tag20 : aggT Try.prog 20 = false := by kernel_rfl
theorem tsz21 : szT Try.prog 21 = some 1 := by kernel_rfl
theorem tby21 : byT Try.prog 21 = some 4 := by kernel_rfl
theorem tag21 : aggT Try.prog 21 = false := by kernel_rfl
theorem tze21 : zeroT Try.prog 21 = some (.int .i32 0) := by kernel_rfl
theorem tpl21 : placesT Try.prog 21 = none := by kernel_rfl
theorem tbt21 : byteT Try.prog 21 = false := by kernel_rfl
theorem tst21 : strT Try.prog 21 = false := by kernel_rfl
theorem tsz23 : szT Try.prog 23 = some 1 := by kernel_rfl
theorem tag23 : aggT Try.prog 23 = false := by kernel_rfl
theorem tze23 : zeroT Try.prog 23 = some .nilFunc := by kernel_rfl
theorem tsz24 : szT Try.prog 24 = some 1 := by kernel_rfl
theorem tag24 : aggT Try.prog 24 = false := by kernel_rfl
theorem tze24 : zeroT Try.prog 24 = some .nilFunc := by kernel_rfl
theorem tsz26 : szT Try.prog 26 = some 1 := by kernel_rfl
theorem tag26 : aggT Try.prog 26 = false := by kernel_rfl
theorem tze26 : zeroT Try.prog 26 = some .nilFunc := by kernel_rfl
theorem tsz27 : szT Try.prog 27 = some 1 := by kernel_rfl
theorem tag27 : aggT Try.prog 27 = false := by kernel_rfl
theorem tze27 : zeroT Try.prog 27 = some .nilFunc := by kernel_rfl
theorem tsz28 : szT Try.prog 28 = some 1 := by kernel_rfl
theorem tby28 : byT Try.prog 28 = some 24 := by kernel_rfl
theorem tag28 : aggT Try.prog 28 = false := by kernel_rfl
theorem tze28 : zeroT Try.prog 28 = some (.slice none 0 0) := by kernel_rfl
theorem tpl28 : placesT Try.prog 28 = none := by kernel_rfl
theorem tel28 : elemT Try.prog 28 = some 85 := by kernel_rfl
theorem tbt28 : byteT Try.prog 28 = false := by kernel_rfl
theorem tst28 : strT Try.prog 28 = false := by kernel_rfl
theorem tsz29 : szT Try.prog 29 = some 1 := by kernel_rfl
theorem tby29 : byT Try.prog 29 = some 24 := by kernel_rfl
theorem tag29 : aggT Try.prog 29 = false := by kernel_rfl
theorem tze29 : zeroT Try.prog 29 = some (.slice none 0 0) := by kernel_rfl
theorem tpl29 : placesT Try.prog 29 = none := by kernel_rfl
theorem tel29 : elemT Try.prog 29 = some 86 := by kernel_rfl
theorem tbt29 : byteT Try.prog 29 = false := by kernel_rfl
theorem tst29 : strT Try.prog 29 = false := by kernel_rfl
theorem tsz30 : szT Try.prog 30 = some 1 := by kernel_rfl
theorem tby30 : byT Try.prog 30 = some 24 := by kernel_rfl
theorem tag30 : aggT Try.prog 30 = false := by kernel_rfl
theorem tze30 : zeroT Try.prog 30 = some (.slice none 0 0) := by kernel_rfl
theorem tpl30 : placesT Try.prog 30 = none := by kernel_rfl
theorem tel30 : elemT Try.prog 30 = some 29 := by kernel_rfl
theorem tbt30 : byteT Try.prog 30 = false := by kernel_rfl
theorem tst30 : strT Try.prog 30 = false := by kernel_rfl
theorem tsz31 : szT Try.prog 31 = some 3 := by kernel_rfl
theorem tby31 : byT Try.prog 31 = some 72 := by kernel_rfl
theorem tag31 : aggT Try.prog 31 = true := by kernel_rfl
theorem tze31 : zeroT Try.prog 31 = some (.agg ⟨[.slice none 0 0, .slice none 0 0, .slice none 0 0]⟩) := by kernel_rfl
theorem tpl31 : placesT Try.prog 31 = some [(0, 1), (1, 1), (2, 1)] := by kernel_rfl
theorem tfi31_0 : fieldOf Try.prog 31 0 = some (0, 28, 1) := by kernel_rfl
theorem tfi31_1 : fieldOf Try.prog 31 1 = some (1, 29, 1) := by kernel_rfl
theorem tfi31_2 : fieldOf Try.prog 31 2 = some (2, 30, 1) := by kernel_rfl
theorem tar31 : arrT Try.prog 31 = none := by kernel_rfl
theorem tbt31 : byteT Try.prog 31 = false := by kernel_rfl
theorem tst31 : strT Try.prog 31 = false := by kernel_rfl
theorem tsz32 : szT Try.prog 32 = some 3 := by kernel_rfl
theorem tby32 : byT Try.prog 32 = some 72 := by kernel_rfl
theorem tag32 : aggT Try.prog 32 = true := by kernel_rfl
theorem tze32 : zeroT Try.prog 32 = some (.agg ⟨[.slice none 0 0, .slice none 0 0, .slice none 0 0]⟩) := by kernel_rfl
theorem tpl32 : placesT Try.prog 32 = some [(0, 1), (1, 1), (2, 1)] := by kernel_rfl
theorem tfi32_0 : fieldOf Try.prog 32 0 = some (0, 28, 1) := by kernel_rfl
theorem tfi32_1 : fieldOf Try.prog 32 1 = some (1, 29, 1) := by kernel_rfl
theorem tfi32_2 : fieldOf Try.prog 32 2 = some (2, 30, 1) := by kernel_rfl
theorem tar32 : arrT Try.prog 32 = none := by kernel_rfl
theorem tbt32 : byteT Try.prog 32 = false := by kernel_rfl
theorem tst32 : strT Try.prog 32 = false := by kernel_rfl
theorem tsz33 : szT Try.prog 33 = some 1 := by kernel_rfl
theorem tag33 : aggT Try.prog 33 = false := by kernel_rfl
theorem tze33 : zeroT Try.prog 33 = some .nilFunc := by kernel_rfl
theorem tsz34 : szT Try.prog 34 = some 1 := by kernel_rfl
theorem tag34 : aggT Try.prog 34 = false := by kernel_rfl
theorem tze34 : zeroT Try.prog 34 = some .nilFunc := by kernel_rfl
theorem tsz35 : szT Try.prog 35 = some 1 := by kernel_rfl
theorem tag35 : aggT Try.prog 35 = false := by kernel_rfl
theorem tze35 : zeroT Try.prog 35 = some .nilFunc := by kernel_rfl
theorem tsz36 : szT Try.prog 36 = some 1 := by kernel_rfl
theorem tag36 : aggT Try.prog 36 = false := by kernel_rfl
theorem tze36 : zeroT Try.prog 36 = some .nilFunc := by kernel_rfl
theorem tsz37 : szT Try.prog 37 = some 1 := by kernel_rfl
theorem tby37 : byT Try.prog 37 = some 24 := by kernel_rfl
theorem tag37 : aggT Try.prog 37 = false := by kernel_rfl
theorem tze37 : zeroT Try.prog 37 = some (.slice none 0 0) := by kernel_rfl
theorem tpl37 : placesT Try.prog 37 = none := by kernel_rfl
theorem tel37 : elemT Try.prog 37 = some 103 := by kernel_rfl
theorem tbt37 : byteT Try.prog 37 = false := by kernel_rfl
theorem tst37 : strT Try.prog 37 = false := by kernel_rfl
theorem tsz38 : szT Try.prog 38 = some 1 := by kernel_rfl
theorem tag38 : aggT Try.prog 38 = false := by kernel_rfl
theorem tze38 : zeroT Try.prog 38 = some .nilFunc := by kernel_rfl
theorem tsz39 : szT Try.prog 39 = some 1 := by kernel_rfl
theorem tby39 : byT Try.prog 39 = some 24 := by kernel_rfl
theorem tag39 : aggT Try.prog 39 = false := by kernel_rfl
theorem tze39 : zeroT Try.prog 39 = some (.slice none 0 0) := by kernel_rfl
theorem tpl39 : placesT Try.prog 39 = none := by kernel_rfl
theorem tel39 : elemT Try.prog 39 = some 63 := by kernel_rfl
theorem tbt39 : byteT Try.prog 39 = false := by kernel_rfl
theorem tst39 : strT Try.prog 39 = false := by kernel_rfl
theorem tsz41 : szT Try.prog 41 = some 1 := by kernel_rfl
theorem tag41 : aggT Try.prog 41 = false := by kernel_rfl
theorem tze41 : zeroT Try.prog 41 = some .nilFunc := by kernel_rfl
theorem tsz42 : szT Try.prog 42 = some 1 := by kernel_rfl
theorem tby42 : byT Try.prog 42 = some 24 := by kernel_rfl
theorem tag42 : aggT Try.prog 42 = false := by kernel_rfl
theorem tze42 : zeroT Try.prog 42 = some (.slice none 0 0) := by kernel_rfl
theorem tpl42 : placesT Try.prog 42 = none := by kernel_rfl
theorem tel42 : elemT Try.prog 42 = some 98 := by kernel_rfl
theorem tbt42 : byteT Try.prog 42 = false := by kernel_rfl
theorem tst42 : strT Try.prog 42 = false := by kernel_rfl
theorem tsz43 : szT Try.prog 43 = some 1 := by kernel_rfl
theorem tag43 : aggT Try.prog 43 = false := by kernel_rfl
theorem tze43 : zeroT Try.prog 43 = some .nilFunc := by kernel_rfl
theorem tsz44 : szT Try.prog 44 = some 1 := by kernel_rfl
theorem tag44 : aggT Try.prog 44 = false := by kernel_rfl
theorem tze44 : zeroT Try.prog 44 = some .nilFunc := by kernel_rfl
theorem tsz45 : szT Try.prog 45 = some 1 := by kernel_rfl
theorem tag45 : aggT Try.prog 45 = false := by kernel_rfl
theorem tze45 : zeroT Try.prog 45 = some .nilFunc := by kernel_rfl
theorem tsz46 : szT Try.prog 46 = some 1 := by kernel_rfl
theorem tag46 : aggT Try.prog 46 = false := by kernel_rfl
theorem tze46 : zeroT Try.prog 46 = some .nilFunc := by kernel_rfl
theorem tsz47 : szT Try.prog 47 = some 1 := by kernel_rfl
theorem tag47 : aggT Try.prog 47 = false := by kernel_rfl
theorem tze47 : zeroT Try.prog 47 = some .nilFunc := by kernel_rfl
theorem tsz48 : szT Try.prog 48 = some 1 := by kernel_rfl
theorem tag48 : aggT Try.prog 48 = false := by kernel_rfl
theorem tze48 : zeroT Try.prog 48 = some .nilFunc := by kernel_rfl
theorem tsz49 : szT Try.prog 49 = some 2 := by kernel_rfl
theorem tby49 : byT Try.prog 49 = some 32 := by kernel_rfl
theorem tag49 : aggT Try.prog 49 = true := by kernel_rfl
theorem tze49 : zeroT Try.prog 49 = some (.agg ⟨[.int .i64 0, .slice none 0 0]⟩) := by kernel_rfl
theorem tpl49 : placesT Try.prog 49 = some [(0, 1), (1, 1)] := by kernel_rfl
theorem tfi49_0 : fieldOf Try.prog 49 0 = some (0, 2, 1) := by kernel_rfl
theorem tfi49_1 : fieldOf Try.prog 49 1 = some (1, 29, 1) := by kernel_rfl
theorem tar49 : arrT Try.prog 49 = none := by kernel_rfl
theorem tbt49 : byteT Try.prog 49 = false := by kernel_rfl
theorem tst49 : strT Try.prog 49 = false := by kernel_rfl
theorem tsz50 : szT Try.prog 50 = some 2 := by kernel_rfl
theorem tby50 : byT Try.prog 50 = some 32 := by kernel_rfl
theorem tag50 : aggT Try.prog 50 = true := by kernel_rfl
theorem tze50 : zeroT Try.prog 50 = some (.agg ⟨[.int .i64 0, .slice none 0 0]⟩) := by kernel_rfl
theorem tpl50 : placesT Try.prog 50 = some [(0, 1), (1, 1)] := by kernel_rfl
theorem tfi50_0 : fieldOf Try.prog 50 0 = some (0, 2, 1) := by kernel_rfl
theorem tfi50_1 : fieldOf Try.prog 50 1 = some (1, 29, 1) := by kernel_rfl
theorem tar50 : arrT Try.prog 50 = none := by kernel_rfl
theorem tbt50 : byteT Try.prog 50 = false := by kernel_rfl
theorem tst50 : strT Try.prog 50 = false := by kernel_rfl
theorem tsz52 : szT Try.prog 52 = some 1 := by kernel_rfl
theorem tag52 : aggT Try.prog 52 = false := by kernel_rfl
theorem tze52 : zeroT Try.prog 52 = some .nilFunc := by kernel_rfl
theorem tsz53 : szT Try.prog 53 = some 1 := by kernel_rfl
theorem tag53 : aggT Try.prog 53 = false := by kernel_rfl
theorem tze53 : zeroT Try.prog 53 = some .nilFunc := by kernel_rfl
theorem tsz54 : szT Try.prog 54 = some 1 := by kernel_rfl
theorem tag54 : aggT Try.prog 54 = false := by kernel_rfl
theorem tze54 : zeroT Try.prog 54 = some .nilFunc := by kernel_rfl
theorem tsz55 : szT Try.prog 55 = some 1 := by kernel_rfl
theorem tag55 : aggT Try.prog 55 = false := by kernel_rfl
theorem tze55 : zeroT Try.prog 55 = some .nilFunc := by kernel_rfl
theorem tsz56 : szT Try.prog 56 = some 1 := by kernel_rfl
theorem tby56 : byT Try.prog 56 = some 24 := by kernel_rfl
theorem tag56 : aggT Try.prog 56 = false := by kernel_rfl
theorem tze56 : zeroT Try.prog 56 = some (.slice none 0 0) := by kernel_rfl
theorem tpl56 : placesT Try.prog 56 = none := by kernel_rfl
theorem tel56 : elemT Try.prog 56 = some 115 := by kernel_rfl
theorem tbt56 : byteT Try.prog 56 = false := by kernel_rfl
theorem tst56 : strT Try.prog 56 = false := by kernel_rfl
theorem tsz58 : szT Try.prog 58 = some 1 := by kernel_rfl
theorem tag58 : aggT Try.prog 58 = false := by kernel_rfl
theorem tze58 : zeroT Try.prog 58 = some .nilFunc := by kernel_rfl
theorem tsz59 : szT Try.prog 59 = some 1 := by kernel_rfl
theorem tag59 : aggT Try.prog 59 = false := by kernel_rfl
theorem tze59 : zeroT Try.prog 59 = some .nilFunc := by kernel_rfl
theorem tsz60 : szT Try.prog 60 = some 1 := by kernel_rfl
theorem tag60 : aggT Try.prog 60 = false := by kernel_rfl
theorem tze60 : zeroT Try.prog 60 = some .nilFunc := by kernel_rfl
theorem tsz61 : szT Try.prog 61 = some 1 := by kernel_rfl
theorem tby61 : byT Try.prog 61 = some 24 := by kernel_rfl
theorem tag61 : aggT Try.prog 61 = false := by kernel_rfl
theorem tze61 : zeroT Try.prog 61 = some (.slice none 0 0) := by kernel_rfl
theorem tpl61 : placesT Try.prog 61 = none := by kernel_rfl
theorem tel61 : elemT Try.prog 61 = some 119 := by kernel_rfl
theorem tbt61 : byteT Try.prog 61 = false := by kernel_rfl
theorem tst61 : strT Try.prog 61 = false := by kernel_rfl
theorem tsz62 : szT Try.prog 62 = some 1 := by kernel_rfl
theorem tag62 : aggT Try.prog 62 = false := by kernel_rfl
theorem tze62 : zeroT Try.prog 62 = some .nilFunc := by kernel_rfl
theorem tsz63 : szT Try.prog 63 = some 1 := by kernel_rfl
theorem tby63 : byT Try.prog 63 = some 24 := by kernel_rfl
theorem tag63 : aggT Try.prog 63 = false := by kernel_rfl
theorem tze63 : zeroT Try.prog 63 = some (.slice none 0 0) := by kernel_rfl
theorem tpl63 : placesT Try.prog 63 = none := by kernel_rfl
theorem tel63 : elemT Try.prog 63 = some 2 := by kernel_rfl
theorem tbt63 : byteT Try.prog 63 = false := by kernel_rfl
theorem tst63 : strT Try.prog 63 = false := by kernel_rfl
theorem tsz65 : szT Try.prog 65 = some 1 := by kernel_rfl
theorem tag65 : aggT Try.prog 65 = false := by kernel_rfl
theorem tze65 : zeroT Try.prog 65 = some .nilFunc := by kernel_rfl
theorem tsz66 : szT Try.prog 66 = some 1 := by kernel_rfl
theorem tag66 : aggT Try.prog 66 = false := by kernel_rfl
theorem tze66 : zeroT Try.prog 66 = some .nilFunc := by kernel_rfl
theorem tsz67 : szT Try.prog 67 = some 1 := by kernel_rfl
theorem tag67 : aggT Try.prog 67 = false := by kernel_rfl
theorem tze67 : zeroT Try.prog 67 = some .nilFunc := by kernel_rfl
theorem tsz68 : szT Try.prog 68 = some 1 := by kernel_rfl
theorem tag68 : aggT Try.prog 68 = false := by kernel_rfl
theorem tze68 : zeroT Try.prog 68 = some .nilFunc := by kernel_rfl
theorem tsz69 : szT Try.prog 69 = some 1 := by kernel_rfl
theorem tag69 : aggT Try.prog 69 = false := by kernel_rfl
theorem tze69 : zeroT Try.prog 69 = some .nilFunc := by kernel_rfl
theorem tsz70 : szT Try.prog 70 = some 1 := by kernel_rfl
theorem tag70 : aggT Try.prog 70 = false := by kernel_rfl
theorem tze70 : zeroT Try.prog 70 = some .nilFunc := by kernel_rfl
theorem tsz71 : szT Try.prog 71 = some 1 := by kernel_rfl
theorem tag71 : aggT Try.prog 71 = false := by kernel_rfl
theorem tze71 : zeroT Try.prog 71 = some .nilFunc := by kernel_rfl
theorem tsz72 : szT Try.prog 72 = some 1 := by kernel_rfl
theorem tby72 : byT Try.prog 72 = some 24 := by kernel_rfl
theorem tag72 : aggT Try.prog 72 = false := by kernel_rfl
theorem tze72 : zeroT Try.prog 72 = some (.slice none 0 0) := by kernel_rfl
theorem tpl72 : placesT Try.prog 72 = none := by kernel_rfl
theorem tel72 : elemT Try.prog 72 = some 50 := by kernel_rfl
theorem tbt72 : byteT Try.prog 72 = false := by kernel_rfl
theorem tst72 : strT Try.prog 72 = false := by kernel_rfl
theorem tsz73 : szT Try.prog 73 = some 2 := by kernel_rfl
theorem tby73 : byT Try.prog 73 = some 32 := by kernel_rfl
theorem tag73 : aggT Try.prog 73 = true := by kernel_rfl
theorem tze73 : zeroT Try.prog 73 = some (.agg ⟨[.int .i64 0, .slice none 0 0]⟩) := by kernel_rfl
theorem tpl73 : placesT Try.prog 73 = some [(0, 1), (1, 1)] := by kernel_rfl
theorem tfi73_0 : fieldOf Try.prog 73 0 = some (0, 2, 1) := by kernel_rfl
theorem tfi73_1 : fieldOf Try.prog 73 1 = some (1, 72, 1) := by kernel_rfl
theorem tar73 : arrT Try.prog 73 = none := by kernel_rfl
theorem tbt73 : byteT Try.prog 73 = false := by kernel_rfl
theorem tst73 : strT Try.prog 73 = false := by kernel_rfl
theorem tsz74 : szT Try.prog 74 = some 2 := by kernel_rfl
theorem tby74 : byT Try.prog 74 = some 32 := by kernel_rfl
theorem tag74 : aggT Try.prog 74 = true := by kernel_rfl
theorem tze74 : zeroT Try.prog 74 = some (.agg ⟨[.int .i64 0, .slice none 0 0]⟩) := by kernel_rfl
theorem tpl74 : placesT Try.prog 74 = some [(0, 1), (1, 1)] := by kernel_rfl
theorem tfi74_0 : fieldOf Try.prog 74 0 = some (0, 2, 1) := by kernel_rfl
theorem tfi74_1 : fieldOf Try.prog 74 1 = some (1, 72, 1) := by kernel_rfl
theorem tar74 : arrT Try.prog 74 = none := by kernel_rfl
theorem tbt74 : byteT Try.prog 74 = false := by kernel_rfl
theorem tst74 : strT Try.prog 74 = false := by kernel_rfl
theorem tsz76 : szT Try.prog 76 = some 1 := by kernel_rfl
theorem tag76 : aggT Try.prog 76 = false := by kernel_rfl
theorem tze76 : zeroT Try.prog 76 = some .nilFunc := by kernel_rfl
theorem tsz77 : szT Try.prog 77 = some 1 := by kernel_rfl
theorem tag77 : aggT Try.prog 77 = false := by kernel_rfl
theorem tze77 : zeroT Try.prog 77 = some .nilFunc := by kernel_rfl
theorem tsz78 : szT Try.prog 78 = some 1 := by kernel_rfl
theorem tag78 : aggT Try.prog 78 = false := by kernel_rfl
theorem tze78 : zeroT Try.prog 78 = some .nilFunc := by kernel_rfl
theorem tsz79 : szT Try.prog 79 = some 1 := by kernel_rfl
theorem tag79 : aggT Try.prog 79 = false := by kernel_rfl
theorem tze79 : zeroT Try.prog 79 = some .nilFunc := by kernel_rfl
theorem tsz81 : szT Try.prog 81 = some 1 := by kernel_rfl
theorem tag81 : aggT Try.prog 81 = false := by kernel_rfl
theorem tze81 : zeroT Try.prog 81 = some .nilFunc := by kernel_rfl
theorem tsz82 : szT Try.prog 82 = some 1 := by kernel_rfl
theorem tag82 : aggT Try.prog 82 = false := by kernel_rfl
theorem tze82 : zeroT Try.prog 82 = some .nilFunc := by kernel_rfl
theorem tsz83 : szT Try.prog 83 = some 1 := by kernel_rfl
theorem tag83 : aggT Try.prog 83 = false := by kernel_rfl
theorem tze83 : zeroT Try.prog 83 = some .nilFunc := by kernel_rfl
theorem tsz84 : szT Try.prog 84 = some 2 := by kernel_rfl
theorem tby84 : byT Try.prog 84 = some 16 := by kernel_rfl
theorem tag84 : aggT Try.prog 84 = true := by kernel_rfl
theorem tze84 : zeroT Try.prog 84 = some (.agg ⟨[.int .i64 0, .int .i64 0]⟩) := by kernel_rfl
theorem tpl84 : placesT Try.prog 84 = some [(0, 1), (1, 1)] := by kernel_rfl
theorem tfi84_0 : fieldOf Try.prog 84 0 = some (0, 2, 1) := by kernel_rfl
theorem tfi84_1 : fieldOf Try.prog 84 1 = some (1, 2, 1) := by kernel_rfl
theorem tar84 : arrT Try.prog 84 = none := by kernel_rfl
theorem tbt84 : byteT Try.prog 84 = false := by kernel_rfl
theorem tst84 : strT Try.prog 84 = false := by kernel_rfl
theorem tsz85 : szT Try.prog 85 = some 2 := by kernel_rfl
theorem tby85 : byT Try.prog 85 = some 16 := by kernel_rfl
theorem tag85 : aggT Try.prog 85 = true := by kernel_rfl
theorem tze85 : zeroT Try.prog 85 = some (.agg ⟨[.int .i64 0, .int .i64 0]⟩) := by kernel_rfl
theorem tpl85 : placesT Try.prog 85 = some [(0, 1), (1, 1)] := by kernel_rfl
theorem tfi85_0 : fieldOf Try.prog 85 0 = some (0, 2, 1) := by kernel_rfl
theorem tfi85_1 : fieldOf Try.prog 85 1 = some (1, 2, 1) := by kernel_rfl
theorem tar85 : arrT Try.prog 85 = none := by kernel_rfl
theorem tbt85 : byteT Try.prog 85 = false := by kernel_rfl
theorem tst85 : strT Try.prog 85 = false := by kernel_rfl
theorem tsz86 : szT Try.prog 86 = some 1 := by kernel_rfl
theorem tby86 : byT Try.prog 86 = some 8 := by kernel_rfl
theorem tag86 : aggT Try.prog 86 = false := by kernel_rfl
theorem tze86 : zeroT Try.prog 86 = some (.complex .f32 0 0) := by kernel_rfl
theorem tpl86 : placesT Try.prog 86 = none := by kernel_rfl
theorem tbt86 : byteT Try.prog 86 = false := by kernel_rfl
theorem tst86 : strT Try.prog 86 = false := by kernel_rfl
theorem tsz87 : szT Try.prog 87 = some 1 := by kernel_rfl
theorem tag87 : aggT Try.prog 87 = false := by kernel_rfl
theorem tze87 : zeroT Try.prog 87 = some .nilFunc := by kernel_rfl
theorem tsz88 : szT Try.prog 88 = some 1 := by kernel_rfl
theorem tag88 : aggT Try.prog 88 = false := by kernel_rfl
theorem tze88 : zeroT Try.prog 88 = some .nilFunc := by kernel_rfl
theorem tsz89 : szT Try.prog 89 = some 1 := by kernel_rfl
theorem tag89 : aggT Try.prog 89 = false := by kernel_rfl
theorem tze89 : zeroT Try.prog 89 = some .nilFunc := by kernel_rfl
theorem tsz90 : szT Try.prog 90 = some 1 := by kernel_rfl
theorem tag90 : aggT Try.prog 90 = false := by kernel_rfl
theorem tze90 : zeroT Try.prog 90 = some .nilFunc := by kernel_rfl
theorem tsz91 : szT Try.prog 91 = some 1 := by kernel_rfl
theorem tag91 : aggT Try.prog 91 = false := by kernel_rfl
theorem tze91 : zeroT Try.prog 91 = some .nilFunc := by kernel_rfl
theorem tsz92 : szT Try.prog 92 = some 1 := by kernel_rfl
theorem tag92 : aggT Try.prog 92 = false := by kernel_rfl
theorem tze92 : zeroT Try.prog 92 = some .nilFunc := by kernel_rfl
theorem tsz93 : szT Try.prog 93 = some 1 := by kernel_rfl
theorem tag93 : aggT Try.prog 93 = false := by kernel_rfl
theorem tze93 : zeroT Try.prog 93 = some .nilFunc := by kernel_rfl
theorem tsz94 : szT Try.prog 94 = some 1 := by kernel_rfl
theorem tag94 : aggT Try.prog 94 = false := by kernel_rfl
theorem tze94 : zeroT Try.prog 94 = some .nilFunc := by kernel_rfl
theorem tsz95 : szT Try.prog 95 = some 2 := by kernel_rfl
theorem tby95 : byT Try.prog 95 = some 16 := by kernel_rfl
theorem tag95 : aggT Try.prog 95 = true := by kernel_rfl
theorem tze95 : zeroT Try.prog 95 = some (.agg ⟨[.int .i64 0, .int .i64 0]⟩) := by kernel_rfl
theorem tpl95 : placesT Try.prog 95 = some [(0, 1), (1, 1)] := by kernel_rfl
theorem tfi95_0 : fieldOf Try.prog 95 0 = some (0, 2, 1) := by kernel_rfl
theorem tfi95_1 : fieldOf Try.prog 95 1 = some (1, 2, 1) := by kernel_rfl
theorem tar95 : arrT Try.prog 95 = none := by kernel_rfl
theorem tbt95 : byteT Try.prog 95 = false := by kernel_rfl
theorem tst95 : strT Try.prog 95 = false := by kernel_rfl
theorem tsz96 : szT Try.prog 96 = some 2 := by kernel_rfl
theorem tby96 : byT Try.prog 96 = some 16 := by kernel_rfl
theorem tag96 : aggT Try.prog 96 = true := by kernel_rfl
theorem tze96 : zeroT Try.prog 96 = some (.agg ⟨[.int .i64 0, .int .i64 0]⟩) := by kernel_rfl
theorem tpl96 : placesT Try.prog 96 = some [(0, 1), (1, 1)] := by kernel_rfl
theorem tfi96_0 : fieldOf Try.prog 96 0 = some (0, 2, 1) := by kernel_rfl
theorem tfi96_1 : fieldOf Try.prog 96 1 = some (1, 2, 1) := by kernel_rfl
theorem tar96 : arrT Try.prog 96 = none := by kernel_rfl
theorem tbt96 : byteT Try.prog 96 = false := by kernel_rfl
theorem tst96 : strT Try.prog 96 = false := by kernel_rfl
theorem tsz97 : szT Try.prog 97 = some 4 := by kernel_rfl
theorem tby97 : byT Try.prog 97 = some 32 := by kernel_rfl
theorem tag97 : aggT Try.prog 97 = true := by kernel_rfl
theorem tze97 : zeroT Try.prog 97 = some (.agg ⟨[.int .i64 0, .int .i64 0, .int .i64 0, .int .i64 0]⟩) := by kernel_rfl
theorem tpl97 : placesT Try.prog 97 = some [(0, 2), (2, 1), (3, 1)] := by kernel_rfl
theorem tfi97_0 : fieldOf Try.prog 97 0 = some (0, 96, 2) := by kernel_rfl
theorem tfi97_1 : fieldOf Try.prog 97 1 = some (2, 2, 1) := by kernel_rfl
theorem tfi97_2 : fieldOf Try.prog 97 2 = some (3, 2, 1) := by kernel_rfl
theorem tar97 : arrT Try.prog 97 = none := by kernel_rfl
theorem tbt97 : byteT Try.prog 97 = false := by kernel_rfl
theorem tst97 : strT Try.prog 97 = false := by kernel_rfl
theorem tsz98 : szT Try.prog 98 = some 4 := by kernel_rfl
theorem tby98 : byT Try.prog 98 = some 32 := by kernel_rfl
theorem tag98 : aggT Try.prog 98 = true := by kernel_rfl
theorem tze98 : zeroT Try.prog 98 = some (.agg ⟨[.int .i64 0, .int .i64 0, .int .i64 0, .int .i64 0]⟩) := by kernel_rfl
theorem tpl98 : placesT Try.prog 98 = some [(0, 2), (2, 1), (3, 1)] := by kernel_rfl
theorem tfi98_0 : fieldOf Try.prog 98 0 = some (0, 96, 2) := by kernel_rfl
theorem tfi98_1 : fieldOf Try.prog 98 1 = some (2, 2, 1) := by kernel_rfl
theorem tfi98_2 : fieldOf Try.prog 98 2 = some (3, 2, 1) := by kernel_rfl
theorem tar98 : arrT Try.prog 98 = none := by kernel_rfl
theorem tbt98 : byteT Try.prog 98 = false := by kernel_rfl
theorem tst98 : strT Try.prog 98 = false := by kernel_rfl
theorem tsz99 : szT Try.prog 99 = some 1 := by kernel_rfl
theorem tag99 : aggT Try.prog 99 = false := by kernel_rfl
theorem tze99 : zeroT Try.prog 99 = some .nilFunc := by kernel_rfl
theorem tsz100 : szT Try.prog 100 = some 1 := by kernel_rfl
theorem tag100 : aggT Try.prog 100 = false := by kernel_rfl
theorem tze100 : zeroT Try.prog 100 = some .nilFunc := by kernel_rfl
theorem tsz101 : szT Try.prog 101 = some 2 := by kernel_rfl
theorem tby101 : byT Try.prog 101 = some 16 := by kernel_rfl
theorem tag101 : aggT Try.prog 101 = true := by kernel_rfl
theorem tze101 : zeroT Try.prog 101 = some (.agg ⟨[.int .i64 0, .int .i64 0]⟩) := by kernel_rfl
theorem tpl101 : placesT Try.prog 101 = some [(0, 1), (1, 1)] := by kernel_rfl
theorem tfi101_0 : fieldOf Try.prog 101 0 = some (0, 2, 1) := by kernel_rfl
theorem tfi101_1 : fieldOf Try.prog 101 1 = some (1, 2, 1) := by kernel_rfl
theorem tar101 : arrT Try.prog 101 = none := by kernel_rfl
theorem tbt101 : byteT Try.prog 101 = false := by kernel_rfl
theorem tst101 : strT Try.prog 101 = false := by kernel_rfl
theorem tsz102 : szT Try.prog 102 = some 4 := by kernel_rfl
theorem tby102 : byT Try.prog 102 = some 32 := by kernel_rfl
theorem tag102 : aggT Try.prog 102 = true := by kernel_rfl
theorem tze102 : zeroT Try.prog 102 = some (.agg ⟨[.int .i64 0, .int .i64 0, .int .i64 0, .int .i64 0]⟩) := by kernel_rfl
theorem tpl102 : placesT Try.prog 102 = some [(0, 2), (2, 1), (3, 1)] := by kernel_rfl
theorem tfi102_0 : fieldOf Try.prog 102 0 = some (0, 101, 2) := by kernel_rfl
theorem tfi102_1 : fieldOf Try.prog 102 1 = some (2, 2, 1) := by kernel_rfl
theorem tfi102_2 : fieldOf Try.prog 102 2 = some (3, 2, 1) := by kernel_rfl
theorem tar102 : arrT Try.prog 102 = none := by kernel_rfl
theorem tbt102 : byteT Try.prog 102 = false := by kernel_rfl
theorem tst102 : strT Try.prog 102 = false := by kernel_rfl
theorem tsz103 : szT Try.prog 103 = some 4 := by kernel_rfl
theorem tby103 : byT Try.prog 103 = some 32 := by kernel_rfl
theorem tag103 : aggT Try.prog 103 = true := by kernel_rfl
theorem tze103 : zeroT Try.prog 103 = some (.agg ⟨[.int .i64 0, .int .i64 0, .int .i64 0, .int .i64 0]⟩) := by kernel_rfl
theorem tpl103 : placesT Try.prog 103 = some [(0, 2), (2, 1), (3, 1)] := by kernel_rfl
theorem tfi103_0 : fieldOf Try.prog 103 0 = some (0, 101, 2) := by kernel_rfl
theorem tfi103_1 : fieldOf Try.prog 103 1 = some (2, 2, 1) := by kernel_rfl
theorem tfi103_2 : fieldOf Try.prog 103 2 = some (3, 2, 1) := by kernel_rfl
theorem tar103 : arrT Try.prog 103 = none := by kernel_rfl
theorem tbt103 : byteT Try.prog 103 = false := by kernel_rfl
theorem tst103 : strT Try.prog 103 = false := by kernel_rfl
theorem tsz104 : szT Try.prog 104 = some 1 := by kernel_rfl
theorem tag104 : aggT Try.prog 104 = false := by kernel_rfl
theorem tze104 : zeroT Try.prog 104 = some .nilFunc := by kernel_rfl
theorem tsz105 : szT Try.prog 105 = some 1 := by kernel_rfl
theorem tag105 : aggT Try.prog 105 = false := by kernel_rfl
theorem tze105 : zeroT Try.prog 105 = some .nilFunc := by kernel_rfl
theorem tsz106 : szT Try.prog 106 = some 1 := by kernel_rfl
theorem tag106 : aggT Try.prog 106 = false := by kernel_rfl
theorem tze106 : zeroT Try.prog 106 = some .nilFunc := by kernel_rfl
theorem tsz107 : szT Try.prog 107 = some 1 := by kernel_rfl
theorem tag107 : aggT Try.prog 107 = false := by kernel_rfl
theorem tze107 : zeroT Try.prog 107 = some .nilFunc := by kernel_rfl
theorem tsz108 : szT Try.prog 108 = some 1 := by kernel_rfl
theorem tag108 : aggT Try.prog 108 = false := by kernel_rfl
theorem tze108 : zeroT Try.prog 108 = some .nilFunc := by kernel_rfl
theorem tsz109 : szT Try.prog 109 = some 1 := by kernel_rfl
theorem tag109 : aggT Try.prog 109 = false := by kernel_rfl
theorem tze109 : zeroT Try.prog 109 = some .nilFunc := by kernel_rfl
theorem tsz110 : szT Try.prog 110 = some 4 := by kernel_rfl
theorem tby110 : byT Try.prog 110 = some 80 := by kernel_rfl
theorem tag110 : aggT Try.prog 110 = true := by kernel_rfl
theorem tze110 : zeroT Try.prog 110 = some (.agg ⟨[.slice none 0 0, .slice none 0 0, .slice none 0 0, .int .i64 0]⟩) := by kernel_rfl
theorem tpl110 : placesT Try.prog 110 = some [(0, 1), (1, 1), (2, 1), (3, 1)] := by kernel_rfl
theorem tfi110_0 : fieldOf Try.prog 110 0 = some (0, 42, 1) := by kernel_rfl
theorem tfi110_1 : fieldOf Try.prog 110 1 = some (1, 63, 1) := by kernel_rfl
theorem tfi110_2 : fieldOf Try.prog 110 2 = some (2, 56, 1) := by kernel_rfl
theorem tfi110_3 : fieldOf Try.prog 110 3 = some (3, 2, 1) := by kernel_rfl
theorem tar110 : arrT Try.prog 110 = none := by kernel_rfl
theorem tbt110 : byteT Try.prog 110 = false := by kernel_rfl
theorem tst110 : strT Try.prog 110 = false := by kernel_rfl
theorem tsz111 : szT Try.prog 111 = some 4 := by kernel_rfl
theorem tby111 : byT Try.prog 111 = some 80 := by kernel_rfl
theorem tag111 : aggT Try.prog 111 = true := by kernel_rfl
theorem tze111 : zeroT Try.prog 111 = some (.agg ⟨[.slice none 0 0, .slice none 0 0, .slice none 0 0, .int .i64 0]⟩) := by kernel_rfl
theorem tpl111 : placesT Try.prog 111 = some [(0, 1), (1, 1), (2, 1), (3, 1)] := by kernel_rfl
theorem tfi111_0 : fieldOf Try.prog 111 0 = some (0, 42, 1) := by kernel_rfl
theorem tfi111_1 : fieldOf Try.prog 111 1 = some (1, 63, 1) := by kernel_rfl
theorem tfi111_2 : fieldOf Try.prog 111 2 = some (2, 56, 1) := by kernel_rfl
theorem tfi111_3 : fieldOf Try.prog 111 3 = some (3, 2, 1) := by kernel_rfl
theorem tar111 : arrT Try.prog 111 = none := by kernel_rfl
theorem tbt111 : byteT Try.prog 111 = false := by kernel_rfl
theorem tst111 : strT Try.prog 111 = false := by kernel_rfl
theorem tsz112 : szT Try.prog 112 = some 1 := by kernel_rfl
theorem tag112 : aggT Try.prog 112 = false := by kernel_rfl
theorem tze112 : zeroT Try.prog 112 = some .nilFunc := by kernel_rfl
theorem tsz113 : szT Try.prog 113 = some 1 := by kernel_rfl
theorem tag113 : aggT Try.prog 113 = false := by kernel_rfl
theorem tze113 : zeroT Try.prog 113 = some .nilFunc := by kernel_rfl
theorem tsz114 : szT Try.prog 114 = some 2 := by kernel_rfl
theorem tby114 : byT Try.prog 114 = some 16 := by kernel_rfl
theorem tag114 : aggT Try.prog 114 = true := by kernel_rfl
theorem tze114 : zeroT Try.prog 114 = some (.agg ⟨[.int .i64 0, .int .i64 0]⟩) := by kernel_rfl
theorem tpl114 : placesT Try.prog 114 = some [(0, 1), (1, 1)] := by kernel_rfl
theorem tfi114_0 : fieldOf Try.prog 114 0 = some (0, 2, 1) := by kernel_rfl
theorem tfi114_1 : fieldOf Try.prog 114 1 = some (1, 2, 1) := by kernel_rfl
theorem tar114 : arrT Try.prog 114 = none := by kernel_rfl
theorem tbt114 : byteT Try.prog 114 = false := by kernel_rfl
theorem tst114 : strT Try.prog 114 = false := by kernel_rfl
theorem tsz115 : szT Try.prog 115 = some 2 := by kernel_rfl
theorem tby115 : byT Try.prog 115 = some 16 := by kernel_rfl
theorem tag115 : aggT Try.prog 115 = true := by kernel_rfl
theorem tze115 : zeroT Try.prog 115 = some (.agg ⟨[.int .i64 0, .int .i64 0]⟩) := by kernel_rfl
theorem tpl115 : placesT Try.prog 115 = some [(0, 1), (1, 1)] := by kernel_rfl
theorem tfi115_0 : fieldOf Try.prog 115 0 = some (0, 2, 1) := by kernel_rfl
theorem tfi115_1 : fieldOf Try.prog 115 1 = some (1, 2, 1) := by kernel_rfl
theorem tar115 : arrT Try.prog 115 = none := by kernel_rfl
theorem tbt115 : byteT Try.prog 115 = false := by kernel_rfl
theorem tst115 : strT Try.prog 115 = false := by kernel_rfl
theorem tsz116 : szT Try.prog 116 = some 1 := by kernel_rfl
theorem tag116 : aggT Try.prog 116 = false := by kernel_rfl
theorem tze116 : zeroT Try.prog 116 = some .nilFunc := by kernel_rfl
theorem tsz117 : szT Try.prog 117 = some 1 := by kernel_rfl
theorem tag117 : aggT Try.prog 117 = false := by kernel_rfl
theorem tze117 : zeroT Try.prog 117 = some .nilFunc := by kernel_rfl
theorem tsz118 : szT Try.prog 118 = some 1 := by kernel_rfl
theorem tag118 : aggT Try.prog 118 = false := by kernel_rfl
theorem tze118 : zeroT Try.prog 118 = some .nilFunc := by kernel_rfl
theorem tsz119 : szT Try.prog 119 = some 2 := by kernel_rfl
theorem tby119 : byT Try.prog 119 = some 16 := by kernel_rfl
theorem tag119 : aggT Try.prog 119 = true := by kernel_rfl
theorem tze119 : zeroT Try.prog 119 = some (.agg ⟨[.int .i64 0, .int .i64 0]⟩) := by kernel_rfl
theorem tpl119 : placesT Try.prog 119 = some [(0, 1), (1, 1)] := by kernel_rfl
theorem tfi119_0 : fieldOf Try.prog 119 0 = some (0, 2, 1) := by kernel_rfl
theorem tfi119_1 : fieldOf Try.prog 119 1 = some (1, 2, 1) := by kernel_rfl
theorem tar119 : arrT Try.prog 119 = none := by kernel_rfl
theorem tbt119 : byteT Try.prog 119 = false := by kernel_rfl
theorem tst119 : strT Try.prog 119 = false := by kernel_rfl
theorem tsz120 : szT Try.prog 120 = some 1 := by kernel_rfl
theorem tag120 : aggT Try.prog 120 = false := by kernel_rfl
theorem tze120 : zeroT Try.prog 120 = some .nilFunc := by kernel_rfl
theorem tsz121 : szT Try.prog 121 = some 1 := by kernel_rfl
theorem tag121 : aggT Try.prog 121 = false := by kernel_rfl
theorem tze121 : zeroT Try.prog 121 = some .nilFunc := by kernel_rfl
theorem tsz122 : szT Try.prog 122 = some 1 := by kernel_rfl
theorem tag122 : aggT Try.prog 122 = false := by kernel_rfl
theorem tze122 : zeroT Try.prog 122 = some .nilFunc := by kernel_rfl
theorem tsz123 : szT Try.prog 123 = some 1 := by kernel_rfl
theorem tag123 : aggT Try.prog 123 = false := by kernel_rfl
theorem tze123 : zeroT Try.prog 123 = some .nilFunc := by kernel_rfl
theorem tsz124 : szT Try.prog 124 = some 1 := by kernel_rfl
theorem tag124 : aggT Try.prog 124 = false := by kernel_rfl
theorem tze124 : zeroT Try.prog 124 = some .nilFunc := by kernel_rfl
theorem tsz125 : szT Try.prog 125 = some 1 := by kernel_rfl
theorem tby125 : byT Try.prog 125 = some 16 := by kernel_rfl
theorem tag125 : aggT Try.prog 125 = false := by kernel_rfl
theorem tze125 : zeroT Try.prog 125 = some (.complex .f64 0 0) := by kernel_rfl
theorem tpl125 : placesT Try.prog 125 = none := by kernel_rfl
theorem tbt125 : byteT Try.prog 125 = false := by kernel_rfl
theorem tst125 : strT Try.prog 125 = false := by kernel_rfl
theorem tsz126 : szT Try.prog 126 = some 1 := by kernel_rfl
theorem tby126 : byT Try.prog 126 = some 8 := by kernel_rfl
theorem tag126 : aggT Try.prog 126 = false := by kernel_rfl
theorem tze126 : zeroT Try.prog 126 = some (.float .f64 0) := by kernel_rfl
theorem tpl126 : placesT Try.prog 126 = none := by kernel_rfl
theorem tbt126 : byteT Try.prog 126 = false := by kernel_rfl
theorem tst126 : strT Try.prog 126 = false := by kernel_rfl
theorem tsz127 : szT Try.prog 127 = some 1 := by kernel_rfl
theorem tag127 : aggT Try.prog 127 = false := by kernel_rfl
theorem tze127 : zeroT Try.prog 127 = some .nilFunc := by kernel_rfl
theorem tsz128 : szT Try.prog 128 = some 1 := by kernel_rfl
theorem tag128 : aggT Try.prog 128 = false := by kernel_rfl
theorem tze128 : zeroT Try.prog 128 = some .nilFunc := by kernel_rfl
theorem tsz129 : szT Try.prog 129 = some 1 := by kernel_rfl
theorem tag129 : aggT Try.prog 129 = false := by kernel_rfl
theorem tze129 : zeroT Try.prog 129 = some .nilFunc := by kernel_rfl
theorem tsz130 : szT Try.prog 130 = some 1 := by kernel_rfl
theorem tag130 : aggT Try.prog 130 = false := by kernel_rfl
theorem tze130 : zeroT Try.prog 130 = some .nilFunc := by kernel_rfl
theorem tsz131 : szT Try.prog 131 = some 1 := by kernel_rfl
theorem tag131 : aggT Try.prog 131 = false := by kernel_rfl
theorem tze131 : zeroT Try.prog 131 = some .nilFunc := by kernel_rfl
theorem tsz132 : szT Try.prog 132 = some 1 := by kernel_rfl
theorem tby132 : byT Try.prog 132 = some 4 := by kernel_rfl
theorem tag132 : aggT Try.prog 132 = false := by kernel_rfl
theorem tze132 : zeroT Try.prog 132 = some (.float .f32 0) := by kernel_rfl
theorem tpl132 : placesT Try.prog 132 = none := by kernel_rfl
theorem tbt132 : byteT Try.prog 132 = false := by kernel_rfl
theorem tst132 : strT Try.prog 132 = false := by kernel_rfl
theorem tsz133 : szT Try.prog 133 = some 1 := by kernel_rfl
theorem tag133 : aggT Try.prog 133 = false := by kernel_rfl
theorem tze133 : zeroT Try.prog 133 = some .nilFunc := by kernel_rfl
theorem tsz134 : szT Try.prog 134 = some 1 := by kernel_rfl
theorem tag134 : aggT Try.prog 134 = false := by kernel_rfl
theorem tze134 : zeroT Try.prog 134 = some .nilFunc := by kernel_rfl
theorem tsz135 : szT Try.prog 135 = some 1 := by kernel_rfl
theorem tby135 : byT Try.prog 135 = some 8 := by kernel_rfl
theorem tag135 : aggT Try.prog 135 = false := by kernel_rfl
theorem tze135 : zeroT Try.prog 135 = some (.pointer none) := by kernel_rfl
theorem tpl135 : placesT Try.prog 135 = none := by kernel_rfl
theorem tbt135 : byteT Try.prog 135 = false := by kernel_rfl
theorem tst135 : strT Try.prog 135 = false := by kernel_rfl
theorem tsz136 : szT Try.prog 136 = some 1 := by kernel_rfl
theorem tag136 : aggT Try.prog 136 = false := by kernel_rfl
theorem tze136 : zeroT Try.prog 136 = some .nilFunc := by kernel_rfl
theorem tsz138 : szT Try.prog 138 = some 1 := by kernel_rfl
theorem tag138 : aggT Try.prog 138 = false := by kernel_rfl
theorem tze138 : zeroT Try.prog 138 = some .nilFunc := by kernel_rfl
theorem tsz139 : szT Try.prog 139 = some 1 := by kernel_rfl
theorem tag139 : aggT Try.prog 139 = false := by kernel_rfl
theorem tze139 : zeroT Try.prog 139 = some .nilFunc := by kernel_rfl
theorem tsz140 : szT Try.prog 140 = some 1 := by kernel_rfl
theorem tby140 : byT Try.prog 140 = some 8 := by kernel_rfl
theorem tag140 : aggT Try.prog 140 = false := by kernel_rfl
theorem tze140 : zeroT Try.prog 140 = some (.pointer none) := by kernel_rfl
theorem tpl140 : placesT Try.prog 140 = none := by kernel_rfl
theorem tbt140 : byteT Try.prog 140 = false := by kernel_rfl
theorem tst140 : strT Try.prog 140 = false := by kernel_rfl
theorem tsz141 : szT Try.prog 141 = some 1 := by kernel_rfl
theorem tag141 : aggT Try.prog 141 = false := by kernel_rfl
theorem tze141 : zeroT Try.prog 141 = some .nilFunc := by kernel_rfl
theorem tsz143 : szT Try.prog 143 = some 1 := by kernel_rfl
theorem tag143 : aggT Try.prog 143 = false := by kernel_rfl
theorem tze143 : zeroT Try.prog 143 = some .nilFunc := by kernel_rfl
theorem tsz144 : szT Try.prog 144 = some 1 := by kernel_rfl
theorem tby144 : byT Try.prog 144 = some 8 := by kernel_rfl
theorem tag144 : aggT Try.prog 144 = false := by kernel_rfl
theorem tze144 : zeroT Try.prog 144 = some (.int .u64 0) := by kernel_rfl
theorem tpl144 : placesT Try.prog 144 = none := by kernel_rfl
theorem tbt144 : byteT Try.prog 144 = false := by kernel_rfl
theorem tst144 : strT Try.prog 144 = false := by kernel_rfl
theorem tsz145 : szT Try.prog 145 = some 1 := by kernel_rfl
theorem tag145 : aggT Try.prog 145 = false := by kernel_rfl
theorem tze145 : zeroT Try.prog 145 = some .nilFunc := by kernel_rfl
theorem tsz146 : szT Try.prog 146 = some 1 := by kernel_rfl
theorem tby146 : byT Try.prog 146 = some 4 := by kernel_rfl
theorem tag146 : aggT Try.prog 146 = false := by kernel_rfl
theorem tze146 : zeroT Try.prog 146 = some (.int .u32 0) := by kernel_rfl
theorem tpl146 : placesT Try.prog 146 = none := by kernel_rfl
theorem tbt146 : byteT Try.prog 146 = false := by kernel_rfl
theorem tst146 : strT Try.prog 146 = false := by kernel_rfl
theorem tsz147 : szT Try.prog 147 = some 1 := by kernel_rfl
theorem tag147 : aggT Try.prog 147 = false := by kernel_rfl
theorem tze147 : zeroT Try.prog 147 = some .nilFunc := by kernel_rfl
theorem tsz148 : szT Try.prog 148 = some 1 := by kernel_rfl
theorem tag148 : aggT Try.prog 148 = false := by kernel_rfl
theorem tze148 : zeroT Try.prog 148 = some .nilFunc := by kernel_rfl
theorem tsz149 : szT Try.prog 149 = some 1 := by kernel_rfl
theorem tag149 : aggT Try.prog 149 = false := by kernel_rfl
theorem tze149 : zeroT Try.prog 149 = some .nilFunc := by kernel_rfl
theorem tsz150 : szT Try.prog 150 = some 1 := by kernel_rfl
theorem tby150 : byT Try.prog 150 = some 24 := by kernel_rfl
theorem tag150 : aggT Try.prog 150 = false := by kernel_rfl
theorem tze150 : zeroT Try.prog 150 = some (.slice none 0 0) := by kernel_rfl
theorem tpl150 : placesT Try.prog 150 = none := by kernel_rfl
theorem tel150 : elemT Try.prog 150 = some 5 := by kernel_rfl
theorem tbt150 : byteT Try.prog 150 = false := by kernel_rfl
theorem tst150 : strT Try.prog 150 = false := by kernel_rfl
theorem tsz151 : szT Try.prog 151 = some 1 := by kernel_rfl
theorem tag151 : aggT Try.prog 151 = false := by kernel_rfl
theorem tze151 : zeroT Try.prog 151 = some .nilFunc := by kernel_rfl
theorem tsz152 : szT Try.prog 152 = some 1 := by kernel_rfl
theorem tag152 : aggT Try.prog 152 = false := by kernel_rfl
theorem tze152 : zeroT Try.prog 152 = some .nilFunc := by kernel_rfl
theorem tsz153 : szT Try.prog 153 = some 1 := by kernel_rfl
theorem tag153 : aggT Try.prog 153 = false := by kernel_rfl
theorem tze153 : zeroT Try.prog 153 = some .nilFunc := by kernel_rfl
theorem tsz154 : szT Try.prog 154 = some 1 := by kernel_rfl
theorem tag154 : aggT Try.prog 154 = false := by kernel_rfl
theorem tze154 : zeroT Try.prog 154 = some .nilFunc := by kernel_rfl
theorem tsz155 : szT Try.prog 155 = some 4 := by kernel_rfl
theorem tby155 : byT Try.prog 155 = some 40 := by kernel_rfl
theorem tag155 : aggT Try.prog 155 = true := by kernel_rfl
theorem tze155 : zeroT Try.prog 155 = some (.agg ⟨[.pointer none, .pointer none, .pointer none, .string ⟨⟨[]⟩⟩]⟩) := by kernel_rfl
theorem tpl155 : placesT Try.prog 155 = some [(0, 1), (1, 1), (2, 1), (3, 1)] := by kernel_rfl
theorem tfi155_0 : fieldOf Try.prog 155 0 = some (0, 17, 1) := by kernel_rfl
theorem tfi155_1 : fieldOf Try.prog 155 1 = some (1, 17, 1) := by kernel_rfl
theorem tfi155_2 : fieldOf Try.prog 155 2 = some (2, 17, 1) := by kernel_rfl
theorem tfi155_3 : fieldOf Try.prog 155 3 = some (3, 9, 1) := by kernel_rfl
theorem tar155 : arrT Try.prog 155 = none := by kernel_rfl
theorem tbt155 : byteT Try.prog 155 = false := by kernel_rfl
theorem tst155 : strT Try.prog 155 = false := by kernel_rfl
theorem tsz156 : szT Try.prog 156 = some 4 := by kernel_rfl
theorem tby156 : byT Try.prog 156 = some 40 := by kernel_rfl
theorem tag156 : aggT Try.prog 156 = true := by kernel_rfl
theorem tze156 : zeroT Try.prog 156 = some (.agg ⟨[.pointer none, .pointer none, .pointer none, .string ⟨⟨[]⟩⟩]⟩) := by kernel_rfl
theorem tpl156 : placesT Try.prog 156 = some [(0, 1), (1, 1), (2, 1), (3, 1)] := by kernel_rfl
theorem tfi156_0 : fieldOf Try.prog 156 0 = some (0, 17, 1) := by kernel_rfl
theorem tfi156_1 : fieldOf Try.prog 156 1 = some (1, 17, 1) := by kernel_rfl
theorem tfi156_2 : fieldOf Try.prog 156 2 = some (2, 17, 1) := by kernel_rfl
theorem tfi156_3 : fieldOf Try.prog 156 3 = some (3, 9, 1) := by kernel_rfl
theorem tar156 : arrT Try.prog 156 = none := by kernel_rfl
theorem tbt156 : byteT Try.prog 156 = false := by kernel_rfl
theorem tst156 : strT Try.prog 156 = false := by kernel_rfl
theorem tsz157 : szT Try.prog 157 = some 0 := by kernel_rfl
theorem tby157 : byT Try.prog 157 = some 0 := by kernel_rfl
theorem tag157 : aggT Try.prog 157 = true := by kernel_rfl
theorem tpl157 : placesT Try.prog 157 = none := by kernel_rfl
theorem tar157 : arrT Try.prog 157 = some 1 := by kernel_rfl
theorem tbt157 : byteT Try.prog 157 = false := by kernel_rfl
theorem tst157 : strT Try.prog 157 = false := by kernel_rfl
theorem tsz158 : szT Try.prog 158 = some 0 := by kernel_rfl
theorem tby158 : byT Try.prog 158 = some 0 := by kernel_rfl
theorem tag158 : aggT Try.prog 158 = true := by kernel_rfl
theorem tpl158 : placesT Try.prog 158 = some [(0, 0)] := by kernel_rfl
theorem tfi158_0 : fieldOf Try.prog 158 0 = some (0, 157, 0) := by kernel_rfl
theorem tar158 : arrT Try.prog 158 = none := by kernel_rfl
theorem tbt158 : byteT Try.prog 158 = false := by kernel_rfl
theorem tst158 : strT Try.prog 158 = false := by kernel_rfl
theorem tsz159 : szT Try.prog 159 = some 0 := by kernel_rfl
theorem tby159 : byT Try.prog 159 = some 0 := by kernel_rfl
theorem tag159 : aggT Try.prog 159 = true := by kernel_rfl
theorem tpl159 : placesT Try.prog 159 = some [(0, 0)] := by kernel_rfl
theorem tfi159_0 : fieldOf Try.prog 159 0 = some (0, 157, 0) := by kernel_rfl
theorem tar159 : arrT Try.prog 159 = none := by kernel_rfl
theorem tbt159 : byteT Try.prog 159 = false := by kernel_rfl
theorem tst159 : strT Try.prog 159 = false := by kernel_rfl
theorem tsz160 : szT Try.prog 160 = some 1 := by kernel_rfl
theorem tby160 : byT Try.prog 160 = some 1 := by kernel_rfl
theorem tag160 : aggT Try.prog 160 = false := by kernel_rfl
theorem tze160 : zeroT Try.prog 160 = some (.int .u8 0) := by kernel_rfl
theorem tpl160 : placesT Try.prog 160 = none := by kernel_rfl
theorem tbt160 : byteT Try.prog 160 = true := by kernel_rfl
theorem tst160 : strT Try.prog 160 = false := by kernel_rfl
theorem tsz161 : szT Try.prog 161 = some 1 := by kernel_rfl
theorem tby161 : byT Try.prog 161 = some 1 := by kernel_rfl
theorem tag161 : aggT Try.prog 161 = false := by kernel_rfl
theorem tze161 : zeroT Try.prog 161 = some (.int .u8 0) := by kernel_rfl
theorem tpl161 : placesT Try.prog 161 = none := by kernel_rfl
theorem tbt161 : byteT Try.prog 161 = true := by kernel_rfl
theorem tst161 : strT Try.prog 161 = false := by kernel_rfl
theorem tsz162 : szT Try.prog 162 = some 1 := by kernel_rfl
theorem tag162 : aggT Try.prog 162 = false := by kernel_rfl
theorem tze162 : zeroT Try.prog 162 = some .nilFunc := by kernel_rfl
theorem tsz163 : szT Try.prog 163 = some 1 := by kernel_rfl
theorem tby163 : byT Try.prog 163 = some 8 := by kernel_rfl
theorem tag163 : aggT Try.prog 163 = false := by kernel_rfl
theorem tze163 : zeroT Try.prog 163 = some (.pointer none) := by kernel_rfl
theorem tpl163 : placesT Try.prog 163 = none := by kernel_rfl
theorem tbt163 : byteT Try.prog 163 = false := by kernel_rfl
theorem tst163 : strT Try.prog 163 = false := by kernel_rfl
theorem tsz164 : szT Try.prog 164 = some 1 := by kernel_rfl
theorem tby164 : byT Try.prog 164 = some 4 := by kernel_rfl
theorem tag164 : aggT Try.prog 164 = false := by kernel_rfl
theorem tze164 : zeroT Try.prog 164 = some (.int .i32 0) := by kernel_rfl
theorem tpl164 : placesT Try.prog 164 = none := by kernel_rfl
theorem tbt164 : byteT Try.prog 164 = false := by kernel_rfl
theorem tst164 : strT Try.prog 164 = false := by kernel_rfl
theorem tsz165 : szT Try.prog 165 = some 1 := by kernel_rfl
theorem tby165 : byT Try.prog 165 = some 4 := by kernel_rfl
theorem tag165 : aggT Try.prog 165 = false := by kernel_rfl
theorem tze165 : zeroT Try.prog 165 = some (.int .i32 0) := by kernel_rfl
theorem tpl165 : placesT Try.prog 165 = none := by kernel_rfl
theorem tbt165 : byteT Try.prog 165 = false := by kernel_rfl
theorem tst165 : strT Try.prog 165 = false := by kernel_rfl
theorem tsz166 : szT Try.prog 166 = some 11 := by kernel_rfl
theorem tby166 : byT Try.prog 166 = some 48 := by kernel_rfl
theorem tag166 : aggT Try.prog 166 = true := by kernel_rfl
theorem tze166 : zeroT Try.prog 166 = some (.agg ⟨[.int .u64 0, .int .u64 0, .int .u32 0, .int .u8 0, .int .u8 0, .int .u8 0, .int .u8 0, .nilFunc, .pointer none, .int .i32 0, .int .i32 0]⟩) := by kernel_rfl
theorem tpl166 : placesT Try.prog 166 = some [(0, 1), (1, 1), (2, 1), (3, 1), (4, 1), (5, 1), (6, 1), (7, 1), (8, 1), (9, 1), (10, 1)] := by kernel_rfl
theorem tfi166_0 : fieldOf Try.prog 166 0 = some (0, 12, 1) := by kernel_rfl
theorem tfi166_1 : fieldOf Try.prog 166 1 = some (1, 12, 1) := by kernel_rfl
theorem tfi166_2 : fieldOf Try.prog 166 2 = some (2, 146, 1) := by kernel_rfl
theorem tfi166_3 : fieldOf Try.prog 166 3 = some (3, 160, 1) := by kernel_rfl
theorem tfi166_4 : fieldOf Try.prog 166 4 = some (4, 5, 1) := by kernel_rfl
theorem tfi166_5 : fieldOf Try.prog 166 5 = some (5, 5, 1) := by kernel_rfl
theorem tfi166_6 : fieldOf Try.prog 166 6 = some (6, 161, 1) := by kernel_rfl
theorem tfi166_7 : fieldOf Try.prog 166 7 = some (7, 162, 1) := by kernel_rfl
theorem tfi166_8 : fieldOf Try.prog 166 8 = some (8, 163, 1) := by kernel_rfl
theorem tfi166_9 : fieldOf Try.prog 166 9 = some (9, 164, 1) := by kernel_rfl
theorem tfi166_10 : fieldOf Try.prog 166 10 = some (10, 165, 1) := by kernel_rfl
theorem tar166 : arrT Try.prog 166 = none := by kernel_rfl
theorem tbt166 : byteT Try.prog 166 = false := by kernel_rfl
theorem tst166 : strT Try.prog 166 = false := by kernel_rfl
theorem tsz167 : szT Try.prog 167 = some 11 := by kernel_rfl
theorem tby167 : byT Try.prog 167 = some 48 := by kernel_rfl
theorem tag167 : aggT Try.prog 167 = true := by kernel_rfl
theorem tze167 : zeroT Try.prog 167 = some (.agg ⟨[.int .u64 0, .int .u64 0, .int .u32 0, .int .u8 0, .int .u8 0, .int .u8 0, .int .u8 0, .nilFunc, .pointer none, .int .i32 0, .int .i32 0]⟩) := by kernel_rfl
theorem tpl167 : placesT Try.prog 167 = some [(0, 1), (1, 1), (2, 1), (3, 1), (4, 1), (5, 1), (6, 1), (7, 1), (8, 1), (9, 1), (10, 1)] := by kernel_rfl
theorem tfi167_0 : fieldOf Try.prog 167 0 = some (0, 12, 1) := by kernel_rfl
theorem tfi167_1 : fieldOf Try.prog 167 1 = some (1, 12, 1) := by kernel_rfl
theorem tfi167_2 : fieldOf Try.prog 167 2 = some (2, 146, 1) := by kernel_rfl
theorem tfi167_3 : fieldOf Try.prog 167 3 = some (3, 160, 1) := by kernel_rfl
theorem tfi167_4 : fieldOf Try.prog 167 4 = some (4, 5, 1) := by kernel_rfl
theorem tfi167_5 : fieldOf Try.prog 167 5 = some (5, 5, 1) := by kernel_rfl
theorem tfi167_6 : fieldOf Try.prog 167 6 = some (6, 161, 1) := by kernel_rfl
theorem tfi167_7 : fieldOf Try.prog 167 7 = some (7, 162, 1) := by kernel_rfl
theorem tfi167_8 : fieldOf Try.prog 167 8 = some (8, 163, 1) := by kernel_rfl
theorem tfi167_9 : fieldOf Try.prog 167 9 = some (9, 164, 1) := by kernel_rfl
theorem tfi167_10 : fieldOf Try.prog 167 10 = some (10, 165, 1) := by kernel_rfl
theorem tar167 : arrT Try.prog 167 = none := by kernel_rfl
theorem tbt167 : byteT Try.prog 167 = false := by kernel_rfl
theorem tst167 : strT Try.prog 167 = false := by kernel_rfl
theorem tsz168 : szT Try.prog 168 = some 1 := by kernel_rfl
theorem tby168 : byT Try.prog 168 = some 8 := by kernel_rfl
theorem tag168 : aggT Try.prog 168 = false := by kernel_rfl
theorem tze168 : zeroT Try.prog 168 = some (.pointer none) := by kernel_rfl
theorem tpl168 : placesT Try.prog 168 = none := by kernel_rfl
theorem tbt168 : byteT Try.prog 168 = false := by kernel_rfl
theorem tst168 : strT Try.prog 168 = false := by kernel_rfl
/-- Functions without a body. -/
def noBody : List Nat := [0, 1, 118, 125, 126, 127, 128, 129, 130, 131, 132, 133, 134, 135, 136, 137, 138, 139, 140, 141]
/-- That nothing is known from outside of functions with a body. -/
def XN (X : Ext) : Prop := ∀ f, noBody.contains f = false → X f = none
theorem mixed : Try.prog.follows .mixedOrders = true := by kernel_rfl
end Go.Proofs.Ytbakaopgdcojfaa.Sim
