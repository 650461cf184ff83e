/-
  Part 6 of the texts that lead to the theorem marketNested_card_holds: contracts of the functions that the law reaches.
-/
import Derived.Test.YtbnobbcpklcbgaaGreatDoorPartA4
import Derived.Test.YtbnobbcpklcbgaaGreatDoorProg
set_option linter.all false
set_option autoImplicit true
set_option relaxedAutoImplicit true
namespace Go.K
open Go.Proofs
theorem agg1 : aggB Tryz.prog 1 = some false := by kernel_rfl
theorem siz1 : sizeB Tryz.prog 1 = some 1 := by kernel_rfl
theorem zer1 : zeroB Tryz.prog 1 = some (.nilFunc) := by kernel_rfl
theorem inf1 : infoB Tryz.prog 1 = some (.nilFunc, 1, 8) := by kernel_rfl
theorem agg2 : aggB Tryz.prog 2 = some false := by kernel_rfl
theorem siz2 : sizeB Tryz.prog 2 = some 1 := by kernel_rfl
theorem zer2 : zeroB Tryz.prog 2 = some (.int .i64 0) := by kernel_rfl
theorem inf2 : infoB Tryz.prog 2 = some (.int .i64 0, 1, 8) := by kernel_rfl
theorem agg3 : aggB Tryz.prog 3 = some false := by kernel_rfl
theorem siz3 : sizeB Tryz.prog 3 = some 1 := by kernel_rfl
theorem zer3 : zeroB Tryz.prog 3 = some (.int .i64 0) := by kernel_rfl
theorem inf3 : infoB Tryz.prog 3 = some (.int .i64 0, 1, 8) := by kernel_rfl
theorem agg4 : aggB Tryz.prog 4 = some false := by kernel_rfl
theorem siz4 : sizeB Tryz.prog 4 = some 1 := by kernel_rfl
theorem zer4 : zeroB Tryz.prog 4 = some (.bool false) := by kernel_rfl
theorem agg5 : aggB Tryz.prog 5 = some false := by kernel_rfl
theorem siz5 : sizeB Tryz.prog 5 = some 1 := by kernel_rfl
theorem agg9 : aggB Tryz.prog 9 = some false := by kernel_rfl
theorem siz9 : sizeB Tryz.prog 9 = some 1 := by kernel_rfl
theorem zer9 : zeroB Tryz.prog 9 = some (.string ByteArray.empty) := by kernel_rfl
theorem inf9 : infoB Tryz.prog 9 = some (.string ByteArray.empty, 1, 16) := by kernel_rfl
theorem agg24 : aggB Tryz.prog 24 = some false := by kernel_rfl
theorem agg29 : aggB Tryz.prog 29 = some false := by kernel_rfl
theorem agg31 : aggB Tryz.prog 31 = some false := by kernel_rfl
theorem siz31 : sizeB Tryz.prog 31 = some 1 := by kernel_rfl
theorem agg32 : aggB Tryz.prog 32 = some false := by kernel_rfl
theorem siz32 : sizeB Tryz.prog 32 = some 1 := by kernel_rfl
theorem agg34 : aggB Tryz.prog 34 = some true := by kernel_rfl
theorem siz34 : sizeB Tryz.prog 34 = some 2 := by kernel_rfl
theorem zer34 : zeroB Tryz.prog 34 = some (.agg #[.slice none 0 0, .slice none 0 0]) := by kernel_rfl
theorem agg38 : aggB Tryz.prog 38 = some false := by kernel_rfl
theorem siz38 : sizeB Tryz.prog 38 = some 1 := by kernel_rfl
theorem zer38 : zeroB Tryz.prog 38 = some (.slice none 0 0) := by kernel_rfl
theorem agg40 : aggB Tryz.prog 40 = some true := by kernel_rfl
theorem siz40 : sizeB Tryz.prog 40 = some 4 := by kernel_rfl
theorem zer40 : zeroB Tryz.prog 40 = some (.agg #[.string ByteArray.empty, .int .i64 0, .slice none 0 0, .slice none 0 0]) := by kernel_rfl
theorem inf40 : infoB Tryz.prog 40 = some (.agg #[.string ByteArray.empty, .int .i64 0, .slice none 0 0, .slice none 0 0], 4, 72) := by kernel_rfl
theorem agg47 : aggB Tryz.prog 47 = some false := by kernel_rfl
theorem agg49 : aggB Tryz.prog 49 = some false := by kernel_rfl
theorem siz49 : sizeB Tryz.prog 49 = some 1 := by kernel_rfl
theorem agg51 : aggB Tryz.prog 51 = some true := by kernel_rfl
theorem siz51 : sizeB Tryz.prog 51 = some 2 := by kernel_rfl
theorem zer51 : zeroB Tryz.prog 51 = some (.agg #[.string ByteArray.empty, .int .i64 0]) := by kernel_rfl
theorem inf51 : infoB Tryz.prog 51 = some (.agg #[.string ByteArray.empty, .int .i64 0], 2, 24) := by kernel_rfl
theorem agg56 : aggB Tryz.prog 56 = some false := by kernel_rfl
theorem agg58 : aggB Tryz.prog 58 = some true := by kernel_rfl
theorem siz58 : sizeB Tryz.prog 58 = some 4 := by kernel_rfl
theorem zer58 : zeroB Tryz.prog 58 = some (.agg #[.int .i64 0, .int .i64 0, .string ByteArray.empty, .float .f64 0]) := by kernel_rfl
theorem inf58 : infoB Tryz.prog 58 = some (.agg #[.int .i64 0, .int .i64 0, .string ByteArray.empty, .float .f64 0], 4, 40) := by kernel_rfl
theorem agg60 : aggB Tryz.prog 60 = some false := by kernel_rfl
theorem agg63 : aggB Tryz.prog 63 = some false := by kernel_rfl
theorem siz63 : sizeB Tryz.prog 63 = some 1 := by kernel_rfl
theorem zer63 : zeroB Tryz.prog 63 = some (.pointer none) := by kernel_rfl
theorem agg69 : aggB Tryz.prog 69 = some false := by kernel_rfl
theorem agg70 : aggB Tryz.prog 70 = some false := by kernel_rfl
theorem agg72 : aggB Tryz.prog 72 = some false := by kernel_rfl
theorem agg77 : aggB Tryz.prog 77 = some false := by kernel_rfl
theorem zer77 : zeroB Tryz.prog 77 = some (.pointer none) := by kernel_rfl
theorem agg79 : aggB Tryz.prog 79 = some false := by kernel_rfl
theorem siz79 : sizeB Tryz.prog 79 = some 1 := by kernel_rfl
theorem zer79 : zeroB Tryz.prog 79 = some (.int .i64 0) := by kernel_rfl
theorem agg83 : aggB Tryz.prog 83 = some false := by kernel_rfl
theorem agg85 : aggB Tryz.prog 85 = some false := by kernel_rfl
theorem siz85 : sizeB Tryz.prog 85 = some 1 := by kernel_rfl
theorem zer89 : zeroB Tryz.prog 89 = some (.pointer none) := by kernel_rfl
theorem agg91 : aggB Tryz.prog 91 = some false := by kernel_rfl
theorem zer92 : zeroB Tryz.prog 92 = some (.pointer none) := by kernel_rfl
theorem agg93 : aggB Tryz.prog 93 = some false := by kernel_rfl
theorem agg94 : aggB Tryz.prog 94 = some false := by kernel_rfl
theorem agg100 : aggB Tryz.prog 100 = some false := by kernel_rfl
theorem siz104 : sizeB Tryz.prog 104 = some 1 := by kernel_rfl
theorem inf104 : infoB Tryz.prog 104 = some (.nilFunc, 1, 8) := by kernel_rfl
theorem siz107 : sizeB Tryz.prog 107 = some 1 := by kernel_rfl
theorem inf107 : infoB Tryz.prog 107 = some (.nilFunc, 1, 8) := by kernel_rfl
theorem agg114 : aggB Tryz.prog 114 = some false := by kernel_rfl
theorem agg117 : aggB Tryz.prog 117 = some false := by kernel_rfl
theorem siz117 : sizeB Tryz.prog 117 = some 1 := by kernel_rfl
theorem agg118 : aggB Tryz.prog 118 = some false := by kernel_rfl
theorem agg119 : aggB Tryz.prog 119 = some false := by kernel_rfl
theorem agg122 : aggB Tryz.prog 122 = some false := by kernel_rfl
theorem agg124 : aggB Tryz.prog 124 = some false := by kernel_rfl
theorem siz124 : sizeB Tryz.prog 124 = some 1 := by kernel_rfl
theorem agg127 : aggB Tryz.prog 127 = some false := by kernel_rfl
theorem agg135 : aggB Tryz.prog 135 = some false := by kernel_rfl
theorem agg141 : aggB Tryz.prog 141 = some true := by kernel_rfl
theorem siz141 : sizeB Tryz.prog 141 = some 3 := by kernel_rfl
theorem zer141 : zeroB Tryz.prog 141 = some (.agg #[.pointer none, .pointer none, .int .u64 0]) := by kernel_rfl
theorem agg144 : aggB Tryz.prog 144 = some false := by kernel_rfl
theorem agg155 : aggB Tryz.prog 155 = some false := by kernel_rfl
theorem siz155 : sizeB Tryz.prog 155 = some 1 := by kernel_rfl
theorem zer155 : zeroB Tryz.prog 155 = some (.slice none 0 0) := by kernel_rfl
theorem agg168 : aggB Tryz.prog 168 = some false := by kernel_rfl
theorem siz168 : sizeB Tryz.prog 168 = some 1 := by kernel_rfl
theorem agg214 : aggB Tryz.prog 214 = some true := by kernel_rfl
theorem siz214 : sizeB Tryz.prog 214 = some 3 := by kernel_rfl
theorem zer214 : zeroB Tryz.prog 214 = some (.agg #[.int .i64 0, .int .i64 0, .slice none 0 0]) := by kernel_rfl
theorem inf214 : infoB Tryz.prog 214 = some (.agg #[.int .i64 0, .int .i64 0, .slice none 0 0], 3, 40) := by kernel_rfl
theorem agg222 : aggB Tryz.prog 222 = some false := by kernel_rfl
theorem agg225 : aggB Tryz.prog 225 = some false := by kernel_rfl
theorem siz225 : sizeB Tryz.prog 225 = some 1 := by kernel_rfl
theorem agg242 : aggB Tryz.prog 242 = some false := by kernel_rfl
theorem ent6 : enters Tryz.prog 6 = true := by kernel_rfl
theorem ent7 : enters Tryz.prog 7 = true := by kernel_rfl
theorem ent8 : enters Tryz.prog 8 = true := by kernel_rfl
theorem ent9 : enters Tryz.prog 9 = true := by kernel_rfl
theorem ent10 : enters Tryz.prog 10 = true := by kernel_rfl
theorem ent13 : enters Tryz.prog 13 = true := by kernel_rfl
theorem ent14 : enters Tryz.prog 14 = true := by kernel_rfl
theorem ent15 : enters Tryz.prog 15 = true := by kernel_rfl
theorem ent16 : enters Tryz.prog 16 = true := by kernel_rfl
theorem ent17 : enters Tryz.prog 17 = true := by kernel_rfl
theorem ent19 : enters Tryz.prog 19 = true := by kernel_rfl
theorem ent21 : enters Tryz.prog 21 = true := by kernel_rfl
theorem ent22 : enters Tryz.prog 22 = true := by kernel_rfl
theorem ent23 : enters Tryz.prog 23 = true := by kernel_rfl
theorem ent24 : enters Tryz.prog 24 = true := by kernel_rfl
theorem ent25 : enters Tryz.prog 25 = true := by kernel_rfl
theorem ent26 : enters Tryz.prog 26 = true := by kernel_rfl
theorem ent27 : enters Tryz.prog 27 = true := by kernel_rfl
theorem ent28 : enters Tryz.prog 28 = true := by kernel_rfl
theorem ent29 : enters Tryz.prog 29 = true := by kernel_rfl
theorem ent30 : enters Tryz.prog 30 = true := by kernel_rfl
theorem ent31 : enters Tryz.prog 31 = true := by kernel_rfl
theorem ent32 : enters Tryz.prog 32 = true := by kernel_rfl
theorem ent33 : enters Tryz.prog 33 = true := by kernel_rfl
theorem ent34 : enters Tryz.prog 34 = true := by kernel_rfl
theorem ent35 : enters Tryz.prog 35 = true := by kernel_rfl
theorem ent37 : enters Tryz.prog 37 = true := by kernel_rfl
theorem ent38 : enters Tryz.prog 38 = true := by kernel_rfl
theorem ent39 : enters Tryz.prog 39 = true := by kernel_rfl
theorem ent40 : enters Tryz.prog 40 = true := by kernel_rfl
theorem ent41 : enters Tryz.prog 41 = true := by kernel_rfl
theorem ent42 : enters Tryz.prog 42 = true := by kernel_rfl
theorem ent43 : enters Tryz.prog 43 = true := by kernel_rfl
theorem ent44 : enters Tryz.prog 44 = true := by kernel_rfl
theorem ent45 : enters Tryz.prog 45 = true := by kernel_rfl
theorem ent47 : enters Tryz.prog 47 = true := by kernel_rfl
theorem ent48 : enters Tryz.prog 48 = true := by kernel_rfl
theorem ent49 : enters Tryz.prog 49 = true := by kernel_rfl
theorem ent50 : enters Tryz.prog 50 = true := by kernel_rfl
theorem ent52 : enters Tryz.prog 52 = true := by kernel_rfl
theorem ent53 : enters Tryz.prog 53 = true := by kernel_rfl
theorem ent54 : enters Tryz.prog 54 = true := by kernel_rfl
theorem ent55 : enters Tryz.prog 55 = true := by kernel_rfl
theorem ent56 : enters Tryz.prog 56 = true := by kernel_rfl
theorem ent57 : enters Tryz.prog 57 = true := by kernel_rfl
theorem ent58 : enters Tryz.prog 58 = true := by kernel_rfl
theorem ent59 : enters Tryz.prog 59 = true := by kernel_rfl
theorem ent63 : enters Tryz.prog 63 = true := by kernel_rfl
theorem ent65 : enters Tryz.prog 65 = true := by kernel_rfl
theorem ent66 : enters Tryz.prog 66 = true := by kernel_rfl
theorem ent67 : enters Tryz.prog 67 = true := by kernel_rfl
theorem ent68 : enters Tryz.prog 68 = true := by kernel_rfl
theorem ent69 : enters Tryz.prog 69 = true := by kernel_rfl
theorem ent70 : enters Tryz.prog 70 = true := by kernel_rfl
theorem ent71 : enters Tryz.prog 71 = true := by kernel_rfl
theorem ent72 : enters Tryz.prog 72 = true := by kernel_rfl
theorem ent73 : enters Tryz.prog 73 = true := by kernel_rfl
theorem ent74 : enters Tryz.prog 74 = true := by kernel_rfl
theorem ent75 : enters Tryz.prog 75 = true := by kernel_rfl
theorem ent78 : enters Tryz.prog 78 = true := by kernel_rfl
theorem ent79 : enters Tryz.prog 79 = true := by kernel_rfl
theorem ent80 : enters Tryz.prog 80 = true := by kernel_rfl
theorem ent81 : enters Tryz.prog 81 = true := by kernel_rfl
theorem ent84 : enters Tryz.prog 84 = true := by kernel_rfl
theorem ent85 : enters Tryz.prog 85 = true := by kernel_rfl
theorem ent86 : enters Tryz.prog 86 = true := by kernel_rfl
theorem ent87 : enters Tryz.prog 87 = true := by kernel_rfl
theorem ent88 : enters Tryz.prog 88 = true := by kernel_rfl
theorem ent89 : enters Tryz.prog 89 = true := by kernel_rfl
theorem ent95 : enters Tryz.prog 95 = true := by kernel_rfl
theorem ent96 : enters Tryz.prog 96 = true := by kernel_rfl
theorem ent97 : enters Tryz.prog 97 = true := by kernel_rfl
theorem ent98 : enters Tryz.prog 98 = true := by kernel_rfl
theorem ent99 : enters Tryz.prog 99 = true := by kernel_rfl
theorem ent103 : enters Tryz.prog 103 = true := by kernel_rfl
theorem ent104 : enters Tryz.prog 104 = true := by kernel_rfl
theorem ent105 : enters Tryz.prog 105 = true := by kernel_rfl
theorem ent106 : enters Tryz.prog 106 = true := by kernel_rfl
theorem ent113 : enters Tryz.prog 113 = true := by kernel_rfl
theorem ent114 : enters Tryz.prog 114 = true := by kernel_rfl
theorem ent115 : enters Tryz.prog 115 = true := by kernel_rfl
theorem ent118 : enters Tryz.prog 118 = true := by kernel_rfl
theorem ent119 : enters Tryz.prog 119 = true := by kernel_rfl
theorem ent120 : enters Tryz.prog 120 = true := by kernel_rfl
theorem ent121 : enters Tryz.prog 121 = true := by kernel_rfl
theorem ent122 : enters Tryz.prog 122 = true := by kernel_rfl
theorem ent123 : enters Tryz.prog 123 = true := by kernel_rfl
theorem ent125 : enters Tryz.prog 125 = true := by kernel_rfl
theorem ent133 : enters Tryz.prog 133 = true := by kernel_rfl
theorem ent134 : enters Tryz.prog 134 = true := by kernel_rfl
theorem ent135 : enters Tryz.prog 135 = true := by kernel_rfl
theorem ent136 : enters Tryz.prog 136 = true := by kernel_rfl
theorem ent137 : enters Tryz.prog 137 = true := by kernel_rfl
theorem ent157 : enters Tryz.prog 157 = true := by kernel_rfl
theorem ent158 : enters Tryz.prog 158 = true := by kernel_rfl
theorem ent160 : enters Tryz.prog 160 = true := by kernel_rfl
theorem ent161 : enters Tryz.prog 161 = true := by kernel_rfl
theorem ent162 : enters Tryz.prog 162 = true := by kernel_rfl
theorem ent163 : enters Tryz.prog 163 = true := by kernel_rfl
theorem ent164 : enters Tryz.prog 164 = true := by kernel_rfl
theorem ent165 : enters Tryz.prog 165 = true := by kernel_rfl
theorem ent166 : enters Tryz.prog 166 = true := by kernel_rfl
theorem ent167 : enters Tryz.prog 167 = true := by kernel_rfl
theorem ent170 : enters Tryz.prog 170 = true := by kernel_rfl
theorem ent214 : enters Tryz.prog 214 = true := by kernel_rfl
theorem ent215 : enters Tryz.prog 215 = true := by kernel_rfl
theorem ent216 : enters Tryz.prog 216 = true := by kernel_rfl
theorem ent219 : enters Tryz.prog 219 = true := by kernel_rfl
theorem ent229 : enters Tryz.prog 229 = true := by kernel_rfl
theorem ent230 : enters Tryz.prog 230 = true := by kernel_rfl
theorem ent231 : enters Tryz.prog 231 = true := by kernel_rfl
theorem ent232 : enters Tryz.prog 232 = true := by kernel_rfl
theorem ent269 : enters Tryz.prog 269 = true := by kernel_rfl
theorem ent270 : enters Tryz.prog 270 = true := by kernel_rfl
theorem ent278 : enters Tryz.prog 278 = true := by kernel_rfl
theorem ent440 : enters Tryz.prog 440 = true := by kernel_rfl
theorem ent441 : enters Tryz.prog 441 = true := by kernel_rfl
theorem ent442 : enters Tryz.prog 442 = true := by kernel_rfl
theorem ent443 : enters Tryz.prog 443 = true := by kernel_rfl
end Go.K

