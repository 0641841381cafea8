/- The program's functions that a closed run reaches, told for the small machine; printed by a tool of ours; no statement of the set is proved here. -/
import Derived.Test.YtfeddldjjpnjoaaGreatDoorL0
namespace Go.Wg
noncomputable section
def f121 : FnC := ⟨96, [.cell (some 8) 4],
 (.seq (.reg [⟨(some 4), none, .a (.new [(.i .u64 0), (.i .u32 0), (.i .u64 0), (.i .i64 0), (.i .i64 0), (.i .i64 0), .nilsl, .nilsl])⟩])
 (.seq (.reg [⟨(some 13), none, .q (.mov (.t 1))⟩,
 ⟨(some 14), none, .q (.mov (.t 1))⟩,
 ⟨(some 15), none, .q (.lenL (.t 14))⟩,
 ⟨(some 16), none, .q (.mn (.t 15) [(.c (.i .i64 8))])⟩,
 ⟨(some 17), none, .q (.sl 9 (.t 13) none (some (.t 16)) none)⟩,
 ⟨(some 1), none, .q (.mov (.t 17))⟩])
 (.seq (.reg [⟨(some 18), none, .q (.mov (.t 0))⟩,
 ⟨(some 19), none, .q (.mov (.t 0))⟩,
 ⟨(some 20), none, .q (.build [(.i .u64 0), (.i .u32 0), (.i .u64 0), (.i .i64 0)] [(0, 1, (.t 18)), (2, 1, (.t 19))])⟩,
 ⟨(some 21), none, .q (.mov (.t 0))⟩,
 ⟨(some 22), none, .q (.mov (.t 1))⟩,
 ⟨(some 23), none, .call (.c (.fn 169 [])) [(.t 21), (.t 22)]⟩,
 ⟨(some 24), none, .q (.build [(.i .u64 0), (.i .u32 0), (.i .u64 0), (.i .i64 0), (.i .i64 0), (.i .i64 0), .nilsl, .nilsl] [(0, 4, (.t 20)), (4, 1, (.t 23))])⟩,
 ⟨(some 5), none, .a (.new [(.i .u64 0), (.i .u32 0), (.i .u64 0), (.i .i64 0), (.i .i64 0), (.i .i64 0), .nilsl, .nilsl])⟩,
 ⟨none, none, .h (.st 8 (.t 5) (.t 24))⟩])
 (.seq (.seq (.reg [⟨(some 25), none, .q (.fa 4 (.t 5))⟩,
 ⟨(some 26), none, .q (.ld1 (.t 25))⟩,
 ⟨(some 27), none, .q (.bin .geq (.t 26) (.c (.i .i64 0)))⟩])
 (.cond (.t 27) (.seq (.reg [⟨(some 28), none, .q (.mov (.t 1))⟩,
 ⟨(some 29), none, .q (.fa 4 (.t 5))⟩,
 ⟨(some 30), none, .q (.ld1 (.t 29))⟩,
 ⟨(some 31), none, .q (.ia 9 (.t 28) (.t 30))⟩,
 ⟨(some 32), none, .q (.ldn 9 (.t 31))⟩,
 ⟨(some 6), none, .a (.new [(.b false), (.i .u32 0), (.b false), (.i .u64 0), (.i .u32 0), (.i .u64 0), (.i .i64 0), (.i .i64 0), (.i .i64 0)])⟩,
 ⟨none, none, .h (.st 9 (.t 6) (.t 32))⟩])
 (.seq (.reg [⟨(some 34), none, .q (.ldn 9 (.t 6))⟩,
 ⟨(some 35), none, .q (.mov (.t 0))⟩,
 ⟨(some 36), none, .call (.c (.fn 170 [])) [(.t 34), (.t 35)]⟩,
 ⟨(some 33), none, .q (.mov (.t 36))⟩,
 ⟨(some 37), none, .q (.ext 0 (.t 33))⟩,
 ⟨(some 38), none, .q (.ext 1 (.t 33))⟩,
 ⟨(some 7), none, .a (.new [(.i .u64 0), (.i .u32 0), (.i .u64 0), (.i .i64 0)])⟩,
 ⟨none, none, .h (.st 4 (.t 7) (.t 37))⟩,
 ⟨(some 8), none, .q (.mov (.t 38))⟩])
 (.dreg [⟨0, ⟨(some 39), none, .q (.fa 0 (.t 7))⟩, [7], none, [], []⟩,
 ⟨1, ⟨(some 40), none, .q (.ld1 (.t 39))⟩, [39], none, [], [0]⟩,
 ⟨2, ⟨(some 41), none, .q (.fa 1 (.t 7))⟩, [7], none, [], []⟩,
 ⟨3, ⟨(some 42), none, .q (.ld1 (.t 41))⟩, [41], none, [], [2]⟩,
 ⟨4, ⟨(some 43), none, .q (.fa 2 (.t 6))⟩, [6], none, [], []⟩,
 ⟨5, ⟨(some 44), none, .q (.fa 5 (.t 43))⟩, [43], none, [], [4]⟩,
 ⟨6, ⟨(some 45), none, .q (.ld1 (.t 44))⟩, [44], none, [], [5, 4]⟩,
 ⟨7, ⟨(some 46), none, .q (.bin .add (.t 45) (.c (.i .i64 1)))⟩, [45], none, [], [6, 5, 4]⟩,
 ⟨8, ⟨(some 47), none, .q (.fa 0 (.t 5))⟩, [5], none, [], [0, 1]⟩,
 ⟨9, ⟨(some 48), none, .q (.fa 0 (.t 47))⟩, [47], none, [], [8, 0, 1]⟩,
 ⟨10, ⟨none, none, .h (.st 1 (.t 48) (.t 40))⟩, [48, 40], none, [7, 6, 5, 4, 3, 2], [9, 1, 0, 8]⟩,
 ⟨11, ⟨(some 49), none, .q (.fa 0 (.t 5))⟩, [5], none, [], [0, 1, 2, 3, 8, 9, 10]⟩,
 ⟨12, ⟨(some 50), none, .q (.fa 1 (.t 49))⟩, [49], none, [], [11, 0, 1, 2, 3, 8, 9, 10]⟩,
 ⟨13, ⟨none, none, .h (.st 1 (.t 50) (.t 42))⟩, [50, 42], none, [8, 7, 6, 5], [12, 3, 10, 0, 1, 2, 8, 9, 11]⟩,
 ⟨14, ⟨(some 51), none, .q (.fa 5 (.t 5))⟩, [5], none, [], [0, 1, 2, 3, 4, 5, 6, 7, 8, 9, 10, 11, 12, 13]⟩,
 ⟨15, ⟨none, none, .h (.st 1 (.t 51) (.t 46))⟩, [51, 46], none, [], [14, 7, 13, 0, 1, 2, 3, 4, 5, 6, 8, 9, 10, 11, 12]⟩])))
 .skip))
 (.seq (.seq (.reg [⟨(some 52), none, .q (.mov (.t 1))⟩,
 ⟨(some 53), none, .q (.lenL (.t 52))⟩,
 ⟨(some 54), none, .q (.mov (.c (.i .i64 0)))⟩])
 (.block 0 (.loop (.seq (.reg [⟨(some 55), none, .q (.bin .lss (.t 54) (.t 53))⟩])
 (.seq (.cond (.t 55) .skip
 (.exit 0))
 (.seq (.block 1 (.seq (.reg [⟨(some 56), none, .q (.mov (.t 54))⟩,
 ⟨(some 57), none, .q (.ia 9 (.t 52) (.t 54))⟩,
 ⟨(some 58), none, .q (.ldn 9 (.t 57))⟩,
 ⟨(some 10), none, .a (.new [(.b false), (.i .u32 0), (.b false), (.i .u64 0), (.i .u32 0), (.i .u64 0), (.i .i64 0), (.i .i64 0), (.i .i64 0)])⟩,
 ⟨(some 9), none, .q (.mov (.t 56))⟩,
 ⟨none, none, .h (.st 9 (.t 10) (.t 58))⟩])
 (.seq (.reg [⟨(some 59), none, .q (.fa 0 (.t 5))⟩,
 ⟨(some 60), none, .q (.fa 0 (.t 59))⟩,
 ⟨(some 61), none, .q (.ld1 (.t 60))⟩,
 ⟨(some 62), none, .q (.fa 0 (.t 5))⟩,
 ⟨(some 63), none, .q (.fa 1 (.t 62))⟩,
 ⟨(some 64), none, .q (.ld1 (.t 63))⟩,
 ⟨(some 65), none, .q (.mov (.t 0))⟩,
 ⟨(some 66), none, .q (.mov (.t 9))⟩,
 ⟨(some 67), none, .q (.bin .add (.t 66) (.c (.i .i64 1)))⟩,
 ⟨(some 68), none, .q (.build [(.i .u64 0), (.i .u32 0), (.i .u64 0), (.i .i64 0)] [(0, 1, (.t 61)), (1, 1, (.t 64)), (2, 1, (.t 65)), (3, 1, (.t 67))])⟩,
 ⟨(some 11), none, .a (.new [(.i .u64 0), (.i .u32 0), (.i .u64 0), (.i .i64 0)])⟩,
 ⟨none, none, .h (.st 4 (.t 11) (.t 68))⟩])
 (.seq (.reg [⟨(some 12), none, .q (.mov (.c (.i .i64 2)))⟩])
 (.seq (.seq (.reg [⟨(some 69), none, .q (.mov (.t 9))⟩,
 ⟨(some 70), none, .q (.fa 4 (.t 5))⟩,
 ⟨(some 71), none, .q (.ld1 (.t 70))⟩,
 ⟨(some 72), none, .q (.bni .neq (.t 69) (.t 71))⟩,
 ⟨(some 73), none, .q (.mov (.t 72))⟩,
 ⟨(some 74), (some (73, false)), .q (.fa 0 (.t 10))⟩,
 ⟨(some 75), (some (73, false)), .q (.ld1 (.t 74))⟩,
 ⟨(some 76), (some (73, false)), .q (.un .not (.t 75))⟩,
 ⟨(some 77), none, .q (.pick (.t 73) (.c (.b true)) (.t 76))⟩])
 (.cond (.t 77) (.reg [⟨(some 78), none, .q (.ldn 9 (.t 10))⟩,
 ⟨(some 79), none, .q (.mov (.t 0))⟩,
 ⟨(some 80), none, .q (.ldn 4 (.t 11))⟩,
 ⟨(some 81), none, .call (.c (.fn 171 [])) [(.t 78), (.t 79), (.t 80)]⟩,
 ⟨(some 12), none, .q (.mov (.t 81))⟩])
 .skip))
 (.dreg [⟨0, ⟨(some 82), none, .q (.fa 6 (.t 5))⟩, [5], none, [], []⟩,
 ⟨1, ⟨(some 83), none, .q (.ld1 (.t 82))⟩, [82], none, [], [0]⟩,
 ⟨2, ⟨(some 84), none, .q (.mov (.t 12))⟩, [12], none, [], []⟩,
 ⟨5, ⟨(some 87), none, .q (.fa 7 (.t 5))⟩, [5], none, [], []⟩,
 ⟨6, ⟨(some 88), none, .q (.ld1 (.t 87))⟩, [87], none, [], [3]⟩,
 ⟨7, ⟨(some 89), none, .q (.ldn 4 (.t 11))⟩, [11], none, [], []⟩,
 ⟨3, ⟨(some 85), none, .a (.mkSl 1 1 [(.i .i64 0)] [(0, 1, (.t 84))])⟩, [84], none, [], [2]⟩,
 ⟨4, ⟨(some 86), none, .h (.app 1 8 (.t 83) (.t 85))⟩, [83, 85], none, [3, 2, 1], [1, 6, 0, 2]⟩,
 ⟨10, ⟨(some 92), none, .q (.fa 6 (.t 5))⟩, [5], none, [], [0, 1, 2, 6, 7, 3, 4]⟩,
 ⟨8, ⟨(some 90), none, .a (.mkSl 4 1 [(.i .u64 0), (.i .u32 0), (.i .u64 0), (.i .i64 0)] [(0, 4, (.t 89))])⟩, [89], none, [], [5]⟩,
 ⟨9, ⟨(some 91), none, .h (.app 4 32 (.t 88) (.t 90))⟩, [88, 90], none, [1], [4, 9, 7, 3, 5, 1, 6, 0, 2]⟩,
 ⟨11, ⟨none, none, .h (.st 1 (.t 92) (.t 86))⟩, [92, 86], none, [], [8, 7, 10, 0, 1, 2, 6, 3, 4, 9, 5]⟩,
 ⟨12, ⟨(some 93), none, .q (.fa 7 (.t 5))⟩, [5], none, [], [0, 1, 2, 6, 7, 3, 4, 5, 9, 10, 8, 11]⟩,
 ⟨13, ⟨none, none, .h (.st 1 (.t 93) (.t 91))⟩, [93, 91], none, [], [12, 10, 11, 0, 1, 2, 6, 7, 3, 4, 5, 9, 8]⟩]))))))
 (.reg [⟨(some 94), none, .q (.bin .add (.t 54) (.c (.i .i64 1)))⟩,
 ⟨(some 54), none, .q (.mov (.t 94))⟩])))))))
 (.seq (.reg [⟨(some 95), none, .q (.ldn 8 (.t 5))⟩,
 ⟨none, none, .h (.st 8 (.t 4) (.t 95))⟩])
 .ret))))))⟩
def f122 : FnC := ⟨22, [.tmp 2],
 (.seq (.reg [⟨(some 2), none, .q (.mov (.c .nilsl))⟩])
 (.seq (.reg [⟨(some 3), none, .q (.mov (.c .nilsl))⟩])
 (.seq (.seq (.reg [⟨(some 6), none, .q (.mov (.t 0))⟩,
 ⟨(some 7), none, .q (.nck (.t 6))⟩,
 ⟨(some 8), none, .q (.fa 3 (.t 7))⟩,
 ⟨(some 9), none, .q (.ld1 (.t 8))⟩,
 ⟨(some 10), none, .q (.lenL (.t 9))⟩,
 ⟨(some 11), none, .q (.mov (.c (.i .i64 0)))⟩])
 (.block 0 (.loop (.seq (.reg [⟨(some 12), none, .q (.bin .lss (.t 11) (.t 10))⟩])
 (.seq (.cond (.t 12) .skip
 (.exit 0))
 (.seq (.block 1 (.seq (.reg [⟨(some 13), none, .q (.ia 13 (.t 9) (.t 11))⟩,
 ⟨(some 14), none, .q (.ldn 13 (.t 13))⟩,
 ⟨(some 5), none, .a (.new [(.b false), (.i .u32 0), (.b false), (.i .u64 0), (.i .u32 0), (.i .u64 0), (.i .i64 0), (.i .i64 0), (.i .i64 0), (.i .i64 0), (.i .i64 0), (.i .i64 0), (.b false)])⟩,
 ⟨none, none, .h (.st 13 (.t 5) (.t 14))⟩])
 (.reg [⟨(some 15), none, .q (.mov (.t 3))⟩,
 ⟨(some 16), none, .q (.fa 0 (.t 5))⟩,
 ⟨(some 17), none, .q (.ldn 9 (.t 16))⟩,
 ⟨(some 18), none, .a (.mkSl 9 1 [(.b false), (.i .u32 0), (.b false), (.i .u64 0), (.i .u32 0), (.i .u64 0), (.i .i64 0), (.i .i64 0), (.i .i64 0)] [(0, 9, (.t 17))])⟩,
 ⟨(some 19), none, .h (.app 9 64 (.t 15) (.t 18))⟩,
 ⟨(some 3), none, .q (.mov (.t 19))⟩])))
 (.reg [⟨(some 20), none, .q (.bin .add (.t 11) (.c (.i .i64 1)))⟩,
 ⟨(some 11), none, .q (.mov (.t 20))⟩])))))))
 (.seq (.reg [⟨(some 21), none, .q (.mov (.t 3))⟩,
 ⟨(some 2), none, .q (.mov (.t 21))⟩])
 .ret))))⟩
def f123 : FnC := ⟨47, [.tmp 6],
 (.seq (.reg [⟨(some 6), none, .q (.mov (.c (.b false)))⟩])
 (.seq (.seq (.reg [⟨(some 8), none, .q (.mov (.t 0))⟩,
 ⟨(some 9), none, .q (.eqr false .ptr (.t 8) (.c .nilp))⟩,
 ⟨(some 10), none, .q (.mov (.t 9))⟩,
 ⟨(some 11), (some (10, false)), .q (.mov (.t 1))⟩,
 ⟨(some 12), (some (10, false)), .q (.mov (.t 0))⟩,
 ⟨(some 13), (some (10, false)), .q (.nck (.t 12))⟩,
 ⟨(some 14), (some (10, false)), .q (.fa 9 (.t 13))⟩,
 ⟨(some 15), (some (10, false)), .q (.ld1 (.t 14))⟩,
 ⟨(some 16), (some (10, false)), .q (.bni .eql (.t 11) (.t 15))⟩,
 ⟨(some 17), none, .q (.pick (.t 10) (.c (.b true)) (.t 16))⟩,
 ⟨(some 18), none, .q (.mov (.t 17))⟩,
 ⟨(some 19), (some (18, false)), .q (.mov (.t 1))⟩,
 ⟨(some 20), (some (18, false)), .q (.bin .lss (.t 19) (.c (.i .i64 0)))⟩,
 ⟨(some 21), none, .q (.pick (.t 18) (.c (.b true)) (.t 20))⟩,
 ⟨(some 22), none, .q (.mov (.t 21))⟩,
 ⟨(some 23), (some (22, false)), .q (.mov (.t 1))⟩,
 ⟨(some 24), (some (22, false)), .q (.bin .gtr (.t 23) (.c (.i .i64 4)))⟩,
 ⟨(some 25), none, .q (.pick (.t 22) (.c (.b true)) (.t 24))⟩])
 (.cond (.t 25) (.seq (.reg [⟨(some 6), none, .q (.mov (.c (.b false)))⟩])
 .ret)
 .skip))
 (.seq (.reg [⟨(some 26), none, .q (.mov (.t 0))⟩,
 ⟨(some 27), none, .call (.c (.fn 124 [])) [(.t 26)]⟩,
 ⟨(some 7), none, .q (.mov (.t 27))⟩])
 (.seq (.reg [⟨(some 28), none, .q (.mov (.t 0))⟩,
 ⟨(some 29), none, .q (.mov (.t 0))⟩,
 ⟨(some 30), none, .q (.mov (.t 1))⟩,
 ⟨(some 31), none, .q (.nck (.t 28))⟩,
 ⟨(some 32), none, .q (.fa 9 (.t 31))⟩,
 ⟨none, none, .h (.st 1 (.t 32) (.t 30))⟩,
 ⟨(some 33), none, .q (.nck (.t 29))⟩,
 ⟨(some 34), none, .q (.fa 12 (.t 33))⟩,
 ⟨none, none, .h (.st 1 (.t 34) (.c (.b false)))⟩])
 (.seq (.block 0 (.seq (.reg [⟨(some 36), none, .q (.mov (.t 0))⟩,
 ⟨(some 37), none, .call (.c (.fn 124 [])) [(.t 36)]⟩,
 ⟨(some 38), none, .q (.un .not (.t 37))⟩,
 ⟨(some 35), none, .q (.mov (.t 38))⟩])
 (.cond (.t 35) .dead
 (.seq (.reg [⟨(some 42), none, .q (.mov (.t 7))⟩,
 ⟨(some 43), none, .q (.un .not (.t 42))⟩,
 ⟨(some 41), none, .q (.mov (.t 43))⟩])
 (.cond (.t 41) (.seq (.reg [⟨(some 44), none, .q (.mov (.t 0))⟩,
 ⟨(some 45), none, .q (.mov (.t 2))⟩,
 ⟨(some 46), none, .call (.c (.fn 125 [])) [(.t 44), (.c (.i .i64 0)), (.t 45)]⟩,
 ⟨(some 6), none, .q (.mov (.t 46))⟩])
 .ret)
 .skip)))))
 (.seq (.reg [⟨(some 6), none, .q (.mov (.c (.b false)))⟩])
 .ret))))))⟩
def f124 : FnC := ⟨12, [.tmp 2],
 (.seq (.reg [⟨(some 2), none, .q (.mov (.c (.b false)))⟩])
 (.seq (.reg [⟨(some 3), none, .q (.mov (.t 0))⟩,
 ⟨(some 4), none, .q (.eqr true .ptr (.t 3) (.c .nilp))⟩,
 ⟨(some 5), none, .q (.mov (.t 4))⟩,
 ⟨(some 6), (some (5, true)), .q (.mov (.t 0))⟩,
 ⟨(some 7), (some (5, true)), .q (.nck (.t 6))⟩,
 ⟨(some 8), (some (5, true)), .q (.fa 9 (.t 7))⟩,
 ⟨(some 9), (some (5, true)), .q (.ld1 (.t 8))⟩,
 ⟨(some 10), (some (5, true)), .call (.c (.fn 172 [])) [(.t 9)]⟩,
 ⟨(some 11), none, .q (.pick (.t 5) (.t 10) (.c (.b false)))⟩,
 ⟨(some 2), none, .q (.mov (.t 11))⟩])
 .ret))⟩
def f125 : FnC := ⟨23, [.tmp 6],
 (.seq (.reg [⟨(some 6), none, .q (.mov (.c (.b false)))⟩])
 (.seq (.reg [⟨(some 8), none, .q (.mov (.t 0))⟩,
 ⟨(some 9), none, .q (.nck (.t 8))⟩,
 ⟨(some 10), none, .q (.fa 10 (.t 9))⟩,
 ⟨(some 11), none, .q (.ld1 (.t 10))⟩,
 ⟨(some 7), none, .q (.mov (.t 11))⟩])
 (.seq (.reg [⟨(some 12), none, .q (.mov (.t 0))⟩,
 ⟨(some 13), none, .q (.mov (.t 0))⟩,
 ⟨(some 14), none, .q (.mov (.t 1))⟩,
 ⟨(some 15), none, .q (.mov (.t 2))⟩,
 ⟨(some 16), none, .q (.nck (.t 12))⟩,
 ⟨(some 17), none, .q (.fa 10 (.t 16))⟩,
 ⟨none, none, .h (.st 1 (.t 17) (.t 14))⟩,
 ⟨(some 18), none, .q (.nck (.t 13))⟩,
 ⟨(some 19), none, .q (.fa 11 (.t 18))⟩,
 ⟨none, none, .h (.st 1 (.t 19) (.t 15))⟩])
 (.seq (.reg [⟨(some 20), none, .q (.mov (.t 7))⟩,
 ⟨(some 21), none, .q (.mov (.t 1))⟩,
 ⟨(some 22), none, .q (.bni .neq (.t 20) (.t 21))⟩,
 ⟨(some 6), none, .q (.mov (.t 22))⟩])
 .ret))))⟩
def f127 : FnC := ⟨9, [.tmp 4],
 (.seq (.reg [⟨(some 4), none, .q (.mov (.c (.b false)))⟩])
 (.seq (.reg [⟨(some 5), none, .q (.mov (.t 0))⟩,
 ⟨(some 6), none, .q (.mov (.t 1))⟩,
 ⟨(some 7), none, .call (.c (.fn 173 [])) [(.t 5), (.t 6)]⟩,
 ⟨(some 8), none, .q (.bin .geq (.t 7) (.c (.i .i64 0)))⟩,
 ⟨(some 4), none, .q (.mov (.t 8))⟩])
 .ret))⟩
def f128 : FnC := ⟨25, [],
 (.block 0 (.loop (.seq (.seq (.reg [⟨(some 6), none, .q (.mov (.t 2))⟩,
 ⟨(some 7), none, .q (.bin .gtr (.t 6) (.c (.i .i64 0)))⟩])
 (.cond (.t 7) .skip
 (.exit 0)))
 (.seq (.block 1 (.dreg [⟨0, ⟨(some 10), none, .q (.mov (.t 0))⟩, [0], none, [], []⟩,
 ⟨1, ⟨(some 11), none, .q (.mov (.t 0))⟩, [0], none, [], []⟩,
 ⟨2, ⟨(some 12), none, .q (.nck (.t 11))⟩, [11], none, [], [1]⟩,
 ⟨3, ⟨(some 13), none, .q (.fa 0 (.t 12))⟩, [12], none, [], [2, 1]⟩,
 ⟨4, ⟨(some 14), none, .q (.ld1 (.t 13))⟩, [13], none, [], [3, 2, 1]⟩,
 ⟨5, ⟨(some 15), none, .q (.mov (.t 1))⟩, [1], none, [], []⟩,
 ⟨6, ⟨(some 16), none, .q (.mov (.t 2))⟩, [2], none, [], []⟩,
 ⟨7, ⟨(some 17), none, .q (.bin .sub (.t 16) (.c (.i .i64 1)))⟩, [16], none, [], [6]⟩,
 ⟨8, ⟨(some 18), none, .q (.bin .mul (.c (.i .i64 8)) (.t 17))⟩, [17], none, [], [7, 6]⟩,
 ⟨9, ⟨(some 19), none, .q (.bin .shr (.t 15) (.t 18))⟩, [15, 18], none, [], [5, 8, 7, 6]⟩,
 ⟨10, ⟨(some 20), none, .q (.cvi .u8 (.t 19))⟩, [19], none, [], [9, 5, 8, 7, 6]⟩,
 ⟨11, ⟨(some 21), none, .a (.mkSl 1 1 [(.i .u8 0)] [(0, 1, (.t 20))])⟩, [20], none, [], [10, 9, 5, 8, 7, 6]⟩,
 ⟨12, ⟨(some 22), none, .h (.app 1 1 (.t 14) (.t 21))⟩, [14, 21], none, [11], [4, 11, 3, 2, 1, 10, 9, 5, 8, 7, 6]⟩,
 ⟨13, ⟨(some 23), none, .q (.nck (.t 10))⟩, [10], none, [], [0, 1, 2, 3, 4, 5, 6, 7, 8, 9, 10, 11, 12]⟩,
 ⟨14, ⟨(some 24), none, .q (.fa 0 (.t 23))⟩, [23], none, [], [13, 0, 1, 2, 3, 4, 5, 6, 7, 8, 9, 10, 11, 12]⟩,
 ⟨15, ⟨none, none, .h (.st 1 (.t 24) (.t 22))⟩, [24, 22], none, [], [14, 12, 0, 1, 2, 3, 4, 5, 6, 7, 8, 9, 10, 11, 13]⟩]))
 (.reg [⟨(some 8), none, .q (.mov (.t 2))⟩,
 ⟨(some 9), none, .q (.bin .sub (.t 8) (.c (.i .i64 1)))⟩,
 ⟨(some 2), none, .q (.mov (.t 9))⟩])))))⟩
def f129 : FnC := ⟨45, [.tmp 2],
 (.seq (.reg [⟨(some 2), none, .q (.mov (.c (.i .u8 0)))⟩])
 (.seq (.dreg [⟨0, ⟨(some 3), none, .q (.mov (.t 0))⟩, [0], none, [], []⟩,
 ⟨1, ⟨(some 4), none, .q (.nck (.t 3))⟩, [3], none, [], [0]⟩,
 ⟨2, ⟨(some 5), none, .q (.fa 0 (.t 4))⟩, [4], none, [], [1, 0]⟩,
 ⟨3, ⟨(some 6), none, .q (.fa 10 (.t 5))⟩, [5], none, [], [2, 1, 0]⟩,
 ⟨4, ⟨(some 7), none, .q (.ld1 (.t 6))⟩, [6], none, [], [3, 2, 1, 0]⟩,
 ⟨6, ⟨(some 9), none, .q (.mov (.t 0))⟩, [0], none, [], []⟩,
 ⟨7, ⟨(some 10), none, .q (.nck (.t 9))⟩, [9], none, [], [5]⟩,
 ⟨8, ⟨(some 11), none, .q (.fa 0 (.t 10))⟩, [10], none, [], [6, 5]⟩,
 ⟨9, ⟨(some 12), none, .q (.fa 6 (.t 11))⟩, [11], none, [], [7, 6, 5]⟩,
 ⟨10, ⟨(some 13), none, .q (.ld1 (.t 12))⟩, [12], none, [], [8, 7, 6, 5]⟩,
 ⟨13, ⟨(some 16), none, .q (.mov (.t 0))⟩, [0], none, [], []⟩,
 ⟨14, ⟨(some 17), none, .q (.nck (.t 16))⟩, [16], none, [], [10]⟩,
 ⟨15, ⟨(some 18), none, .q (.fa 0 (.t 17))⟩, [17], none, [], [11, 10]⟩,
 ⟨16, ⟨(some 19), none, .q (.fa 5 (.t 18))⟩, [18], none, [], [12, 11, 10]⟩,
 ⟨17, ⟨(some 20), none, .q (.ld1 (.t 19))⟩, [19], none, [], [13, 12, 11, 10]⟩,
 ⟨18, ⟨(some 21), none, .q (.cvi .u8 (.t 20))⟩, [20], none, [], [14, 13, 12, 11, 10]⟩,
 ⟨19, ⟨(some 22), none, .q (.bin .shl (.t 21) (.c (.i .u64 2)))⟩, [21], none, [], [15, 14, 13, 12, 11, 10]⟩,
 ⟨21, ⟨(some 24), none, .q (.mov (.t 0))⟩, [0], none, [], []⟩,
 ⟨22, ⟨(some 25), none, .q (.nck (.t 24))⟩, [24], none, [], [17]⟩,
 ⟨23, ⟨(some 26), none, .q (.fa 0 (.t 25))⟩, [25], none, [], [18, 17]⟩,
 ⟨24, ⟨(some 27), none, .q (.fa 8 (.t 26))⟩, [26], none, [], [19, 18, 17]⟩,
 ⟨25, ⟨(some 28), none, .q (.ld1 (.t 27))⟩, [27], none, [], [20, 19, 18, 17]⟩,
 ⟨28, ⟨(some 31), none, .q (.mov (.t 0))⟩, [0], none, [], []⟩,
 ⟨29, ⟨(some 32), none, .q (.nck (.t 31))⟩, [31], none, [], [22]⟩,
 ⟨30, ⟨(some 33), none, .q (.fa 0 (.t 32))⟩, [32], none, [], [23, 22]⟩,
 ⟨31, ⟨(some 34), none, .q (.fa 9 (.t 33))⟩, [33], none, [], [24, 23, 22]⟩,
 ⟨32, ⟨(some 35), none, .q (.ld1 (.t 34))⟩, [34], none, [], [25, 24, 23, 22]⟩,
 ⟨35, ⟨(some 38), none, .q (.mov (.t 0))⟩, [0], none, [], []⟩,
 ⟨36, ⟨(some 39), none, .q (.nck (.t 38))⟩, [38], none, [], [27]⟩,
 ⟨37, ⟨(some 40), none, .q (.fa 0 (.t 39))⟩, [39], none, [], [28, 27]⟩,
 ⟨38, ⟨(some 41), none, .q (.fa 7 (.t 40))⟩, [40], none, [], [29, 28, 27]⟩,
 ⟨39, ⟨(some 42), none, .q (.ld1 (.t 41))⟩, [41], none, [], [30, 29, 28, 27]⟩,
 ⟨5, ⟨(some 8), none, .call (.c (.fn 174 [])) [(.t 7), (.c (.i .u8 1))]⟩, [7], none, [26, 25, 24, 23, 22, 21, 20, 19, 18, 17, 16, 15, 14, 13, 12, 11, 10, 9, 8, 7, 6, 5, 4, 3, 2, 1, 0], [4, 3, 2, 1, 0]⟩,
 ⟨11, ⟨(some 14), none, .call (.c (.fn 174 [])) [(.t 13), (.c (.i .u8 2))]⟩, [13], none, [22, 21, 20, 19, 18, 17, 16, 15, 14, 13, 12, 11, 10, 9, 8, 7, 6, 5, 4, 3, 2, 1], [9, 32, 8, 7, 6, 5, 4, 3, 2, 1, 0]⟩,
 ⟨12, ⟨(some 15), none, .q (.bin .or (.t 8) (.t 14))⟩, [8, 14], none, [], [32, 33, 4, 3, 2, 1, 0, 9, 8, 7, 6, 5]⟩,
 ⟨20, ⟨(some 23), none, .q (.bin .or (.t 15) (.t 22))⟩, [15, 22], none, [], [34, 16, 32, 33, 4, 3, 2, 1, 0, 9, 8, 7, 6, 5, 15, 14, 13, 12, 11, 10]⟩,
 ⟨26, ⟨(some 29), none, .call (.c (.fn 174 [])) [(.t 28), (.c (.i .u8 16))]⟩, [28], none, [25, 24, 23, 22, 21, 20, 19, 13, 12, 11, 10, 9, 8, 7, 6, 5, 4, 1, 0], [21, 33, 20, 19, 18, 17, 9, 32, 8, 7, 6, 5, 4, 3, 2, 1, 0]⟩,
 ⟨27, ⟨(some 30), none, .q (.bin .or (.t 23) (.t 29))⟩, [23, 29], none, [], [35, 36, 34, 16, 32, 33, 4, 3, 2, 1, 0, 9, 8, 7, 6, 5, 15, 14, 13, 12, 11, 10, 21, 20, 19, 18, 17]⟩,
 ⟨33, ⟨(some 36), none, .call (.c (.fn 174 [])) [(.t 35), (.c (.i .u8 32))]⟩, [35], none, [27, 26, 25, 24, 23, 22, 21, 10, 9, 8, 7, 6, 3, 2, 0], [26, 36, 25, 24, 23, 22, 21, 33, 20, 19, 18, 17, 9, 32, 8, 7, 6, 5, 4, 3, 2, 1, 0]⟩,
 ⟨34, ⟨(some 37), none, .q (.bin .or (.t 30) (.t 36))⟩, [30, 36], none, [], [37, 38, 35, 36, 34, 16, 32, 33, 4, 3, 2, 1, 0, 9, 8, 7, 6, 5, 15, 14, 13, 12, 11, 10, 21, 20, 19, 18, 17, 26, 25, 24, 23, 22]⟩,
 ⟨40, ⟨(some 43), none, .call (.c (.fn 174 [])) [(.t 42), (.c (.i .u8 64))]⟩, [42], none, [29, 28, 27, 26, 25, 24, 23, 5, 4, 2, 0], [31, 38, 30, 29, 28, 27, 26, 36, 25, 24, 23, 22, 21, 33, 20, 19, 18, 17, 9, 32, 8, 7, 6, 5, 4, 3, 2, 1, 0]⟩,
 ⟨41, ⟨(some 44), none, .q (.bin .or (.t 37) (.t 43))⟩, [37, 43], none, [], [39, 40, 37, 38, 35, 36, 34, 16, 32, 33, 4, 3, 2, 1, 0, 9, 8, 7, 6, 5, 15, 14, 13, 12, 11, 10, 21, 20, 19, 18, 17, 26, 25, 24, 23, 22, 31, 30, 29, 28, 27]⟩,
 ⟨42, ⟨(some 2), none, .q (.mov (.t 44))⟩, [44], none, [], [41, 40, 0, 1, 2, 3, 4, 32, 5, 6, 7, 8, 9, 33, 34, 10, 11, 12, 13, 14, 15, 16, 35, 17, 18, 19, 20, 21, 36, 37, 22, 23, 24, 25, 26, 38, 39, 27, 28, 29, 30, 31]⟩])
 .ret))⟩
def f130 : FnC := ⟨8, [.tmp 4],
 (.seq (.reg [⟨(some 4), none, .q (.mov (.c .nilsl))⟩])
 (.seq (.reg [⟨(some 5), none, .q (.mov (.t 0))⟩,
 ⟨(some 6), none, .q (.mov (.t 1))⟩,
 ⟨(some 7), none, .call (.c (.fn 175 [])) [(.t 5), (.t 6), (.c (.i .i64 0)), (.c (.i .i64 (-1)))]⟩,
 ⟨(some 4), none, .q (.mov (.t 7))⟩])
 .ret))⟩
def f131 : FnC := ⟨13, [.cell (some 9) 6],
 (.seq (.reg [⟨(some 6), none, .a (.new [(.i .i64 0), (.i .i64 0), (.i .i64 0), (.i .i64 0), (.i .i64 0), (.i .u8 0), (.i .u8 0), (.i .u64 0), (.s ⟨#[]⟩)])⟩])
 (.seq (.reg [⟨(some 7), none, .q (.mov (.t 0))⟩,
 ⟨(some 8), none, .q (.mov (.t 1))⟩,
 ⟨(some 9), none, .q (.build [(.i .i64 0), (.i .i64 0), (.i .i64 0), (.i .i64 0), (.i .u8 0), (.i .u8 0), (.i .u64 0)] [(0, 1, (.t 7)), (2, 1, (.t 8))])⟩,
 ⟨(some 10), none, .q (.build [(.i .i64 0), (.i .i64 0), (.i .i64 0), (.i .i64 0), (.i .i64 0), (.i .u8 0), (.i .u8 0), (.i .u64 0)] [(0, 1, (.c (.i .i64 1))), (1, 7, (.t 9))])⟩,
 ⟨(some 11), none, .q (.mov (.t 2))⟩,
 ⟨(some 12), none, .q (.build [(.i .i64 0), (.i .i64 0), (.i .i64 0), (.i .i64 0), (.i .i64 0), (.i .u8 0), (.i .u8 0), (.i .u64 0), (.s ⟨#[]⟩)] [(0, 8, (.t 10)), (8, 1, (.t 11))])⟩,
 ⟨none, none, .h (.st 9 (.t 6) (.t 12))⟩])
 .ret))⟩
def f132 : FnC := ⟨85, [.tmp 6],
 (.seq (.reg [⟨(some 6), none, .q (.mov (.c (.b false)))⟩])
 (.seq (.reg [⟨(some 7), none, .q (.mov (.c (.b false)))⟩])
 (.seq (.seq (.reg [⟨(some 11), none, .q (.mov (.t 1))⟩])
 (.block 0 (.seq (.reg [⟨(some 16), none, .q (.bni .eql (.t 11) (.c (.s ⟨#[78]⟩)))⟩,
 ⟨(some 15), none, .q (.mov (.t 16))⟩])
 (.cond (.t 15) .dead
 (.seq (.reg [⟨(some 27), none, .q (.bni .eql (.t 11) (.c (.s ⟨#[80]⟩)))⟩,
 ⟨(some 26), none, .q (.mov (.t 27))⟩])
 (.cond (.t 26) .dead
 (.seq (.reg [⟨(some 38), none, .q (.bni .eql (.t 11) (.c (.s ⟨#[86]⟩)))⟩,
 ⟨(some 37), none, .q (.mov (.t 38))⟩])
 (.cond (.t 37) .dead
 (.seq (.seq (.reg [⟨(some 49), none, .q (.bni .eql (.t 11) (.c (.s ⟨#[77]⟩)))⟩,
 ⟨(some 48), none, .q (.mov (.t 49))⟩])
 (.cond (.t 48) .dead
 (.reg [⟨(some 50), none, .q (.bni .eql (.t 11) (.c (.s ⟨#[84]⟩)))⟩,
 ⟨(some 48), none, .q (.mov (.t 50))⟩])))
 (.cond (.t 48) .dead
 (.seq (.reg [⟨(some 71), none, .q (.bni .eql (.t 11) (.c (.s ⟨#[65]⟩)))⟩,
 ⟨(some 70), none, .q (.mov (.t 71))⟩])
 (.cond (.t 70) .dead
 (.seq (.reg [⟨(some 12), none, .q (.mov (.t 2))⟩,
 ⟨(some 13), none, .q (.mov (.t 1))⟩,
 ⟨(some 14), none, .q (.bni .eql (.t 12) (.t 13))⟩,
 ⟨(some 6), none, .q (.mov (.t 14))⟩])
 .ret)))))))))))))
 .dead)))⟩
def f142 : FnC := ⟨4, [.tmp 2],
 (.seq (.reg [⟨(some 2), none, .q (.mov (.c (.i .i64 0)))⟩])
 (.seq (.seq (.reg [⟨(some 3), none, .q (.mov (.t 0))⟩])
 (.cond (.t 3) .dead
 .skip))
 (.seq (.reg [⟨(some 2), none, .q (.mov (.c (.i .i64 1504)))⟩])
 .ret)))⟩
def f143 : FnC := ⟨61, [.tmp 6],
 (.seq (.reg [⟨(some 5), none, .a (.box (.t 2))⟩,
 ⟨(some 6), none, .q (.mov (.c .nilsl))⟩])
 (.seq (.reg [⟨(some 8), none, .q (.mov (.t 0))⟩,
 ⟨(some 9), none, .q (.nck (.t 8))⟩,
 ⟨(some 10), none, .q (.fa 3 (.t 9))⟩,
 ⟨(some 11), none, .q (.ld1 (.t 10))⟩,
 ⟨(some 12), none, .q (.mov (.t 1))⟩,
 ⟨(some 13), none, .q (.ia 13 (.t 11) (.t 12))⟩,
 ⟨(some 7), none, .q (.mov (.t 13))⟩])
 (.seq (.seq (.reg [⟨(some 14), none, .q (.fa 5 (.t 5))⟩,
 ⟨(some 15), none, .q (.ld1 (.t 14))⟩,
 ⟨(some 16), none, .q (.bni .eql (.t 15) (.c (.i .i64 3)))⟩])
 (.cond (.t 16) (.seq (.dreg [⟨0, ⟨(some 17), none, .q (.mov (.t 7))⟩, [7], none, [], []⟩,
 ⟨1, ⟨(some 18), none, .q (.nck (.t 17))⟩, [17], none, [], [0]⟩,
 ⟨2, ⟨(some 19), none, .q (.fa 0 (.t 18))⟩, [18], none, [], [1, 0]⟩,
 ⟨3, ⟨(some 20), none, .q (.fa 2 (.t 19))⟩, [19], none, [], [2, 1, 0]⟩,
 ⟨4, ⟨(some 21), none, .q (.ldn 11 (.t 5))⟩, [5], none, [], []⟩,
 ⟨5, ⟨(some 22), none, .q (.mov (.t 0))⟩, [0], none, [], []⟩,
 ⟨6, ⟨(some 23), none, .q (.nck (.t 22))⟩, [22], none, [], [5]⟩,
 ⟨7, ⟨(some 24), none, .q (.fa 0 (.t 23))⟩, [23], none, [], [6, 5]⟩,
 ⟨8, ⟨(some 25), none, .q (.fa 0 (.t 24))⟩, [24], none, [], [7, 6, 5]⟩,
 ⟨9, ⟨(some 26), none, .q (.ld1 (.t 25))⟩, [25], none, [], [8, 7, 6, 5]⟩,
 ⟨10, ⟨(some 27), none, .call (.c (.fn 189 [])) [(.t 20), (.t 21), (.t 26)]⟩, [20, 21, 26], none, [], [3, 4, 9, 2, 1, 0, 8, 7, 6, 5]⟩])
 (.seq (.reg [⟨(some 28), none, .q (.mov (.t 0))⟩,
 ⟨(some 29), none, .call (.c (.fn 72 [])) [(.t 28)]⟩])
 (.seq (.seq (.reg [⟨(some 30), none, .q (.fa 6 (.t 5))⟩,
 ⟨(some 31), none, .q (.ld1 (.t 30))⟩])
 (.cond (.t 31) (.seq (.reg [⟨(some 32), none, .q (.mov (.t 0))⟩,
 ⟨(some 33), none, .q (.mov (.t 1))⟩,
 ⟨(some 34), none, .call (.c (.fn 190 [])) [(.t 32), (.t 33)]⟩,
 ⟨(some 6), none, .q (.mov (.t 34))⟩])
 .ret)
 .dead))
 .dead)))
 .dead))
 .dead)))⟩
def f152 : FnC := ⟨8, [.tmp 2],
 (.seq (.reg [⟨(some 2), none, .q (.mov (.c .nilsl))⟩])
 (.seq (.seq (.reg [⟨(some 3), none, .q (.mov (.t 0))⟩,
 ⟨(some 4), none, .q (.eqr false .sl (.t 3) (.c .nilsl))⟩])
 (.cond (.t 4) .dead
 .skip))
 (.seq (.reg [⟨(some 5), none, .a (.mkSl 3 0 [] [])⟩,
 ⟨(some 6), none, .q (.mov (.t 0))⟩,
 ⟨(some 7), none, .h (.app 3 16 (.t 5) (.t 6))⟩,
 ⟨(some 2), none, .q (.mov (.t 7))⟩])
 .ret)))⟩
def f153 : FnC := ⟨8, [.tmp 2],
 (.seq (.reg [⟨(some 2), none, .q (.mov (.c .nilsl))⟩])
 (.seq (.seq (.reg [⟨(some 3), none, .q (.mov (.t 0))⟩,
 ⟨(some 4), none, .q (.eqr false .sl (.t 3) (.c .nilsl))⟩])
 (.cond (.t 4) .dead
 .skip))
 (.seq (.reg [⟨(some 5), none, .a (.mkSl 3 0 [] [])⟩,
 ⟨(some 6), none, .q (.mov (.t 0))⟩,
 ⟨(some 7), none, .h (.app 3 16 (.t 5) (.t 6))⟩,
 ⟨(some 2), none, .q (.mov (.t 7))⟩])
 .ret)))⟩
def f154 : FnC := ⟨8, [.tmp 2],
 (.seq (.reg [⟨(some 2), none, .q (.mov (.c .nilsl))⟩])
 (.seq (.seq (.reg [⟨(some 3), none, .q (.mov (.t 0))⟩,
 ⟨(some 4), none, .q (.eqr false .sl (.t 3) (.c .nilsl))⟩])
 (.cond (.t 4) (.seq (.reg [⟨(some 2), none, .q (.mov (.c .nilsl))⟩])
 .ret)
 .dead))
 .dead))⟩
def f155 : FnC := ⟨36, [.tmp 2],
 (.seq (.reg [⟨(some 2), none, .q (.mov (.c .nilsl))⟩])
 (.seq (.reg [⟨(some 3), none, .q (.mov (.c (.i .i64 0)))⟩])
 (.seq (.seq (.reg [⟨(some 9), none, .q (.mov (.t 0))⟩,
 ⟨(some 10), none, .q (.lenL (.t 9))⟩,
 ⟨(some 11), none, .q (.mov (.c (.i .i64 0)))⟩])
 (.block 0 (.loop (.seq (.reg [⟨(some 12), none, .q (.bin .lss (.t 11) (.t 10))⟩])
 (.seq (.cond (.t 12) .skip
 (.exit 0))
 (.seq (.block 1 (.seq (.reg [⟨(some 13), none, .q (.ia 1 (.t 9) (.t 11))⟩,
 ⟨(some 14), none, .q (.ld1 (.t 13))⟩,
 ⟨(some 5), none, .q (.mov (.t 14))⟩])
 (.seq (.reg [⟨(some 15), none, .q (.mov (.t 3))⟩,
 ⟨(some 16), none, .q (.mov (.t 5))⟩,
 ⟨(some 17), none, .q (.lenL (.t 16))⟩,
 ⟨(some 18), none, .q (.bin .add (.t 15) (.t 17))⟩,
 ⟨(some 3), none, .q (.mov (.t 18))⟩])
 (.seq (.reg [⟨(some 19), none, .q (.mov (.t 3))⟩,
 ⟨(some 20), none, .q (.bin .lss (.t 19) (.c (.i .i64 0)))⟩])
 (.cond (.t 20) .dead
 .skip)))))
 (.reg [⟨(some 22), none, .q (.bin .add (.t 11) (.c (.i .i64 1)))⟩,
 ⟨(some 11), none, .q (.mov (.t 22))⟩])))))))
 (.seq (.reg [⟨(some 23), none, .q (.mov (.t 3))⟩,
 ⟨(some 24), none, .call (.c (.fn 203 [])) [(.c .nilsl), (.t 23)]⟩,
 ⟨(some 6), none, .q (.mov (.t 24))⟩])
 (.seq (.seq (.reg [⟨(some 25), none, .q (.mov (.t 0))⟩,
 ⟨(some 26), none, .q (.lenL (.t 25))⟩,
 ⟨(some 27), none, .q (.mov (.c (.i .i64 0)))⟩])
 (.block 2 (.loop (.seq (.reg [⟨(some 28), none, .q (.bin .lss (.t 27) (.t 26))⟩])
 (.seq (.cond (.t 28) .skip
 (.exit 2))
 (.seq (.block 3 (.seq (.reg [⟨(some 29), none, .q (.ia 1 (.t 25) (.t 27))⟩,
 ⟨(some 30), none, .q (.ld1 (.t 29))⟩,
 ⟨(some 8), none, .q (.mov (.t 30))⟩])
 (.reg [⟨(some 31), none, .q (.mov (.t 6))⟩,
 ⟨(some 32), none, .q (.mov (.t 8))⟩,
 ⟨(some 33), none, .h (.app 1 1 (.t 31) (.t 32))⟩,
 ⟨(some 6), none, .q (.mov (.t 33))⟩])))
 (.reg [⟨(some 34), none, .q (.bin .add (.t 27) (.c (.i .i64 1)))⟩,
 ⟨(some 27), none, .q (.mov (.t 34))⟩])))))))
 (.seq (.reg [⟨(some 35), none, .q (.mov (.t 6))⟩,
 ⟨(some 2), none, .q (.mov (.t 35))⟩])
 .ret))))))⟩
def f156 : FnC := ⟨32, [],
 (.seq (.seq (.reg [⟨(some 6), none, .q (.mov (.t 0))⟩,
 ⟨(some 7), none, .q (.nck (.t 6))⟩,
 ⟨(some 8), none, .q (.fa 1 (.t 7))⟩,
 ⟨(some 9), none, .q (.ld1 (.t 8))⟩,
 ⟨(some 10), none, .q (.lenL (.t 9))⟩,
 ⟨(some 11), none, .q (.mov (.c (.i .i64 0)))⟩])
 (.block 0 (.loop (.seq (.reg [⟨(some 12), none, .q (.bin .lss (.t 11) (.t 10))⟩])
 (.seq (.cond (.t 12) .skip
 (.exit 0))
 (.seq (.block 1 (.seq (.reg [⟨(some 13), none, .q (.mov (.t 11))⟩,
 ⟨(some 14), none, .q (.ia 65 (.t 9) (.t 11))⟩,
 ⟨(some 15), none, .q (.ldn 65 (.t 14))⟩,
 ⟨(some 5), none, .a (.new [(.i .i64 0), (.i .u8 0), (.i .u8 0), (.i .u8 0), (.i .u8 0), (.i .u8 0), (.i .u8 0), (.i .u8 0), (.i .u8 0), (.i .u8 0), (.i .u8 0), (.i .u8 0), (.i .u8 0), (.i .u8 0), (.i .u8 0), (.i .u8 0), (.i .u8 0), (.i .u8 0), (.i .u8 0), (.i .u8 0), (.i .u8 0), (.i .u8 0), (.i .u8 0), (.i .u8 0), (.i .u8 0), (.i .u8 0), (.i .u8 0), (.i .u8 0), (.i .u8 0), (.i .u8 0), (.i .u8 0), (.i .u8 0), (.i .u8 0), (.i .u8 0), (.i .u8 0), (.i .u8 0), (.i .u8 0), (.i .u8 0), (.i .u8 0), (.i .u8 0), (.i .u8 0), (.i .u8 0), (.i .u8 0), (.i .u8 0), (.i .u8 0), (.i .u8 0), (.i .u8 0), (.i .u8 0), (.i .u8 0), (.i .u8 0), (.i .u8 0), (.i .u8 0), (.i .u8 0), (.i .u8 0), (.i .u8 0), (.i .u8 0), (.i .u8 0), (.i .u8 0), (.i .u8 0), (.i .u8 0), (.i .u8 0), (.i .u8 0), (.i .u8 0), (.i .u8 0), (.i .u8 0)])⟩,
 ⟨(some 4), none, .q (.mov (.t 13))⟩,
 ⟨none, none, .h (.st 65 (.t 5) (.t 15))⟩])
 (.seq (.reg [⟨(some 16), none, .q (.mov (.t 1))⟩,
 ⟨(some 17), none, .q (.mov (.t 4))⟩,
 ⟨(some 18), none, .call (.t 16) [(.t 17)]⟩])
 (.cond (.t 18) (.dreg [⟨0, ⟨(some 19), none, .q (.mov (.t 0))⟩, [0], none, [], []⟩,
 ⟨1, ⟨(some 20), none, .q (.nck (.t 19))⟩, [19], none, [], [0]⟩,
 ⟨2, ⟨(some 21), none, .q (.fa 0 (.t 20))⟩, [20], none, [], [1, 0]⟩,
 ⟨3, ⟨(some 22), none, .q (.ld1 (.t 21))⟩, [21], none, [], [2, 1, 0]⟩,
 ⟨4, ⟨(some 23), none, .q (.fa 0 (.t 5))⟩, [5], none, [], []⟩,
 ⟨5, ⟨(some 24), none, .q (.ld1 (.t 23))⟩, [23], none, [], [4]⟩,
 ⟨6, ⟨(some 25), none, .q (.fa 1 (.t 5))⟩, [5], none, [], []⟩,
 ⟨7, ⟨(some 26), none, .q (.ldn 64 (.t 25))⟩, [25], none, [], [6]⟩,
 ⟨8, ⟨(some 27), none, .q (.ia 64 (.t 22) (.t 24))⟩, [22, 24], none, [], [3, 5, 0, 1, 2, 4, 6, 7]⟩,
 ⟨9, ⟨none, none, .h (.st 64 (.t 27) (.t 26))⟩, [27, 26], none, [], [8, 7, 0, 1, 2, 3, 4, 5, 6]⟩])
 .dead))))
 (.reg [⟨(some 28), none, .q (.bin .add (.t 11) (.c (.i .i64 1)))⟩,
 ⟨(some 11), none, .q (.mov (.t 28))⟩])))))))
 (.reg [⟨(some 29), none, .q (.mov (.t 0))⟩,
 ⟨(some 30), none, .q (.nck (.t 29))⟩,
 ⟨(some 31), none, .q (.fa 1 (.t 30))⟩,
 ⟨none, none, .h (.st 1 (.t 31) (.c .nilsl))⟩]))⟩
def f158 : FnC := ⟨23, [.tmp 2, .tmp 3, .tmp 4],
 (.seq (.reg [⟨(some 2), none, .q (.mov (.c (.i .u32 0)))⟩,
 ⟨(some 3), none, .q (.mov (.c .nilsl))⟩,
 ⟨(some 4), none, .q (.mov (.c (.i .i64 0)))⟩])
 (.seq (.seq (.reg [⟨(some 6), none, .q (.mov (.t 0))⟩,
 ⟨(some 7), none, .call (.c (.fn 110 [])) [(.t 6)]⟩,
 ⟨(some 8), none, .q (.bin .lss (.t 7) (.c (.i .i64 32)))⟩])
 (.cond (.t 8) .dead
 .skip))
 (.seq (.reg [⟨(some 9), none, .q (.mov (.t 0))⟩,
 ⟨(some 10), none, .call (.c (.fn 204 [])) [(.t 9)]⟩,
 ⟨(some 5), none, .q (.mov (.t 10))⟩])
 (.seq (.seq (.reg [⟨(some 11), none, .q (.mov (.t 5))⟩,
 ⟨(some 12), none, .q (.eqr false .ptr (.t 11) (.c .nilp))⟩])
 (.cond (.t 12) (.seq (.reg [⟨(some 2), none, .q (.mov (.c (.i .u32 0)))⟩,
 ⟨(some 3), none, .q (.mov (.c .nilsl))⟩,
 ⟨(some 4), none, .q (.mov (.c (.i .i64 13)))⟩])
 .ret)
 .skip))
 (.seq (.dreg [⟨0, ⟨(some 13), none, .q (.mov (.t 5))⟩, [5], none, [], []⟩,
 ⟨1, ⟨(some 14), none, .q (.nck (.t 13))⟩, [13], none, [], [0]⟩,
 ⟨2, ⟨(some 15), none, .q (.fa 0 (.t 14))⟩, [14], none, [], [1, 0]⟩,
 ⟨3, ⟨(some 16), none, .q (.fa 1 (.t 15))⟩, [15], none, [], [2, 1, 0]⟩,
 ⟨4, ⟨(some 17), none, .q (.ld1 (.t 16))⟩, [16], none, [], [3, 2, 1, 0]⟩,
 ⟨5, ⟨(some 18), none, .q (.mov (.t 5))⟩, [5], none, [], []⟩,
 ⟨6, ⟨(some 19), none, .q (.nck (.t 18))⟩, [18], none, [], [5]⟩,
 ⟨7, ⟨(some 20), none, .q (.fa 0 (.t 19))⟩, [19], none, [], [6, 5]⟩,
 ⟨8, ⟨(some 21), none, .q (.fa 3 (.t 20))⟩, [20], none, [], [7, 6, 5]⟩,
 ⟨9, ⟨(some 22), none, .q (.ld1 (.t 21))⟩, [21], none, [], [8, 7, 6, 5]⟩,
 ⟨10, ⟨(some 2), none, .q (.mov (.t 17))⟩, [17], none, [], [4, 0, 1, 2, 3]⟩,
 ⟨11, ⟨(some 3), none, .q (.mov (.t 22))⟩, [22], none, [], [9, 10, 0, 1, 2, 3, 4, 5, 6, 7, 8]⟩,
 ⟨12, ⟨(some 4), none, .q (.mov (.c (.i .i64 0)))⟩, [], none, [], [11, 0, 1, 2, 3, 4, 5, 6, 7, 8, 9, 10]⟩])
 .ret)))))⟩
def f159 : FnC := ⟨37, [.cell (some 6) 2, .tmp 3],
 (.seq (.reg [⟨(some 2), none, .a (.new [(.i .i64 0), (.i .i64 0), (.i .i64 0), .nilsl, .nilsl, .nilsl])⟩,
 ⟨(some 3), none, .q (.mov (.c (.i .i64 0)))⟩])
 (.seq (.seq (.reg [⟨(some 7), none, .q (.mov (.t 0))⟩,
 ⟨(some 8), none, .q (.bin .lss (.t 7) (.c (.i .i64 1)))⟩,
 ⟨(some 9), none, .q (.mov (.t 8))⟩,
 ⟨(some 10), (some (9, false)), .q (.mov (.t 0))⟩,
 ⟨(some 11), (some (9, false)), .q (.bin .gtr (.t 10) (.c (.i .i64 8)))⟩,
 ⟨(some 12), none, .q (.pick (.t 9) (.c (.b true)) (.t 11))⟩])
 (.cond (.t 12) .dead
 .skip))
 (.seq (.reg [⟨(some 14), none, .q (.build [(.i .i64 0), (.i .i64 0), (.i .i64 0), .nilsl, .nilsl, .nilsl] [(0, 1, (.c (.i .i64 32768))), (1, 1, (.c (.i .i64 20))), (2, 1, (.c (.i .i64 15)))])⟩,
 ⟨(some 4), none, .a (.new [(.i .i64 0), (.i .i64 0), (.i .i64 0), .nilsl, .nilsl, .nilsl])⟩,
 ⟨none, none, .h (.st 6 (.t 4) (.t 14))⟩])
 (.seq (.reg [⟨(some 15), none, .q (.build [(.i .i64 0), (.i .u8 0), (.i .u8 0)] [(0, 1, (.c (.i .i64 1)))])⟩,
 ⟨(some 5), none, .a (.new [(.i .i64 0), (.i .u8 0), (.i .u8 0)])⟩,
 ⟨none, none, .h (.st 3 (.t 5) (.t 15))⟩])
 (.seq (.seq (.reg [⟨(some 16), none, .q (.mov (.t 0))⟩,
 ⟨(some 17), none, .q (.mov (.c (.i .i64 0)))⟩])
 (.block 0 (.loop (.seq (.reg [⟨(some 18), none, .q (.bin .lss (.t 17) (.t 16))⟩])
 (.seq (.cond (.t 18) .skip
 (.exit 0))
 (.seq (.block 1 (.seq (.reg [⟨(some 19), none, .q (.mov (.t 17))⟩,
 ⟨(some 6), none, .q (.mov (.t 19))⟩])
 (.seq (.reg [⟨(some 20), none, .q (.fa 3 (.t 4))⟩,
 ⟨(some 21), none, .q (.ld1 (.t 20))⟩,
 ⟨(some 22), none, .q (.build [(.b false), (.i .u32 0), (.i .i64 0)] [(0, 1, (.c (.b true))), (1, 1, (.c (.i .u32 20000))), (2, 1, (.c (.i .i64 1)))])⟩,
 ⟨(some 23), none, .a (.mkSl 3 1 [(.b false), (.i .u32 0), (.i .i64 0)] [(0, 3, (.t 22))])⟩,
 ⟨(some 24), none, .h (.app 3 16 (.t 21) (.t 23))⟩,
 ⟨(some 25), none, .q (.fa 3 (.t 4))⟩,
 ⟨none, none, .h (.st 1 (.t 25) (.t 24))⟩])
 (.dreg [⟨0, ⟨(some 26), none, .q (.fa 1 (.t 5))⟩, [5], none, [], []⟩,
 ⟨1, ⟨(some 27), none, .q (.ld1 (.t 26))⟩, [26], none, [], [0]⟩,
 ⟨2, ⟨(some 28), none, .q (.mov (.t 6))⟩, [6], none, [], []⟩,
 ⟨3, ⟨(some 29), none, .q (.bin .shl (.c (.i .u8 1)) (.t 28))⟩, [28], none, [], [2]⟩,
 ⟨4, ⟨(some 30), none, .q (.bin .or (.t 27) (.t 29))⟩, [27, 29], none, [], [1, 3, 0, 2]⟩,
 ⟨5, ⟨(some 31), none, .q (.fa 1 (.t 5))⟩, [5], none, [], [0, 1, 2, 3, 4]⟩,
 ⟨6, ⟨none, none, .h (.st 1 (.t 31) (.t 30))⟩, [31, 30], none, [], [5, 4, 0, 1, 2, 3]⟩]))))
 (.reg [⟨(some 32), none, .q (.bin .add (.t 17) (.c (.i .i64 1)))⟩,
 ⟨(some 17), none, .q (.mov (.t 32))⟩])))))))
 (.seq (.reg [⟨(some 33), none, .q (.ldn 3 (.t 5))⟩,
 ⟨(some 34), none, .a (.mkSl 3 1 [(.i .i64 0), (.i .u8 0), (.i .u8 0)] [(0, 3, (.t 33))])⟩,
 ⟨(some 35), none, .q (.fa 4 (.t 4))⟩,
 ⟨none, none, .h (.st 1 (.t 35) (.t 34))⟩])
 (.seq (.reg [⟨(some 36), none, .q (.ldn 6 (.t 4))⟩,
 ⟨none, none, .h (.st 6 (.t 2) (.t 36))⟩,
 ⟨(some 3), none, .q (.mov (.c (.i .i64 0)))⟩])
 .ret)))))))⟩
def f160 : FnC := ⟨21, [.tmp 6],
 (.seq (.reg [⟨(some 5), none, .a (.box (.t 2))⟩,
 ⟨(some 6), none, .q (.mov (.c (.i .i64 0)))⟩])
 (.seq (.reg [⟨(some 10), none, .q (.ldn 6 (.t 5))⟩,
 ⟨(some 11), none, .call (.c (.fn 205 [])) [(.t 10)]⟩,
 ⟨(some 9), none, .q (.mov (.t 11))⟩,
 ⟨(some 12), none, .q (.ext 0 (.t 9))⟩,
 ⟨(some 13), none, .q (.ext 1 (.t 9))⟩,
 ⟨(some 7), none, .q (.mov (.t 12))⟩,
 ⟨(some 8), none, .q (.mov (.t 13))⟩])
 (.seq (.seq (.reg [⟨(some 14), none, .q (.mov (.t 8))⟩,
 ⟨(some 15), none, .q (.bni .neq (.t 14) (.c (.i .i64 0)))⟩])
 (.cond (.t 15) .dead
 .skip))
 (.seq (.reg [⟨(some 17), none, .q (.mov (.t 0))⟩,
 ⟨(some 18), none, .q (.mov (.t 1))⟩,
 ⟨(some 19), none, .q (.mov (.t 7))⟩,
 ⟨(some 20), none, .call (.c (.fn 206 [])) [(.t 17), (.t 18), (.t 19)]⟩,
 ⟨(some 6), none, .q (.mov (.t 20))⟩])
 .ret))))⟩
def f161 : FnC := ⟨112, [.cell (some 6) 2],
 (.seq (.reg [⟨(some 2), none, .a (.new [(.i .i64 0), (.i .i64 0), (.i .i64 0), .nilsl, .nilsl, .nilsl])⟩])
 (.seq (.dreg [⟨0, ⟨(some 5), none, .q (.mov (.t 0))⟩, [0], none, [], []⟩,
 ⟨1, ⟨(some 6), none, .q (.nck (.t 5))⟩, [5], none, [], [0]⟩,
 ⟨2, ⟨(some 7), none, .q (.fa 0 (.t 6))⟩, [6], none, [], [1, 0]⟩,
 ⟨4, ⟨(some 9), none, .q (.mov (.t 0))⟩, [0], none, [], []⟩,
 ⟨5, ⟨(some 10), none, .q (.nck (.t 9))⟩, [9], none, [], [3]⟩,
 ⟨6, ⟨(some 11), none, .q (.fa 0 (.t 10))⟩, [10], none, [], [4, 3]⟩,
 ⟨8, ⟨(some 13), none, .q (.mov (.t 0))⟩, [0], none, [], []⟩,
 ⟨9, ⟨(some 14), none, .q (.nck (.t 13))⟩, [13], none, [], [6]⟩,
 ⟨10, ⟨(some 15), none, .q (.fa 0 (.t 14))⟩, [14], none, [], [7, 6]⟩,
 ⟨3, ⟨(some 8), none, .call (.c (.fn 207 [])) [(.t 7), (.c (.i .i64 2))]⟩, [7], none, [5, 4, 3, 2, 1, 0], [2, 1, 0]⟩,
 ⟨7, ⟨(some 12), none, .call (.c (.fn 207 [])) [(.t 11), (.c (.i .i64 1))]⟩, [11], none, [3, 2, 1], [5, 9, 4, 3, 2, 1, 0]⟩,
 ⟨11, ⟨(some 16), none, .call (.c (.fn 207 [])) [(.t 15), (.c (.i .i64 1))]⟩, [15], none, [], [8, 10, 7, 6, 5, 9, 4, 3, 2, 1, 0]⟩,
 ⟨12, ⟨(some 17), none, .q (.build [(.i .i64 0), (.i .i64 0), (.i .i64 0), .nilsl, .nilsl, .nilsl] [(0, 1, (.t 8)), (1, 1, (.t 12)), (2, 1, (.t 16))])⟩, [8, 12, 16], none, [], [9, 10, 11, 2, 1, 0, 5, 4, 3, 8, 7, 6]⟩,
 ⟨13, ⟨(some 3), none, .a (.new [(.i .i64 0), (.i .i64 0), (.i .i64 0), .nilsl, .nilsl, .nilsl])⟩, [], none, [], []⟩,
 ⟨14, ⟨none, none, .h (.st 6 (.t 3) (.t 17))⟩, [3, 17], none, [], [13, 12, 11, 0, 1, 2, 9, 3, 4, 5, 10, 6, 7, 8]⟩])
 (.seq (.seq (.reg [⟨(some 18), none, .q (.mov (.t 0))⟩,
 ⟨(some 19), none, .q (.nck (.t 18))⟩,
 ⟨(some 20), none, .q (.fa 0 (.t 19))⟩,
 ⟨(some 21), none, .call (.c (.fn 207 [])) [(.t 20), (.c (.i .i64 1))]⟩,
 ⟨(some 22), none, .q (.mov (.c (.i .i64 0)))⟩])
 (.block 0 (.loop (.seq (.reg [⟨(some 23), none, .q (.bin .lss (.t 22) (.t 21))⟩])
 (.seq (.cond (.t 23) .skip
 (.exit 0))
 (.seq (.block 1 (.seq (.reg [⟨(some 24), none, .q (.mov (.t 0))⟩,
 ⟨(some 25), none, .q (.nck (.t 24))⟩,
 ⟨(some 26), none, .q (.fa 0 (.t 25))⟩,
 ⟨(some 27), none, .call (.c (.fn 207 [])) [(.t 26), (.c (.i .i64 1))]⟩,
 ⟨(some 4), none, .q (.mov (.t 27))⟩])
 (.seq (.reg [⟨(some 28), none, .q (.mov (.t 0))⟩,
 ⟨(some 29), none, .q (.mov (.t 0))⟩,
 ⟨(some 30), none, .q (.nck (.t 29))⟩,
 ⟨(some 31), none, .q (.fa 0 (.t 30))⟩,
 ⟨(some 32), none, .q (.fa 1 (.t 31))⟩,
 ⟨(some 33), none, .q (.ld1 (.t 32))⟩,
 ⟨(some 34), none, .q (.mov (.t 33))⟩,
 ⟨(some 35), (some (34, false)), .q (.mov (.t 4))⟩,
 ⟨(some 36), (some (34, false)), .q (.bin .gtr (.t 35) (.c (.i .i64 1)))⟩,
 ⟨(some 37), none, .q (.pick (.t 34) (.c (.b true)) (.t 36))⟩,
 ⟨(some 38), none, .q (.nck (.t 28))⟩,
 ⟨(some 39), none, .q (.fa 0 (.t 38))⟩,
 ⟨(some 40), none, .q (.fa 1 (.t 39))⟩,
 ⟨none, none, .h (.st 1 (.t 40) (.t 37))⟩])
 (.dreg [⟨0, ⟨(some 41), none, .q (.fa 3 (.t 3))⟩, [3], none, [], []⟩,
 ⟨1, ⟨(some 42), none, .q (.ld1 (.t 41))⟩, [41], none, [], [0]⟩,
 ⟨2, ⟨(some 43), none, .q (.mov (.t 4))⟩, [4], none, [], []⟩,
 ⟨3, ⟨(some 44), none, .q (.bni .eql (.t 43) (.c (.i .i64 1)))⟩, [43], none, [], [2]⟩,
 ⟨4, ⟨(some 45), none, .q (.mov (.t 0))⟩, [0], none, [], []⟩,
 ⟨5, ⟨(some 46), none, .q (.nck (.t 45))⟩, [45], none, [], [4]⟩,
 ⟨6, ⟨(some 47), none, .q (.fa 0 (.t 46))⟩, [46], none, [], [5, 4]⟩,
 ⟨9, ⟨(some 50), none, .q (.mov (.t 0))⟩, [0], none, [], []⟩,
 ⟨10, ⟨(some 51), none, .q (.nck (.t 50))⟩, [50], none, [], [7]⟩,
 ⟨11, ⟨(some 52), none, .q (.fa 0 (.t 51))⟩, [51], none, [], [8, 7]⟩,
 ⟨7, ⟨(some 48), none, .call (.c (.fn 208 [])) [(.t 47), (.c (.i .i64 4))]⟩, [47], none, [9, 8, 7, 6, 2, 1, 0], [6, 5, 4]⟩,
 ⟨8, ⟨(some 49), none, .q (.cvi .u32 (.t 48))⟩, [48], none, [], [10, 6, 5, 4]⟩,
 ⟨12, ⟨(some 53), none, .call (.c (.fn 207 [])) [(.t 52), (.c (.i .i64 2))]⟩, [52], none, [11, 10, 9, 8, 0], [9, 10, 8, 7, 6, 5, 4]⟩,
 ⟨13, ⟨(some 54), none, .q (.build [(.b false), (.i .u32 0), (.i .i64 0)] [(0, 1, (.t 44)), (1, 1, (.t 49)), (2, 1, (.t 53))])⟩, [44, 49, 53], none, [], [3, 11, 12, 2, 10, 6, 5, 4, 9, 8, 7]⟩,
 ⟨14, ⟨(some 55), none, .a (.mkSl 3 1 [(.b false), (.i .u32 0), (.i .i64 0)] [(0, 3, (.t 54))])⟩, [54], none, [], [13, 3, 11, 12, 2, 10, 6, 5, 4, 9, 8, 7]⟩,
 ⟨15, ⟨(some 56), none, .h (.app 3 16 (.t 42) (.t 55))⟩, [42, 55], none, [], [1, 14, 12, 0, 13, 3, 11, 2, 10, 6, 5, 4, 9, 8, 7]⟩,
 ⟨16, ⟨(some 57), none, .q (.fa 3 (.t 3))⟩, [3], none, [], [0, 1, 2, 3, 4, 5, 6, 10, 11, 7, 8, 9, 12, 13, 14, 15]⟩,
 ⟨17, ⟨none, none, .h (.st 1 (.t 57) (.t 56))⟩, [57, 56], none, [], [16, 15, 0, 1, 2, 3, 4, 5, 6, 10, 11, 7, 8, 9, 12, 13, 14]⟩]))))
 (.reg [⟨(some 58), none, .q (.bin .add (.t 22) (.c (.i .i64 1)))⟩,
 ⟨(some 22), none, .q (.mov (.t 58))⟩])))))))
 (.seq (.seq (.reg [⟨(some 59), none, .q (.mov (.t 0))⟩,
 ⟨(some 60), none, .q (.nck (.t 59))⟩,
 ⟨(some 61), none, .q (.fa 0 (.t 60))⟩,
 ⟨(some 62), none, .call (.c (.fn 207 [])) [(.t 61), (.c (.i .i64 1))]⟩,
 ⟨(some 63), none, .q (.mov (.c (.i .i64 0)))⟩])
 (.block 2 (.loop (.seq (.reg [⟨(some 64), none, .q (.bin .lss (.t 63) (.t 62))⟩])
 (.seq (.cond (.t 64) .skip
 (.exit 2))
 (.seq (.block 3 (.dreg [⟨0, ⟨(some 65), none, .q (.fa 4 (.t 3))⟩, [3], none, [], []⟩,
 ⟨1, ⟨(some 66), none, .q (.ld1 (.t 65))⟩, [65], none, [], [0]⟩,
 ⟨2, ⟨(some 67), none, .q (.mov (.t 0))⟩, [0], none, [], []⟩,
 ⟨3, ⟨(some 68), none, .q (.nck (.t 67))⟩, [67], none, [], [2]⟩,
 ⟨4, ⟨(some 69), none, .q (.fa 0 (.t 68))⟩, [68], none, [], [3, 2]⟩,
 ⟨6, ⟨(some 71), none, .q (.mov (.t 0))⟩, [0], none, [], []⟩,
 ⟨7, ⟨(some 72), none, .q (.nck (.t 71))⟩, [71], none, [], [5]⟩,
 ⟨8, ⟨(some 73), none, .q (.fa 0 (.t 72))⟩, [72], none, [], [6, 5]⟩,
 ⟨11, ⟨(some 76), none, .q (.mov (.t 0))⟩, [0], none, [], []⟩,
 ⟨12, ⟨(some 77), none, .q (.nck (.t 76))⟩, [76], none, [], [8]⟩,
 ⟨13, ⟨(some 78), none, .q (.fa 0 (.t 77))⟩, [77], none, [], [9, 8]⟩,
 ⟨5, ⟨(some 70), none, .call (.c (.fn 207 [])) [(.t 69), (.c (.i .i64 2))]⟩, [69], none, [10, 9, 5, 4, 3, 2, 1, 0], [4, 3, 2]⟩,
 ⟨9, ⟨(some 74), none, .call (.c (.fn 208 [])) [(.t 73), (.c (.i .i64 1))]⟩, [73], none, [11, 10, 3, 2, 1], [7, 11, 6, 5, 4, 3, 2]⟩,
 ⟨10, ⟨(some 75), none, .q (.cvi .u8 (.t 74))⟩, [74], none, [], [12, 7, 11, 6, 5, 4, 3, 2]⟩,
 ⟨14, ⟨(some 79), none, .call (.c (.fn 208 [])) [(.t 78), (.c (.i .i64 1))]⟩, [78], none, [13, 12, 0], [10, 12, 9, 8, 7, 11, 6, 5, 4, 3, 2]⟩,
 ⟨15, ⟨(some 80), none, .q (.cvi .u8 (.t 79))⟩, [79], none, [], [14, 10, 12, 9, 8, 7, 11, 6, 5, 4, 3, 2]⟩,
 ⟨16, ⟨(some 81), none, .q (.build [(.i .i64 0), (.i .u8 0), (.i .u8 0)] [(0, 1, (.t 70)), (1, 1, (.t 75)), (2, 1, (.t 80))])⟩, [70, 75, 80], none, [], [11, 13, 15, 4, 3, 2, 12, 7, 6, 5, 14, 10, 9, 8]⟩,
 ⟨17, ⟨(some 82), none, .a (.mkSl 3 1 [(.i .i64 0), (.i .u8 0), (.i .u8 0)] [(0, 3, (.t 81))])⟩, [81], none, [], [16, 11, 13, 15, 4, 3, 2, 12, 7, 6, 5, 14, 10, 9, 8]⟩,
 ⟨18, ⟨(some 83), none, .h (.app 3 16 (.t 66) (.t 82))⟩, [66, 82], none, [], [1, 17, 14, 0, 16, 11, 13, 15, 4, 3, 2, 12, 7, 6, 5, 10, 9, 8]⟩,
 ⟨19, ⟨(some 84), none, .q (.fa 4 (.t 3))⟩, [3], none, [], [0, 1, 2, 3, 4, 11, 5, 6, 7, 12, 13, 8, 9, 10, 14, 15, 16, 17, 18]⟩,
 ⟨20, ⟨none, none, .h (.st 1 (.t 84) (.t 83))⟩, [84, 83], none, [], [19, 18, 0, 1, 2, 3, 4, 11, 5, 6, 7, 12, 13, 8, 9, 10, 14, 15, 16, 17]⟩]))
 (.reg [⟨(some 85), none, .q (.bin .add (.t 63) (.c (.i .i64 1)))⟩,
 ⟨(some 63), none, .q (.mov (.t 85))⟩])))))))
 (.seq (.seq (.reg [⟨(some 86), none, .q (.mov (.t 0))⟩,
 ⟨(some 87), none, .q (.nck (.t 86))⟩,
 ⟨(some 88), none, .q (.fa 0 (.t 87))⟩,
 ⟨(some 89), none, .call (.c (.fn 207 [])) [(.t 88), (.c (.i .i64 1))]⟩,
 ⟨(some 90), none, .q (.mov (.c (.i .i64 0)))⟩])
 (.block 4 (.loop (.seq (.reg [⟨(some 91), none, .q (.bin .lss (.t 90) (.t 89))⟩])
 (.seq (.cond (.t 91) .dead
 (.exit 4))
 .dead)))))
 (.seq (.reg [⟨(some 111), none, .q (.ldn 6 (.t 3))⟩,
 ⟨none, none, .h (.st 6 (.t 2) (.t 111))⟩])
 .ret))))))⟩
def f162 : FnC := ⟨18, [.tmp 2],
 (.seq (.reg [⟨(some 2), none, .q (.mov (.c (.b false)))⟩])
 (.seq (.reg [⟨(some 3), none, .q (.mov (.t 0))⟩,
 ⟨(some 4), none, .q (.nck (.t 3))⟩,
 ⟨(some 5), none, .q (.fa 0 (.t 4))⟩,
 ⟨(some 6), none, .q (.fa 1 (.t 5))⟩,
 ⟨(some 7), none, .q (.ld1 (.t 6))⟩,
 ⟨(some 8), none, .q (.un .not (.t 7))⟩,
 ⟨(some 9), none, .q (.mov (.t 8))⟩,
 ⟨(some 10), (some (9, true)), .q (.mov (.t 0))⟩,
 ⟨(some 11), (some (9, true)), .q (.nck (.t 10))⟩,
 ⟨(some 12), (some (9, true)), .q (.fa 0 (.t 11))⟩,
 ⟨(some 13), (some (9, true)), .q (.fa 0 (.t 12))⟩,
 ⟨(some 14), (some (9, true)), .q (.ld1 (.t 13))⟩,
 ⟨(some 15), (some (9, true)), .q (.lenL (.t 14))⟩,
 ⟨(some 16), (some (9, true)), .q (.bni .eql (.t 15) (.c (.i .i64 0)))⟩,
 ⟨(some 17), none, .q (.pick (.t 9) (.t 16) (.c (.b false)))⟩,
 ⟨(some 2), none, .q (.mov (.t 17))⟩])
 .ret))⟩
def f163 : FnC := ⟨33, [.tmp 2],
 (.seq (.reg [⟨(some 1), none, .a (.box (.t 0))⟩,
 ⟨(some 2), none, .q (.mov (.c (.b false)))⟩])
 (.seq (.seq (.reg [⟨(some 3), none, .q (.ldn 6 (.t 1))⟩,
 ⟨(some 4), none, .call (.c (.fn 209 [])) [(.t 3)]⟩,
 ⟨(some 5), none, .q (.un .not (.t 4))⟩,
 ⟨(some 6), none, .q (.mov (.t 5))⟩,
 ⟨(some 7), (some (6, false)), .q (.ldn 6 (.t 1))⟩,
 ⟨(some 8), (some (6, false)), .call (.c (.fn 210 [])) [(.t 7)]⟩,
 ⟨(some 9), (some (6, false)), .q (.un .not (.t 8))⟩,
 ⟨(some 10), none, .q (.pick (.t 6) (.c (.b true)) (.t 9))⟩,
 ⟨(some 11), none, .q (.mov (.t 10))⟩,
 ⟨(some 12), (some (11, false)), .q (.ldn 6 (.t 1))⟩,
 ⟨(some 13), (some (11, false)), .call (.c (.fn 211 [])) [(.t 12)]⟩,
 ⟨(some 14), (some (11, false)), .q (.un .not (.t 13))⟩,
 ⟨(some 15), none, .q (.pick (.t 11) (.c (.b true)) (.t 14))⟩,
 ⟨(some 16), none, .q (.mov (.t 15))⟩,
 ⟨(some 17), (some (16, false)), .q (.fa 5 (.t 1))⟩,
 ⟨(some 18), (some (16, false)), .q (.ld1 (.t 17))⟩,
 ⟨(some 19), (some (16, false)), .q (.lenL (.t 18))⟩,
 ⟨(some 20), (some (16, false)), .q (.bin .gtr (.t 19) (.c (.i .i64 16)))⟩,
 ⟨(some 21), none, .q (.pick (.t 16) (.c (.b true)) (.t 20))⟩,
 ⟨(some 22), none, .q (.mov (.t 21))⟩,
 ⟨(some 23), (some (22, false)), .q (.fa 5 (.t 1))⟩,
 ⟨(some 24), (some (22, false)), .q (.ld1 (.t 23))⟩,
 ⟨(some 25), (some (22, false)), .call (.c (.fn 212 [])) [(.t 24), (.c (.fn 213 []))]⟩,
 ⟨(some 26), (some (22, false)), .q (.un .not (.t 25))⟩,
 ⟨(some 27), none, .q (.pick (.t 22) (.c (.b true)) (.t 26))⟩])
 (.cond (.t 27) .dead
 .skip))
 (.seq (.reg [⟨(some 28), none, .q (.fa 5 (.t 1))⟩,
 ⟨(some 29), none, .q (.ld1 (.t 28))⟩,
 ⟨(some 30), none, .q (.mkf 215 [(.t 1)])⟩,
 ⟨(some 31), none, .call (.c (.fn 214 [])) [(.t 29), (.t 30)]⟩,
 ⟨(some 32), none, .q (.un .not (.t 31))⟩,
 ⟨(some 2), none, .q (.mov (.t 32))⟩])
 .ret)))⟩
def f164 : FnC := ⟨28, [.tmp 4],
 (.seq (.reg [⟨(some 2), none, .a (.box (.t 0))⟩,
 ⟨(some 4), none, .q (.mov (.c .nilsl))⟩])
 (.seq (.reg [⟨(some 5), none, .q (.mov (.c .nilsl))⟩])
 (.seq (.block 0 (.loop (.seq (.seq (.reg [⟨(some 8), none, .q (.mov (.t 1))⟩,
 ⟨(some 9), none, .q (.fa 2 (.t 2))⟩,
 ⟨(some 10), none, .q (.ld1 (.t 9))⟩,
 ⟨(some 11), none, .q (.bin .lss (.t 8) (.t 10))⟩])
 (.cond (.t 11) .skip
 (.exit 0)))
 (.seq (.block 1 (.seq (.reg [⟨(some 15), none, .q (.fa 0 (.t 2))⟩,
 ⟨(some 16), none, .q (.ld1 (.t 15))⟩,
 ⟨(some 17), none, .q (.mov (.t 1))⟩,
 ⟨(some 18), none, .call (.c (.fn 217 [])) [(.t 16), (.t 17)]⟩,
 ⟨(some 14), none, .q (.mov (.t 18))⟩,
 ⟨(some 19), none, .q (.ext 0 (.t 14))⟩,
 ⟨(some 20), none, .q (.ext 1 (.t 14))⟩,
 ⟨(some 6), none, .a (.new (List.replicate 64 (.i .u8 0)))⟩,
 ⟨none, none, .h (.st 64 (.t 6) (.t 19))⟩,
 ⟨(some 7), none, .q (.mov (.t 20))⟩])
 (.seq (.seq (.reg [⟨(some 21), none, .q (.mov (.t 7))⟩,
 ⟨(some 22), none, .q (.bni .neq (.t 21) (.c (.i .i64 0)))⟩])
 (.cond (.t 22) .dead
 .skip))
 (.reg [⟨(some 23), none, .q (.mov (.t 5))⟩,
 ⟨(some 24), none, .q (.ldn 64 (.t 6))⟩,
 ⟨(some 25), none, .a (.mkSl 64 1 (List.replicate 64 (.i .u8 0)) [(0, 64, (.t 24))])⟩,
 ⟨(some 26), none, .h (.app 64 64 (.t 23) (.t 25))⟩,
 ⟨(some 5), none, .q (.mov (.t 26))⟩]))))
 (.reg [⟨(some 12), none, .q (.mov (.t 1))⟩,
 ⟨(some 13), none, .q (.bin .add (.t 12) (.c (.i .i64 1)))⟩,
 ⟨(some 1), none, .q (.mov (.t 13))⟩])))))
 (.seq (.reg [⟨(some 27), none, .q (.mov (.t 5))⟩,
 ⟨(some 4), none, .q (.mov (.t 27))⟩])
 .ret))))⟩
def f165 : FnC := ⟨90, [.cell (some 4) 2, .tmp 3, .tmp 4],
 (.seq (.reg [⟨(some 2), none, .a (.new [(.i .i64 0), (.i .u32 0), (.i .u32 0), .nilsl])⟩,
 ⟨(some 3), none, .q (.mov (.c (.i .i64 0)))⟩,
 ⟨(some 4), none, .q (.mov (.c (.i .i64 0)))⟩])
 (.seq (.seq (.reg [⟨(some 13), none, .q (.mov (.t 0))⟩,
 ⟨(some 14), none, .q (.lenL (.t 13))⟩,
 ⟨(some 15), none, .q (.bni .eql (.t 14) (.c (.i .i64 0)))⟩,
 ⟨(some 16), none, .q (.mov (.t 15))⟩,
 ⟨(some 17), (some (16, false)), .q (.mov (.t 0))⟩,
 ⟨(some 18), (some (16, false)), .q (.ia 64 (.t 17) (.c (.i .i64 0)))⟩,
 ⟨(some 19), (some (16, false)), .q (.iaa 64 1 (.t 18) (.c (.i .i64 0)))⟩,
 ⟨(some 20), (some (16, false)), .q (.ld1 (.t 19))⟩,
 ⟨(some 21), (some (16, false)), .q (.bni .neq (.t 20) (.c (.i .u8 87)))⟩,
 ⟨(some 22), none, .q (.pick (.t 16) (.c (.b true)) (.t 21))⟩])
 (.cond (.t 22) (.seq (.reg [⟨(some 23), none, .q (.build [(.i .i64 0), (.i .u32 0), (.i .u32 0), .nilsl] [])⟩,
 ⟨none, none, .h (.st 4 (.t 2) (.t 23))⟩,
 ⟨(some 3), none, .q (.mov (.c (.i .i64 0)))⟩,
 ⟨(some 4), none, .q (.mov (.c (.i .i64 11)))⟩])
 .ret)
 .skip))
 (.seq (.reg [⟨(some 24), none, .q (.mov (.t 0))⟩,
 ⟨(some 25), none, .q (.ia 64 (.t 24) (.c (.i .i64 0)))⟩,
 ⟨(some 26), none, .q (.sla 64 1 (.t 25) (some (.c (.i .i64 10))) (some (.c (.i .i64 12))) none)⟩,
 ⟨(some 27), none, .call (.c (.fn 218 [])) [(.t 26)]⟩,
 ⟨(some 28), none, .q (.cvi .i64 (.t 27))⟩,
 ⟨(some 5), none, .q (.mov (.t 28))⟩])
 (.seq (.reg [⟨(some 29), none, .q (.mov (.t 5))⟩,
 ⟨(some 30), none, .call (.c (.fn 219 [])) [(.t 29)]⟩,
 ⟨(some 6), none, .q (.mov (.t 30))⟩])
 (.seq (.seq (.reg [⟨(some 31), none, .q (.mov (.t 6))⟩,
 ⟨(some 32), none, .q (.bni .eql (.t 31) (.c (.i .i64 0)))⟩,
 ⟨(some 33), none, .q (.mov (.t 32))⟩,
 ⟨(some 34), (some (33, false)), .q (.mov (.t 6))⟩,
 ⟨(some 35), (some (33, false)), .q (.mov (.t 0))⟩,
 ⟨(some 36), (some (33, false)), .q (.lenL (.t 35))⟩,
 ⟨(some 37), (some (33, false)), .q (.bin .gtr (.t 34) (.t 36))⟩,
 ⟨(some 38), none, .q (.pick (.t 33) (.c (.b true)) (.t 37))⟩])
 (.cond (.t 38) .dead
 .skip))
 (.seq (.dreg [⟨0, ⟨(some 40), none, .q (.mov (.t 0))⟩, [0], none, [], []⟩,
 ⟨1, ⟨(some 41), none, .q (.ia 64 (.t 40) (.c (.i .i64 0)))⟩, [40], none, [], [0]⟩,
 ⟨2, ⟨(some 42), none, .q (.iaa 64 1 (.t 41) (.c (.i .i64 1)))⟩, [41], none, [], [1, 0]⟩,
 ⟨3, ⟨(some 43), none, .q (.ld1 (.t 42))⟩, [42], none, [], [2, 1, 0]⟩,
 ⟨4, ⟨(some 44), none, .q (.cvi .i64 (.t 43))⟩, [43], none, [], [3, 2, 1, 0]⟩,
 ⟨5, ⟨(some 45), none, .q (.mov (.t 0))⟩, [0], none, [], []⟩,
 ⟨6, ⟨(some 46), none, .q (.ia 64 (.t 45) (.c (.i .i64 0)))⟩, [45], none, [], [5]⟩,
 ⟨7, ⟨(some 47), none, .q (.sla 64 1 (.t 46) (some (.c (.i .i64 2))) (some (.c (.i .i64 6))) none)⟩, [46], none, [], [6, 5]⟩,
 ⟨9, ⟨(some 49), none, .q (.mov (.t 0))⟩, [0], none, [], []⟩,
 ⟨10, ⟨(some 50), none, .q (.ia 64 (.t 49) (.c (.i .i64 0)))⟩, [49], none, [], [8]⟩,
 ⟨11, ⟨(some 51), none, .q (.sla 64 1 (.t 50) (some (.c (.i .i64 6))) (some (.c (.i .i64 10))) none)⟩, [50], none, [], [9, 8]⟩,
 ⟨8, ⟨(some 48), none, .call (.c (.fn 218 [])) [(.t 47)]⟩, [47], none, [10, 9, 8, 7, 6, 2, 1, 0], [7, 6, 5]⟩,
 ⟨12, ⟨(some 52), none, .call (.c (.fn 218 [])) [(.t 51)]⟩, [51], none, [11, 10, 9, 8, 7], [10, 11, 9, 8, 7, 6, 5]⟩,
 ⟨13, ⟨(some 53), none, .q (.build [(.i .i64 0), (.i .u32 0), (.i .u32 0), .nilsl] [(0, 1, (.t 44)), (1, 1, (.t 48)), (2, 1, (.t 52))])⟩, [44, 48, 52], none, [], [4, 11, 12, 3, 2, 1, 0, 7, 6, 5, 10, 9, 8]⟩,
 ⟨14, ⟨(some 7), none, .a (.new [(.i .i64 0), (.i .u32 0), (.i .u32 0), .nilsl])⟩, [], none, [], []⟩,
 ⟨15, ⟨none, none, .h (.st 4 (.t 7) (.t 53))⟩, [7, 53], none, [], [14, 13, 12, 0, 1, 2, 3, 4, 5, 6, 7, 11, 8, 9, 10]⟩])
 (.seq (.reg [⟨(some 8), none, .q (.mov (.c .nilsl))⟩])
 (.seq (.seq (.reg [⟨(some 54), none, .q (.mov (.t 0))⟩,
 ⟨(some 55), none, .q (.mov (.t 6))⟩,
 ⟨(some 56), none, .q (.sl 64 (.t 54) none (some (.t 55)) none)⟩,
 ⟨(some 57), none, .q (.lenL (.t 56))⟩,
 ⟨(some 58), none, .q (.mov (.c (.i .i64 0)))⟩])
 (.block 0 (.loop (.seq (.reg [⟨(some 59), none, .q (.bin .lss (.t 58) (.t 57))⟩])
 (.seq (.cond (.t 59) .skip
 (.exit 0))
 (.seq (.block 1 (.seq (.reg [⟨(some 60), none, .q (.ia 64 (.t 56) (.t 58))⟩,
 ⟨(some 61), none, .q (.ldn 64 (.t 60))⟩,
 ⟨(some 10), none, .a (.new (List.replicate 64 (.i .u8 0)))⟩,
 ⟨none, none, .h (.st 64 (.t 10) (.t 61))⟩])
 (.reg [⟨(some 62), none, .q (.mov (.t 8))⟩,
 ⟨(some 63), none, .q (.sla 64 1 (.t 10) (some (.c (.i .i64 1))) none none)⟩,
 ⟨(some 64), none, .h (.app 1 1 (.t 62) (.t 63))⟩,
 ⟨(some 8), none, .q (.mov (.t 64))⟩])))
 (.reg [⟨(some 65), none, .q (.bin .add (.t 58) (.c (.i .i64 1)))⟩,
 ⟨(some 58), none, .q (.mov (.t 65))⟩])))))))
 (.seq (.reg [⟨(some 66), none, .q (.mov (.t 8))⟩,
 ⟨(some 67), none, .q (.mov (.t 5))⟩,
 ⟨(some 68), none, .q (.bin .add (.c (.i .i64 11)) (.t 67))⟩,
 ⟨(some 69), none, .q (.sl 1 (.t 66) (some (.c (.i .i64 11))) (some (.t 68)) none)⟩,
 ⟨(some 70), none, .call (.c (.fn 58 [])) [(.t 69)]⟩,
 ⟨(some 71), none, .q (.fa 3 (.t 7))⟩,
 ⟨none, none, .h (.st 1 (.t 71) (.t 70))⟩])
 (.seq (.seq (.reg [⟨(some 73), none, .q (.ldn 4 (.t 7))⟩,
 ⟨(some 74), none, .call (.c (.fn 220 [])) [(.t 73)]⟩,
 ⟨(some 72), none, .q (.mov (.t 74))⟩,
 ⟨(some 75), none, .q (.ext 0 (.t 72))⟩,
 ⟨(some 76), none, .q (.ext 1 (.t 72))⟩,
 ⟨(some 11), none, .q (.mov (.t 75))⟩,
 ⟨(some 12), none, .q (.mov (.t 76))⟩])
 (.seq (.reg [⟨(some 77), none, .q (.mov (.t 12))⟩,
 ⟨(some 78), none, .q (.bni .neq (.t 77) (.c (.i .i64 0)))⟩,
 ⟨(some 79), none, .q (.mov (.t 78))⟩,
 ⟨(some 80), (some (79, false)), .q (.mov (.t 11))⟩,
 ⟨(some 81), (some (79, false)), .q (.mov (.t 0))⟩,
 ⟨(some 82), (some (79, false)), .q (.mov (.t 6))⟩,
 ⟨(some 83), (some (79, false)), .q (.sl 64 (.t 81) none (some (.t 82)) none)⟩,
 ⟨(some 84), (some (79, false)), .call (.c (.fn 221 [])) [(.t 80), (.t 83)]⟩,
 ⟨(some 85), (some (79, false)), .q (.un .not (.t 84))⟩,
 ⟨(some 86), none, .q (.pick (.t 79) (.c (.b true)) (.t 85))⟩])
 (.cond (.t 86) .dead
 .skip)))
 (.seq (.reg [⟨(some 88), none, .q (.ldn 4 (.t 7))⟩,
 ⟨(some 89), none, .q (.mov (.t 6))⟩,
 ⟨none, none, .h (.st 4 (.t 2) (.t 88))⟩,
 ⟨(some 3), none, .q (.mov (.t 89))⟩,
 ⟨(some 4), none, .q (.mov (.c (.i .i64 0)))⟩])
 .ret)))))))))))⟩
def f168 : FnC := ⟨19, [],
 (.seq (.reg [⟨(some 4), none, .q (.ld1 (.t 1))⟩,
 ⟨(some 5), none, .q (.lenL (.t 4))⟩,
 ⟨(some 6), none, .q (.bin .sub (.t 5) (.c (.i .i64 1)))⟩,
 ⟨(some 3), none, .q (.mov (.t 6))⟩])
 (.block 0 (.loop (.seq (.seq (.reg [⟨(some 7), none, .q (.mov (.t 3))⟩,
 ⟨(some 8), none, .q (.bin .geq (.t 7) (.c (.i .i64 0)))⟩])
 (.cond (.t 8) .dead
 (.exit 0)))
 .dead))))⟩
def f169 : FnC := ⟨47, [.tmp 4],
 (.seq (.reg [⟨(some 4), none, .q (.mov (.c (.i .i64 0)))⟩])
 (.seq (.reg [⟨(some 5), none, .q (.mov (.c (.i .i64 (-1))))⟩])
 (.seq (.reg [⟨(some 6), none, .a (.new [(.i .u64 0), (.i .u32 0), (.i .u64 0), (.i .i64 0)])⟩])
 (.seq (.seq (.reg [⟨(some 11), none, .q (.mov (.t 1))⟩,
 ⟨(some 12), none, .q (.lenL (.t 11))⟩,
 ⟨(some 13), none, .q (.mov (.c (.i .i64 0)))⟩])
 (.block 0 (.loop (.seq (.reg [⟨(some 14), none, .q (.bin .lss (.t 13) (.t 12))⟩])
 (.seq (.cond (.t 14) .skip
 (.exit 0))
 (.seq (.block 1 (.seq (.reg [⟨(some 15), none, .q (.mov (.t 13))⟩,
 ⟨(some 16), none, .q (.ia 9 (.t 11) (.t 13))⟩,
 ⟨(some 17), none, .q (.ldn 9 (.t 16))⟩,
 ⟨(some 8), none, .a (.new [(.b false), (.i .u32 0), (.b false), (.i .u64 0), (.i .u32 0), (.i .u64 0), (.i .i64 0), (.i .i64 0), (.i .i64 0)])⟩,
 ⟨(some 7), none, .q (.mov (.t 15))⟩,
 ⟨none, none, .h (.st 9 (.t 8) (.t 17))⟩])
 (.seq (.reg [⟨(some 19), none, .q (.ldn 9 (.t 8))⟩,
 ⟨(some 20), none, .q (.mov (.t 0))⟩,
 ⟨(some 21), none, .call (.c (.fn 170 [])) [(.t 19), (.t 20)]⟩,
 ⟨(some 18), none, .q (.mov (.t 21))⟩,
 ⟨(some 22), none, .q (.ext 0 (.t 18))⟩,
 ⟨(some 23), none, .q (.ext 1 (.t 18))⟩,
 ⟨(some 9), none, .a (.new [(.i .u64 0), (.i .u32 0), (.i .u64 0), (.i .i64 0)])⟩,
 ⟨none, none, .h (.st 4 (.t 9) (.t 22))⟩,
 ⟨(some 10), none, .q (.mov (.t 23))⟩])
 (.seq (.seq (.reg [⟨(some 24), none, .q (.mov (.t 10))⟩,
 ⟨(some 25), none, .q (.un .not (.t 24))⟩,
 ⟨(some 26), none, .q (.mov (.t 25))⟩,
 ⟨(some 27), (some (26, false)), .q (.fa 0 (.t 9))⟩,
 ⟨(some 28), (some (26, false)), .q (.ld1 (.t 27))⟩,
 ⟨(some 29), (some (26, false)), .q (.mov (.t 0))⟩,
 ⟨(some 30), (some (26, false)), .q (.bin .geq (.t 28) (.t 29))⟩,
 ⟨(some 31), none, .q (.pick (.t 26) (.c (.b true)) (.t 30))⟩,
 ⟨(some 32), none, .q (.mov (.t 31))⟩,
 ⟨(some 33), (some (32, false)), .q (.mov (.t 5))⟩,
 ⟨(some 34), (some (32, false)), .q (.bin .geq (.t 33) (.c (.i .i64 0)))⟩,
 ⟨(some 35), (some (32, false)), .q (.mov (.t 34))⟩,
 ⟨(some 36), (some (35, true)), .q (.ldn 4 (.t 6))⟩,
 ⟨(some 37), (some (35, true)), .q (.ldn 4 (.t 9))⟩,
 ⟨(some 38), (some (35, true)), .a (.mkSl 4 2 [(.i .u64 0), (.i .u32 0), (.i .u64 0), (.i .i64 0), (.i .u64 0), (.i .u32 0), (.i .u64 0), (.i .i64 0)] [(0, 4, (.t 36)), (4, 4, (.t 37))])⟩,
 ⟨(some 39), (some (35, true)), .call (.c (.fn 226 [])) [(.t 38)]⟩,
 ⟨(some 40), (some (35, true)), .q (.bni .eql (.t 39) (.c (.i .i64 0)))⟩,
 ⟨(some 41), (some (32, false)), .q (.pick (.t 35) (.t 40) (.c (.b false)))⟩,
 ⟨(some 42), none, .q (.pick (.t 32) (.c (.b true)) (.t 41))⟩])
 (.cond (.t 42) (.exit 1)
 .skip))
 (.dreg [⟨0, ⟨(some 43), none, .q (.mov (.t 7))⟩, [7], none, [], []⟩,
 ⟨1, ⟨(some 44), none, .q (.ldn 4 (.t 9))⟩, [9], none, [], []⟩,
 ⟨2, ⟨(some 5), none, .q (.mov (.t 43))⟩, [43], none, [], [0]⟩,
 ⟨3, ⟨none, none, .h (.st 4 (.t 6) (.t 44))⟩, [6, 44], none, [], [1, 2, 0]⟩])))))
 (.reg [⟨(some 45), none, .q (.bin .add (.t 13) (.c (.i .i64 1)))⟩,
 ⟨(some 13), none, .q (.mov (.t 45))⟩])))))))
 (.seq (.reg [⟨(some 46), none, .q (.mov (.t 5))⟩,
 ⟨(some 4), none, .q (.mov (.t 46))⟩])
 .ret)))))⟩
def f170 : FnC := ⟨46, [.cell (some 4) 4, .tmp 5],
 (.seq (.reg [⟨(some 2), none, .a (.box (.t 0))⟩,
 ⟨(some 4), none, .a (.new [(.i .u64 0), (.i .u32 0), (.i .u64 0), (.i .i64 0)])⟩,
 ⟨(some 5), none, .q (.mov (.c (.b false)))⟩])
 (.seq (.reg [⟨(some 8), none, .q (.fa 2 (.t 2))⟩,
 ⟨(some 9), none, .q (.fa 1 (.t 8))⟩,
 ⟨(some 10), none, .q (.ldn 4 (.t 9))⟩,
 ⟨(some 11), none, .q (.fa 1 (.t 2))⟩,
 ⟨(some 12), none, .q (.ld1 (.t 11))⟩,
 ⟨(some 13), none, .call (.c (.fn 227 [])) [(.t 10), (.t 12)]⟩,
 ⟨(some 6), none, .a (.new [(.i .u64 0), (.i .u32 0), (.i .u64 0), (.i .i64 0)])⟩,
 ⟨none, none, .h (.st 4 (.t 6) (.t 13))⟩])
 (.seq (.reg [⟨(some 14), none, .q (.fa 2 (.t 2))⟩,
 ⟨(some 15), none, .q (.fa 1 (.t 14))⟩,
 ⟨(some 16), none, .q (.fa 1 (.t 15))⟩,
 ⟨(some 17), none, .q (.ld1 (.t 16))⟩,
 ⟨(some 18), none, .q (.cvi .u64 (.t 17))⟩,
 ⟨(some 19), none, .q (.fa 1 (.t 2))⟩,
 ⟨(some 20), none, .q (.ld1 (.t 19))⟩,
 ⟨(some 21), none, .q (.cvi .u64 (.t 20))⟩,
 ⟨(some 22), none, .q (.bin .add (.t 18) (.t 21))⟩,
 ⟨(some 7), none, .q (.mov (.t 22))⟩])
 (.seq (.dreg [⟨0, ⟨(some 23), none, .q (.ldn 4 (.t 6))⟩, [6], none, [], []⟩,
 ⟨1, ⟨(some 24), none, .q (.fa 0 (.t 2))⟩, [2], none, [], []⟩,
 ⟨2, ⟨(some 25), none, .q (.ld1 (.t 24))⟩, [24], none, [], [1]⟩,
 ⟨3, ⟨(some 26), none, .q (.mov (.t 25))⟩, [25], none, [], [2, 1]⟩,
 ⟨4, ⟨(some 27), (some (26, true)), .q (.fa 2 (.t 2))⟩, [2, 26], none, [], [3, 2, 1]⟩,
 ⟨5, ⟨(some 28), (some (26, true)), .q (.fa 0 (.t 27))⟩, [27, 26], none, [], [4, 3, 2, 1]⟩,
 ⟨6, ⟨(some 29), (some (26, true)), .q (.ld1 (.t 28))⟩, [28, 26], none, [], [5, 3, 4, 2, 1]⟩,
 ⟨7, ⟨(some 30), none, .q (.pick (.t 26) (.t 29) (.c (.b false)))⟩, [26, 29], none, [], [3, 6, 2, 1, 5, 4]⟩,
 ⟨8, ⟨(some 31), none, .q (.mov (.t 30))⟩, [30], none, [], [7, 3, 6, 2, 1, 5, 4]⟩,
 ⟨9, ⟨(some 32), (some (31, true)), .q (.fa 2 (.t 2))⟩, [2, 31], none, [], [8, 7, 3, 6, 2, 1, 5, 4]⟩,
 ⟨10, ⟨(some 33), (some (31, true)), .q (.fa 1 (.t 32))⟩, [32, 31], none, [], [9, 8, 7, 3, 6, 2, 1, 5, 4]⟩,
 ⟨11, ⟨(some 34), (some (31, true)), .q (.fa 2 (.t 33))⟩, [33, 31], none, [], [10, 8, 9, 7, 3, 6, 2, 1, 5, 4]⟩,
 ⟨12, ⟨(some 35), (some (31, true)), .q (.ld1 (.t 34))⟩, [34, 31], none, [], [11, 8, 10, 9, 7, 3, 6, 2, 1, 5, 4]⟩,
 ⟨13, ⟨(some 36), (some (31, true)), .q (.mov (.t 1))⟩, [1, 31], none, [], [8, 7, 3, 6, 2, 1, 5, 4]⟩,
 ⟨14, ⟨(some 37), (some (31, true)), .q (.bni .neq (.t 35) (.t 36))⟩, [35, 36, 31], none, [], [12, 13, 8, 11, 10, 9, 7, 3, 6, 2, 1, 5, 4]⟩,
 ⟨15, ⟨(some 38), none, .q (.pick (.t 31) (.t 37) (.c (.b false)))⟩, [31, 37], none, [], [8, 14, 7, 3, 6, 2, 1, 5, 4, 12, 13, 11, 10, 9]⟩,
 ⟨16, ⟨(some 39), none, .q (.mov (.t 38))⟩, [38], none, [], [15, 8, 14, 7, 3, 6, 2, 1, 5, 4, 12, 13, 11, 10, 9]⟩,
 ⟨17, ⟨(some 40), (some (39, true)), .q (.mov (.t 7))⟩, [7, 39], none, [], [16, 15, 8, 14, 7, 3, 6, 2, 1, 5, 4, 12, 13, 11, 10, 9]⟩,
 ⟨18, ⟨(some 41), (some (39, true)), .q (.fa 1 (.t 6))⟩, [6, 39], none, [], [16, 15, 8, 14, 7, 3, 6, 2, 1, 5, 4, 12, 13, 11, 10, 9]⟩,
 ⟨19, ⟨(some 42), (some (39, true)), .q (.ld1 (.t 41))⟩, [41, 39], none, [], [18, 16, 15, 8, 14, 7, 3, 6, 2, 1, 5, 4, 12, 13, 11, 10, 9]⟩,
 ⟨20, ⟨(some 43), (some (39, true)), .q (.cvi .u64 (.t 42))⟩, [42, 39], none, [], [19, 16, 18, 15, 8, 14, 7, 3, 6, 2, 1, 5, 4, 12, 13, 11, 10, 9]⟩,
 ⟨21, ⟨(some 44), (some (39, true)), .q (.bni .eql (.t 40) (.t 43))⟩, [40, 43, 39], none, [], [17, 20, 16, 15, 8, 14, 7, 3, 6, 2, 1, 5, 4, 12, 13, 11, 10, 9, 19, 18]⟩,
 ⟨22, ⟨(some 45), none, .q (.pick (.t 39) (.t 44) (.c (.b false)))⟩, [39, 44], none, [], [16, 21, 15, 8, 14, 7, 3, 6, 2, 1, 5, 4, 12, 13, 11, 10, 9, 17, 20, 19, 18]⟩,
 ⟨23, ⟨none, none, .h (.st 4 (.t 4) (.t 23))⟩, [4, 23], none, [5, 4, 3, 2, 1, 0], [0, 16, 15, 8, 14, 7, 3, 6, 2, 1, 5, 4, 12, 13, 11, 10, 9]⟩,
 ⟨24, ⟨(some 5), none, .q (.mov (.t 45))⟩, [45], none, [], [22, 23, 0, 1, 2, 3, 4, 5, 6, 7, 8, 9, 10, 11, 12, 13, 14, 15, 16, 17, 18, 19, 20, 21]⟩])
 .ret))))⟩
def f171 : FnC := ⟨31, [.tmp 6],
 (.seq (.reg [⟨(some 3), none, .a (.box (.t 0))⟩,
 ⟨(some 5), none, .a (.box (.t 2))⟩,
 ⟨(some 6), none, .q (.mov (.c (.i .i64 0)))⟩])
 (.seq (.block 0 (.seq (.reg [⟨(some 8), none, .q (.fa 0 (.t 3))⟩,
 ⟨(some 9), none, .q (.ld1 (.t 8))⟩,
 ⟨(some 10), none, .q (.un .not (.t 9))⟩,
 ⟨(some 7), none, .q (.mov (.t 10))⟩])
 (.cond (.t 7) .dead
 (.seq (.reg [⟨(some 12), none, .q (.fa 2 (.t 3))⟩,
 ⟨(some 13), none, .q (.fa 0 (.t 12))⟩,
 ⟨(some 14), none, .q (.ld1 (.t 13))⟩,
 ⟨(some 15), none, .q (.un .not (.t 14))⟩,
 ⟨(some 16), none, .q (.mov (.t 15))⟩,
 ⟨(some 17), (some (16, false)), .q (.fa 2 (.t 3))⟩,
 ⟨(some 18), (some (16, false)), .q (.fa 1 (.t 17))⟩,
 ⟨(some 19), (some (16, false)), .q (.ldn 4 (.t 18))⟩,
 ⟨(some 20), (some (16, false)), .q (.ldn 4 (.t 5))⟩,
 ⟨(some 21), (some (16, false)), .call (.c (.fn 228 [])) [(.t 19), (.t 20)]⟩,
 ⟨(some 22), (some (16, false)), .q (.bin .geq (.t 21) (.c (.i .i64 0)))⟩,
 ⟨(some 23), none, .q (.pick (.t 16) (.c (.b true)) (.t 22))⟩,
 ⟨(some 11), none, .q (.mov (.t 23))⟩])
 (.cond (.t 11) (.seq (.reg [⟨(some 6), none, .q (.mov (.c (.i .i64 3)))⟩])
 .ret)
 .dead)))))
 .dead))⟩
def f172 : FnC := ⟨9, [.tmp 2],
 (.seq (.reg [⟨(some 2), none, .q (.mov (.c (.b false)))⟩])
 (.seq (.reg [⟨(some 3), none, .q (.mov (.t 0))⟩,
 ⟨(some 4), none, .q (.bni .eql (.t 3) (.c (.i .i64 2)))⟩,
 ⟨(some 5), none, .q (.mov (.t 4))⟩,
 ⟨(some 6), (some (5, false)), .q (.mov (.t 0))⟩,
 ⟨(some 7), (some (5, false)), .q (.bni .eql (.t 6) (.c (.i .i64 3)))⟩,
 ⟨(some 8), none, .q (.pick (.t 5) (.c (.b true)) (.t 7))⟩,
 ⟨(some 2), none, .q (.mov (.t 8))⟩])
 .ret))⟩
def f173 : FnC := ⟨19, [.tmp 4],
 (.seq (.reg [⟨(some 4), none, .q (.mov (.c (.i .i64 0)))⟩])
 (.seq (.seq (.reg [⟨(some 6), none, .q (.mov (.t 0))⟩,
 ⟨(some 7), none, .q (.lenL (.t 6))⟩,
 ⟨(some 8), none, .q (.mov (.c (.i .i64 0)))⟩])
 (.block 0 (.loop (.seq (.reg [⟨(some 9), none, .q (.bin .lss (.t 8) (.t 7))⟩])
 (.seq (.cond (.t 9) .skip
 (.exit 0))
 (.seq (.block 1 (.seq (.reg [⟨(some 10), none, .q (.mov (.t 8))⟩,
 ⟨(some 5), none, .q (.mov (.t 10))⟩])
 (.seq (.reg [⟨(some 11), none, .q (.mov (.t 1))⟩,
 ⟨(some 12), none, .q (.mov (.t 0))⟩,
 ⟨(some 13), none, .q (.mov (.t 5))⟩,
 ⟨(some 14), none, .q (.ia 1 (.t 12) (.t 13))⟩,
 ⟨(some 15), none, .q (.ld1 (.t 14))⟩,
 ⟨(some 16), none, .q (.bni .eql (.t 11) (.t 15))⟩])
 (.cond (.t 16) (.seq (.reg [⟨(some 17), none, .q (.mov (.t 5))⟩,
 ⟨(some 4), none, .q (.mov (.t 17))⟩])
 .ret)
 .skip))))
 (.reg [⟨(some 18), none, .q (.bin .add (.t 8) (.c (.i .i64 1)))⟩,
 ⟨(some 8), none, .q (.mov (.t 18))⟩])))))))
 (.seq (.reg [⟨(some 4), none, .q (.mov (.c (.i .i64 (-1))))⟩])
 .ret)))⟩
def f174 : FnC := ⟨7, [.tmp 4],
 (.seq (.reg [⟨(some 4), none, .q (.mov (.c (.i .u8 0)))⟩])
 (.seq (.seq (.reg [⟨(some 5), none, .q (.mov (.t 0))⟩])
 (.cond (.t 5) (.seq (.reg [⟨(some 6), none, .q (.mov (.t 1))⟩,
 ⟨(some 4), none, .q (.mov (.t 6))⟩])
 .ret)
 .skip))
 (.seq (.reg [⟨(some 4), none, .q (.mov (.c (.i .u8 0)))⟩])
 .ret)))⟩
def f175 : FnC := ⟨66, [.tmp 8],
 (.seq (.reg [⟨(some 8), none, .q (.mov (.c .nilsl))⟩])
 (.seq (.seq (.reg [⟨(some 12), none, .q (.mov (.t 3))⟩,
 ⟨(some 13), none, .q (.bni .eql (.t 12) (.c (.i .i64 0)))⟩])
 (.cond (.t 13) .dead
 .skip))
 (.seq (.seq (.reg [⟨(some 14), none, .q (.mov (.t 1))⟩,
 ⟨(some 15), none, .q (.bni .eql (.t 14) (.c (.s ⟨#[]⟩)))⟩])
 (.cond (.t 15) .dead
 .skip))
 (.seq (.seq (.reg [⟨(some 19), none, .q (.mov (.t 3))⟩,
 ⟨(some 20), none, .q (.bin .lss (.t 19) (.c (.i .i64 0)))⟩])
 (.cond (.t 20) (.reg [⟨(some 21), none, .q (.mov (.t 0))⟩,
 ⟨(some 22), none, .q (.mov (.t 1))⟩,
 ⟨(some 23), none, .call (.c (.fn 230 [])) [(.t 21), (.t 22)]⟩,
 ⟨(some 24), none, .q (.bin .add (.t 23) (.c (.i .i64 1)))⟩,
 ⟨(some 3), none, .q (.mov (.t 24))⟩])
 .dead))
 (.seq (.reg [⟨(some 25), none, .q (.mov (.t 3))⟩,
 ⟨(some 26), none, .q (.mov (.t 0))⟩,
 ⟨(some 27), none, .q (.lenS (.t 26))⟩,
 ⟨(some 28), none, .q (.bin .add (.t 27) (.c (.i .i64 1)))⟩,
 ⟨(some 29), none, .q (.mn (.t 25) [(.t 28)])⟩,
 ⟨(some 3), none, .q (.mov (.t 29))⟩])
 (.seq (.reg [⟨(some 30), none, .q (.mov (.t 3))⟩,
 ⟨(some 31), none, .a (.mk 1 16 [(.s ⟨#[]⟩)] (.t 30) (.t 30))⟩,
 ⟨(some 9), none, .q (.mov (.t 31))⟩])
 (.seq (.reg [⟨(some 32), none, .q (.mov (.t 3))⟩,
 ⟨(some 33), none, .q (.bin .sub (.t 32) (.c (.i .i64 1)))⟩,
 ⟨(some 3), none, .q (.mov (.t 33))⟩])
 (.seq (.reg [⟨(some 10), none, .q (.mov (.c (.i .i64 0)))⟩])
 (.seq (.block 0 (.loop (.seq (.seq (.reg [⟨(some 34), none, .q (.mov (.t 10))⟩,
 ⟨(some 35), none, .q (.mov (.t 3))⟩,
 ⟨(some 36), none, .q (.bin .lss (.t 34) (.t 35))⟩])
 (.cond (.t 36) .skip
 (.exit 0)))
 (.block 1 (.seq (.reg [⟨(some 37), none, .q (.mov (.t 0))⟩,
 ⟨(some 38), none, .q (.mov (.t 1))⟩,
 ⟨(some 39), none, .call (.c (.fn 231 [])) [(.t 37), (.t 38)]⟩,
 ⟨(some 11), none, .q (.mov (.t 39))⟩])
 (.seq (.seq (.reg [⟨(some 40), none, .q (.mov (.t 11))⟩,
 ⟨(some 41), none, .q (.bin .lss (.t 40) (.c (.i .i64 0)))⟩])
 (.cond (.t 41) .dead
 .skip))
 (.seq (.reg [⟨(some 42), none, .q (.mov (.t 9))⟩,
 ⟨(some 43), none, .q (.mov (.t 10))⟩,
 ⟨(some 44), none, .q (.mov (.t 0))⟩,
 ⟨(some 45), none, .q (.mov (.t 11))⟩,
 ⟨(some 46), none, .q (.mov (.t 2))⟩,
 ⟨(some 47), none, .q (.bin .add (.t 45) (.t 46))⟩,
 ⟨(some 48), none, .q (.sls (.t 44) none (some (.t 47)))⟩,
 ⟨(some 49), none, .q (.ia 1 (.t 42) (.t 43))⟩,
 ⟨none, none, .h (.st 1 (.t 49) (.t 48))⟩])
 (.seq (.reg [⟨(some 50), none, .q (.mov (.t 0))⟩,
 ⟨(some 51), none, .q (.mov (.t 11))⟩,
 ⟨(some 52), none, .q (.mov (.t 1))⟩,
 ⟨(some 53), none, .q (.lenS (.t 52))⟩,
 ⟨(some 54), none, .q (.bin .add (.t 51) (.t 53))⟩,
 ⟨(some 55), none, .q (.sls (.t 50) (some (.t 54)) none)⟩,
 ⟨(some 0), none, .q (.mov (.t 55))⟩])
 (.reg [⟨(some 56), none, .q (.mov (.t 10))⟩,
 ⟨(some 57), none, .q (.bin .add (.t 56) (.c (.i .i64 1)))⟩,
 ⟨(some 10), none, .q (.mov (.t 57))⟩])))))))))
 (.seq (.reg [⟨(some 58), none, .q (.mov (.t 9))⟩,
 ⟨(some 59), none, .q (.mov (.t 10))⟩,
 ⟨(some 60), none, .q (.mov (.t 0))⟩,
 ⟨(some 61), none, .q (.ia 1 (.t 58) (.t 59))⟩,
 ⟨none, none, .h (.st 1 (.t 61) (.t 60))⟩])
 (.seq (.reg [⟨(some 62), none, .q (.mov (.t 9))⟩,
 ⟨(some 63), none, .q (.mov (.t 10))⟩,
 ⟨(some 64), none, .q (.bin .add (.t 63) (.c (.i .i64 1)))⟩,
 ⟨(some 65), none, .q (.sl 1 (.t 62) none (some (.t 64)) none)⟩,
 ⟨(some 8), none, .q (.mov (.t 65))⟩])
 .ret)))))))))))⟩
def f189 : FnC := ⟨86, [.tmp 6],
 (.seq (.reg [⟨(some 4), none, .a (.box (.t 1))⟩,
 ⟨(some 6), none, .q (.mov (.c (.b false)))⟩])
 (.seq (.seq (.reg [⟨(some 9), none, .q (.mov (.t 0))⟩,
 ⟨(some 10), none, .q (.eqr false .ptr (.t 9) (.c .nilp))⟩,
 ⟨(some 11), none, .q (.mov (.t 10))⟩,
 ⟨(some 12), (some (11, false)), .q (.fa 5 (.t 4))⟩,
 ⟨(some 13), (some (11, false)), .q (.ld1 (.t 12))⟩,
 ⟨(some 14), (some (11, false)), .q (.bni .neq (.t 13) (.c (.i .i64 3)))⟩,
 ⟨(some 15), none, .q (.pick (.t 11) (.c (.b true)) (.t 14))⟩])
 (.cond (.t 15) .dead
 .skip))
 (.seq (.dreg [⟨0, ⟨(some 16), none, .q (.mov (.t 0))⟩, [0], none, [], []⟩,
 ⟨1, ⟨(some 17), none, .q (.nck (.t 16))⟩, [16], none, [], [0]⟩,
 ⟨2, ⟨(some 18), none, .q (.fa 0 (.t 17))⟩, [17], none, [], [1, 0]⟩,
 ⟨3, ⟨(some 19), none, .q (.ld1 (.t 18))⟩, [18], none, [], [2, 1, 0]⟩,
 ⟨4, ⟨(some 20), none, .q (.mov (.t 19))⟩, [19], none, [], [3, 2, 1, 0]⟩,
 ⟨5, ⟨(some 21), (some (20, true)), .q (.mov (.t 0))⟩, [0, 20], none, [], [4, 3, 2, 1, 0]⟩,
 ⟨6, ⟨(some 22), (some (20, true)), .q (.nck (.t 21))⟩, [21, 20], none, [], [5, 4, 3, 2, 1, 0]⟩,
 ⟨7, ⟨(some 23), (some (20, true)), .q (.fa 1 (.t 22))⟩, [22, 20], none, [], [6, 4, 5, 3, 2, 1, 0]⟩,
 ⟨8, ⟨(some 24), (some (20, true)), .q (.ldn 4 (.t 23))⟩, [23, 20], none, [], [7, 4, 6, 5, 3, 2, 1, 0]⟩,
 ⟨9, ⟨(some 25), (some (20, true)), .q (.fa 0 (.t 4))⟩, [4, 20], none, [], [4, 3, 2, 1, 0]⟩,
 ⟨10, ⟨(some 26), (some (20, true)), .q (.ldn 4 (.t 25))⟩, [25, 20], none, [], [9, 4, 3, 2, 1, 0]⟩,
 ⟨11, ⟨(some 27), (some (20, true)), .call (.c (.fn 244 [])) [(.t 24), (.t 26)]⟩, [24, 26, 20], none, [], [8, 10, 4, 7, 6, 5, 3, 2, 1, 0, 9]⟩,
 ⟨12, ⟨(some 28), none, .q (.pick (.t 20) (.t 27) (.c (.b false)))⟩, [20, 27], none, [], [4, 11, 3, 2, 1, 0, 8, 10, 7, 6, 5, 9]⟩,
 ⟨13, ⟨(some 7), none, .q (.mov (.t 28))⟩, [28], none, [], [12, 11, 0, 1, 2, 3, 4, 5, 6, 7, 8, 9, 10]⟩])
 (.seq (.seq (.reg [⟨(some 29), none, .q (.fa 4 (.t 4))⟩,
 ⟨(some 30), none, .q (.ld1 (.t 29))⟩,
 ⟨(some 31), none, .q (.mov (.t 2))⟩,
 ⟨(some 32), none, .q (.bin .geq (.t 30) (.t 31))⟩])
 (.cond (.t 32) .dead
 .skip))
 (.seq (.seq (.dreg [⟨0, ⟨(some 37), none, .q (.mov (.t 0))⟩, [0], none, [], []⟩,
 ⟨1, ⟨(some 38), none, .q (.nck (.t 37))⟩, [37], none, [], [0]⟩,
 ⟨2, ⟨(some 39), none, .q (.fa 0 (.t 38))⟩, [38], none, [], [1, 0]⟩,
 ⟨3, ⟨(some 40), none, .q (.ld1 (.t 39))⟩, [39], none, [], [2, 1, 0]⟩,
 ⟨4, ⟨(some 41), none, .q (.mov (.t 40))⟩, [40], none, [], [3, 2, 1, 0]⟩,
 ⟨5, ⟨(some 42), (some (41, true)), .q (.mov (.t 7))⟩, [7, 41], none, [], [4, 3, 2, 1, 0]⟩,
 ⟨6, ⟨(some 43), (some (41, true)), .q (.un .not (.t 42))⟩, [42, 41], none, [], [5, 4, 3, 2, 1, 0]⟩,
 ⟨7, ⟨(some 44), none, .q (.pick (.t 41) (.t 43) (.c (.b false)))⟩, [41, 43], none, [], [4, 6, 3, 2, 1, 0, 5]⟩,
 ⟨8, ⟨(some 45), none, .q (.mov (.t 44))⟩, [44], none, [], [7, 4, 6, 3, 2, 1, 0, 5]⟩,
 ⟨9, ⟨(some 46), (some (45, true)), .q (.fa 0 (.t 4))⟩, [4, 45], none, [], [8, 7, 4, 6, 3, 2, 1, 0, 5]⟩,
 ⟨10, ⟨(some 47), (some (45, true)), .q (.ldn 4 (.t 46))⟩, [46, 45], none, [], [9, 8, 7, 4, 6, 3, 2, 1, 0, 5]⟩,
 ⟨11, ⟨(some 48), (some (45, true)), .q (.mov (.t 0))⟩, [0, 45], none, [], [8, 7, 4, 6, 3, 2, 1, 0, 5]⟩,
 ⟨12, ⟨(some 49), (some (45, true)), .q (.nck (.t 48))⟩, [48, 45], none, [], [11, 8, 7, 4, 6, 3, 2, 1, 0, 5]⟩,
 ⟨13, ⟨(some 50), (some (45, true)), .q (.fa 1 (.t 49))⟩, [49, 45], none, [], [12, 8, 11, 7, 4, 6, 3, 2, 1, 0, 5]⟩,
 ⟨14, ⟨(some 51), (some (45, true)), .q (.ldn 4 (.t 50))⟩, [50, 45], none, [], [13, 8, 12, 11, 7, 4, 6, 3, 2, 1, 0, 5]⟩,
 ⟨15, ⟨(some 52), (some (45, true)), .call (.c (.fn 228 [])) [(.t 47), (.t 51)]⟩, [47, 51, 45], none, [], [10, 14, 8, 9, 7, 4, 6, 3, 2, 1, 0, 5, 13, 12, 11]⟩,
 ⟨16, ⟨(some 53), (some (45, true)), .q (.bin .geq (.t 52) (.c (.i .i64 0)))⟩, [52, 45], none, [], [15, 8, 10, 14, 9, 7, 4, 6, 3, 2, 1, 0, 5, 13, 12, 11]⟩,
 ⟨17, ⟨(some 54), none, .q (.pick (.t 45) (.t 53) (.c (.b false)))⟩, [45, 53], none, [], [8, 16, 7, 4, 6, 3, 2, 1, 0, 5, 15, 10, 14, 9, 13, 12, 11]⟩])
 (.cond (.t 54) .dead
 .skip))
 (.seq (.reg [⟨(some 55), none, .q (.mov (.t 0))⟩,
 ⟨(some 56), none, .q (.nck (.t 55))⟩,
 ⟨(some 57), none, .q (.ldn 7 (.t 56))⟩,
 ⟨(some 8), none, .a (.new [(.b false), (.i .u64 0), (.i .u32 0), (.i .u64 0), (.i .i64 0), (.i .i64 0), (.i .i64 0)])⟩,
 ⟨none, none, .h (.st 7 (.t 8) (.t 57))⟩])
 (.seq (.reg [⟨(some 58), none, .q (.mov (.t 0))⟩,
 ⟨(some 59), none, .q (.fa 0 (.t 4))⟩,
 ⟨(some 60), none, .q (.ldn 4 (.t 59))⟩,
 ⟨(some 61), none, .q (.fa 4 (.t 4))⟩,
 ⟨(some 62), none, .q (.ld1 (.t 61))⟩,
 ⟨(some 63), none, .q (.build [(.b false), (.i .u64 0), (.i .u32 0), (.i .u64 0), (.i .i64 0), (.i .i64 0), (.i .i64 0)] [(0, 1, (.c (.b true))), (1, 4, (.t 60)), (5, 1, (.t 62)), (6, 1, (.c (.i .i64 3)))])⟩,
 ⟨(some 64), none, .q (.nck (.t 58))⟩,
 ⟨none, none, .h (.st 7 (.t 64) (.t 63))⟩])
 (.seq (.dreg [⟨0, ⟨(some 65), none, .q (.fa 0 (.t 8))⟩, [8], none, [], []⟩,
 ⟨1, ⟨(some 66), none, .q (.ld1 (.t 65))⟩, [65], none, [], [0]⟩,
 ⟨2, ⟨(some 67), none, .q (.un .not (.t 66))⟩, [66], none, [], [1, 0]⟩,
 ⟨3, ⟨(some 68), none, .q (.mov (.t 67))⟩, [67], none, [], [2, 1, 0]⟩,
 ⟨4, ⟨(some 69), (some (68, false)), .q (.fa 1 (.t 8))⟩, [8, 68], none, [], [3, 2, 1, 0]⟩,
 ⟨5, ⟨(some 70), (some (68, false)), .q (.ldn 4 (.t 69))⟩, [69, 68], none, [], [4, 3, 2, 1, 0]⟩,
 ⟨6, ⟨(some 71), (some (68, false)), .q (.mov (.t 0))⟩, [0, 68], none, [], [3, 2, 1, 0]⟩,
 ⟨7, ⟨(some 72), (some (68, false)), .q (.nck (.t 71))⟩, [71, 68], none, [], [6, 3, 2, 1, 0]⟩,
 ⟨8, ⟨(some 73), (some (68, false)), .q (.fa 1 (.t 72))⟩, [72, 68], none, [], [7, 3, 6, 2, 1, 0]⟩,
 ⟨9, ⟨(some 74), (some (68, false)), .q (.ldn 4 (.t 73))⟩, [73, 68], none, [], [8, 3, 7, 6, 2, 1, 0]⟩,
 ⟨10, ⟨(some 75), (some (68, false)), .q (.eqs true [.int, .int, .int, .int] (.t 70) (.t 74))⟩, [70, 74, 68], none, [], [5, 9, 3, 4, 2, 1, 0, 8, 7, 6]⟩,
 ⟨11, ⟨(some 76), none, .q (.pick (.t 68) (.c (.b true)) (.t 75))⟩, [68, 75], none, [], [3, 10, 2, 1, 0, 5, 9, 4, 8, 7, 6]⟩,
 ⟨12, ⟨(some 77), none, .q (.mov (.t 76))⟩, [76], none, [], [11, 3, 10, 2, 1, 0, 5, 9, 4, 8, 7, 6]⟩,
 ⟨13, ⟨(some 78), (some (77, false)), .q (.fa 5 (.t 8))⟩, [8, 77], none, [], [12, 11, 3, 10, 2, 1, 0, 5, 9, 4, 8, 7, 6]⟩,
 ⟨14, ⟨(some 79), (some (77, false)), .q (.ld1 (.t 78))⟩, [78, 77], none, [], [13, 12, 11, 3, 10, 2, 1, 0, 5, 9, 4, 8, 7, 6]⟩,
 ⟨15, ⟨(some 80), (some (77, false)), .q (.mov (.t 0))⟩, [0, 77], none, [], [12, 11, 3, 10, 2, 1, 0, 5, 9, 4, 8, 7, 6]⟩,
 ⟨16, ⟨(some 81), (some (77, false)), .q (.nck (.t 80))⟩, [80, 77], none, [], [15, 12, 11, 3, 10, 2, 1, 0, 5, 9, 4, 8, 7, 6]⟩,
 ⟨17, ⟨(some 82), (some (77, false)), .q (.fa 5 (.t 81))⟩, [81, 77], none, [], [16, 12, 15, 11, 3, 10, 2, 1, 0, 5, 9, 4, 8, 7, 6]⟩,
 ⟨18, ⟨(some 83), (some (77, false)), .q (.ld1 (.t 82))⟩, [82, 77], none, [], [17, 12, 16, 15, 11, 3, 10, 2, 1, 0, 5, 9, 4, 8, 7, 6]⟩,
 ⟨19, ⟨(some 84), (some (77, false)), .q (.bni .neq (.t 79) (.t 83))⟩, [79, 83, 77], none, [], [14, 18, 12, 13, 11, 3, 10, 2, 1, 0, 5, 9, 4, 8, 7, 6, 17, 16, 15]⟩,
 ⟨20, ⟨(some 85), none, .q (.pick (.t 77) (.c (.b true)) (.t 84))⟩, [77, 84], none, [], [12, 19, 11, 3, 10, 2, 1, 0, 5, 9, 4, 8, 7, 6, 14, 18, 13, 17, 16, 15]⟩,
 ⟨21, ⟨(some 6), none, .q (.mov (.t 85))⟩, [85], none, [], [20, 12, 0, 1, 2, 3, 4, 5, 6, 7, 8, 9, 10, 11, 13, 14, 15, 16, 17, 18, 19]⟩])
 .ret))))))))⟩
def f190 : FnC := ⟨77, [.tmp 4],
 (.seq (.reg [⟨(some 4), none, .q (.mov (.c .nilsl))⟩])
 (.seq (.seq (.reg [⟨(some 7), none, .q (.mov (.t 0))⟩,
 ⟨(some 8), none, .q (.nck (.t 7))⟩,
 ⟨(some 9), none, .q (.fa 3 (.t 8))⟩,
 ⟨(some 10), none, .q (.ld1 (.t 9))⟩,
 ⟨(some 11), none, .q (.mov (.t 1))⟩,
 ⟨(some 12), none, .q (.ia 13 (.t 10) (.t 11))⟩,
 ⟨(some 13), none, .q (.fa 9 (.t 12))⟩,
 ⟨(some 14), none, .q (.ld1 (.t 13))⟩])
 (.block 0 (.seq (.reg [⟨(some 16), none, .q (.bni .eql (.t 14) (.c (.i .i64 2)))⟩,
 ⟨(some 15), none, .q (.mov (.t 16))⟩])
 (.cond (.t 15) (.seq (.seq (.reg [⟨(some 17), none, .q (.mov (.t 0))⟩,
 ⟨(some 18), none, .q (.nck (.t 17))⟩,
 ⟨(some 19), none, .q (.fa 3 (.t 18))⟩,
 ⟨(some 20), none, .q (.ld1 (.t 19))⟩,
 ⟨(some 21), none, .q (.lenL (.t 20))⟩,
 ⟨(some 22), none, .q (.mov (.c (.i .i64 0)))⟩])
 (.block 1 (.loop (.seq (.reg [⟨(some 23), none, .q (.bin .lss (.t 22) (.t 21))⟩])
 (.seq (.cond (.t 23) .skip
 (.exit 1))
 (.seq (.block 2 (.seq (.reg [⟨(some 24), none, .q (.mov (.t 22))⟩,
 ⟨(some 5), none, .q (.mov (.t 24))⟩])
 (.seq (.reg [⟨(some 25), none, .q (.mov (.t 0))⟩,
 ⟨(some 26), none, .q (.nck (.t 25))⟩,
 ⟨(some 27), none, .q (.fa 3 (.t 26))⟩,
 ⟨(some 28), none, .q (.ld1 (.t 27))⟩,
 ⟨(some 29), none, .q (.mov (.t 5))⟩,
 ⟨(some 30), none, .q (.ia 13 (.t 28) (.t 29))⟩,
 ⟨(some 6), none, .q (.mov (.t 30))⟩])
 (.seq (.reg [⟨(some 31), none, .q (.mov (.t 5))⟩,
 ⟨(some 32), none, .q (.mov (.t 1))⟩,
 ⟨(some 33), none, .q (.bni .neq (.t 31) (.t 32))⟩,
 ⟨(some 34), none, .q (.mov (.t 33))⟩,
 ⟨(some 35), (some (34, true)), .q (.mov (.t 6))⟩,
 ⟨(some 36), (some (34, true)), .q (.nck (.t 35))⟩,
 ⟨(some 37), (some (34, true)), .q (.fa 9 (.t 36))⟩,
 ⟨(some 38), (some (34, true)), .q (.ld1 (.t 37))⟩,
 ⟨(some 39), (some (34, true)), .q (.bni .eql (.t 38) (.c (.i .i64 3)))⟩,
 ⟨(some 40), none, .q (.pick (.t 34) (.t 39) (.c (.b false)))⟩,
 ⟨(some 41), none, .q (.mov (.t 40))⟩,
 ⟨(some 42), (some (41, true)), .q (.mov (.t 6))⟩,
 ⟨(some 43), (some (41, true)), .q (.nck (.t 42))⟩,
 ⟨(some 44), (some (41, true)), .q (.fa 12 (.t 43))⟩,
 ⟨(some 45), (some (41, true)), .q (.ld1 (.t 44))⟩,
 ⟨(some 46), (some (41, true)), .q (.un .not (.t 45))⟩,
 ⟨(some 47), none, .q (.pick (.t 41) (.t 46) (.c (.b false)))⟩,
 ⟨(some 48), none, .q (.mov (.t 47))⟩,
 ⟨(some 49), (some (48, true)), .q (.mov (.t 6))⟩,
 ⟨(some 50), (some (48, true)), .q (.nck (.t 49))⟩,
 ⟨(some 51), (some (48, true)), .q (.fa 10 (.t 50))⟩,
 ⟨(some 52), (some (48, true)), .q (.ld1 (.t 51))⟩,
 ⟨(some 53), (some (48, true)), .q (.bni .neq (.t 52) (.c (.i .i64 0)))⟩,
 ⟨(some 54), none, .q (.pick (.t 48) (.t 53) (.c (.b false)))⟩])
 (.cond (.t 54) .dead
 .skip)))))
 (.reg [⟨(some 62), none, .q (.bin .add (.t 22) (.c (.i .i64 1)))⟩,
 ⟨(some 22), none, .q (.mov (.t 62))⟩])))))))
 (.reg [⟨(some 63), none, .q (.mov (.t 0))⟩,
 ⟨(some 64), none, .q (.nck (.t 63))⟩,
 ⟨(some 65), none, .q (.fa 3 (.t 64))⟩,
 ⟨(some 66), none, .q (.ld1 (.t 65))⟩,
 ⟨(some 67), none, .q (.mov (.t 1))⟩,
 ⟨(some 68), none, .q (.ia 13 (.t 66) (.t 67))⟩,
 ⟨(some 69), none, .call (.c (.fn 191 [])) [(.t 68)]⟩]))
 .dead))))
 (.seq (.reg [⟨(some 73), none, .q (.mov (.t 0))⟩,
 ⟨(some 74), none, .q (.mov (.t 1))⟩,
 ⟨(some 75), none, .call (.c (.fn 246 [])) [(.t 73), (.t 74)]⟩,
 ⟨(some 76), none, .a (.mkSl 12 1 [(.i .i64 0), (.i .u64 0), (.i .u32 0), (.i .u64 0), (.i .i64 0), (.i .i64 0), (.i .i64 0), (.b false), (.b false), (.b false), (.b false), (.b false)] [(0, 12, (.t 75))])⟩,
 ⟨(some 4), none, .q (.mov (.t 76))⟩])
 .ret)))⟩
def f191 : FnC := ⟨9, [.tmp 2],
 (.seq (.reg [⟨(some 2), none, .q (.mov (.c (.b false)))⟩])
 (.seq (.reg [⟨(some 3), none, .q (.mov (.t 0))⟩,
 ⟨(some 4), none, .call (.c (.fn 124 [])) [(.t 3)]⟩,
 ⟨(some 5), none, .q (.mov (.t 4))⟩,
 ⟨(some 6), (some (5, true)), .q (.mov (.t 0))⟩,
 ⟨(some 7), (some (5, true)), .call (.c (.fn 125 [])) [(.t 6), (.c (.i .i64 2)), (.c (.i .i64 0))]⟩,
 ⟨(some 8), none, .q (.pick (.t 5) (.t 7) (.c (.b false)))⟩,
 ⟨(some 2), none, .q (.mov (.t 8))⟩])
 .ret))⟩
def f196 : FnC := ⟨20, [.tmp 4],
 (.seq (.reg [⟨(some 4), none, .q (.mov (.c (.i .i64 0)))⟩])
 (.seq (.reg [⟨(some 7), none, .q (.mov (.t 0))⟩,
 ⟨(some 8), none, .call (.c (.fn 249 [])) [(.t 7)]⟩,
 ⟨(some 5), none, .q (.mov (.t 8))⟩])
 (.seq (.reg [⟨(some 9), none, .q (.mov (.t 1))⟩,
 ⟨(some 10), none, .call (.c (.fn 249 [])) [(.t 9)]⟩,
 ⟨(some 6), none, .q (.mov (.t 10))⟩])
 (.seq (.seq (.reg [⟨(some 11), none, .q (.mov (.t 5))⟩])
 (.cond (.t 11) .dead
 .skip))
 (.seq (.seq (.reg [⟨(some 13), none, .q (.mov (.t 6))⟩])
 (.cond (.t 13) .dead
 .skip))
 (.seq (.seq (.reg [⟨(some 14), none, .q (.mov (.t 0))⟩,
 ⟨(some 15), none, .q (.mov (.t 1))⟩,
 ⟨(some 16), none, .q (.bin .lss (.t 14) (.t 15))⟩])
 (.cond (.t 16) .dead
 .skip))
 (.seq (.seq (.reg [⟨(some 17), none, .q (.mov (.t 0))⟩,
 ⟨(some 18), none, .q (.mov (.t 1))⟩,
 ⟨(some 19), none, .q (.bin .gtr (.t 17) (.t 18))⟩])
 (.cond (.t 19) .dead
 .skip))
 (.seq (.reg [⟨(some 4), none, .q (.mov (.c (.i .i64 0)))⟩])
 .ret))))))))⟩
def f203 : FnC := ⟨27, [.tmp 4],
 (.seq (.reg [⟨(some 4), none, .q (.mov (.c .nilsl))⟩])
 (.seq (.seq (.reg [⟨(some 5), none, .q (.mov (.t 1))⟩,
 ⟨(some 6), none, .q (.bin .lss (.t 5) (.c (.i .i64 0)))⟩])
 (.cond (.t 6) .dead
 .skip))
 (.seq (.seq (.reg [⟨(some 8), none, .q (.mov (.t 1))⟩,
 ⟨(some 9), none, .q (.mov (.t 0))⟩,
 ⟨(some 10), none, .q (.cap (.t 9))⟩,
 ⟨(some 11), none, .q (.mov (.t 0))⟩,
 ⟨(some 12), none, .q (.lenL (.t 11))⟩,
 ⟨(some 13), none, .q (.bin .sub (.t 10) (.t 12))⟩,
 ⟨(some 14), none, .q (.bin .sub (.t 8) (.t 13))⟩,
 ⟨(some 1), none, .q (.mov (.t 14))⟩])
 (.seq (.reg [⟨(some 15), none, .q (.mov (.t 1))⟩,
 ⟨(some 16), none, .q (.bin .gtr (.t 15) (.c (.i .i64 0)))⟩])
 (.cond (.t 16) (.reg [⟨(some 17), none, .q (.mov (.t 0))⟩,
 ⟨(some 18), none, .q (.mov (.t 0))⟩,
 ⟨(some 19), none, .q (.cap (.t 18))⟩,
 ⟨(some 20), none, .q (.sl 1 (.t 17) none (some (.t 19)) none)⟩,
 ⟨(some 21), none, .q (.mov (.t 1))⟩,
 ⟨(some 22), none, .h (.appZ 1 1 [(.i .u8 0)] (.t 20) (.t 21))⟩,
 ⟨(some 23), none, .q (.mov (.t 0))⟩,
 ⟨(some 24), none, .q (.lenL (.t 23))⟩,
 ⟨(some 25), none, .q (.sl 1 (.t 22) none (some (.t 24)) none)⟩,
 ⟨(some 0), none, .q (.mov (.t 25))⟩])
 .dead)))
 (.seq (.reg [⟨(some 26), none, .q (.mov (.t 0))⟩,
 ⟨(some 4), none, .q (.mov (.t 26))⟩])
 .ret))))⟩
def f204 : FnC := ⟨6, [.tmp 2],
 (.seq (.reg [⟨(some 2), none, .q (.mov (.c .nilp))⟩])
 (.seq (.reg [⟨(some 3), none, .q (.mov (.t 0))⟩,
 ⟨(some 4), none, .a (.mkSl 1 2 [(.i .i64 0), (.i .i64 0)] [(0, 1, (.c (.i .i64 0))), (1, 1, (.c (.i .i64 16)))])⟩,
 ⟨(some 5), none, .call (.c (.fn 255 [])) [(.t 3), (.t 4)]⟩,
 ⟨(some 2), none, .q (.mov (.t 5))⟩])
 .ret))⟩
def f205 : FnC := ⟨18, [.tmp 2, .tmp 3],
 (.seq (.reg [⟨(some 1), none, .a (.box (.t 0))⟩,
 ⟨(some 2), none, .q (.mov (.c .nilsl))⟩,
 ⟨(some 3), none, .q (.mov (.c (.i .i64 0)))⟩])
 (.seq (.seq (.reg [⟨(some 5), none, .q (.ldn 6 (.t 1))⟩,
 ⟨(some 6), none, .call (.c (.fn 163 [])) [(.t 5)]⟩,
 ⟨(some 7), none, .q (.un .not (.t 6))⟩])
 (.cond (.t 7) .dead
 .skip))
 (.seq (.reg [⟨(some 8), none, .q (.build [.nilsl] [])⟩,
 ⟨(some 9), none, .a (.box (.t 8))⟩,
 ⟨(some 4), none, .q (.mov (.t 9))⟩])
 (.seq (.reg [⟨(some 10), none, .q (.mov (.t 4))⟩,
 ⟨(some 11), none, .q (.ldn 6 (.t 1))⟩,
 ⟨(some 12), none, .call (.c (.fn 256 [])) [(.t 10), (.t 11)]⟩])
 (.seq (.reg [⟨(some 13), none, .q (.mov (.t 4))⟩,
 ⟨(some 14), none, .q (.nck (.t 13))⟩,
 ⟨(some 15), none, .q (.fa 0 (.t 14))⟩,
 ⟨(some 16), none, .q (.fa 0 (.t 15))⟩,
 ⟨(some 17), none, .q (.ld1 (.t 16))⟩,
 ⟨(some 2), none, .q (.mov (.t 17))⟩,
 ⟨(some 3), none, .q (.mov (.c (.i .i64 0)))⟩])
 .ret)))))⟩
def f206 : FnC := ⟨74, [.tmp 6],
 (.seq (.reg [⟨(some 6), none, .q (.mov (.c (.i .i64 0)))⟩])
 (.seq (.seq (.reg [⟨(some 15), none, .q (.mov (.t 0))⟩,
 ⟨(some 16), none, .call (.c (.fn 110 [])) [(.t 15)]⟩,
 ⟨(some 17), none, .q (.bin .lss (.t 16) (.c (.i .i64 32)))⟩])
 (.cond (.t 17) .dead
 .skip))
 (.seq (.reg [⟨(some 19), none, .q (.mov (.t 1))⟩,
 ⟨(some 20), none, .q (.mov (.t 2))⟩,
 ⟨(some 21), none, .q (.build [(.i .i64 0), (.i .u32 0), (.i .u32 0), .nilsl] [(0, 1, (.c (.i .i64 2))), (1, 1, (.t 19)), (3, 1, (.t 20))])⟩,
 ⟨(some 22), none, .call (.c (.fn 220 [])) [(.t 21)]⟩,
 ⟨(some 18), none, .q (.mov (.t 22))⟩,
 ⟨(some 23), none, .q (.ext 0 (.t 18))⟩,
 ⟨(some 24), none, .q (.ext 1 (.t 18))⟩,
 ⟨(some 7), none, .q (.mov (.t 23))⟩,
 ⟨(some 8), none, .q (.mov (.t 24))⟩])
 (.seq (.seq (.reg [⟨(some 25), none, .q (.mov (.t 8))⟩,
 ⟨(some 26), none, .q (.bni .neq (.t 25) (.c (.i .i64 0)))⟩])
 (.cond (.t 26) .dead
 .skip))
 (.seq (.seq (.reg [⟨(some 28), none, .q (.mov (.t 7))⟩,
 ⟨(some 29), none, .q (.lenL (.t 28))⟩,
 ⟨(some 30), none, .q (.bin .gtr (.t 29) (.c (.i .i64 16)))⟩])
 (.cond (.t 30) .dead
 .skip))
 (.seq (.reg [⟨(some 9), none, .q (.mov (.c (.i .i64 0)))⟩])
 (.seq (.seq (.reg [⟨(some 31), none, .q (.mov (.t 0))⟩,
 ⟨(some 32), none, .call (.c (.fn 204 [])) [(.t 31)]⟩,
 ⟨(some 10), none, .q (.mov (.t 32))⟩])
 (.seq (.reg [⟨(some 33), none, .q (.mov (.t 10))⟩,
 ⟨(some 34), none, .q (.eqr true .ptr (.t 33) (.c .nilp))⟩,
 ⟨(some 35), none, .q (.mov (.t 34))⟩,
 ⟨(some 36), (some (35, true)), .q (.mov (.t 10))⟩,
 ⟨(some 37), (some (35, true)), .q (.nck (.t 36))⟩,
 ⟨(some 38), (some (35, true)), .q (.fa 4 (.t 37))⟩,
 ⟨(some 39), (some (35, true)), .q (.ld1 (.t 38))⟩,
 ⟨(some 40), (some (35, true)), .q (.bni .eql (.t 39) (.c (.i .i64 0)))⟩,
 ⟨(some 41), none, .q (.pick (.t 35) (.t 40) (.c (.b false)))⟩])
 (.cond (.t 41) .dead
 .skip)))
 (.seq (.seq (.reg [⟨(some 42), none, .q (.mov (.t 7))⟩,
 ⟨(some 43), none, .q (.lenL (.t 42))⟩,
 ⟨(some 44), none, .q (.mov (.c (.i .i64 0)))⟩])
 (.block 0 (.loop (.seq (.reg [⟨(some 45), none, .q (.bin .lss (.t 44) (.t 43))⟩])
 (.seq (.cond (.t 45) .skip
 (.exit 0))
 (.seq (.block 1 (.seq (.reg [⟨(some 46), none, .q (.mov (.t 44))⟩,
 ⟨(some 11), none, .q (.mov (.t 46))⟩])
 (.seq (.reg [⟨(some 47), none, .q (.mov (.t 11))⟩,
 ⟨(some 48), none, .q (.bin .add (.t 47) (.c (.i .i64 1)))⟩,
 ⟨(some 49), none, .q (.mov (.t 7))⟩,
 ⟨(some 50), none, .q (.lenL (.t 49))⟩,
 ⟨(some 51), none, .q (.bin .rem (.t 48) (.t 50))⟩,
 ⟨(some 12), none, .q (.mov (.t 51))⟩])
 (.seq (.seq (.reg [⟨(some 52), none, .q (.mov (.t 12))⟩,
 ⟨(some 53), none, .q (.bni .eql (.t 52) (.c (.i .i64 0)))⟩])
 (.cond (.t 53) (.seq (.reg [⟨(some 54), none, .q (.mov (.t 0))⟩,
 ⟨(some 55), none, .call (.c (.fn 257 [])) [(.t 54)]⟩,
 ⟨(some 13), none, .q (.mov (.t 55))⟩])
 (.seq (.reg [⟨(some 56), none, .q (.mov (.t 13))⟩,
 ⟨(some 57), none, .q (.bni .neq (.t 56) (.c (.i .i64 0)))⟩])
 (.cond (.t 57) .dead
 .skip)))
 .dead))
 (.seq (.reg [⟨(some 59), none, .q (.mov (.t 0))⟩,
 ⟨(some 60), none, .q (.mov (.t 9))⟩,
 ⟨(some 61), none, .q (.mov (.t 12))⟩,
 ⟨(some 62), none, .q (.bin .add (.t 60) (.t 61))⟩,
 ⟨(some 63), none, .q (.mov (.t 7))⟩,
 ⟨(some 64), none, .q (.mov (.t 12))⟩,
 ⟨(some 65), none, .q (.ia 64 (.t 63) (.t 64))⟩,
 ⟨(some 66), none, .q (.ldn 64 (.t 65))⟩,
 ⟨(some 67), none, .call (.c (.fn 258 [])) [(.t 59), (.t 62), (.t 66)]⟩,
 ⟨(some 14), none, .q (.mov (.t 67))⟩])
 (.seq (.reg [⟨(some 68), none, .q (.mov (.t 14))⟩,
 ⟨(some 69), none, .q (.bni .neq (.t 68) (.c (.i .i64 0)))⟩])
 (.cond (.t 69) .dead
 .skip)))))))
 (.reg [⟨(some 71), none, .q (.bin .add (.t 44) (.c (.i .i64 1)))⟩,
 ⟨(some 44), none, .q (.mov (.t 71))⟩])))))))
 (.seq (.reg [⟨(some 72), none, .q (.mov (.t 0))⟩,
 ⟨(some 73), none, .call (.c (.fn 257 [])) [(.t 72)]⟩,
 ⟨(some 6), none, .q (.mov (.t 73))⟩])
 .ret)))))))))⟩
def f207 : FnC := ⟨9, [.tmp 4],
 (.seq (.reg [⟨(some 4), none, .q (.mov (.c (.i .i64 0)))⟩])
 (.seq (.reg [⟨(some 5), none, .q (.mov (.t 0))⟩,
 ⟨(some 6), none, .q (.mov (.t 1))⟩,
 ⟨(some 7), none, .call (.c (.fn 208 [])) [(.t 5), (.t 6)]⟩,
 ⟨(some 8), none, .q (.cvi .i64 (.t 7))⟩,
 ⟨(some 4), none, .q (.mov (.t 8))⟩])
 .ret))⟩
def f208 : FnC := ⟨48, [.tmp 4],
 (.seq (.reg [⟨(some 4), none, .q (.mov (.c (.i .u64 0)))⟩])
 (.seq (.seq (.reg [⟨(some 8), none, .q (.mov (.t 0))⟩,
 ⟨(some 9), none, .q (.nck (.t 8))⟩,
 ⟨(some 10), none, .q (.fa 0 (.t 9))⟩,
 ⟨(some 11), none, .q (.ld1 (.t 10))⟩,
 ⟨(some 12), none, .q (.lenL (.t 11))⟩,
 ⟨(some 13), none, .q (.mov (.t 1))⟩,
 ⟨(some 14), none, .q (.bin .lss (.t 12) (.t 13))⟩])
 (.cond (.t 14) .dead
 .skip))
 (.seq (.reg [⟨(some 5), none, .q (.mov (.c (.i .u64 0)))⟩])
 (.seq (.seq (.reg [⟨(some 21), none, .q (.mov (.t 0))⟩,
 ⟨(some 22), none, .q (.nck (.t 21))⟩,
 ⟨(some 23), none, .q (.fa 0 (.t 22))⟩,
 ⟨(some 24), none, .q (.ld1 (.t 23))⟩,
 ⟨(some 25), none, .q (.mov (.t 1))⟩,
 ⟨(some 26), none, .q (.sl 1 (.t 24) none (some (.t 25)) none)⟩,
 ⟨(some 27), none, .q (.lenL (.t 26))⟩,
 ⟨(some 28), none, .q (.mov (.c (.i .i64 0)))⟩])
 (.block 0 (.loop (.seq (.reg [⟨(some 29), none, .q (.bin .lss (.t 28) (.t 27))⟩])
 (.seq (.cond (.t 29) .skip
 (.exit 0))
 (.seq (.block 1 (.seq (.reg [⟨(some 30), none, .q (.ia 1 (.t 26) (.t 28))⟩,
 ⟨(some 31), none, .q (.ld1 (.t 30))⟩,
 ⟨(some 7), none, .q (.mov (.t 31))⟩])
 (.reg [⟨(some 32), none, .q (.mov (.t 5))⟩,
 ⟨(some 33), none, .q (.bin .shl (.t 32) (.c (.i .u64 8)))⟩,
 ⟨(some 34), none, .q (.mov (.t 7))⟩,
 ⟨(some 35), none, .q (.cvi .u64 (.t 34))⟩,
 ⟨(some 36), none, .q (.bin .or (.t 33) (.t 35))⟩,
 ⟨(some 5), none, .q (.mov (.t 36))⟩])))
 (.reg [⟨(some 37), none, .q (.bin .add (.t 28) (.c (.i .i64 1)))⟩,
 ⟨(some 28), none, .q (.mov (.t 37))⟩])))))))
 (.seq (.reg [⟨(some 38), none, .q (.mov (.t 0))⟩,
 ⟨(some 39), none, .q (.mov (.t 0))⟩,
 ⟨(some 40), none, .q (.nck (.t 39))⟩,
 ⟨(some 41), none, .q (.fa 0 (.t 40))⟩,
 ⟨(some 42), none, .q (.ld1 (.t 41))⟩,
 ⟨(some 43), none, .q (.mov (.t 1))⟩,
 ⟨(some 44), none, .q (.sl 1 (.t 42) (some (.t 43)) none none)⟩,
 ⟨(some 45), none, .q (.nck (.t 38))⟩,
 ⟨(some 46), none, .q (.fa 0 (.t 45))⟩,
 ⟨none, none, .h (.st 1 (.t 46) (.t 44))⟩])
 (.seq (.reg [⟨(some 47), none, .q (.mov (.t 5))⟩,
 ⟨(some 4), none, .q (.mov (.t 47))⟩])
 .ret))))))⟩
def f209 : FnC := ⟨46, [.tmp 2],
 (.seq (.reg [⟨(some 1), none, .a (.box (.t 0))⟩,
 ⟨(some 2), none, .q (.mov (.c (.b false)))⟩])
 (.seq (.reg [⟨(some 3), none, .q (.fa 0 (.t 1))⟩,
 ⟨(some 4), none, .q (.ld1 (.t 3))⟩,
 ⟨(some 5), none, .q (.bin .geq (.t 4) (.c (.i .i64 0)))⟩,
 ⟨(some 6), none, .q (.mov (.t 5))⟩,
 ⟨(some 7), (some (6, true)), .q (.fa 0 (.t 1))⟩,
 ⟨(some 8), (some (6, true)), .q (.ld1 (.t 7))⟩,
 ⟨(some 9), (some (6, true)), .q (.bin .leq (.t 8) (.c (.i .i64 61440)))⟩,
 ⟨(some 10), none, .q (.pick (.t 6) (.t 9) (.c (.b false)))⟩,
 ⟨(some 11), none, .q (.mov (.t 10))⟩,
 ⟨(some 12), (some (11, true)), .q (.fa 0 (.t 1))⟩,
 ⟨(some 13), (some (11, true)), .q (.ld1 (.t 12))⟩,
 ⟨(some 14), (some (11, true)), .q (.bin .rem (.t 13) (.c (.i .i64 4096)))⟩,
 ⟨(some 15), (some (11, true)), .q (.bni .eql (.t 14) (.c (.i .i64 0)))⟩,
 ⟨(some 16), none, .q (.pick (.t 11) (.t 15) (.c (.b false)))⟩,
 ⟨(some 17), none, .q (.mov (.t 16))⟩,
 ⟨(some 18), (some (17, true)), .q (.fa 1 (.t 1))⟩,
 ⟨(some 19), (some (17, true)), .q (.ld1 (.t 18))⟩,
 ⟨(some 20), (some (17, true)), .q (.bin .geq (.t 19) (.c (.i .i64 6)))⟩,
 ⟨(some 21), none, .q (.pick (.t 17) (.t 20) (.c (.b false)))⟩,
 ⟨(some 22), none, .q (.mov (.t 21))⟩,
 ⟨(some 23), (some (22, true)), .q (.fa 1 (.t 1))⟩,
 ⟨(some 24), (some (22, true)), .q (.ld1 (.t 23))⟩,
 ⟨(some 25), (some (22, true)), .q (.bin .leq (.t 24) (.c (.i .i64 40)))⟩,
 ⟨(some 26), none, .q (.pick (.t 22) (.t 25) (.c (.b false)))⟩,
 ⟨(some 27), none, .q (.mov (.t 26))⟩,
 ⟨(some 28), (some (27, true)), .q (.fa 2 (.t 1))⟩,
 ⟨(some 29), (some (27, true)), .q (.ld1 (.t 28))⟩,
 ⟨(some 30), (some (27, true)), .q (.bin .geq (.t 29) (.c (.i .i64 4)))⟩,
 ⟨(some 31), none, .q (.pick (.t 27) (.t 30) (.c (.b false)))⟩,
 ⟨(some 32), none, .q (.mov (.t 31))⟩,
 ⟨(some 33), (some (32, true)), .q (.fa 2 (.t 1))⟩,
 ⟨(some 34), (some (32, true)), .q (.ld1 (.t 33))⟩,
 ⟨(some 35), (some (32, true)), .q (.bin .leq (.t 34) (.c (.i .i64 30)))⟩,
 ⟨(some 36), none, .q (.pick (.t 32) (.t 35) (.c (.b false)))⟩,
 ⟨(some 37), none, .q (.mov (.t 36))⟩,
 ⟨(some 38), (some (37, true)), .q (.fa 2 (.t 1))⟩,
 ⟨(some 39), (some (37, true)), .q (.ld1 (.t 38))⟩,
 ⟨(some 40), (some (37, true)), .q (.bin .sub (.t 39) (.c (.i .i64 1)))⟩,
 ⟨(some 41), (some (37, true)), .q (.bin .mul (.c (.i .i64 2)) (.t 40))⟩,
 ⟨(some 42), (some (37, true)), .q (.fa 1 (.t 1))⟩,
 ⟨(some 43), (some (37, true)), .q (.ld1 (.t 42))⟩,
 ⟨(some 44), (some (37, true)), .q (.bin .geq (.t 41) (.t 43))⟩,
 ⟨(some 45), none, .q (.pick (.t 37) (.t 44) (.c (.b false)))⟩,
 ⟨(some 2), none, .q (.mov (.t 45))⟩])
 .ret))⟩
def f210 : FnC := ⟨52, [.tmp 2],
 (.seq (.reg [⟨(some 1), none, .a (.box (.t 0))⟩,
 ⟨(some 2), none, .q (.mov (.c (.b false)))⟩])
 (.seq (.seq (.reg [⟨(some 5), none, .q (.fa 4 (.t 1))⟩,
 ⟨(some 6), none, .q (.ld1 (.t 5))⟩,
 ⟨(some 7), none, .q (.lenL (.t 6))⟩,
 ⟨(some 8), none, .q (.bin .lss (.t 7) (.c (.i .i64 1)))⟩,
 ⟨(some 9), none, .q (.mov (.t 8))⟩,
 ⟨(some 10), (some (9, false)), .q (.fa 4 (.t 1))⟩,
 ⟨(some 11), (some (9, false)), .q (.ld1 (.t 10))⟩,
 ⟨(some 12), (some (9, false)), .q (.lenL (.t 11))⟩,
 ⟨(some 13), (some (9, false)), .q (.bin .gtr (.t 12) (.c (.i .i64 16)))⟩,
 ⟨(some 14), none, .q (.pick (.t 9) (.c (.b true)) (.t 13))⟩])
 (.cond (.t 14) .dead
 .skip))
 (.seq (.seq (.reg [⟨(some 15), none, .q (.fa 4 (.t 1))⟩,
 ⟨(some 16), none, .q (.ld1 (.t 15))⟩,
 ⟨(some 17), none, .q (.lenL (.t 16))⟩,
 ⟨(some 18), none, .q (.mov (.c (.i .i64 0)))⟩])
 (.block 0 (.loop (.seq (.reg [⟨(some 19), none, .q (.bin .lss (.t 18) (.t 17))⟩])
 (.seq (.cond (.t 19) .skip
 (.exit 0))
 (.seq (.block 1 (.seq (.reg [⟨(some 20), none, .q (.ia 3 (.t 16) (.t 18))⟩,
 ⟨(some 21), none, .q (.ldn 3 (.t 20))⟩,
 ⟨(some 4), none, .a (.new [(.i .i64 0), (.i .u8 0), (.i .u8 0)])⟩,
 ⟨none, none, .h (.st 3 (.t 4) (.t 21))⟩])
 (.seq (.reg [⟨(some 22), none, .q (.fa 0 (.t 4))⟩,
 ⟨(some 23), none, .q (.ld1 (.t 22))⟩,
 ⟨(some 24), none, .q (.bin .lss (.t 23) (.c (.i .i64 1)))⟩,
 ⟨(some 25), none, .q (.mov (.t 24))⟩,
 ⟨(some 26), (some (25, false)), .q (.fa 0 (.t 4))⟩,
 ⟨(some 27), (some (25, false)), .q (.ld1 (.t 26))⟩,
 ⟨(some 28), (some (25, false)), .q (.bin .gtr (.t 27) (.c (.i .i64 4094)))⟩,
 ⟨(some 29), none, .q (.pick (.t 25) (.c (.b true)) (.t 28))⟩,
 ⟨(some 30), none, .q (.mov (.t 29))⟩,
 ⟨(some 31), (some (30, false)), .q (.fa 1 (.t 4))⟩,
 ⟨(some 32), (some (30, false)), .q (.ld1 (.t 31))⟩,
 ⟨(some 33), (some (30, false)), .q (.cvi .i64 (.t 32))⟩,
 ⟨(some 34), (some (30, false)), .q (.fa 3 (.t 1))⟩,
 ⟨(some 35), (some (30, false)), .q (.ld1 (.t 34))⟩,
 ⟨(some 36), (some (30, false)), .q (.lenL (.t 35))⟩,
 ⟨(some 37), (some (30, false)), .q (.bin .shr (.t 33) (.t 36))⟩,
 ⟨(some 38), (some (30, false)), .q (.bni .neq (.t 37) (.c (.i .i64 0)))⟩,
 ⟨(some 39), none, .q (.pick (.t 30) (.c (.b true)) (.t 38))⟩,
 ⟨(some 40), none, .q (.mov (.t 39))⟩,
 ⟨(some 41), (some (40, false)), .q (.fa 2 (.t 4))⟩,
 ⟨(some 42), (some (40, false)), .q (.ld1 (.t 41))⟩,
 ⟨(some 43), (some (40, false)), .q (.fa 1 (.t 4))⟩,
 ⟨(some 44), (some (40, false)), .q (.ld1 (.t 43))⟩,
 ⟨(some 45), (some (40, false)), .q (.bin .andNot (.t 42) (.t 44))⟩,
 ⟨(some 46), (some (40, false)), .q (.bni .neq (.t 45) (.c (.i .u8 0)))⟩,
 ⟨(some 47), none, .q (.pick (.t 40) (.c (.b true)) (.t 46))⟩])
 (.cond (.t 47) .dead
 .skip))))
 (.reg [⟨(some 48), none, .q (.bin .add (.t 18) (.c (.i .i64 1)))⟩,
 ⟨(some 18), none, .q (.mov (.t 48))⟩])))))))
 (.seq (.reg [⟨(some 49), none, .q (.fa 4 (.t 1))⟩,
 ⟨(some 50), none, .q (.ld1 (.t 49))⟩,
 ⟨(some 51), none, .call (.c (.fn 259 [])) [(.t 50), (.c (.fn 260 []))]⟩,
 ⟨(some 2), none, .q (.mov (.t 51))⟩])
 .ret))))⟩
def f211 : FnC := ⟨45, [.tmp 2],
 (.seq (.reg [⟨(some 1), none, .a (.box (.t 0))⟩,
 ⟨(some 2), none, .q (.mov (.c (.b false)))⟩])
 (.seq (.seq (.reg [⟨(some 7), none, .q (.fa 3 (.t 1))⟩,
 ⟨(some 8), none, .q (.ld1 (.t 7))⟩,
 ⟨(some 9), none, .q (.lenL (.t 8))⟩,
 ⟨(some 10), none, .q (.mov (.c (.i .i64 0)))⟩])
 (.block 0 (.loop (.seq (.reg [⟨(some 11), none, .q (.bin .lss (.t 10) (.t 9))⟩])
 (.seq (.cond (.t 11) .skip
 (.exit 0))
 (.seq (.block 1 (.seq (.reg [⟨(some 12), none, .q (.ia 3 (.t 8) (.t 10))⟩,
 ⟨(some 13), none, .q (.ldn 3 (.t 12))⟩,
 ⟨(some 4), none, .a (.new [(.b false), (.i .u32 0), (.i .i64 0)])⟩,
 ⟨none, none, .h (.st 3 (.t 4) (.t 13))⟩])
 (.seq (.reg [⟨(some 15), none, .q (.fa 4 (.t 1))⟩,
 ⟨(some 16), none, .q (.ld1 (.t 15))⟩,
 ⟨(some 17), none, .q (.fa 2 (.t 4))⟩,
 ⟨(some 18), none, .q (.ld1 (.t 17))⟩,
 ⟨(some 19), none, .call (.c (.fn 261 [])) [(.t 16), (.t 18)]⟩,
 ⟨(some 14), none, .q (.mov (.t 19))⟩,
 ⟨(some 20), none, .q (.ext 0 (.t 14))⟩,
 ⟨(some 21), none, .q (.ext 1 (.t 14))⟩,
 ⟨(some 5), none, .q (.mov (.t 20))⟩,
 ⟨(some 6), none, .q (.mov (.t 21))⟩])
 (.seq (.reg [⟨(some 22), none, .q (.mov (.t 6))⟩,
 ⟨(some 23), none, .q (.un .not (.t 22))⟩,
 ⟨(some 24), none, .q (.mov (.t 23))⟩,
 ⟨(some 25), (some (24, false)), .q (.fa 1 (.t 4))⟩,
 ⟨(some 26), (some (24, false)), .q (.ld1 (.t 25))⟩,
 ⟨(some 27), (some (24, false)), .q (.bin .lss (.t 26) (.c (.i .u32 1)))⟩,
 ⟨(some 28), none, .q (.pick (.t 24) (.c (.b true)) (.t 27))⟩,
 ⟨(some 29), none, .q (.mov (.t 28))⟩,
 ⟨(some 30), (some (29, false)), .q (.fa 1 (.t 4))⟩,
 ⟨(some 31), (some (29, false)), .q (.ld1 (.t 30))⟩,
 ⟨(some 32), (some (29, false)), .q (.bin .gtr (.t 31) (.c (.i .u32 200000000)))⟩,
 ⟨(some 33), none, .q (.pick (.t 29) (.c (.b true)) (.t 32))⟩])
 (.cond (.t 33) .dead
 .skip)))))
 (.reg [⟨(some 34), none, .q (.bin .add (.t 10) (.c (.i .i64 1)))⟩,
 ⟨(some 10), none, .q (.mov (.t 34))⟩])))))))
 (.seq (.reg [⟨(some 35), none, .q (.fa 3 (.t 1))⟩,
 ⟨(some 36), none, .q (.ld1 (.t 35))⟩,
 ⟨(some 37), none, .q (.lenL (.t 36))⟩,
 ⟨(some 38), none, .q (.bin .geq (.t 37) (.c (.i .i64 1)))⟩,
 ⟨(some 39), none, .q (.mov (.t 38))⟩,
 ⟨(some 40), (some (39, true)), .q (.fa 3 (.t 1))⟩,
 ⟨(some 41), (some (39, true)), .q (.ld1 (.t 40))⟩,
 ⟨(some 42), (some (39, true)), .q (.lenL (.t 41))⟩,
 ⟨(some 43), (some (39, true)), .q (.bin .leq (.t 42) (.c (.i .i64 8)))⟩,
 ⟨(some 44), none, .q (.pick (.t 39) (.t 43) (.c (.b false)))⟩,
 ⟨(some 2), none, .q (.mov (.t 44))⟩])
 .ret)))⟩
def f212 : FnC := ⟨28, [.tmp 4],
 (.seq (.reg [⟨(some 4), none, .q (.mov (.c (.b false)))⟩])
 (.seq (.seq (.reg [⟨(some 6), none, .q (.mov (.t 0))⟩,
 ⟨(some 7), none, .q (.lenL (.t 6))⟩,
 ⟨(some 8), none, .q (.mov (.c (.i .i64 0)))⟩])
 (.block 0 (.loop (.seq (.reg [⟨(some 9), none, .q (.bin .lss (.t 8) (.t 7))⟩])
 (.seq (.cond (.t 9) .dead
 (.exit 0))
 .dead)))))
 (.seq (.reg [⟨(some 4), none, .q (.mov (.c (.b true)))⟩])
 .ret)))⟩
def f214 : FnC := ⟨9, [.tmp 4],
 (.seq (.reg [⟨(some 4), none, .q (.mov (.c (.b false)))⟩])
 (.seq (.reg [⟨(some 5), none, .q (.mov (.t 0))⟩,
 ⟨(some 6), none, .q (.mov (.t 1))⟩,
 ⟨(some 7), none, .call (.c (.fn 262 [])) [(.t 5), (.t 6)]⟩,
 ⟨(some 8), none, .q (.bin .geq (.t 7) (.c (.i .i64 0)))⟩,
 ⟨(some 4), none, .q (.mov (.t 8))⟩])
 .ret))⟩
def f217 : FnC := ⟨38, [.cell (some 64) 4, .tmp 5],
 (.seq (.reg [⟨(some 4), none, .a (.new (List.replicate 64 (.i .u8 0)))⟩,
 ⟨(some 5), none, .q (.mov (.c (.i .i64 0)))⟩])
 (.seq (.seq (.reg [⟨(some 9), none, .q (.mov (.t 0))⟩,
 ⟨(some 10), none, .q (.mov (.t 1))⟩,
 ⟨(some 11), none, .call (.c (.fn 263 [])) [(.t 9), (.t 10)]⟩,
 ⟨(some 12), none, .q (.un .not (.t 11))⟩])
 (.cond (.t 12) .dead
 .skip))
 (.seq (.reg [⟨(some 14), none, .q (.mov (.t 0))⟩,
 ⟨(some 15), none, .q (.nck (.t 14))⟩,
 ⟨(some 16), none, .q (.fa 0 (.t 15))⟩,
 ⟨(some 17), none, .q (.ld1 (.t 16))⟩,
 ⟨(some 18), none, .q (.mov (.t 1))⟩,
 ⟨(some 19), none, .q (.ia 64 (.t 17) (.t 18))⟩,
 ⟨(some 20), none, .q (.ldn 64 (.t 19))⟩,
 ⟨(some 6), none, .a (.new (List.replicate 64 (.i .u8 0)))⟩,
 ⟨none, none, .h (.st 64 (.t 6) (.t 20))⟩])
 (.seq (.seq (.reg [⟨(some 21), none, .q (.mov (.t 0))⟩,
 ⟨(some 22), none, .q (.nck (.t 21))⟩,
 ⟨(some 23), none, .q (.fa 1 (.t 22))⟩,
 ⟨(some 24), none, .q (.ld1 (.t 23))⟩,
 ⟨(some 25), none, .q (.lenL (.t 24))⟩,
 ⟨(some 26), none, .q (.mov (.c (.i .i64 0)))⟩])
 (.block 0 (.loop (.seq (.reg [⟨(some 27), none, .q (.bin .lss (.t 26) (.t 25))⟩])
 (.seq (.cond (.t 27) .dead
 (.exit 0))
 .dead)))))
 (.seq (.reg [⟨(some 37), none, .q (.ldn 64 (.t 6))⟩,
 ⟨none, none, .h (.st 64 (.t 4) (.t 37))⟩,
 ⟨(some 5), none, .q (.mov (.c (.i .i64 0)))⟩])
 .ret)))))⟩
def f218 : FnC := ⟨19, [.tmp 2],
 (.seq (.reg [⟨(some 2), none, .q (.mov (.c (.i .u32 0)))⟩])
 (.seq (.reg [⟨(some 3), none, .q (.mov (.c (.i .u32 0)))⟩])
 (.seq (.seq (.reg [⟨(some 6), none, .q (.mov (.t 0))⟩,
 ⟨(some 7), none, .q (.lenL (.t 6))⟩,
 ⟨(some 8), none, .q (.mov (.c (.i .i64 0)))⟩])
 (.block 0 (.loop (.seq (.reg [⟨(some 9), none, .q (.bin .lss (.t 8) (.t 7))⟩])
 (.seq (.cond (.t 9) .skip
 (.exit 0))
 (.seq (.block 1 (.seq (.reg [⟨(some 10), none, .q (.ia 1 (.t 6) (.t 8))⟩,
 ⟨(some 11), none, .q (.ld1 (.t 10))⟩,
 ⟨(some 5), none, .q (.mov (.t 11))⟩])
 (.reg [⟨(some 12), none, .q (.mov (.t 3))⟩,
 ⟨(some 13), none, .q (.bin .shl (.t 12) (.c (.i .u64 8)))⟩,
 ⟨(some 14), none, .q (.mov (.t 5))⟩,
 ⟨(some 15), none, .q (.cvi .u32 (.t 14))⟩,
 ⟨(some 16), none, .q (.bin .or (.t 13) (.t 15))⟩,
 ⟨(some 3), none, .q (.mov (.t 16))⟩])))
 (.reg [⟨(some 17), none, .q (.bin .add (.t 8) (.c (.i .i64 1)))⟩,
 ⟨(some 8), none, .q (.mov (.t 17))⟩])))))))
 (.seq (.reg [⟨(some 18), none, .q (.mov (.t 3))⟩,
 ⟨(some 2), none, .q (.mov (.t 18))⟩])
 .ret))))⟩
def f219 : FnC := ⟨15, [.tmp 2],
 (.seq (.reg [⟨(some 2), none, .q (.mov (.c (.i .i64 0)))⟩])
 (.seq (.seq (.reg [⟨(some 3), none, .q (.mov (.t 0))⟩,
 ⟨(some 4), none, .q (.bin .lss (.t 3) (.c (.i .i64 0)))⟩,
 ⟨(some 5), none, .q (.mov (.t 4))⟩,
 ⟨(some 6), (some (5, false)), .q (.mov (.t 0))⟩,
 ⟨(some 7), (some (5, false)), .q (.bin .gtr (.t 6) (.c (.i .i64 4000)))⟩,
 ⟨(some 8), none, .q (.pick (.t 5) (.c (.b true)) (.t 7))⟩])
 (.cond (.t 8) .dead
 .skip))
 (.seq (.reg [⟨(some 9), none, .q (.mov (.t 0))⟩,
 ⟨(some 10), none, .q (.bin .add (.c (.i .i64 11)) (.t 9))⟩,
 ⟨(some 11), none, .q (.bin .add (.t 10) (.c (.i .i64 4)))⟩,
 ⟨(some 12), none, .q (.bin .add (.t 11) (.c (.i .i64 63)))⟩,
 ⟨(some 13), none, .q (.bin .sub (.t 12) (.c (.i .i64 1)))⟩,
 ⟨(some 14), none, .q (.bin .quo (.t 13) (.c (.i .i64 63)))⟩,
 ⟨(some 2), none, .q (.mov (.t 14))⟩])
 .ret)))⟩
def f220 : FnC := ⟨47, [.tmp 2, .tmp 3],
 (.seq (.reg [⟨(some 1), none, .a (.box (.t 0))⟩,
 ⟨(some 2), none, .q (.mov (.c .nilsl))⟩,
 ⟨(some 3), none, .q (.mov (.c (.i .i64 0)))⟩])
 (.seq (.block 0 (.seq (.reg [⟨(some 8), none, .q (.fa 0 (.t 1))⟩,
 ⟨(some 9), none, .q (.ld1 (.t 8))⟩,
 ⟨(some 10), none, .q (.bin .lss (.t 9) (.c (.i .i64 0)))⟩,
 ⟨(some 11), none, .q (.mov (.t 10))⟩,
 ⟨(some 12), (some (11, false)), .q (.fa 0 (.t 1))⟩,
 ⟨(some 13), (some (11, false)), .q (.ld1 (.t 12))⟩,
 ⟨(some 14), (some (11, false)), .q (.bin .gtr (.t 13) (.c (.i .i64 255)))⟩,
 ⟨(some 15), none, .q (.pick (.t 11) (.c (.b true)) (.t 14))⟩,
 ⟨(some 7), none, .q (.mov (.t 15))⟩])
 (.cond (.t 7) .dead
 (.seq (.reg [⟨(some 17), none, .q (.fa 3 (.t 1))⟩,
 ⟨(some 18), none, .q (.ld1 (.t 17))⟩,
 ⟨(some 19), none, .q (.lenL (.t 18))⟩,
 ⟨(some 20), none, .q (.bin .gtr (.t 19) (.c (.i .i64 4000)))⟩,
 ⟨(some 16), none, .q (.mov (.t 20))⟩])
 (.cond (.t 16) .dead
 .skip)))))
 (.seq (.reg [⟨(some 4), none, .a (.new [.nilsl])⟩])
 (.seq (.seq (.reg [⟨(some 21), none, .q (.fa 0 (.t 1))⟩,
 ⟨(some 22), none, .q (.ld1 (.t 21))⟩,
 ⟨(some 23), none, .q (.fa 1 (.t 1))⟩,
 ⟨(some 24), none, .q (.ld1 (.t 23))⟩,
 ⟨(some 25), none, .q (.fa 2 (.t 1))⟩,
 ⟨(some 26), none, .q (.ld1 (.t 25))⟩,
 ⟨(some 27), none, .q (.build [(.i .i64 0), (.i .u32 0), (.i .u32 0)] [(0, 1, (.t 22)), (1, 1, (.t 24)), (2, 1, (.t 26))])⟩,
 ⟨(some 28), none, .q (.fa 3 (.t 1))⟩,
 ⟨(some 29), none, .q (.ld1 (.t 28))⟩,
 ⟨(some 30), none, .q (.build [(.i .i64 0), (.i .u32 0), (.i .u32 0), .nilsl] [(0, 3, (.t 27)), (3, 1, (.t 29))])⟩,
 ⟨(some 31), none, .call (.c (.fn 265 [])) [(.t 30)]⟩,
 ⟨(some 32), none, .call (.c (.fn 264 [])) [(.t 31), (.c (.i .i64 63))]⟩])
 (.block 1 (.rf (.t 32) 220)))
 (.seq (.reg [⟨(some 46), none, .q (.ld1 (.t 4))⟩,
 ⟨(some 2), none, .q (.mov (.t 46))⟩,
 ⟨(some 3), none, .q (.mov (.c (.i .i64 0)))⟩])
 .ret)))))⟩
def y220 : Rd := ⟨[33],
 (.reg [⟨(some 5), none, .q (.mov (.t 33))⟩]),
 (.block 2 (.seq (.reg [⟨(some 34), none, .q (.build (List.replicate 64 (.i .u8 0)) [(0, 1, (.c (.i .u8 119)))])⟩,
 ⟨(some 6), none, .a (.new (List.replicate 64 (.i .u8 0)))⟩,
 ⟨none, none, .h (.st 64 (.t 6) (.t 34))⟩])
 (.seq (.seq (.reg [⟨(some 35), none, .q (.ld1 (.t 4))⟩,
 ⟨(some 36), none, .q (.lenL (.t 35))⟩,
 ⟨(some 37), none, .q (.bni .eql (.t 36) (.c (.i .i64 0)))⟩])
 (.cond (.t 37) (.reg [⟨(some 38), none, .q (.iaa 64 1 (.t 6) (.c (.i .i64 0)))⟩,
 ⟨none, none, .h (.st 1 (.t 38) (.c (.i .u8 87)))⟩])
 .dead))
 (.seq (.reg [⟨(some 39), none, .q (.sla 64 1 (.t 6) (some (.c (.i .i64 1))) none none)⟩,
 ⟨(some 40), none, .q (.mov (.t 5))⟩,
 ⟨(some 41), none, .h (.cpy 1 (.t 39) (.t 40))⟩])
 (.reg [⟨(some 42), none, .q (.ld1 (.t 4))⟩,
 ⟨(some 43), none, .q (.ldn 64 (.t 6))⟩,
 ⟨(some 44), none, .a (.mkSl 64 1 (List.replicate 64 (.i .u8 0)) [(0, 64, (.t 43))])⟩,
 ⟨(some 45), none, .h (.app 64 64 (.t 42) (.t 44))⟩,
 ⟨none, none, .h (.st 1 (.t 4) (.t 45))⟩])))))⟩
def f221 : FnC := ⟨26, [.tmp 4],
 (.seq (.reg [⟨(some 4), none, .q (.mov (.c (.b false)))⟩])
 (.seq (.seq (.reg [⟨(some 6), none, .q (.mov (.t 0))⟩,
 ⟨(some 7), none, .q (.lenL (.t 6))⟩,
 ⟨(some 8), none, .q (.mov (.t 1))⟩,
 ⟨(some 9), none, .q (.lenL (.t 8))⟩,
 ⟨(some 10), none, .q (.bni .neq (.t 7) (.t 9))⟩])
 (.cond (.t 10) .dead
 .skip))
 (.seq (.seq (.reg [⟨(some 11), none, .q (.mov (.t 0))⟩,
 ⟨(some 12), none, .q (.lenL (.t 11))⟩,
 ⟨(some 13), none, .q (.mov (.c (.i .i64 0)))⟩])
 (.block 0 (.loop (.seq (.reg [⟨(some 14), none, .q (.bin .lss (.t 13) (.t 12))⟩])
 (.seq (.cond (.t 14) .skip
 (.exit 0))
 (.seq (.block 1 (.seq (.reg [⟨(some 15), none, .q (.mov (.t 13))⟩,
 ⟨(some 5), none, .q (.mov (.t 15))⟩])
 (.seq (.dreg [⟨0, ⟨(some 16), none, .q (.mov (.t 0))⟩, [0], none, [], []⟩,
 ⟨1, ⟨(some 17), none, .q (.mov (.t 5))⟩, [5], none, [], []⟩,
 ⟨2, ⟨(some 18), none, .q (.ia 64 (.t 16) (.t 17))⟩, [16, 17], none, [], [0, 1]⟩,
 ⟨3, ⟨(some 19), none, .q (.ldn 64 (.t 18))⟩, [18], none, [], [2, 0, 1]⟩,
 ⟨4, ⟨(some 20), none, .q (.mov (.t 1))⟩, [1], none, [], []⟩,
 ⟨5, ⟨(some 21), none, .q (.mov (.t 5))⟩, [5], none, [], []⟩,
 ⟨6, ⟨(some 22), none, .q (.ia 64 (.t 20) (.t 21))⟩, [20, 21], none, [], [4, 5]⟩,
 ⟨7, ⟨(some 23), none, .q (.ldn 64 (.t 22))⟩, [22], none, [], [6, 4, 5]⟩,
 ⟨8, ⟨(some 24), none, .q (.eqs true (List.replicate 64 .int) (.t 19) (.t 23))⟩, [19, 23], none, [], [3, 7, 2, 0, 1, 6, 4, 5]⟩])
 (.cond (.t 24) .dead
 .skip))))
 (.reg [⟨(some 25), none, .q (.bin .add (.t 13) (.c (.i .i64 1)))⟩,
 ⟨(some 13), none, .q (.mov (.t 25))⟩])))))))
 (.seq (.reg [⟨(some 4), none, .q (.mov (.c (.b true)))⟩])
 .ret))))⟩
def f227 : FnC := ⟨16, [.cell (some 4) 4],
 (.seq (.reg [⟨(some 2), none, .a (.box (.t 0))⟩,
 ⟨(some 4), none, .a (.new [(.i .u64 0), (.i .u32 0), (.i .u64 0), (.i .i64 0)])⟩])
 (.seq (.seq (.reg [⟨(some 5), none, .q (.fa 1 (.t 2))⟩,
 ⟨(some 6), none, .q (.ld1 (.t 5))⟩,
 ⟨(some 7), none, .q (.mov (.t 1))⟩,
 ⟨(some 8), none, .q (.bin .add (.t 6) (.t 7))⟩,
 ⟨(some 9), none, .q (.fa 1 (.t 2))⟩,
 ⟨none, none, .h (.st 1 (.t 9) (.t 8))⟩])
 (.seq (.reg [⟨(some 10), none, .q (.fa 1 (.t 2))⟩,
 ⟨(some 11), none, .q (.ld1 (.t 10))⟩,
 ⟨(some 12), none, .q (.mov (.t 1))⟩,
 ⟨(some 13), none, .q (.bin .lss (.t 11) (.t 12))⟩])
 (.cond (.t 13) .dead
 .skip)))
 (.seq (.reg [⟨(some 15), none, .q (.ldn 4 (.t 2))⟩,
 ⟨none, none, .h (.st 4 (.t 4) (.t 15))⟩])
 .ret)))⟩
def f230 : FnC := ⟨34, [.tmp 4],
 (.seq (.reg [⟨(some 4), none, .q (.mov (.c (.i .i64 0)))⟩])
 (.seq (.seq (.reg [⟨(some 7), none, .q (.mov (.t 1))⟩,
 ⟨(some 8), none, .q (.lenS (.t 7))⟩,
 ⟨(some 9), none, .q (.bni .eql (.t 8) (.c (.i .i64 0)))⟩])
 (.cond (.t 9) .dead
 .skip))
 (.seq (.seq (.reg [⟨(some 13), none, .q (.mov (.t 1))⟩,
 ⟨(some 14), none, .q (.lenS (.t 13))⟩,
 ⟨(some 15), none, .q (.bni .eql (.t 14) (.c (.i .i64 1)))⟩])
 (.cond (.t 15) (.seq (.reg [⟨(some 16), none, .q (.mov (.t 0))⟩,
 ⟨(some 17), none, .q (.mov (.t 1))⟩,
 ⟨(some 18), none, .q (.ixs (.t 17) (.c (.i .i64 0)))⟩,
 ⟨(some 19), none, .call (.c (.fn 275 [])) [(.t 16), (.t 18)]⟩,
 ⟨(some 4), none, .q (.mov (.t 19))⟩])
 .ret)
 .dead))
 .dead)))⟩
def f231 : FnC := ⟨8, [.tmp 4],
 (.seq (.reg [⟨(some 4), none, .q (.mov (.c (.i .i64 0)))⟩])
 (.seq (.reg [⟨(some 5), none, .q (.mov (.t 0))⟩,
 ⟨(some 6), none, .q (.mov (.t 1))⟩,
 ⟨(some 7), none, .call (.c (.fn 276 [])) [(.t 5), (.t 6)]⟩,
 ⟨(some 4), none, .q (.mov (.t 7))⟩])
 .ret))⟩
def f246 : FnC := ⟨14, [.cell (some 12) 4],
 (.seq (.reg [⟨(some 4), none, .a (.new [(.i .i64 0), (.i .u64 0), (.i .u32 0), (.i .u64 0), (.i .i64 0), (.i .i64 0), (.i .i64 0), (.b false), (.b false), (.b false), (.b false), (.b false)])⟩])
 (.seq (.reg [⟨(some 6), none, .q (.mov (.t 1))⟩,
 ⟨(some 7), none, .q (.mov (.t 0))⟩,
 ⟨(some 8), none, .q (.mov (.t 1))⟩,
 ⟨(some 9), none, .call (.c (.fn 74 [])) [(.t 7), (.t 8)]⟩,
 ⟨(some 10), none, .q (.build [(.i .i64 0), (.i .u64 0), (.i .u32 0), (.i .u64 0), (.i .i64 0), (.i .i64 0), (.i .i64 0), (.b false), (.b false), (.b false), (.b false), (.b false)] [(0, 1, (.t 6)), (1, 11, (.t 9))])⟩,
 ⟨(some 5), none, .a (.new [(.i .i64 0), (.i .u64 0), (.i .u32 0), (.i .u64 0), (.i .i64 0), (.i .i64 0), (.i .i64 0), (.b false), (.b false), (.b false), (.b false), (.b false)])⟩,
 ⟨none, none, .h (.st 12 (.t 5) (.t 10))⟩])
 (.seq (.reg [⟨(some 11), none, .q (.fa 1 (.t 5))⟩,
 ⟨(some 12), none, .q (.fa 7 (.t 11))⟩,
 ⟨none, none, .h (.st 1 (.t 12) (.c (.b true)))⟩])
 (.seq (.reg [⟨(some 13), none, .q (.ldn 12 (.t 5))⟩,
 ⟨none, none, .h (.st 12 (.t 4) (.t 13))⟩])
 .ret))))⟩
def f249 : FnC := ⟨6, [.tmp 2],
 (.seq (.reg [⟨(some 2), none, .q (.mov (.c (.b false)))⟩])
 (.seq (.reg [⟨(some 3), none, .q (.mov (.t 0))⟩,
 ⟨(some 4), none, .q (.mov (.t 0))⟩,
 ⟨(some 5), none, .q (.bni .neq (.t 3) (.t 4))⟩,
 ⟨(some 2), none, .q (.mov (.t 5))⟩])
 .ret))⟩
def f255 : FnC := ⟨78, [.tmp 4],
 (.seq (.reg [⟨(some 4), none, .q (.mov (.c .nilp))⟩])
 (.seq (.reg [⟨(some 5), none, .q (.mov (.c .nilp))⟩])
 (.seq (.seq (.reg [⟨(some 15), none, .q (.mov (.t 1))⟩,
 ⟨(some 16), none, .q (.lenL (.t 15))⟩,
 ⟨(some 17), none, .q (.mov (.c (.i .i64 0)))⟩])
 (.block 0 (.loop (.seq (.reg [⟨(some 18), none, .q (.bin .lss (.t 17) (.t 16))⟩])
 (.seq (.cond (.t 18) .skip
 (.exit 0))
 (.seq (.block 1 (.seq (.reg [⟨(some 19), none, .q (.ia 1 (.t 15) (.t 17))⟩,
 ⟨(some 20), none, .q (.ld1 (.t 19))⟩,
 ⟨(some 7), none, .q (.mov (.t 20))⟩])
 (.seq (.reg [⟨(some 8), none, .q (.mov (.c .nilsl))⟩])
 (.seq (.seq (.reg [⟨(some 21), none, .q (.mov (.c (.i .i64 0)))⟩])
 (.block 2 (.loop (.seq (.reg [⟨(some 22), none, .q (.bin .lss (.t 21) (.c (.i .i64 16)))⟩])
 (.seq (.cond (.t 22) .skip
 (.exit 2))
 (.seq (.block 3 (.seq (.reg [⟨(some 23), none, .q (.mov (.t 21))⟩,
 ⟨(some 9), none, .q (.mov (.t 23))⟩])
 (.seq (.reg [⟨(some 25), none, .q (.mov (.t 0))⟩,
 ⟨(some 26), none, .q (.mov (.t 7))⟩,
 ⟨(some 27), none, .q (.mov (.t 9))⟩,
 ⟨(some 28), none, .q (.bin .add (.t 26) (.t 27))⟩,
 ⟨(some 29), none, .call (.c (.fn 217 [])) [(.t 25), (.t 28)]⟩,
 ⟨(some 24), none, .q (.mov (.t 29))⟩,
 ⟨(some 30), none, .q (.ext 0 (.t 24))⟩,
 ⟨(some 31), none, .q (.ext 1 (.t 24))⟩,
 ⟨(some 10), none, .a (.new (List.replicate 64 (.i .u8 0)))⟩,
 ⟨none, none, .h (.st 64 (.t 10) (.t 30))⟩,
 ⟨(some 11), none, .q (.mov (.t 31))⟩])
 (.seq (.seq (.reg [⟨(some 32), none, .q (.mov (.t 11))⟩,
 ⟨(some 33), none, .q (.bni .neq (.t 32) (.c (.i .i64 0)))⟩])
 (.cond (.t 33) .dead
 .skip))
 (.reg [⟨(some 35), none, .q (.mov (.t 8))⟩,
 ⟨(some 36), none, .q (.ldn 64 (.t 10))⟩,
 ⟨(some 37), none, .a (.mkSl 64 1 (List.replicate 64 (.i .u8 0)) [(0, 64, (.t 36))])⟩,
 ⟨(some 38), none, .h (.app 64 64 (.t 35) (.t 37))⟩,
 ⟨(some 8), none, .q (.mov (.t 38))⟩])))))
 (.reg [⟨(some 39), none, .q (.bin .add (.t 21) (.c (.i .i64 1)))⟩,
 ⟨(some 21), none, .q (.mov (.t 39))⟩])))))))
 (.seq (.reg [⟨(some 41), none, .q (.mov (.t 8))⟩,
 ⟨(some 42), none, .call (.c (.fn 165 [])) [(.t 41)]⟩,
 ⟨(some 40), none, .q (.mov (.t 42))⟩,
 ⟨(some 43), none, .q (.ext 0 (.t 40))⟩,
 ⟨(some 44), none, .q (.ext 1 (.t 40))⟩,
 ⟨(some 45), none, .q (.ext 2 (.t 40))⟩,
 ⟨(some 12), none, .a (.new [(.i .i64 0), (.i .u32 0), (.i .u32 0), .nilsl])⟩,
 ⟨none, none, .h (.st 4 (.t 12) (.t 43))⟩,
 ⟨(some 13), none, .q (.mov (.t 44))⟩,
 ⟨(some 14), none, .q (.mov (.t 45))⟩])
 (.seq (.dreg [⟨0, ⟨(some 46), none, .q (.mov (.t 14))⟩, [14], none, [], []⟩,
 ⟨1, ⟨(some 47), none, .q (.bni .eql (.t 46) (.c (.i .i64 0)))⟩, [46], none, [], [0]⟩,
 ⟨2, ⟨(some 48), none, .q (.mov (.t 47))⟩, [47], none, [], [1, 0]⟩,
 ⟨3, ⟨(some 49), (some (48, true)), .q (.fa 0 (.t 12))⟩, [12, 48], none, [], [2, 1, 0]⟩,
 ⟨4, ⟨(some 50), (some (48, true)), .q (.ld1 (.t 49))⟩, [49, 48], none, [], [3, 2, 1, 0]⟩,
 ⟨5, ⟨(some 51), (some (48, true)), .q (.bni .eql (.t 50) (.c (.i .i64 2)))⟩, [50, 48], none, [], [4, 2, 3, 1, 0]⟩,
 ⟨6, ⟨(some 52), none, .q (.pick (.t 48) (.t 51) (.c (.b false)))⟩, [48, 51], none, [], [2, 5, 1, 0, 4, 3]⟩,
 ⟨7, ⟨(some 53), none, .q (.mov (.t 52))⟩, [52], none, [], [6, 2, 5, 1, 0, 4, 3]⟩,
 ⟨8, ⟨(some 54), (some (53, true)), .q (.fa 2 (.t 12))⟩, [12, 53], none, [], [7, 6, 2, 5, 1, 0, 4, 3]⟩,
 ⟨9, ⟨(some 55), (some (53, true)), .q (.ld1 (.t 54))⟩, [54, 53], none, [], [8, 7, 6, 2, 5, 1, 0, 4, 3]⟩,
 ⟨10, ⟨(some 56), (some (53, true)), .q (.bni .eql (.t 55) (.c (.i .u32 0)))⟩, [55, 53], none, [], [9, 7, 8, 6, 2, 5, 1, 0, 4, 3]⟩,
 ⟨11, ⟨(some 57), none, .q (.pick (.t 53) (.t 56) (.c (.b false)))⟩, [53, 56], none, [], [7, 10, 6, 2, 5, 1, 0, 4, 3, 9, 8]⟩,
 ⟨12, ⟨(some 58), none, .q (.mov (.t 57))⟩, [57], none, [], [11, 7, 10, 6, 2, 5, 1, 0, 4, 3, 9, 8]⟩,
 ⟨13, ⟨(some 59), (some (58, true)), .q (.mov (.t 5))⟩, [5, 58], none, [], [12, 11, 7, 10, 6, 2, 5, 1, 0, 4, 3, 9, 8]⟩,
 ⟨14, ⟨(some 60), (some (58, true)), .q (.eqr false .ptr (.t 59) (.c .nilp))⟩, [59, 58], none, [], [13, 12, 11, 7, 10, 6, 2, 5, 1, 0, 4, 3, 9, 8]⟩,
 ⟨15, ⟨(some 61), (some (58, true)), .q (.mov (.t 60))⟩, [60, 58], none, [], [14, 12, 13, 11, 7, 10, 6, 2, 5, 1, 0, 4, 3, 9, 8]⟩,
 ⟨16, ⟨(some 62), (some (61, false)), .q (.fa 1 (.t 12))⟩, [12, 61], none, [], [15, 14, 12, 13, 11, 7, 10, 6, 2, 5, 1, 0, 4, 3, 9, 8]⟩,
 ⟨17, ⟨(some 63), (some (61, false)), .q (.ld1 (.t 62))⟩, [62, 61], none, [], [16, 15, 14, 12, 13, 11, 7, 10, 6, 2, 5, 1, 0, 4, 3, 9, 8]⟩,
 ⟨18, ⟨(some 64), (some (61, false)), .q (.mov (.t 5))⟩, [5, 61], none, [], [15, 14, 12, 13, 11, 7, 10, 6, 2, 5, 1, 0, 4, 3, 9, 8]⟩,
 ⟨19, ⟨(some 65), (some (61, false)), .q (.nck (.t 64))⟩, [64, 61], none, [], [18, 15, 14, 12, 13, 11, 7, 10, 6, 2, 5, 1, 0, 4, 3, 9, 8]⟩,
 ⟨20, ⟨(some 66), (some (61, false)), .q (.fa 0 (.t 65))⟩, [65, 61], none, [], [19, 15, 18, 14, 12, 13, 11, 7, 10, 6, 2, 5, 1, 0, 4, 3, 9, 8]⟩,
 ⟨21, ⟨(some 67), (some (61, false)), .q (.fa 1 (.t 66))⟩, [66, 61], none, [], [20, 15, 19, 18, 14, 12, 13, 11, 7, 10, 6, 2, 5, 1, 0, 4, 3, 9, 8]⟩,
 ⟨22, ⟨(some 68), (some (61, false)), .q (.ld1 (.t 67))⟩, [67, 61], none, [], [21, 15, 20, 19, 18, 14, 12, 13, 11, 7, 10, 6, 2, 5, 1, 0, 4, 3, 9, 8]⟩,
 ⟨23, ⟨(some 69), (some (61, false)), .q (.bin .gtr (.t 63) (.t 68))⟩, [63, 68, 61], none, [], [17, 22, 15, 16, 14, 12, 13, 11, 7, 10, 6, 2, 5, 1, 0, 4, 3, 9, 8, 21, 20, 19, 18]⟩,
 ⟨24, ⟨(some 70), (some (58, true)), .q (.pick (.t 61) (.c (.b true)) (.t 69))⟩, [61, 69, 58], none, [], [15, 23, 12, 14, 13, 11, 7, 10, 6, 2, 5, 1, 0, 4, 3, 9, 8, 17, 22, 16, 21, 20, 19, 18]⟩,
 ⟨25, ⟨(some 71), none, .q (.pick (.t 58) (.t 70) (.c (.b false)))⟩, [58, 70], none, [], [12, 24, 11, 7, 10, 6, 2, 5, 1, 0, 4, 3, 9, 8, 15, 23, 14, 13, 17, 22, 16, 21, 20, 19, 18]⟩])
 (.cond (.t 71) (.reg [⟨(some 72), none, .q (.ldn 4 (.t 12))⟩,
 ⟨(some 73), none, .q (.mov (.t 7))⟩,
 ⟨(some 74), none, .q (.build [(.i .i64 0), (.i .u32 0), (.i .u32 0), .nilsl, (.i .i64 0)] [(0, 4, (.t 72)), (4, 1, (.t 73))])⟩,
 ⟨(some 75), none, .a (.box (.t 74))⟩,
 ⟨(some 5), none, .q (.mov (.t 75))⟩])
 .skip)))))))
 (.reg [⟨(some 76), none, .q (.bin .add (.t 17) (.c (.i .i64 1)))⟩,
 ⟨(some 17), none, .q (.mov (.t 76))⟩])))))))
 (.seq (.reg [⟨(some 77), none, .q (.mov (.t 5))⟩,
 ⟨(some 4), none, .q (.mov (.t 77))⟩])
 .ret))))⟩
def f256 : FnC := ⟨142, [],
 (.seq (.reg [⟨(some 3), none, .a (.box (.t 1))⟩])
 (.seq (.dreg [⟨0, ⟨(some 11), none, .q (.mov (.t 0))⟩, [0], none, [], []⟩,
 ⟨1, ⟨(some 12), none, .q (.nck (.t 11))⟩, [11], none, [], [0]⟩,
 ⟨2, ⟨(some 13), none, .q (.fa 0 (.t 12))⟩, [12], none, [], [1, 0]⟩,
 ⟨3, ⟨(some 14), none, .q (.fa 0 (.t 3))⟩, [3], none, [], []⟩,
 ⟨4, ⟨(some 15), none, .q (.ld1 (.t 14))⟩, [14], none, [], [3]⟩,
 ⟨5, ⟨(some 16), none, .q (.cvi .u64 (.t 15))⟩, [15], none, [], [4, 3]⟩,
 ⟨6, ⟨(some 17), none, .call (.c (.fn 280 [])) [(.t 13), (.t 16), (.c (.i .i64 2))]⟩, [13, 16], none, [], [2, 5, 1, 0, 4, 3]⟩])
 (.seq (.dreg [⟨0, ⟨(some 18), none, .q (.mov (.t 0))⟩, [0], none, [], []⟩,
 ⟨1, ⟨(some 19), none, .q (.nck (.t 18))⟩, [18], none, [], [0]⟩,
 ⟨2, ⟨(some 20), none, .q (.fa 0 (.t 19))⟩, [19], none, [], [1, 0]⟩,
 ⟨3, ⟨(some 21), none, .q (.fa 1 (.t 3))⟩, [3], none, [], []⟩,
 ⟨4, ⟨(some 22), none, .q (.ld1 (.t 21))⟩, [21], none, [], [3]⟩,
 ⟨5, ⟨(some 23), none, .q (.cvi .u64 (.t 22))⟩, [22], none, [], [4, 3]⟩,
 ⟨6, ⟨(some 24), none, .call (.c (.fn 280 [])) [(.t 20), (.t 23), (.c (.i .i64 1))]⟩, [20, 23], none, [], [2, 5, 1, 0, 4, 3]⟩])
 (.seq (.dreg [⟨0, ⟨(some 25), none, .q (.mov (.t 0))⟩, [0], none, [], []⟩,
 ⟨1, ⟨(some 26), none, .q (.nck (.t 25))⟩, [25], none, [], [0]⟩,
 ⟨2, ⟨(some 27), none, .q (.fa 0 (.t 26))⟩, [26], none, [], [1, 0]⟩,
 ⟨3, ⟨(some 28), none, .q (.fa 2 (.t 3))⟩, [3], none, [], []⟩,
 ⟨4, ⟨(some 29), none, .q (.ld1 (.t 28))⟩, [28], none, [], [3]⟩,
 ⟨5, ⟨(some 30), none, .q (.cvi .u64 (.t 29))⟩, [29], none, [], [4, 3]⟩,
 ⟨6, ⟨(some 31), none, .call (.c (.fn 280 [])) [(.t 27), (.t 30), (.c (.i .i64 1))]⟩, [27, 30], none, [], [2, 5, 1, 0, 4, 3]⟩])
 (.seq (.dreg [⟨0, ⟨(some 32), none, .q (.mov (.t 0))⟩, [0], none, [], []⟩,
 ⟨1, ⟨(some 33), none, .q (.nck (.t 32))⟩, [32], none, [], [0]⟩,
 ⟨2, ⟨(some 34), none, .q (.fa 0 (.t 33))⟩, [33], none, [], [1, 0]⟩,
 ⟨3, ⟨(some 35), none, .q (.fa 3 (.t 3))⟩, [3], none, [], []⟩,
 ⟨4, ⟨(some 36), none, .q (.ld1 (.t 35))⟩, [35], none, [], [3]⟩,
 ⟨5, ⟨(some 37), none, .q (.lenL (.t 36))⟩, [36], none, [], [4, 3]⟩,
 ⟨6, ⟨(some 38), none, .q (.cvi .u64 (.t 37))⟩, [37], none, [], [5, 4, 3]⟩,
 ⟨7, ⟨(some 39), none, .call (.c (.fn 280 [])) [(.t 34), (.t 38), (.c (.i .i64 1))]⟩, [34, 38], none, [], [2, 6, 1, 0, 5, 4, 3]⟩])
 (.seq (.seq (.reg [⟨(some 40), none, .q (.fa 3 (.t 3))⟩,
 ⟨(some 41), none, .q (.ld1 (.t 40))⟩,
 ⟨(some 42), none, .q (.lenL (.t 41))⟩,
 ⟨(some 43), none, .q (.mov (.c (.i .i64 0)))⟩])
 (.block 0 (.loop (.seq (.reg [⟨(some 44), none, .q (.bin .lss (.t 43) (.t 42))⟩])
 (.seq (.cond (.t 44) .skip
 (.exit 0))
 (.seq (.block 1 (.seq (.reg [⟨(some 45), none, .q (.ia 3 (.t 41) (.t 43))⟩,
 ⟨(some 46), none, .q (.ldn 3 (.t 45))⟩,
 ⟨(some 5), none, .a (.new [(.b false), (.i .u32 0), (.i .i64 0)])⟩,
 ⟨none, none, .h (.st 3 (.t 5) (.t 46))⟩])
 (.seq (.reg [⟨(some 6), none, .q (.mov (.c (.i .u64 0)))⟩])
 (.seq (.seq (.reg [⟨(some 47), none, .q (.fa 0 (.t 5))⟩,
 ⟨(some 48), none, .q (.ld1 (.t 47))⟩])
 (.cond (.t 48) (.reg [⟨(some 6), none, .q (.mov (.c (.i .u64 1)))⟩])
 .dead))
 (.seq (.reg [⟨(some 49), none, .q (.mov (.t 0))⟩,
 ⟨(some 50), none, .q (.nck (.t 49))⟩,
 ⟨(some 51), none, .q (.fa 0 (.t 50))⟩,
 ⟨(some 52), none, .q (.mov (.t 6))⟩,
 ⟨(some 53), none, .call (.c (.fn 280 [])) [(.t 51), (.t 52), (.c (.i .i64 1))]⟩])
 (.seq (.dreg [⟨0, ⟨(some 54), none, .q (.mov (.t 0))⟩, [0], none, [], []⟩,
 ⟨1, ⟨(some 55), none, .q (.nck (.t 54))⟩, [54], none, [], [0]⟩,
 ⟨2, ⟨(some 56), none, .q (.fa 0 (.t 55))⟩, [55], none, [], [1, 0]⟩,
 ⟨3, ⟨(some 57), none, .q (.fa 1 (.t 5))⟩, [5], none, [], []⟩,
 ⟨4, ⟨(some 58), none, .q (.ld1 (.t 57))⟩, [57], none, [], [3]⟩,
 ⟨5, ⟨(some 59), none, .q (.cvi .u64 (.t 58))⟩, [58], none, [], [4, 3]⟩,
 ⟨6, ⟨(some 60), none, .call (.c (.fn 280 [])) [(.t 56), (.t 59), (.c (.i .i64 4))]⟩, [56, 59], none, [], [2, 5, 1, 0, 4, 3]⟩])
 (.dreg [⟨0, ⟨(some 61), none, .q (.mov (.t 0))⟩, [0], none, [], []⟩,
 ⟨1, ⟨(some 62), none, .q (.nck (.t 61))⟩, [61], none, [], [0]⟩,
 ⟨2, ⟨(some 63), none, .q (.fa 0 (.t 62))⟩, [62], none, [], [1, 0]⟩,
 ⟨3, ⟨(some 64), none, .q (.fa 2 (.t 5))⟩, [5], none, [], []⟩,
 ⟨4, ⟨(some 65), none, .q (.ld1 (.t 64))⟩, [64], none, [], [3]⟩,
 ⟨5, ⟨(some 66), none, .q (.cvi .u64 (.t 65))⟩, [65], none, [], [4, 3]⟩,
 ⟨6, ⟨(some 67), none, .call (.c (.fn 280 [])) [(.t 63), (.t 66), (.c (.i .i64 2))]⟩, [63, 66], none, [], [2, 5, 1, 0, 4, 3]⟩])))))))
 (.reg [⟨(some 68), none, .q (.bin .add (.t 43) (.c (.i .i64 1)))⟩,
 ⟨(some 43), none, .q (.mov (.t 68))⟩])))))))
 (.seq (.dreg [⟨0, ⟨(some 69), none, .q (.mov (.t 0))⟩, [0], none, [], []⟩,
 ⟨1, ⟨(some 70), none, .q (.nck (.t 69))⟩, [69], none, [], [0]⟩,
 ⟨2, ⟨(some 71), none, .q (.fa 0 (.t 70))⟩, [70], none, [], [1, 0]⟩,
 ⟨3, ⟨(some 72), none, .q (.fa 4 (.t 3))⟩, [3], none, [], []⟩,
 ⟨4, ⟨(some 73), none, .q (.ld1 (.t 72))⟩, [72], none, [], [3]⟩,
 ⟨5, ⟨(some 74), none, .q (.lenL (.t 73))⟩, [73], none, [], [4, 3]⟩,
 ⟨6, ⟨(some 75), none, .q (.cvi .u64 (.t 74))⟩, [74], none, [], [5, 4, 3]⟩,
 ⟨7, ⟨(some 76), none, .call (.c (.fn 280 [])) [(.t 71), (.t 75), (.c (.i .i64 1))]⟩, [71, 75], none, [], [2, 6, 1, 0, 5, 4, 3]⟩])
 (.seq (.seq (.reg [⟨(some 77), none, .q (.fa 4 (.t 3))⟩,
 ⟨(some 78), none, .q (.ld1 (.t 77))⟩,
 ⟨(some 79), none, .q (.lenL (.t 78))⟩,
 ⟨(some 80), none, .q (.mov (.c (.i .i64 0)))⟩])
 (.block 2 (.loop (.seq (.reg [⟨(some 81), none, .q (.bin .lss (.t 80) (.t 79))⟩])
 (.seq (.cond (.t 81) .skip
 (.exit 2))
 (.seq (.block 3 (.seq (.reg [⟨(some 82), none, .q (.ia 3 (.t 78) (.t 80))⟩,
 ⟨(some 83), none, .q (.ldn 3 (.t 82))⟩,
 ⟨(some 8), none, .a (.new [(.i .i64 0), (.i .u8 0), (.i .u8 0)])⟩,
 ⟨none, none, .h (.st 3 (.t 8) (.t 83))⟩])
 (.seq (.dreg [⟨0, ⟨(some 84), none, .q (.mov (.t 0))⟩, [0], none, [], []⟩,
 ⟨1, ⟨(some 85), none, .q (.nck (.t 84))⟩, [84], none, [], [0]⟩,
 ⟨2, ⟨(some 86), none, .q (.fa 0 (.t 85))⟩, [85], none, [], [1, 0]⟩,
 ⟨3, ⟨(some 87), none, .q (.fa 0 (.t 8))⟩, [8], none, [], []⟩,
 ⟨4, ⟨(some 88), none, .q (.ld1 (.t 87))⟩, [87], none, [], [3]⟩,
 ⟨5, ⟨(some 89), none, .q (.cvi .u64 (.t 88))⟩, [88], none, [], [4, 3]⟩,
 ⟨6, ⟨(some 90), none, .call (.c (.fn 280 [])) [(.t 86), (.t 89), (.c (.i .i64 2))]⟩, [86, 89], none, [], [2, 5, 1, 0, 4, 3]⟩])
 (.seq (.dreg [⟨0, ⟨(some 91), none, .q (.mov (.t 0))⟩, [0], none, [], []⟩,
 ⟨1, ⟨(some 92), none, .q (.nck (.t 91))⟩, [91], none, [], [0]⟩,
 ⟨2, ⟨(some 93), none, .q (.fa 0 (.t 92))⟩, [92], none, [], [1, 0]⟩,
 ⟨3, ⟨(some 94), none, .q (.fa 1 (.t 8))⟩, [8], none, [], []⟩,
 ⟨4, ⟨(some 95), none, .q (.ld1 (.t 94))⟩, [94], none, [], [3]⟩,
 ⟨5, ⟨(some 96), none, .q (.cvi .u64 (.t 95))⟩, [95], none, [], [4, 3]⟩,
 ⟨6, ⟨(some 97), none, .call (.c (.fn 280 [])) [(.t 93), (.t 96), (.c (.i .i64 1))]⟩, [93, 96], none, [], [2, 5, 1, 0, 4, 3]⟩])
 (.dreg [⟨0, ⟨(some 98), none, .q (.mov (.t 0))⟩, [0], none, [], []⟩,
 ⟨1, ⟨(some 99), none, .q (.nck (.t 98))⟩, [98], none, [], [0]⟩,
 ⟨2, ⟨(some 100), none, .q (.fa 0 (.t 99))⟩, [99], none, [], [1, 0]⟩,
 ⟨3, ⟨(some 101), none, .q (.fa 2 (.t 8))⟩, [8], none, [], []⟩,
 ⟨4, ⟨(some 102), none, .q (.ld1 (.t 101))⟩, [101], none, [], [3]⟩,
 ⟨5, ⟨(some 103), none, .q (.cvi .u64 (.t 102))⟩, [102], none, [], [4, 3]⟩,
 ⟨6, ⟨(some 104), none, .call (.c (.fn 280 [])) [(.t 100), (.t 103), (.c (.i .i64 1))]⟩, [100, 103], none, [], [2, 5, 1, 0, 4, 3]⟩])))))
 (.reg [⟨(some 105), none, .q (.bin .add (.t 80) (.c (.i .i64 1)))⟩,
 ⟨(some 80), none, .q (.mov (.t 105))⟩])))))))
 (.seq (.dreg [⟨0, ⟨(some 106), none, .q (.mov (.t 0))⟩, [0], none, [], []⟩,
 ⟨1, ⟨(some 107), none, .q (.nck (.t 106))⟩, [106], none, [], [0]⟩,
 ⟨2, ⟨(some 108), none, .q (.fa 0 (.t 107))⟩, [107], none, [], [1, 0]⟩,
 ⟨3, ⟨(some 109), none, .q (.fa 5 (.t 3))⟩, [3], none, [], []⟩,
 ⟨4, ⟨(some 110), none, .q (.ld1 (.t 109))⟩, [109], none, [], [3]⟩,
 ⟨5, ⟨(some 111), none, .q (.lenL (.t 110))⟩, [110], none, [], [4, 3]⟩,
 ⟨6, ⟨(some 112), none, .q (.cvi .u64 (.t 111))⟩, [111], none, [], [5, 4, 3]⟩,
 ⟨7, ⟨(some 113), none, .call (.c (.fn 280 [])) [(.t 108), (.t 112), (.c (.i .i64 1))]⟩, [108, 112], none, [], [2, 6, 1, 0, 5, 4, 3]⟩])
 (.seq (.reg [⟨(some 114), none, .q (.fa 5 (.t 3))⟩,
 ⟨(some 115), none, .q (.ld1 (.t 114))⟩,
 ⟨(some 116), none, .q (.lenL (.t 115))⟩,
 ⟨(some 117), none, .q (.mov (.c (.i .i64 0)))⟩])
 (.block 4 (.loop (.seq (.reg [⟨(some 118), none, .q (.bin .lss (.t 117) (.t 116))⟩])
 (.seq (.cond (.t 118) .dead
 (.exit 4))
 .dead))))))))))))))⟩
def f257 : FnC := ⟨7, [.tmp 2],
 (.seq (.reg [⟨(some 2), none, .q (.mov (.c (.i .i64 0)))⟩])
 (.seq (.seq (.reg [⟨(some 3), none, .q (.mov (.t 0))⟩,
 ⟨(some 4), none, .q (.eqr false .ptr (.t 3) (.c .nilp))⟩])
 (.cond (.t 4) .dead
 .skip))
 (.seq (.reg [⟨(some 5), none, .q (.mov (.t 0))⟩,
 ⟨(some 6), none, .call (.c (.fn 156 [])) [(.t 5), (.c (.fn 301 []))]⟩])
 (.seq (.reg [⟨(some 2), none, .q (.mov (.c (.i .i64 0)))⟩])
 .ret))))⟩
def f258 : FnC := ⟨23, [.tmp 6],
 (.seq (.reg [⟨(some 5), none, .a (.box (.t 2))⟩,
 ⟨(some 6), none, .q (.mov (.c (.i .i64 0)))⟩])
 (.seq (.seq (.reg [⟨(some 7), none, .q (.mov (.t 0))⟩,
 ⟨(some 8), none, .q (.mov (.t 1))⟩,
 ⟨(some 9), none, .call (.c (.fn 263 [])) [(.t 7), (.t 8)]⟩,
 ⟨(some 10), none, .q (.un .not (.t 9))⟩])
 (.cond (.t 10) .dead
 .skip))
 (.seq (.dreg [⟨0, ⟨(some 11), none, .q (.mov (.t 0))⟩, [0], none, [], []⟩,
 ⟨1, ⟨(some 12), none, .q (.mov (.t 0))⟩, [0], none, [], []⟩,
 ⟨2, ⟨(some 13), none, .q (.nck (.t 12))⟩, [12], none, [], [1]⟩,
 ⟨3, ⟨(some 14), none, .q (.fa 1 (.t 13))⟩, [13], none, [], [2, 1]⟩,
 ⟨4, ⟨(some 15), none, .q (.ld1 (.t 14))⟩, [14], none, [], [3, 2, 1]⟩,
 ⟨5, ⟨(some 16), none, .q (.mov (.t 1))⟩, [1], none, [], []⟩,
 ⟨6, ⟨(some 17), none, .q (.ldn 64 (.t 5))⟩, [5], none, [], []⟩,
 ⟨7, ⟨(some 18), none, .q (.build [(.i .i64 0), (.i .u8 0), (.i .u8 0), (.i .u8 0), (.i .u8 0), (.i .u8 0), (.i .u8 0), (.i .u8 0), (.i .u8 0), (.i .u8 0), (.i .u8 0), (.i .u8 0), (.i .u8 0), (.i .u8 0), (.i .u8 0), (.i .u8 0), (.i .u8 0), (.i .u8 0), (.i .u8 0), (.i .u8 0), (.i .u8 0), (.i .u8 0), (.i .u8 0), (.i .u8 0), (.i .u8 0), (.i .u8 0), (.i .u8 0), (.i .u8 0), (.i .u8 0), (.i .u8 0), (.i .u8 0), (.i .u8 0), (.i .u8 0), (.i .u8 0), (.i .u8 0), (.i .u8 0), (.i .u8 0), (.i .u8 0), (.i .u8 0), (.i .u8 0), (.i .u8 0), (.i .u8 0), (.i .u8 0), (.i .u8 0), (.i .u8 0), (.i .u8 0), (.i .u8 0), (.i .u8 0), (.i .u8 0), (.i .u8 0), (.i .u8 0), (.i .u8 0), (.i .u8 0), (.i .u8 0), (.i .u8 0), (.i .u8 0), (.i .u8 0), (.i .u8 0), (.i .u8 0), (.i .u8 0), (.i .u8 0), (.i .u8 0), (.i .u8 0), (.i .u8 0), (.i .u8 0)] [(0, 1, (.t 16)), (1, 64, (.t 17))])⟩, [16, 17], none, [], [5, 6]⟩,
 ⟨8, ⟨(some 19), none, .a (.mkSl 65 1 [(.i .i64 0), (.i .u8 0), (.i .u8 0), (.i .u8 0), (.i .u8 0), (.i .u8 0), (.i .u8 0), (.i .u8 0), (.i .u8 0), (.i .u8 0), (.i .u8 0), (.i .u8 0), (.i .u8 0), (.i .u8 0), (.i .u8 0), (.i .u8 0), (.i .u8 0), (.i .u8 0), (.i .u8 0), (.i .u8 0), (.i .u8 0), (.i .u8 0), (.i .u8 0), (.i .u8 0), (.i .u8 0), (.i .u8 0), (.i .u8 0), (.i .u8 0), (.i .u8 0), (.i .u8 0), (.i .u8 0), (.i .u8 0), (.i .u8 0), (.i .u8 0), (.i .u8 0), (.i .u8 0), (.i .u8 0), (.i .u8 0), (.i .u8 0), (.i .u8 0), (.i .u8 0), (.i .u8 0), (.i .u8 0), (.i .u8 0), (.i .u8 0), (.i .u8 0), (.i .u8 0), (.i .u8 0), (.i .u8 0), (.i .u8 0), (.i .u8 0), (.i .u8 0), (.i .u8 0), (.i .u8 0), (.i .u8 0), (.i .u8 0), (.i .u8 0), (.i .u8 0), (.i .u8 0), (.i .u8 0), (.i .u8 0), (.i .u8 0), (.i .u8 0), (.i .u8 0), (.i .u8 0)] [(0, 65, (.t 18))])⟩, [18], none, [], [7, 5, 6]⟩,
 ⟨9, ⟨(some 20), none, .h (.app 65 72 (.t 15) (.t 19))⟩, [15, 19], none, [8], [4, 8, 3, 2, 1, 7, 5, 6]⟩,
 ⟨10, ⟨(some 21), none, .q (.nck (.t 11))⟩, [11], none, [], [0, 1, 2, 3, 4, 5, 6, 7, 8, 9]⟩,
 ⟨11, ⟨(some 22), none, .q (.fa 1 (.t 21))⟩, [21], none, [], [10, 0, 1, 2, 3, 4, 5, 6, 7, 8, 9]⟩,
 ⟨12, ⟨none, none, .h (.st 1 (.t 22) (.t 20))⟩, [22, 20], none, [], [11, 9, 0, 1, 2, 3, 4, 5, 6, 7, 8, 10]⟩])
 (.seq (.reg [⟨(some 6), none, .q (.mov (.c (.i .i64 0)))⟩])
 .ret))))⟩
def f259 : FnC := ⟨28, [.tmp 4],
 (.seq (.reg [⟨(some 4), none, .q (.mov (.c (.b false)))⟩])
 (.seq (.seq (.reg [⟨(some 6), none, .q (.mov (.t 0))⟩,
 ⟨(some 7), none, .q (.lenL (.t 6))⟩,
 ⟨(some 8), none, .q (.mov (.c (.i .i64 0)))⟩])
 (.block 0 (.loop (.seq (.reg [⟨(some 9), none, .q (.bin .lss (.t 8) (.t 7))⟩])
 (.seq (.cond (.t 9) .skip
 (.exit 0))
 (.seq (.block 1 (.seq (.reg [⟨(some 10), none, .q (.mov (.t 8))⟩,
 ⟨(some 5), none, .q (.mov (.t 10))⟩])
 (.seq (.dreg [⟨0, ⟨(some 11), none, .q (.mov (.t 5))⟩, [5], none, [], []⟩,
 ⟨1, ⟨(some 12), none, .q (.bin .gtr (.t 11) (.c (.i .i64 0)))⟩, [11], none, [], [0]⟩,
 ⟨2, ⟨(some 13), none, .q (.mov (.t 12))⟩, [12], none, [], [1, 0]⟩,
 ⟨3, ⟨(some 14), (some (13, true)), .q (.mov (.t 1))⟩, [1, 13], none, [], [2, 1, 0]⟩,
 ⟨4, ⟨(some 15), (some (13, true)), .q (.mov (.t 0))⟩, [0, 13], none, [], [2, 1, 0]⟩,
 ⟨5, ⟨(some 16), (some (13, true)), .q (.mov (.t 5))⟩, [5, 13], none, [], [2, 1, 0]⟩,
 ⟨6, ⟨(some 17), (some (13, true)), .q (.bin .sub (.t 16) (.c (.i .i64 1)))⟩, [16, 13], none, [], [5, 2, 1, 0]⟩,
 ⟨7, ⟨(some 18), (some (13, true)), .q (.ia 3 (.t 15) (.t 17))⟩, [15, 17, 13], none, [], [4, 6, 2, 1, 0, 5]⟩,
 ⟨8, ⟨(some 19), (some (13, true)), .q (.ldn 3 (.t 18))⟩, [18, 13], none, [], [7, 2, 4, 6, 1, 0, 5]⟩,
 ⟨9, ⟨(some 20), (some (13, true)), .q (.mov (.t 0))⟩, [0, 13], none, [], [2, 1, 0]⟩,
 ⟨10, ⟨(some 21), (some (13, true)), .q (.mov (.t 5))⟩, [5, 13], none, [], [2, 1, 0]⟩,
 ⟨11, ⟨(some 22), (some (13, true)), .q (.ia 3 (.t 20) (.t 21))⟩, [20, 21, 13], none, [], [9, 10, 2, 1, 0]⟩,
 ⟨12, ⟨(some 23), (some (13, true)), .q (.ldn 3 (.t 22))⟩, [22, 13], none, [], [11, 2, 9, 10, 1, 0]⟩,
 ⟨13, ⟨(some 24), (some (13, true)), .call (.t 14) [(.t 19), (.t 23)]⟩, [14, 19, 23, 13], none, [], [3, 8, 12, 2, 1, 0, 7, 4, 6, 5, 11, 9, 10]⟩,
 ⟨14, ⟨(some 25), (some (13, true)), .q (.bin .geq (.t 24) (.c (.i .i64 0)))⟩, [24, 13], none, [], [13, 2, 3, 8, 12, 1, 0, 7, 4, 6, 5, 11, 9, 10]⟩,
 ⟨15, ⟨(some 26), none, .q (.pick (.t 13) (.t 25) (.c (.b false)))⟩, [13, 25], none, [], [2, 14, 1, 0, 13, 3, 8, 12, 7, 4, 6, 5, 11, 9, 10]⟩])
 (.cond (.t 26) .dead
 .skip))))
 (.reg [⟨(some 27), none, .q (.bin .add (.t 8) (.c (.i .i64 1)))⟩,
 ⟨(some 8), none, .q (.mov (.t 27))⟩])))))))
 (.seq (.reg [⟨(some 4), none, .q (.mov (.c (.b true)))⟩])
 .ret)))⟩
def f261 : FnC := ⟨11, [.tmp 4, .tmp 5],
 (.seq (.reg [⟨(some 4), none, .q (.mov (.c (.i .i64 0)))⟩,
 ⟨(some 5), none, .q (.mov (.c (.b false)))⟩])
 (.seq (.reg [⟨(some 6), none, .q (.mov (.t 0))⟩,
 ⟨(some 7), none, .q (.mov (.t 1))⟩,
 ⟨(some 8), none, .call (.c (.fn 302 [])) [(.t 6), (.t 7), (.c (.fn 303 []))]⟩,
 ⟨(some 9), none, .q (.ext 0 (.t 8))⟩,
 ⟨(some 10), none, .q (.ext 1 (.t 8))⟩,
 ⟨(some 4), none, .q (.mov (.t 9))⟩,
 ⟨(some 5), none, .q (.mov (.t 10))⟩])
 .ret))⟩
def f262 : FnC := ⟨19, [.tmp 4],
 (.seq (.reg [⟨(some 4), none, .q (.mov (.c (.i .i64 0)))⟩])
 (.seq (.seq (.reg [⟨(some 6), none, .q (.mov (.t 0))⟩,
 ⟨(some 7), none, .q (.lenL (.t 6))⟩,
 ⟨(some 8), none, .q (.mov (.c (.i .i64 0)))⟩])
 (.block 0 (.loop (.seq (.reg [⟨(some 9), none, .q (.bin .lss (.t 8) (.t 7))⟩])
 (.seq (.cond (.t 9) .dead
 (.exit 0))
 .dead)))))
 (.seq (.reg [⟨(some 4), none, .q (.mov (.c (.i .i64 (-1))))⟩])
 .ret)))⟩
def f263 : FnC := ⟨20, [.tmp 4],
 (.seq (.reg [⟨(some 4), none, .q (.mov (.c (.b false)))⟩])
 (.seq (.reg [⟨(some 5), none, .q (.mov (.t 0))⟩,
 ⟨(some 6), none, .q (.eqr true .ptr (.t 5) (.c .nilp))⟩,
 ⟨(some 7), none, .q (.mov (.t 6))⟩,
 ⟨(some 8), (some (7, true)), .q (.mov (.t 1))⟩,
 ⟨(some 9), (some (7, true)), .q (.bin .geq (.t 8) (.c (.i .i64 0)))⟩,
 ⟨(some 10), none, .q (.pick (.t 7) (.t 9) (.c (.b false)))⟩,
 ⟨(some 11), none, .q (.mov (.t 10))⟩,
 ⟨(some 12), (some (11, true)), .q (.mov (.t 1))⟩,
 ⟨(some 13), (some (11, true)), .q (.mov (.t 0))⟩,
 ⟨(some 14), (some (11, true)), .q (.nck (.t 13))⟩,
 ⟨(some 15), (some (11, true)), .q (.fa 0 (.t 14))⟩,
 ⟨(some 16), (some (11, true)), .q (.ld1 (.t 15))⟩,
 ⟨(some 17), (some (11, true)), .q (.lenL (.t 16))⟩,
 ⟨(some 18), (some (11, true)), .q (.bin .lss (.t 12) (.t 17))⟩,
 ⟨(some 19), none, .q (.pick (.t 11) (.t 18) (.c (.b false)))⟩,
 ⟨(some 4), none, .q (.mov (.t 19))⟩])
 .ret))⟩
def f264 : FnC := ⟨9, [.tmp 4],
 (.seq (.reg [⟨(some 2), none, .a (.box (.t 0))⟩,
 ⟨(some 3), none, .a (.box (.t 1))⟩,
 ⟨(some 4), none, .q (.mov (.c .nilf))⟩])
 (.seq (.seq (.reg [⟨(some 5), none, .q (.ld1 (.t 3))⟩,
 ⟨(some 6), none, .q (.bin .lss (.t 5) (.c (.i .i64 1)))⟩])
 (.cond (.t 6) .dead
 .skip))
 (.seq (.reg [⟨(some 8), none, .q (.mkf 304 [(.t 2), (.t 3)])⟩,
 ⟨(some 4), none, .q (.mov (.t 8))⟩])
 .ret)))⟩
def f265 : FnC := ⟨37, [.tmp 2],
 (.seq (.reg [⟨(some 1), none, .a (.box (.t 0))⟩,
 ⟨(some 2), none, .q (.mov (.c .nilsl))⟩])
 (.seq (.dreg [⟨0, ⟨(some 4), none, .q (.fa 0 (.t 1))⟩, [1], none, [], []⟩,
 ⟨1, ⟨(some 5), none, .q (.fa 0 (.t 4))⟩, [4], none, [], [0]⟩,
 ⟨2, ⟨(some 6), none, .q (.ld1 (.t 5))⟩, [5], none, [], [1, 0]⟩,
 ⟨3, ⟨(some 7), none, .q (.cvi .u8 (.t 6))⟩, [6], none, [], [2, 1, 0]⟩,
 ⟨5, ⟨(some 9), none, .q (.fa 0 (.t 1))⟩, [1], none, [], []⟩,
 ⟨6, ⟨(some 10), none, .q (.fa 1 (.t 9))⟩, [9], none, [], [4]⟩,
 ⟨7, ⟨(some 11), none, .q (.ld1 (.t 10))⟩, [10], none, [], [5, 4]⟩,
 ⟨9, ⟨(some 13), none, .q (.fa 0 (.t 1))⟩, [1], none, [], []⟩,
 ⟨10, ⟨(some 14), none, .q (.fa 2 (.t 13))⟩, [13], none, [], [7]⟩,
 ⟨11, ⟨(some 15), none, .q (.ld1 (.t 14))⟩, [14], none, [], [8, 7]⟩,
 ⟨13, ⟨(some 17), none, .q (.fa 3 (.t 1))⟩, [1], none, [], []⟩,
 ⟨14, ⟨(some 18), none, .q (.ld1 (.t 17))⟩, [17], none, [], [10]⟩,
 ⟨15, ⟨(some 19), none, .q (.lenL (.t 18))⟩, [18], none, [], [11, 10]⟩,
 ⟨16, ⟨(some 20), none, .q (.bin .shr (.t 19) (.c (.i .u64 8)))⟩, [19], none, [], [12, 11, 10]⟩,
 ⟨17, ⟨(some 21), none, .q (.cvi .u8 (.t 20))⟩, [20], none, [], [13, 12, 11, 10]⟩,
 ⟨18, ⟨(some 22), none, .q (.fa 3 (.t 1))⟩, [1], none, [], []⟩,
 ⟨19, ⟨(some 23), none, .q (.ld1 (.t 22))⟩, [22], none, [], [15]⟩,
 ⟨20, ⟨(some 24), none, .q (.lenL (.t 23))⟩, [23], none, [], [16, 15]⟩,
 ⟨21, ⟨(some 25), none, .q (.cvi .u8 (.t 24))⟩, [24], none, [], [17, 16, 15]⟩,
 ⟨23, ⟨(some 27), none, .q (.fa 3 (.t 1))⟩, [1], none, [], []⟩,
 ⟨24, ⟨(some 28), none, .q (.ld1 (.t 27))⟩, [27], none, [], [19]⟩,
 ⟨8, ⟨(some 12), none, .call (.c (.fn 305 [])) [(.t 11)]⟩, [11], none, [20, 19, 18, 17, 13, 12, 11, 10, 9, 8, 7, 6, 5, 4, 3, 2, 1, 0], [6, 5, 4]⟩,
 ⟨12, ⟨(some 16), none, .call (.c (.fn 305 [])) [(.t 15)]⟩, [15], none, [21, 20, 19, 18, 11, 10, 9, 8, 7, 6, 5, 4, 3, 2, 1], [9, 21, 8, 7, 6, 5, 4]⟩,
 ⟨4, ⟨(some 8), none, .a (.mkSl 1 1 [(.i .u8 0)] [(0, 1, (.t 7))])⟩, [7], none, [], [3, 2, 1, 0]⟩,
 ⟨22, ⟨(some 26), none, .a (.mkSl 1 2 [(.i .u8 0), (.i .u8 0)] [(0, 1, (.t 21)), (1, 1, (.t 25))])⟩, [21, 25], none, [], [14, 18, 13, 12, 11, 10, 17, 16, 15]⟩,
 ⟨25, ⟨(some 29), none, .a (.mkSl 1 5 [.nilsl, .nilsl, .nilsl, .nilsl, .nilsl] [(0, 1, (.t 8)), (1, 1, (.t 12)), (2, 1, (.t 16)), (3, 1, (.t 26)), (4, 1, (.t 28))])⟩, [8, 12, 16, 26, 28], none, [], [23, 21, 22, 24, 20, 3, 2, 1, 0, 6, 5, 4, 9, 8, 7, 14, 18, 13, 12, 11, 10, 17, 16, 15, 19]⟩,
 ⟨26, ⟨(some 30), none, .call (.c (.fn 155 [])) [(.t 29)]⟩, [29], none, [], [25, 22, 23, 21, 24, 20, 3, 2, 1, 0, 6, 5, 4, 9, 8, 7, 14, 18, 13, 12, 11, 10, 17, 16, 15, 19]⟩,
 ⟨27, ⟨(some 3), none, .q (.mov (.t 30))⟩, [30], none, [], [26, 0, 1, 2, 3, 23, 4, 5, 6, 21, 7, 8, 9, 22, 10, 11, 12, 13, 14, 15, 16, 17, 18, 24, 19, 20, 25]⟩])
 (.seq (.reg [⟨(some 31), none, .q (.mov (.t 3))⟩,
 ⟨(some 32), none, .q (.mov (.t 3))⟩,
 ⟨(some 33), none, .a (.mkSl 1 1 [.nilsl] [(0, 1, (.t 32))])⟩,
 ⟨(some 34), none, .call (.c (.fn 306 [])) [(.t 33)]⟩,
 ⟨(some 35), none, .call (.c (.fn 305 [])) [(.t 34)]⟩,
 ⟨(some 36), none, .h (.app 1 1 (.t 31) (.t 35))⟩,
 ⟨(some 2), none, .q (.mov (.t 36))⟩])
 .ret)))⟩
def f276 : FnC := ⟨143, [.tmp 4],
 (.seq (.reg [⟨(some 4), none, .q (.mov (.c (.i .i64 0)))⟩])
 (.seq (.reg [⟨(some 14), none, .q (.mov (.t 1))⟩,
 ⟨(some 15), none, .q (.lenS (.t 14))⟩,
 ⟨(some 5), none, .q (.mov (.t 15))⟩])
 (.seq (.block 0 (.seq (.reg [⟨(some 17), none, .q (.mov (.t 5))⟩,
 ⟨(some 18), none, .q (.bni .eql (.t 17) (.c (.i .i64 0)))⟩,
 ⟨(some 19), none, .q (.mov (.t 18))⟩,
 ⟨(some 20), (some (19, false)), .q (.mov (.t 1))⟩,
 ⟨(some 21), (some (19, false)), .q (.mov (.t 0))⟩,
 ⟨(some 22), (some (19, false)), .q (.bni .eql (.t 20) (.t 21))⟩,
 ⟨(some 23), none, .q (.pick (.t 19) (.c (.b true)) (.t 22))⟩,
 ⟨(some 16), none, .q (.mov (.t 23))⟩])
 (.cond (.t 16) .dead
 (.seq (.reg [⟨(some 25), none, .q (.mov (.t 5))⟩,
 ⟨(some 26), none, .q (.bni .eql (.t 25) (.c (.i .i64 1)))⟩,
 ⟨(some 24), none, .q (.mov (.t 26))⟩])
 (.cond (.t 24) (.seq (.reg [⟨(some 27), none, .q (.mov (.t 0))⟩,
 ⟨(some 28), none, .q (.mov (.t 1))⟩,
 ⟨(some 29), none, .q (.ixs (.t 28) (.c (.i .i64 0)))⟩,
 ⟨(some 30), none, .call (.c (.fn 279 [])) [(.t 27), (.t 29)]⟩,
 ⟨(some 4), none, .q (.mov (.t 30))⟩])
 .ret)
 .dead)))))
 .dead)))⟩
def f279 : FnC := ⟨8, [.tmp 4],
 (.seq (.reg [⟨(some 4), none, .q (.mov (.c (.i .i64 0)))⟩])
 (.seq (.reg [⟨(some 5), none, .q (.mov (.t 0))⟩,
 ⟨(some 6), none, .q (.mov (.t 1))⟩,
 ⟨(some 7), none, .call (.c (.fn 321 [])) [(.t 5), (.t 6)]⟩,
 ⟨(some 4), none, .q (.mov (.t 7))⟩])
 .ret))⟩
def f280 : FnC := ⟨29, [],
 (.seq (.reg [⟨(some 7), none, .q (.mov (.t 2))⟩,
 ⟨(some 8), none, .q (.mov (.c (.i .i64 0)))⟩])
 (.block 0 (.loop (.seq (.reg [⟨(some 9), none, .q (.bin .lss (.t 8) (.t 7))⟩])
 (.seq (.cond (.t 9) .skip
 (.exit 0))
 (.seq (.block 1 (.seq (.reg [⟨(some 10), none, .q (.mov (.t 8))⟩,
 ⟨(some 6), none, .q (.mov (.t 10))⟩])
 (.dreg [⟨0, ⟨(some 11), none, .q (.mov (.t 0))⟩, [0], none, [], []⟩,
 ⟨1, ⟨(some 12), none, .q (.mov (.t 0))⟩, [0], none, [], []⟩,
 ⟨2, ⟨(some 13), none, .q (.nck (.t 12))⟩, [12], none, [], [1]⟩,
 ⟨3, ⟨(some 14), none, .q (.fa 0 (.t 13))⟩, [13], none, [], [2, 1]⟩,
 ⟨4, ⟨(some 15), none, .q (.ld1 (.t 14))⟩, [14], none, [], [3, 2, 1]⟩,
 ⟨5, ⟨(some 16), none, .q (.mov (.t 1))⟩, [1], none, [], []⟩,
 ⟨6, ⟨(some 17), none, .q (.mov (.t 2))⟩, [2], none, [], []⟩,
 ⟨7, ⟨(some 18), none, .q (.bin .sub (.t 17) (.c (.i .i64 1)))⟩, [17], none, [], [6]⟩,
 ⟨8, ⟨(some 19), none, .q (.mov (.t 6))⟩, [6], none, [], []⟩,
 ⟨9, ⟨(some 20), none, .q (.bin .sub (.t 18) (.t 19))⟩, [18, 19], none, [], [7, 8, 6]⟩,
 ⟨10, ⟨(some 21), none, .q (.bin .mul (.c (.i .i64 8)) (.t 20))⟩, [20], none, [], [9, 7, 8, 6]⟩,
 ⟨11, ⟨(some 22), none, .q (.bin .shr (.t 16) (.t 21))⟩, [16, 21], none, [], [5, 10, 9, 7, 8, 6]⟩,
 ⟨12, ⟨(some 23), none, .q (.cvi .u8 (.t 22))⟩, [22], none, [], [11, 5, 10, 9, 7, 8, 6]⟩,
 ⟨13, ⟨(some 24), none, .a (.mkSl 1 1 [(.i .u8 0)] [(0, 1, (.t 23))])⟩, [23], none, [], [12, 11, 5, 10, 9, 7, 8, 6]⟩,
 ⟨14, ⟨(some 25), none, .h (.app 1 1 (.t 15) (.t 24))⟩, [15, 24], none, [13], [4, 13, 3, 2, 1, 12, 11, 5, 10, 9, 7, 8, 6]⟩,
 ⟨15, ⟨(some 26), none, .q (.nck (.t 11))⟩, [11], none, [], [0, 1, 2, 3, 4, 5, 6, 7, 8, 9, 10, 11, 12, 13, 14]⟩,
 ⟨16, ⟨(some 27), none, .q (.fa 0 (.t 26))⟩, [26], none, [], [15, 0, 1, 2, 3, 4, 5, 6, 7, 8, 9, 10, 11, 12, 13, 14]⟩,
 ⟨17, ⟨none, none, .h (.st 1 (.t 27) (.t 25))⟩, [27, 25], none, [], [16, 14, 0, 1, 2, 3, 4, 5, 6, 7, 8, 9, 10, 11, 12, 13, 15]⟩])))
 (.reg [⟨(some 28), none, .q (.bin .add (.t 8) (.c (.i .i64 1)))⟩,
 ⟨(some 8), none, .q (.mov (.t 28))⟩])))))))⟩
def f301 : FnC := ⟨3, [.tmp 2],
 (.seq (.reg [⟨(some 2), none, .q (.mov (.c (.b false)))⟩])
 (.seq (.reg [⟨(some 2), none, .q (.mov (.c (.b true)))⟩])
 .ret))⟩
def f302 : FnC := ⟨49, [.tmp 6, .tmp 7],
 (.seq (.reg [⟨(some 6), none, .q (.mov (.c (.i .i64 0)))⟩,
 ⟨(some 7), none, .q (.mov (.c (.b false)))⟩])
 (.seq (.reg [⟨(some 12), none, .q (.mov (.t 0))⟩,
 ⟨(some 13), none, .q (.lenL (.t 12))⟩,
 ⟨(some 8), none, .q (.mov (.t 13))⟩])
 (.seq (.reg [⟨(some 14), none, .q (.mov (.t 8))⟩,
 ⟨(some 9), none, .q (.mov (.c (.i .i64 0)))⟩,
 ⟨(some 10), none, .q (.mov (.t 14))⟩])
 (.seq (.block 0 (.loop (.seq (.seq (.reg [⟨(some 15), none, .q (.mov (.t 9))⟩,
 ⟨(some 16), none, .q (.mov (.t 10))⟩,
 ⟨(some 17), none, .q (.bin .lss (.t 15) (.t 16))⟩])
 (.cond (.t 17) .skip
 (.exit 0)))
 (.block 1 (.seq (.reg [⟨(some 18), none, .q (.mov (.t 9))⟩,
 ⟨(some 19), none, .q (.mov (.t 10))⟩,
 ⟨(some 20), none, .q (.bin .add (.t 18) (.t 19))⟩,
 ⟨(some 21), none, .q (.cvi .u64 (.t 20))⟩,
 ⟨(some 22), none, .q (.bin .shr (.t 21) (.c (.i .u64 1)))⟩,
 ⟨(some 23), none, .q (.cvi .i64 (.t 22))⟩,
 ⟨(some 11), none, .q (.mov (.t 23))⟩])
 (.seq (.reg [⟨(some 24), none, .q (.mov (.t 2))⟩,
 ⟨(some 25), none, .q (.mov (.t 0))⟩,
 ⟨(some 26), none, .q (.mov (.t 11))⟩,
 ⟨(some 27), none, .q (.ia 3 (.t 25) (.t 26))⟩,
 ⟨(some 28), none, .q (.ldn 3 (.t 27))⟩,
 ⟨(some 29), none, .q (.mov (.t 1))⟩,
 ⟨(some 30), none, .call (.t 24) [(.t 28), (.t 29)]⟩,
 ⟨(some 31), none, .q (.bin .lss (.t 30) (.c (.i .i64 0)))⟩])
 (.cond (.t 31) .dead
 (.reg [⟨(some 34), none, .q (.mov (.t 11))⟩,
 ⟨(some 10), none, .q (.mov (.t 34))⟩]))))))))
 (.seq (.reg [⟨(some 35), none, .q (.mov (.t 9))⟩,
 ⟨(some 36), none, .q (.mov (.t 9))⟩,
 ⟨(some 37), none, .q (.mov (.t 8))⟩,
 ⟨(some 38), none, .q (.bin .lss (.t 36) (.t 37))⟩,
 ⟨(some 39), none, .q (.mov (.t 38))⟩,
 ⟨(some 40), (some (39, true)), .q (.mov (.t 2))⟩,
 ⟨(some 41), (some (39, true)), .q (.mov (.t 0))⟩,
 ⟨(some 42), (some (39, true)), .q (.mov (.t 9))⟩,
 ⟨(some 43), (some (39, true)), .q (.ia 3 (.t 41) (.t 42))⟩,
 ⟨(some 44), (some (39, true)), .q (.ldn 3 (.t 43))⟩,
 ⟨(some 45), (some (39, true)), .q (.mov (.t 1))⟩,
 ⟨(some 46), (some (39, true)), .call (.t 40) [(.t 44), (.t 45)]⟩,
 ⟨(some 47), (some (39, true)), .q (.bni .eql (.t 46) (.c (.i .i64 0)))⟩,
 ⟨(some 48), none, .q (.pick (.t 39) (.t 47) (.c (.b false)))⟩,
 ⟨(some 6), none, .q (.mov (.t 35))⟩,
 ⟨(some 7), none, .q (.mov (.t 48))⟩])
 .ret)))))⟩
def f303 : FnC := ⟨9, [.tmp 4],
 (.seq (.reg [⟨(some 2), none, .a (.box (.t 0))⟩,
 ⟨(some 4), none, .q (.mov (.c (.i .i64 0)))⟩])
 (.seq (.reg [⟨(some 5), none, .q (.fa 0 (.t 2))⟩,
 ⟨(some 6), none, .q (.ld1 (.t 5))⟩,
 ⟨(some 7), none, .q (.mov (.t 1))⟩,
 ⟨(some 8), none, .call (.c (.fn 196 [])) [(.t 6), (.t 7)]⟩,
 ⟨(some 4), none, .q (.mov (.t 8))⟩])
 .ret))⟩
def f304 : FnC := ⟨31, [],
 (.seq (.reg [⟨(some 4), none, .q (.mov (.c (.i .i64 0)))⟩])
 (.block 0 (.loop (.seq (.seq (.reg [⟨(some 6), none, .q (.mov (.t 4))⟩,
 ⟨(some 7), none, .q (.ld1 (.t 1))⟩,
 ⟨(some 8), none, .q (.lenL (.t 7))⟩,
 ⟨(some 9), none, .q (.bin .lss (.t 6) (.t 8))⟩])
 (.cond (.t 9) .skip
 (.exit 0)))
 (.seq (.block 1 (.seq (.dreg [⟨0, ⟨(some 13), none, .q (.ld1 (.t 2))⟩, [2], none, [], []⟩,
 ⟨1, ⟨(some 14), none, .q (.ld1 (.t 1))⟩, [1], none, [], []⟩,
 ⟨2, ⟨(some 15), none, .q (.mov (.t 4))⟩, [4], none, [], []⟩,
 ⟨3, ⟨(some 16), none, .q (.sl 1 (.t 14) (some (.t 15)) none none)⟩, [14, 15], none, [], [1, 2]⟩,
 ⟨4, ⟨(some 17), none, .q (.lenL (.t 16))⟩, [16], none, [], [3, 1, 2]⟩,
 ⟨5, ⟨(some 18), none, .q (.mn (.t 13) [(.t 17)])⟩, [13, 17], none, [], [0, 4, 3, 1, 2]⟩,
 ⟨6, ⟨(some 5), none, .q (.mov (.t 18))⟩, [18], none, [], [5, 0, 1, 2, 3, 4]⟩])
 (.seq (.reg [⟨(some 19), none, .q (.mov (.t 0))⟩,
 ⟨(some 20), none, .q (.ld1 (.t 1))⟩,
 ⟨(some 21), none, .q (.mov (.t 4))⟩,
 ⟨(some 22), none, .q (.mov (.t 4))⟩,
 ⟨(some 23), none, .q (.mov (.t 5))⟩,
 ⟨(some 24), none, .q (.bin .add (.t 22) (.t 23))⟩,
 ⟨(some 25), none, .q (.mov (.t 4))⟩,
 ⟨(some 26), none, .q (.mov (.t 5))⟩,
 ⟨(some 27), none, .q (.bin .add (.t 25) (.t 26))⟩,
 ⟨(some 28), none, .q (.sl 1 (.t 20) (some (.t 21)) (some (.t 24)) (some (.t 27)))⟩,
 ⟨(some 29), none, .call (.t 19) [(.t 28)]⟩,
 ⟨(some 30), none, .q (.un .not (.t 29))⟩])
 (.cond (.t 30) .dead
 .skip))))
 (.reg [⟨(some 10), none, .q (.mov (.t 4))⟩,
 ⟨(some 11), none, .q (.ld1 (.t 2))⟩,
 ⟨(some 12), none, .q (.bin .add (.t 10) (.t 11))⟩,
 ⟨(some 4), none, .q (.mov (.t 12))⟩]))))))⟩
def f305 : FnC := ⟨15, [.tmp 2],
 (.seq (.reg [⟨(some 2), none, .q (.mov (.c .nilsl))⟩])
 (.seq (.reg [⟨(some 3), none, .q (.mov (.t 0))⟩,
 ⟨(some 4), none, .q (.bin .shr (.t 3) (.c (.i .u64 24)))⟩,
 ⟨(some 5), none, .q (.cvi .u8 (.t 4))⟩,
 ⟨(some 6), none, .q (.mov (.t 0))⟩,
 ⟨(some 7), none, .q (.bin .shr (.t 6) (.c (.i .u64 16)))⟩,
 ⟨(some 8), none, .q (.cvi .u8 (.t 7))⟩,
 ⟨(some 9), none, .q (.mov (.t 0))⟩,
 ⟨(some 10), none, .q (.bin .shr (.t 9) (.c (.i .u64 8)))⟩,
 ⟨(some 11), none, .q (.cvi .u8 (.t 10))⟩,
 ⟨(some 12), none, .q (.mov (.t 0))⟩,
 ⟨(some 13), none, .q (.cvi .u8 (.t 12))⟩,
 ⟨(some 14), none, .a (.mkSl 1 4 [(.i .u8 0), (.i .u8 0), (.i .u8 0), (.i .u8 0)] [(0, 1, (.t 5)), (1, 1, (.t 8)), (2, 1, (.t 11)), (3, 1, (.t 13))])⟩,
 ⟨(some 2), none, .q (.mov (.t 14))⟩])
 .ret))⟩
def f306 : FnC := ⟨17, [.tmp 2],
 (.seq (.reg [⟨(some 2), none, .q (.mov (.c (.i .u32 0)))⟩])
 (.seq (.reg [⟨(some 6), none, .q (.build [(.i .u32 0), (.i .u32 0)] [(0, 1, (.c (.i .u32 1)))])⟩,
 ⟨(some 3), none, .a (.new [(.i .u32 0), (.i .u32 0)])⟩,
 ⟨none, none, .h (.st 2 (.t 3) (.t 6))⟩])
 (.seq (.seq (.reg [⟨(some 7), none, .q (.mov (.t 0))⟩,
 ⟨(some 8), none, .q (.lenL (.t 7))⟩,
 ⟨(some 9), none, .q (.mov (.c (.i .i64 0)))⟩])
 (.block 0 (.loop (.seq (.reg [⟨(some 10), none, .q (.bin .lss (.t 9) (.t 8))⟩])
 (.seq (.cond (.t 10) .skip
 (.exit 0))
 (.seq (.block 1 (.seq (.reg [⟨(some 11), none, .q (.ia 1 (.t 7) (.t 9))⟩,
 ⟨(some 12), none, .q (.ld1 (.t 11))⟩,
 ⟨(some 5), none, .q (.mov (.t 12))⟩])
 (.reg [⟨(some 13), none, .q (.mov (.t 5))⟩,
 ⟨(some 14), none, .call (.c (.fn 332 [])) [(.t 3), (.t 13)]⟩])))
 (.reg [⟨(some 15), none, .q (.bin .add (.t 9) (.c (.i .i64 1)))⟩,
 ⟨(some 9), none, .q (.mov (.t 15))⟩])))))))
 (.seq (.reg [⟨(some 16), none, .call (.c (.fn 333 [])) [(.t 3)]⟩,
 ⟨(some 2), none, .q (.mov (.t 16))⟩])
 .ret))))⟩
def f332 : FnC := ⟨37, [],
 (.seq (.reg [⟨(some 6), none, .q (.mov (.t 1))⟩,
 ⟨(some 7), none, .q (.lenL (.t 6))⟩,
 ⟨(some 8), none, .q (.mov (.c (.i .i64 0)))⟩])
 (.block 0 (.loop (.seq (.reg [⟨(some 9), none, .q (.bin .lss (.t 8) (.t 7))⟩])
 (.seq (.cond (.t 9) .skip
 (.exit 0))
 (.seq (.block 1 (.seq (.reg [⟨(some 10), none, .q (.ia 1 (.t 6) (.t 8))⟩,
 ⟨(some 11), none, .q (.ld1 (.t 10))⟩,
 ⟨(some 5), none, .q (.mov (.t 11))⟩])
 (.seq (.reg [⟨(some 12), none, .q (.mov (.t 0))⟩,
 ⟨(some 13), none, .q (.mov (.t 0))⟩,
 ⟨(some 14), none, .q (.nck (.t 13))⟩,
 ⟨(some 15), none, .q (.fa 0 (.t 14))⟩,
 ⟨(some 16), none, .q (.ld1 (.t 15))⟩,
 ⟨(some 17), none, .q (.mov (.t 5))⟩,
 ⟨(some 18), none, .q (.cvi .u32 (.t 17))⟩,
 ⟨(some 19), none, .q (.bin .add (.t 16) (.t 18))⟩,
 ⟨(some 20), none, .q (.bin .rem (.t 19) (.c (.i .u32 65521)))⟩,
 ⟨(some 21), none, .q (.nck (.t 12))⟩,
 ⟨(some 22), none, .q (.fa 0 (.t 21))⟩,
 ⟨none, none, .h (.st 1 (.t 22) (.t 20))⟩])
 (.dreg [⟨0, ⟨(some 23), none, .q (.mov (.t 0))⟩, [0], none, [], []⟩,
 ⟨1, ⟨(some 24), none, .q (.mov (.t 0))⟩, [0], none, [], []⟩,
 ⟨2, ⟨(some 25), none, .q (.nck (.t 24))⟩, [24], none, [], [1]⟩,
 ⟨3, ⟨(some 26), none, .q (.fa 1 (.t 25))⟩, [25], none, [], [2, 1]⟩,
 ⟨4, ⟨(some 27), none, .q (.ld1 (.t 26))⟩, [26], none, [], [3, 2, 1]⟩,
 ⟨5, ⟨(some 28), none, .q (.mov (.t 0))⟩, [0], none, [], []⟩,
 ⟨6, ⟨(some 29), none, .q (.nck (.t 28))⟩, [28], none, [], [5]⟩,
 ⟨7, ⟨(some 30), none, .q (.fa 0 (.t 29))⟩, [29], none, [], [6, 5]⟩,
 ⟨8, ⟨(some 31), none, .q (.ld1 (.t 30))⟩, [30], none, [], [7, 6, 5]⟩,
 ⟨9, ⟨(some 32), none, .q (.bin .add (.t 27) (.t 31))⟩, [27, 31], none, [], [4, 8, 3, 2, 1, 7, 6, 5]⟩,
 ⟨10, ⟨(some 33), none, .q (.bin .rem (.t 32) (.c (.i .u32 65521)))⟩, [32], none, [], [9, 4, 8, 3, 2, 1, 7, 6, 5]⟩,
 ⟨11, ⟨(some 34), none, .q (.nck (.t 23))⟩, [23], none, [], [0, 1, 2, 3, 4, 5, 6, 7, 8, 9, 10]⟩,
 ⟨12, ⟨(some 35), none, .q (.fa 1 (.t 34))⟩, [34], none, [], [11, 0, 1, 2, 3, 4, 5, 6, 7, 8, 9, 10]⟩,
 ⟨13, ⟨none, none, .h (.st 1 (.t 35) (.t 33))⟩, [35, 33], none, [], [12, 10, 0, 1, 2, 3, 4, 5, 6, 7, 8, 9, 11]⟩]))))
 (.reg [⟨(some 36), none, .q (.bin .add (.t 8) (.c (.i .i64 1)))⟩,
 ⟨(some 8), none, .q (.mov (.t 36))⟩])))))))⟩
def f333 : FnC := ⟨13, [.tmp 2],
 (.seq (.reg [⟨(some 2), none, .q (.mov (.c (.i .u32 0)))⟩])
 (.seq (.dreg [⟨0, ⟨(some 3), none, .q (.mov (.t 0))⟩, [0], none, [], []⟩,
 ⟨1, ⟨(some 4), none, .q (.nck (.t 3))⟩, [3], none, [], [0]⟩,
 ⟨2, ⟨(some 5), none, .q (.fa 1 (.t 4))⟩, [4], none, [], [1, 0]⟩,
 ⟨3, ⟨(some 6), none, .q (.ld1 (.t 5))⟩, [5], none, [], [2, 1, 0]⟩,
 ⟨4, ⟨(some 7), none, .q (.bin .shl (.t 6) (.c (.i .u64 16)))⟩, [6], none, [], [3, 2, 1, 0]⟩,
 ⟨5, ⟨(some 8), none, .q (.mov (.t 0))⟩, [0], none, [], []⟩,
 ⟨6, ⟨(some 9), none, .q (.nck (.t 8))⟩, [8], none, [], [5]⟩,
 ⟨7, ⟨(some 10), none, .q (.fa 0 (.t 9))⟩, [9], none, [], [6, 5]⟩,
 ⟨8, ⟨(some 11), none, .q (.ld1 (.t 10))⟩, [10], none, [], [7, 6, 5]⟩,
 ⟨9, ⟨(some 12), none, .q (.bin .or (.t 7) (.t 11))⟩, [7, 11], none, [], [4, 8, 3, 2, 1, 0, 7, 6, 5]⟩,
 ⟨10, ⟨(some 2), none, .q (.mov (.t 12))⟩, [12], none, [], [9, 0, 1, 2, 3, 4, 5, 6, 7, 8]⟩])
 .ret))⟩
end
end Go.Wg
