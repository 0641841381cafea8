/- The program's functions that a closed run reaches, told for the small machine; printed by a tool of ours; no statement of the set is proved here. -/
import Derived.Test.YtfeddldjjpnjoaaGreatDoorY
namespace Go.Wg
noncomputable section
def f3 : FnC := ⟨78, [.tmp 2],
 (.seq (.reg [⟨(some 1), none, .a (.box (.t 0))⟩,
 ⟨(some 2), none, .q (.mov (.c (.b false)))⟩])
 (.seq (.seq (.reg [⟨(some 10), none, .q (.fa 5 (.t 1))⟩,
 ⟨(some 11), none, .q (.ld1 (.t 10))⟩,
 ⟨(some 12), none, .q (.lenS (.t 11))⟩,
 ⟨(some 13), none, .q (.bin .gtr (.t 12) (.c (.i .i64 2000)))⟩])
 (.cond (.t 13) (.seq (.reg [⟨(some 14), none, .call (.c (.fn 4 [])) []⟩,
 ⟨(some 2), none, .q (.mov (.t 14))⟩])
 .ret)
 .skip))
 (.seq (.reg [⟨(some 3), none, .q (.mov (.c .nilp))⟩])
 (.seq (.reg [⟨(some 16), none, .call (.c (.fn 5 [])) [(.c .nilsl), (.c (.i .i64 2)), (.c .nilsl)]⟩,
 ⟨(some 15), none, .q (.mov (.t 16))⟩,
 ⟨(some 17), none, .q (.ext 0 (.t 15))⟩,
 ⟨(some 18), none, .q (.ext 1 (.t 15))⟩,
 ⟨(some 4), none, .q (.mov (.t 17))⟩,
 ⟨(some 5), none, .q (.mov (.t 18))⟩])
 (.seq (.reg [⟨(some 20), none, .a (.mkSl 1 2 [(.i .u64 0), (.i .u64 0)] [(0, 1, (.c (.i .u64 5))), (1, 1, (.c (.i .u64 5)))])⟩,
 ⟨(some 21), none, .call (.c (.fn 5 [])) [(.t 20), (.c (.i .i64 2)), (.c .nilsl)]⟩,
 ⟨(some 19), none, .q (.mov (.t 21))⟩,
 ⟨(some 22), none, .q (.ext 0 (.t 19))⟩,
 ⟨(some 23), none, .q (.ext 1 (.t 19))⟩,
 ⟨(some 6), none, .q (.mov (.t 22))⟩,
 ⟨(some 7), none, .q (.mov (.t 23))⟩])
 (.seq (.reg [⟨(some 25), none, .q (.mov (.t 3))⟩,
 ⟨(some 26), none, .q (.ldn 6 (.t 1))⟩,
 ⟨(some 27), none, .call (.c (.fn 6 [])) [(.t 25), (.t 26)]⟩,
 ⟨(some 24), none, .q (.mov (.t 27))⟩,
 ⟨(some 28), none, .q (.ext 0 (.t 24))⟩,
 ⟨(some 29), none, .q (.ext 1 (.t 24))⟩,
 ⟨(some 8), none, .q (.mov (.t 28))⟩,
 ⟨(some 9), none, .q (.mov (.t 29))⟩])
 (.seq (.reg [⟨(some 30), none, .q (.mov (.t 4))⟩,
 ⟨(some 31), none, .q (.eqr false .ptr (.t 30) (.c .nilp))⟩,
 ⟨(some 32), none, .q (.mov (.t 31))⟩,
 ⟨(some 33), (some (32, true)), .q (.mov (.t 6))⟩,
 ⟨(some 34), (some (32, true)), .q (.eqr false .ptr (.t 33) (.c .nilp))⟩,
 ⟨(some 35), none, .q (.pick (.t 32) (.t 34) (.c (.b false)))⟩,
 ⟨(some 36), none, .q (.mov (.t 35))⟩,
 ⟨(some 37), (some (36, true)), .q (.mov (.t 5))⟩,
 ⟨(some 38), (some (36, true)), .q (.bni .eql (.t 37) (.c (.i .i64 1)))⟩,
 ⟨(some 39), none, .q (.pick (.t 36) (.t 38) (.c (.b false)))⟩,
 ⟨(some 40), none, .q (.mov (.t 39))⟩,
 ⟨(some 41), (some (40, true)), .q (.mov (.t 7))⟩,
 ⟨(some 42), (some (40, true)), .q (.bni .eql (.t 41) (.c (.i .i64 1)))⟩,
 ⟨(some 43), none, .q (.pick (.t 40) (.t 42) (.c (.b false)))⟩,
 ⟨(some 44), none, .q (.mov (.t 43))⟩,
 ⟨(some 45), (some (44, true)), .q (.mov (.t 8))⟩,
 ⟨(some 46), (some (44, true)), .q (.lenL (.t 45))⟩,
 ⟨(some 47), (some (44, true)), .q (.bni .eql (.t 46) (.c (.i .i64 0)))⟩,
 ⟨(some 48), none, .q (.pick (.t 44) (.t 47) (.c (.b false)))⟩,
 ⟨(some 49), none, .q (.mov (.t 48))⟩,
 ⟨(some 50), (some (49, true)), .q (.mov (.t 9))⟩,
 ⟨(some 51), (some (49, true)), .q (.lenL (.t 50))⟩,
 ⟨(some 52), (some (49, true)), .q (.bni .eql (.t 51) (.c (.i .i64 0)))⟩,
 ⟨(some 53), none, .q (.pick (.t 49) (.t 52) (.c (.b false)))⟩,
 ⟨(some 54), none, .q (.mov (.t 53))⟩,
 ⟨(some 55), (some (54, true)), .q (.mov (.t 3))⟩,
 ⟨(some 56), (some (54, true)), .call (.c (.fn 7 [])) [(.t 55), (.c (.i .i64 0))]⟩,
 ⟨(some 57), (some (54, true)), .q (.eqr false .ptr (.t 56) (.c .nilp))⟩,
 ⟨(some 58), none, .q (.pick (.t 54) (.t 57) (.c (.b false)))⟩,
 ⟨(some 59), none, .q (.mov (.t 58))⟩,
 ⟨(some 60), (some (59, true)), .q (.mov (.t 3))⟩,
 ⟨(some 61), (some (59, true)), .call (.c (.fn 8 [])) [(.t 60), (.c (.i .i64 0))]⟩,
 ⟨(some 62), (some (59, true)), .q (.eqr false .ptr (.t 61) (.c .nilp))⟩,
 ⟨(some 63), none, .q (.pick (.t 59) (.t 62) (.c (.b false)))⟩,
 ⟨(some 64), none, .q (.mov (.t 63))⟩,
 ⟨(some 65), (some (64, true)), .q (.mov (.t 3))⟩,
 ⟨(some 66), (some (64, true)), .call (.c (.fn 9 [])) [(.t 65)]⟩,
 ⟨(some 67), (some (64, true)), .q (.lenL (.t 66))⟩,
 ⟨(some 68), (some (64, true)), .q (.bni .eql (.t 67) (.c (.i .i64 0)))⟩,
 ⟨(some 69), none, .q (.pick (.t 64) (.t 68) (.c (.b false)))⟩,
 ⟨(some 70), none, .q (.mov (.t 69))⟩,
 ⟨(some 71), (some (70, true)), .q (.mov (.t 3))⟩,
 ⟨(some 72), (some (70, true)), .call (.c (.fn 10 [])) [(.t 71)]⟩,
 ⟨(some 73), (some (70, true)), .q (.bni .eql (.t 72) (.c (.i .i64 0)))⟩,
 ⟨(some 74), none, .q (.pick (.t 70) (.t 73) (.c (.b false)))⟩,
 ⟨(some 75), none, .q (.mov (.t 74))⟩,
 ⟨(some 76), (some (75, true)), .call (.c (.fn 4 [])) []⟩,
 ⟨(some 77), none, .q (.pick (.t 75) (.t 76) (.c (.b false)))⟩,
 ⟨(some 2), none, .q (.mov (.t 77))⟩])
 .ret)))))))⟩
def f4 : FnC := ⟨101, [.tmp 0],
 (.seq (.reg [⟨(some 0), none, .q (.mov (.c (.b false)))⟩])
 (.seq (.reg [⟨(some 8), none, .a (.mkSl 1 2 [(.i .u64 0), (.i .u64 0)] [(0, 1, (.c (.i .u64 7))), (1, 1, (.c (.i .u64 9)))])⟩,
 ⟨(some 9), none, .q (.build [(.i .i64 0), (.i .i64 0), (.i .i64 0), (.i .i64 0)] [(0, 1, (.c (.i .i64 0))), (1, 1, (.c (.i .i64 0))), (2, 1, (.c (.i .i64 1))), (3, 1, (.c (.i .i64 1)))])⟩,
 ⟨(some 10), none, .a (.mkSl 4 1 [(.i .i64 0), (.i .i64 0), (.i .i64 0), (.i .i64 0)] [(0, 4, (.t 9))])⟩,
 ⟨(some 11), none, .call (.c (.fn 5 [])) [(.t 8), (.c (.i .i64 2)), (.t 10)]⟩,
 ⟨(some 7), none, .q (.mov (.t 11))⟩,
 ⟨(some 12), none, .q (.ext 0 (.t 7))⟩,
 ⟨(some 13), none, .q (.ext 1 (.t 7))⟩,
 ⟨(some 1), none, .q (.mov (.t 12))⟩,
 ⟨(some 2), none, .q (.mov (.t 13))⟩])
 (.seq (.seq (.reg [⟨(some 14), none, .q (.mov (.t 2))⟩,
 ⟨(some 15), none, .q (.bni .neq (.t 14) (.c (.i .i64 0)))⟩,
 ⟨(some 16), none, .q (.mov (.t 15))⟩,
 ⟨(some 17), (some (16, false)), .q (.mov (.t 1))⟩,
 ⟨(some 18), (some (16, false)), .q (.eqr false .ptr (.t 17) (.c .nilp))⟩,
 ⟨(some 19), none, .q (.pick (.t 16) (.c (.b true)) (.t 18))⟩,
 ⟨(some 20), none, .q (.mov (.t 19))⟩,
 ⟨(some 21), (some (20, false)), .q (.mov (.t 1))⟩,
 ⟨(some 22), (some (20, false)), .call (.c (.fn 7 [])) [(.t 21), (.c (.i .i64 1))]⟩,
 ⟨(some 23), (some (20, false)), .q (.eqr false .ptr (.t 22) (.c .nilp))⟩,
 ⟨(some 24), none, .q (.pick (.t 20) (.c (.b true)) (.t 23))⟩,
 ⟨(some 25), none, .q (.mov (.t 24))⟩,
 ⟨(some 26), (some (25, false)), .q (.mov (.t 1))⟩,
 ⟨(some 27), (some (25, false)), .call (.c (.fn 8 [])) [(.t 26), (.c (.i .i64 0))]⟩,
 ⟨(some 28), (some (25, false)), .q (.eqr false .ptr (.t 27) (.c .nilp))⟩,
 ⟨(some 29), none, .q (.pick (.t 25) (.c (.b true)) (.t 28))⟩,
 ⟨(some 30), none, .q (.mov (.t 29))⟩,
 ⟨(some 31), (some (30, false)), .q (.mov (.t 1))⟩,
 ⟨(some 32), (some (30, false)), .call (.c (.fn 7 [])) [(.t 31), (.c (.i .i64 2))]⟩,
 ⟨(some 33), (some (30, false)), .q (.eqr true .ptr (.t 32) (.c .nilp))⟩,
 ⟨(some 34), none, .q (.pick (.t 30) (.c (.b true)) (.t 33))⟩,
 ⟨(some 35), none, .q (.mov (.t 34))⟩,
 ⟨(some 36), (some (35, false)), .q (.mov (.t 1))⟩,
 ⟨(some 37), (some (35, false)), .call (.c (.fn 8 [])) [(.t 36), (.c (.i .i64 1))]⟩,
 ⟨(some 38), (some (35, false)), .q (.eqr true .ptr (.t 37) (.c .nilp))⟩,
 ⟨(some 39), none, .q (.pick (.t 35) (.c (.b true)) (.t 38))⟩])
 (.cond (.t 39) .dead
 .skip))
 (.seq (.reg [⟨(some 41), none, .q (.mov (.t 1))⟩,
 ⟨(some 42), none, .q (.build [(.i .i64 0), (.i .i64 0), (.i .i64 0), (.i .i64 0), (.i .i64 0), (.s ⟨#[]⟩)] [(0, 1, (.c (.i .i64 1))), (1, 1, (.c (.i .i64 0)))])⟩,
 ⟨(some 43), none, .call (.c (.fn 6 [])) [(.t 41), (.t 42)]⟩,
 ⟨(some 40), none, .q (.mov (.t 43))⟩,
 ⟨(some 44), none, .q (.ext 0 (.t 40))⟩,
 ⟨(some 45), none, .q (.ext 1 (.t 40))⟩,
 ⟨(some 3), none, .q (.mov (.t 44))⟩,
 ⟨(some 4), none, .q (.mov (.t 45))⟩])
 (.seq (.reg [⟨(some 47), none, .q (.mov (.t 1))⟩,
 ⟨(some 48), none, .q (.build [(.i .i64 0), (.i .i64 0), (.i .i64 0), (.i .i64 0), (.i .i64 0), (.s ⟨#[]⟩)] [(0, 1, (.c (.i .i64 4))), (1, 1, (.c (.i .i64 1))), (5, 1, (.c (.s ⟨#[114, 111, 108, 108, 98, 97, 99, 107]⟩)))])⟩,
 ⟨(some 49), none, .call (.c (.fn 6 [])) [(.t 47), (.t 48)]⟩,
 ⟨(some 46), none, .q (.mov (.t 49))⟩,
 ⟨(some 50), none, .q (.ext 0 (.t 46))⟩,
 ⟨(some 51), none, .q (.ext 1 (.t 46))⟩,
 ⟨(some 5), none, .q (.mov (.t 50))⟩,
 ⟨(some 6), none, .q (.mov (.t 51))⟩])
 (.seq (.seq (.reg [⟨(some 52), none, .q (.mov (.t 3))⟩,
 ⟨(some 53), none, .q (.lenL (.t 52))⟩,
 ⟨(some 54), none, .q (.bni .neq (.t 53) (.c (.i .i64 1)))⟩,
 ⟨(some 55), none, .q (.mov (.t 54))⟩,
 ⟨(some 56), (some (55, false)), .q (.mov (.t 3))⟩,
 ⟨(some 57), (some (55, false)), .q (.ia 2 (.t 56) (.c (.i .i64 0)))⟩,
 ⟨(some 58), (some (55, false)), .q (.fa 0 (.t 57))⟩,
 ⟨(some 59), (some (55, false)), .q (.ld1 (.t 58))⟩,
 ⟨(some 60), (some (55, false)), .q (.bni .neq (.t 59) (.c (.i .i64 1)))⟩,
 ⟨(some 61), none, .q (.pick (.t 55) (.c (.b true)) (.t 60))⟩,
 ⟨(some 62), none, .q (.mov (.t 61))⟩,
 ⟨(some 63), (some (62, false)), .q (.mov (.t 6))⟩,
 ⟨(some 64), (some (62, false)), .a (.mkSl 1 1 [(.s ⟨#[]⟩)] [(0, 1, (.c (.s ⟨#[111, 107]⟩)))])⟩,
 ⟨(some 65), (some (62, false)), .call (.c (.fn 11 [])) [(.t 63), (.t 64)]⟩,
 ⟨(some 66), (some (62, false)), .q (.un .not (.t 65))⟩,
 ⟨(some 67), none, .q (.pick (.t 62) (.c (.b true)) (.t 66))⟩,
 ⟨(some 68), none, .q (.mov (.t 67))⟩,
 ⟨(some 69), (some (68, false)), .q (.mov (.t 1))⟩,
 ⟨(some 70), (some (68, false)), .call (.c (.fn 8 [])) [(.t 69), (.c (.i .i64 0))]⟩,
 ⟨(some 71), (some (68, false)), .call (.c (.fn 12 [])) [(.t 70)]⟩,
 ⟨(some 72), (some (68, false)), .q (.bni .neq (.t 71) (.c (.i .i64 1)))⟩,
 ⟨(some 73), none, .q (.pick (.t 68) (.c (.b true)) (.t 72))⟩])
 (.cond (.t 73) .dead
 .skip))
 (.seq (.reg [⟨(some 74), none, .q (.mov (.t 1))⟩,
 ⟨(some 75), none, .q (.build [(.i .i64 0), (.i .i64 0), (.i .i64 0), (.i .i64 0), (.i .i64 0), (.s ⟨#[]⟩)] [(0, 1, (.c (.i .i64 2))), (3, 1, (.c (.i .i64 0)))])⟩,
 ⟨(some 76), none, .call (.c (.fn 6 [])) [(.t 74), (.t 75)]⟩])
 (.seq (.reg [⟨(some 77), none, .q (.mov (.t 1))⟩,
 ⟨(some 78), none, .call (.c (.fn 8 [])) [(.t 77), (.c (.i .i64 0))]⟩,
 ⟨(some 79), none, .call (.c (.fn 12 [])) [(.t 78)]⟩,
 ⟨(some 80), none, .q (.bni .eql (.t 79) (.c (.i .i64 1)))⟩,
 ⟨(some 81), none, .q (.mov (.t 80))⟩,
 ⟨(some 82), (some (81, true)), .q (.mov (.t 1))⟩,
 ⟨(some 83), (some (81, true)), .call (.c (.fn 7 [])) [(.t 82), (.c (.i .i64 1))]⟩,
 ⟨(some 84), (some (81, true)), .call (.c (.fn 13 [])) [(.t 83)]⟩,
 ⟨(some 85), (some (81, true)), .q (.eqr true .ptr (.t 84) (.c .nilp))⟩,
 ⟨(some 86), none, .q (.pick (.t 81) (.t 85) (.c (.b false)))⟩,
 ⟨(some 87), none, .q (.mov (.t 86))⟩,
 ⟨(some 88), (some (87, true)), .q (.mov (.t 1))⟩,
 ⟨(some 89), (some (87, true)), .call (.c (.fn 7 [])) [(.t 88), (.c (.i .i64 1))]⟩,
 ⟨(some 90), (some (87, true)), .call (.c (.fn 13 [])) [(.t 89)]⟩,
 ⟨(some 91), (some (87, true)), .call (.c (.fn 14 [])) [(.t 90), (.c (.i .i64 1))]⟩,
 ⟨(some 92), (some (87, true)), .q (.fld 9 none (.t 91))⟩,
 ⟨(some 93), (some (87, true)), .q (.bni .eql (.t 92) (.c (.i .i64 2)))⟩,
 ⟨(some 94), none, .q (.pick (.t 87) (.t 93) (.c (.b false)))⟩,
 ⟨(some 95), none, .q (.mov (.t 94))⟩,
 ⟨(some 96), (some (95, true)), .q (.mov (.t 1))⟩,
 ⟨(some 97), (some (95, true)), .call (.c (.fn 9 [])) [(.t 96)]⟩,
 ⟨(some 98), (some (95, true)), .q (.lenL (.t 97))⟩,
 ⟨(some 99), (some (95, true)), .q (.bni .eql (.t 98) (.c (.i .i64 1)))⟩,
 ⟨(some 100), none, .q (.pick (.t 95) (.t 99) (.c (.b false)))⟩,
 ⟨(some 0), none, .q (.mov (.t 100))⟩])
 .ret))))))))⟩
def f5 : FnC := ⟨98, [.tmp 6, .tmp 7],
 (.seq (.reg [⟨(some 6), none, .q (.mov (.c .nilp))⟩,
 ⟨(some 7), none, .q (.mov (.c (.i .i64 0)))⟩])
 (.seq (.seq (.reg [⟨(some 16), none, .q (.mov (.t 0))⟩,
 ⟨(some 17), none, .q (.lenL (.t 16))⟩,
 ⟨(some 18), none, .q (.bin .lss (.t 17) (.c (.i .i64 1)))⟩,
 ⟨(some 19), none, .q (.mov (.t 18))⟩,
 ⟨(some 20), (some (19, false)), .q (.mov (.t 0))⟩,
 ⟨(some 21), (some (19, false)), .q (.lenL (.t 20))⟩,
 ⟨(some 22), (some (19, false)), .q (.bin .gtr (.t 21) (.c (.i .i64 16)))⟩,
 ⟨(some 23), none, .q (.pick (.t 19) (.c (.b true)) (.t 22))⟩])
 (.cond (.t 23) (.seq (.reg [⟨(some 6), none, .q (.mov (.c .nilp))⟩,
 ⟨(some 7), none, .q (.mov (.c (.i .i64 1)))⟩])
 .ret)
 .skip))
 (.seq (.seq (.reg [⟨(some 24), none, .q (.mov (.t 0))⟩,
 ⟨(some 25), none, .q (.lenL (.t 24))⟩,
 ⟨(some 26), none, .q (.mov (.c (.i .i64 0)))⟩])
 (.block 0 (.loop (.seq (.reg [⟨(some 27), none, .q (.bin .lss (.t 26) (.t 25))⟩])
 (.seq (.cond (.t 27) .skip
 (.exit 0))
 (.seq (.block 1 (.seq (.reg [⟨(some 28), none, .q (.mov (.t 26))⟩,
 ⟨(some 29), none, .q (.ia 1 (.t 24) (.t 26))⟩,
 ⟨(some 30), none, .q (.ld1 (.t 29))⟩,
 ⟨(some 8), none, .q (.mov (.t 28))⟩,
 ⟨(some 9), none, .q (.mov (.t 30))⟩])
 (.seq (.reg [⟨(some 31), none, .q (.mov (.t 0))⟩,
 ⟨(some 32), none, .q (.mov (.t 8))⟩,
 ⟨(some 33), none, .q (.sl 1 (.t 31) none (some (.t 32)) none)⟩,
 ⟨(some 34), none, .q (.mov (.t 9))⟩,
 ⟨(some 35), none, .call (.c (.fn 15 [])) [(.t 33), (.t 34)]⟩])
 (.cond (.t 35) (.seq (.reg [⟨(some 6), none, .q (.mov (.c .nilp))⟩,
 ⟨(some 7), none, .q (.mov (.c (.i .i64 1)))⟩])
 .ret)
 .skip))))
 (.reg [⟨(some 36), none, .q (.bin .add (.t 26) (.c (.i .i64 1)))⟩,
 ⟨(some 26), none, .q (.mov (.t 36))⟩])))))))
 (.seq (.reg [⟨(some 37), none, .q (.mov (.t 2))⟩,
 ⟨(some 38), none, .call (.c (.fn 16 [])) [(.t 37)]⟩,
 ⟨(some 39), none, .q (.build [.nilsl, .nilsl, .nilsl] [(1, 1, (.t 38))])⟩,
 ⟨(some 40), none, .a (.box (.t 39))⟩,
 ⟨(some 10), none, .q (.mov (.t 40))⟩])
 (.seq (.seq (.reg [⟨(some 41), none, .q (.mov (.t 0))⟩,
 ⟨(some 42), none, .q (.lenL (.t 41))⟩,
 ⟨(some 43), none, .q (.mov (.c (.i .i64 0)))⟩])
 (.block 2 (.loop (.seq (.reg [⟨(some 44), none, .q (.bin .lss (.t 43) (.t 42))⟩])
 (.seq (.cond (.t 44) .skip
 (.exit 2))
 (.seq (.block 3 (.seq (.reg [⟨(some 45), none, .q (.ia 1 (.t 41) (.t 43))⟩,
 ⟨(some 46), none, .q (.ld1 (.t 45))⟩,
 ⟨(some 12), none, .q (.mov (.t 46))⟩])
 (.seq (.reg [⟨(some 48), none, .call (.c (.fn 17 [])) [(.c (.i .i64 64))]⟩,
 ⟨(some 47), none, .q (.mov (.t 48))⟩,
 ⟨(some 49), none, .q (.ext 0 (.t 47))⟩,
 ⟨(some 50), none, .q (.ext 1 (.t 47))⟩,
 ⟨(some 13), none, .q (.mov (.t 49))⟩,
 ⟨(some 14), none, .q (.mov (.t 50))⟩])
 (.seq (.seq (.reg [⟨(some 51), none, .q (.mov (.t 14))⟩,
 ⟨(some 52), none, .q (.bni .neq (.t 51) (.c (.i .i64 0)))⟩])
 (.cond (.t 52) .dead
 .skip))
 (.seq (.reg [⟨(some 55), none, .q (.mov (.t 13))⟩,
 ⟨(some 56), none, .q (.mov (.t 12))⟩,
 ⟨(some 57), none, .q (.mov (.t 1))⟩,
 ⟨(some 58), none, .call (.c (.fn 18 [])) [(.t 55), (.t 56), (.t 57)]⟩,
 ⟨(some 54), none, .q (.mov (.t 58))⟩,
 ⟨(some 59), none, .q (.ext 0 (.t 54))⟩,
 ⟨(some 60), none, .q (.ext 1 (.t 54))⟩,
 ⟨(some 15), none, .q (.mov (.t 59))⟩,
 ⟨(some 14), none, .q (.mov (.t 60))⟩])
 (.seq (.seq (.reg [⟨(some 61), none, .q (.mov (.t 14))⟩,
 ⟨(some 62), none, .q (.bni .neq (.t 61) (.c (.i .i64 0)))⟩])
 (.cond (.t 62) .dead
 .skip))
 (.reg [⟨(some 64), none, .q (.mov (.t 10))⟩,
 ⟨(some 65), none, .q (.mov (.t 10))⟩,
 ⟨(some 66), none, .q (.nck (.t 65))⟩,
 ⟨(some 67), none, .q (.fa 0 (.t 66))⟩,
 ⟨(some 68), none, .q (.ld1 (.t 67))⟩,
 ⟨(some 69), none, .q (.mov (.t 15))⟩,
 ⟨(some 70), none, .a (.mkSl 1 1 [.nilp] [(0, 1, (.t 69))])⟩,
 ⟨(some 71), none, .h (.app 1 8 (.t 68) (.t 70))⟩,
 ⟨(some 72), none, .q (.nck (.t 64))⟩,
 ⟨(some 73), none, .q (.fa 0 (.t 72))⟩,
 ⟨none, none, .h (.st 1 (.t 73) (.t 71))⟩])))))))
 (.reg [⟨(some 74), none, .q (.bin .add (.t 43) (.c (.i .i64 1)))⟩,
 ⟨(some 43), none, .q (.mov (.t 74))⟩])))))))
 (.seq (.seq (.reg [⟨(some 75), none, .q (.mov (.t 0))⟩,
 ⟨(some 76), none, .q (.lenL (.t 75))⟩,
 ⟨(some 77), none, .q (.mov (.t 1))⟩,
 ⟨(some 78), none, .q (.mov (.t 2))⟩,
 ⟨(some 79), none, .call (.c (.fn 19 [])) [(.t 76), (.t 77), (.t 78)]⟩,
 ⟨(some 80), none, .q (.un .not (.t 79))⟩])
 (.cond (.t 80) .dead
 .skip))
 (.seq (.seq (.reg [⟨(some 81), none, .q (.mov (.t 2))⟩,
 ⟨(some 82), none, .q (.lenL (.t 81))⟩,
 ⟨(some 83), none, .q (.mov (.c (.i .i64 0)))⟩])
 (.block 4 (.loop (.seq (.reg [⟨(some 84), none, .q (.bin .lss (.t 83) (.t 82))⟩])
 (.seq (.cond (.t 84) .skip
 (.exit 4))
 (.seq (.block 5 (.reg [⟨(some 85), none, .q (.mov (.t 10))⟩,
 ⟨(some 86), none, .q (.mov (.t 10))⟩,
 ⟨(some 87), none, .q (.nck (.t 86))⟩,
 ⟨(some 88), none, .q (.fa 2 (.t 87))⟩,
 ⟨(some 89), none, .q (.ld1 (.t 88))⟩,
 ⟨(some 90), none, .q (.build [.nilsl, .nilsl] [])⟩,
 ⟨(some 91), none, .a (.box (.t 90))⟩,
 ⟨(some 92), none, .a (.mkSl 1 1 [.nilp] [(0, 1, (.t 91))])⟩,
 ⟨(some 93), none, .h (.app 1 8 (.t 89) (.t 92))⟩,
 ⟨(some 94), none, .q (.nck (.t 85))⟩,
 ⟨(some 95), none, .q (.fa 2 (.t 94))⟩,
 ⟨none, none, .h (.st 1 (.t 95) (.t 93))⟩]))
 (.reg [⟨(some 96), none, .q (.bin .add (.t 83) (.c (.i .i64 1)))⟩,
 ⟨(some 83), none, .q (.mov (.t 96))⟩])))))))
 (.seq (.reg [⟨(some 97), none, .q (.mov (.t 10))⟩,
 ⟨(some 6), none, .q (.mov (.t 97))⟩,
 ⟨(some 7), none, .q (.mov (.c (.i .i64 0)))⟩])
 .ret))))))))⟩
def f6 : FnC := ⟨75, [.tmp 4, .tmp 5],
 (.seq (.reg [⟨(some 3), none, .a (.box (.t 1))⟩,
 ⟨(some 4), none, .q (.mov (.c .nilsl))⟩,
 ⟨(some 5), none, .q (.mov (.c .nilsl))⟩])
 (.seq (.seq (.reg [⟨(some 9), none, .q (.fa 0 (.t 3))⟩,
 ⟨(some 10), none, .q (.ld1 (.t 9))⟩])
 (.block 0 (.seq (.reg [⟨(some 12), none, .q (.bni .eql (.t 10) (.c (.i .i64 2)))⟩,
 ⟨(some 11), none, .q (.mov (.t 12))⟩])
 (.cond (.t 11) (.seq (.reg [⟨(some 14), none, .q (.mov (.t 0))⟩,
 ⟨(some 15), none, .q (.fa 3 (.t 3))⟩,
 ⟨(some 16), none, .q (.ld1 (.t 15))⟩,
 ⟨(some 17), none, .q (.fa 4 (.t 3))⟩,
 ⟨(some 18), none, .q (.ld1 (.t 17))⟩,
 ⟨(some 19), none, .call (.c (.fn 20 [])) [(.t 14), (.t 16), (.t 18)]⟩,
 ⟨(some 13), none, .q (.mov (.t 19))⟩,
 ⟨(some 20), none, .q (.ext 0 (.t 13))⟩,
 ⟨(some 21), none, .q (.ext 1 (.t 13))⟩,
 ⟨(some 6), none, .q (.mov (.t 20))⟩,
 ⟨(some 7), none, .q (.mov (.t 21))⟩])
 (.seq (.reg [⟨(some 22), none, .q (.mov (.t 6))⟩,
 ⟨(some 4), none, .q (.mov (.t 22))⟩,
 ⟨(some 5), none, .q (.mov (.c .nilsl))⟩])
 .ret))
 (.seq (.reg [⟨(some 24), none, .q (.bni .eql (.t 10) (.c (.i .i64 3)))⟩,
 ⟨(some 23), none, .q (.mov (.t 24))⟩])
 (.cond (.t 23) (.seq (.dreg [⟨0, ⟨(some 25), none, .q (.mov (.t 0))⟩, [0], none, [], []⟩,
 ⟨1, ⟨(some 26), none, .q (.fa 3 (.t 3))⟩, [3], none, [], []⟩,
 ⟨2, ⟨(some 27), none, .q (.ld1 (.t 26))⟩, [26], none, [], [1]⟩,
 ⟨4, ⟨(some 29), none, .q (.fa 4 (.t 3))⟩, [3], none, [], []⟩,
 ⟨5, ⟨(some 30), none, .q (.ld1 (.t 29))⟩, [29], none, [], [3]⟩,
 ⟨3, ⟨(some 28), none, .call (.c (.fn 8 [])) [(.t 25), (.t 27)]⟩, [25, 27], none, [1, 0], [0, 2, 1]⟩,
 ⟨6, ⟨(some 31), none, .call (.c (.fn 21 [])) [(.t 28), (.t 30)]⟩, [28, 30], none, [], [5, 4, 0, 2, 1, 3]⟩])
 (.seq (.reg [⟨(some 4), none, .q (.mov (.c .nilsl))⟩,
 ⟨(some 5), none, .q (.mov (.c .nilsl))⟩])
 .ret))
 .skip))))))
 (.seq (.reg [⟨(some 32), none, .q (.mov (.t 0))⟩,
 ⟨(some 33), none, .q (.fa 1 (.t 3))⟩,
 ⟨(some 34), none, .q (.ld1 (.t 33))⟩,
 ⟨(some 35), none, .call (.c (.fn 7 [])) [(.t 32), (.t 34)]⟩,
 ⟨(some 8), none, .q (.mov (.t 35))⟩])
 (.seq (.seq (.reg [⟨(some 36), none, .q (.mov (.t 8))⟩,
 ⟨(some 37), none, .q (.eqr false .ptr (.t 36) (.c .nilp))⟩])
 (.cond (.t 37) (.seq (.reg [⟨(some 4), none, .q (.mov (.c .nilsl))⟩,
 ⟨(some 5), none, .q (.mov (.c .nilsl))⟩])
 .ret)
 .skip))
 (.seq (.seq (.reg [⟨(some 38), none, .q (.fa 0 (.t 3))⟩,
 ⟨(some 39), none, .q (.ld1 (.t 38))⟩])
 (.block 1 (.seq (.reg [⟨(some 41), none, .q (.bni .eql (.t 39) (.c (.i .i64 1)))⟩,
 ⟨(some 40), none, .q (.mov (.t 41))⟩])
 (.cond (.t 40) (.seq (.dreg [⟨0, ⟨(some 42), none, .q (.mov (.t 0))⟩, [0], none, [], []⟩,
 ⟨1, ⟨(some 43), none, .q (.fa 1 (.t 3))⟩, [3], none, [], []⟩,
 ⟨2, ⟨(some 44), none, .q (.ld1 (.t 43))⟩, [43], none, [], [1]⟩,
 ⟨3, ⟨(some 45), none, .q (.mov (.t 8))⟩, [8], none, [], []⟩,
 ⟨4, ⟨(some 46), none, .call (.c (.fn 23 [])) [(.t 45)]⟩, [45], none, [3, 2, 1], [3]⟩,
 ⟨5, ⟨(some 47), none, .call (.c (.fn 22 [])) [(.t 42), (.t 44), (.t 46)]⟩, [42, 44, 46], none, [], [0, 2, 4, 1, 3]⟩,
 ⟨6, ⟨(some 4), none, .q (.mov (.t 47))⟩, [47], none, [], [5, 0, 1, 2, 3, 4]⟩,
 ⟨7, ⟨(some 5), none, .q (.mov (.c .nilsl))⟩, [], none, [], [6, 0, 1, 2, 3, 4, 5]⟩])
 .ret)
 (.seq (.reg [⟨(some 49), none, .q (.bni .eql (.t 39) (.c (.i .i64 4)))⟩,
 ⟨(some 48), none, .q (.mov (.t 49))⟩])
 (.cond (.t 48) (.seq (.reg [⟨(some 50), none, .q (.mov (.t 8))⟩,
 ⟨(some 51), none, .q (.fa 5 (.t 3))⟩,
 ⟨(some 52), none, .q (.ld1 (.t 51))⟩,
 ⟨(some 53), none, .call (.c (.fn 24 [])) [(.t 50), (.t 52)]⟩,
 ⟨(some 4), none, .q (.mov (.c .nilsl))⟩,
 ⟨(some 5), none, .q (.mov (.t 53))⟩])
 .ret)
 (.seq (.reg [⟨(some 55), none, .q (.bni .eql (.t 39) (.c (.i .i64 5)))⟩,
 ⟨(some 54), none, .q (.mov (.t 55))⟩])
 (.cond (.t 54) (.seq (.dreg [⟨0, ⟨(some 56), none, .q (.mov (.t 0))⟩, [0], none, [], []⟩,
 ⟨1, ⟨(some 57), none, .q (.fa 1 (.t 3))⟩, [3], none, [], []⟩,
 ⟨2, ⟨(some 58), none, .q (.ld1 (.t 57))⟩, [57], none, [], [1]⟩,
 ⟨3, ⟨(some 59), none, .q (.mov (.t 8))⟩, [8], none, [], []⟩,
 ⟨4, ⟨(some 60), none, .q (.fa 2 (.t 3))⟩, [3], none, [], []⟩,
 ⟨5, ⟨(some 61), none, .q (.ld1 (.t 60))⟩, [60], none, [], [4]⟩,
 ⟨6, ⟨(some 62), none, .q (.fa 5 (.t 3))⟩, [3], none, [], []⟩,
 ⟨7, ⟨(some 63), none, .q (.ld1 (.t 62))⟩, [62], none, [], [6]⟩,
 ⟨8, ⟨(some 64), none, .a (.sb (.t 63))⟩, [63], none, [], [7, 6]⟩,
 ⟨9, ⟨(some 65), none, .call (.c (.fn 25 [])) [(.t 59), (.t 61), (.t 64)]⟩, [59, 61, 64], none, [8, 7, 6], [3, 5, 8, 4, 7, 6]⟩,
 ⟨10, ⟨(some 66), none, .call (.c (.fn 22 [])) [(.t 56), (.t 58), (.t 65)]⟩, [56, 58, 65], none, [], [0, 2, 9, 1, 3, 5, 8, 4, 7, 6]⟩,
 ⟨11, ⟨(some 4), none, .q (.mov (.t 66))⟩, [66], none, [], [10, 0, 1, 2, 3, 4, 5, 6, 7, 8, 9]⟩,
 ⟨12, ⟨(some 5), none, .q (.mov (.c .nilsl))⟩, [], none, [], [11, 0, 1, 2, 3, 4, 5, 6, 7, 8, 9, 10]⟩])
 .ret)
 (.seq (.reg [⟨(some 68), none, .q (.bni .eql (.t 39) (.c (.i .i64 6)))⟩,
 ⟨(some 67), none, .q (.mov (.t 68))⟩])
 (.cond (.t 67) (.reg [⟨(some 69), none, .q (.mov (.t 0))⟩,
 ⟨(some 70), none, .q (.fa 1 (.t 3))⟩,
 ⟨(some 71), none, .q (.ld1 (.t 70))⟩,
 ⟨(some 72), none, .q (.fa 5 (.t 3))⟩,
 ⟨(some 73), none, .q (.ld1 (.t 72))⟩,
 ⟨(some 74), none, .call (.c (.fn 26 [])) [(.t 69), (.t 71), (.t 73)]⟩])
 .skip))))))))))
 (.seq (.reg [⟨(some 4), none, .q (.mov (.c .nilsl))⟩,
 ⟨(some 5), none, .q (.mov (.c .nilsl))⟩])
 .ret))))))⟩
def f7 : FnC := ⟨27, [.tmp 4],
 (.seq (.reg [⟨(some 4), none, .q (.mov (.c .nilp))⟩])
 (.seq (.seq (.reg [⟨(some 5), none, .q (.mov (.t 0))⟩,
 ⟨(some 6), none, .q (.eqr false .ptr (.t 5) (.c .nilp))⟩,
 ⟨(some 7), none, .q (.mov (.t 6))⟩,
 ⟨(some 8), (some (7, false)), .q (.mov (.t 1))⟩,
 ⟨(some 9), (some (7, false)), .q (.bin .lss (.t 8) (.c (.i .i64 0)))⟩,
 ⟨(some 10), none, .q (.pick (.t 7) (.c (.b true)) (.t 9))⟩,
 ⟨(some 11), none, .q (.mov (.t 10))⟩,
 ⟨(some 12), (some (11, false)), .q (.mov (.t 1))⟩,
 ⟨(some 13), (some (11, false)), .q (.mov (.t 0))⟩,
 ⟨(some 14), (some (11, false)), .q (.nck (.t 13))⟩,
 ⟨(some 15), (some (11, false)), .q (.fa 0 (.t 14))⟩,
 ⟨(some 16), (some (11, false)), .q (.ld1 (.t 15))⟩,
 ⟨(some 17), (some (11, false)), .q (.lenL (.t 16))⟩,
 ⟨(some 18), (some (11, false)), .q (.bin .geq (.t 12) (.t 17))⟩,
 ⟨(some 19), none, .q (.pick (.t 11) (.c (.b true)) (.t 18))⟩])
 (.cond (.t 19) (.seq (.reg [⟨(some 4), none, .q (.mov (.c .nilp))⟩])
 .ret)
 .skip))
 (.seq (.reg [⟨(some 20), none, .q (.mov (.t 0))⟩,
 ⟨(some 21), none, .q (.nck (.t 20))⟩,
 ⟨(some 22), none, .q (.fa 0 (.t 21))⟩,
 ⟨(some 23), none, .q (.ld1 (.t 22))⟩,
 ⟨(some 24), none, .q (.mov (.t 1))⟩,
 ⟨(some 25), none, .q (.ia 1 (.t 23) (.t 24))⟩,
 ⟨(some 26), none, .q (.ld1 (.t 25))⟩,
 ⟨(some 4), none, .q (.mov (.t 26))⟩])
 .ret)))⟩
def f8 : FnC := ⟨27, [.tmp 4],
 (.seq (.reg [⟨(some 4), none, .q (.mov (.c .nilp))⟩])
 (.seq (.seq (.reg [⟨(some 5), none, .q (.mov (.t 0))⟩,
 ⟨(some 6), none, .q (.eqr false .ptr (.t 5) (.c .nilp))⟩,
 ⟨(some 7), none, .q (.mov (.t 6))⟩,
 ⟨(some 8), (some (7, false)), .q (.mov (.t 1))⟩,
 ⟨(some 9), (some (7, false)), .q (.bin .lss (.t 8) (.c (.i .i64 0)))⟩,
 ⟨(some 10), none, .q (.pick (.t 7) (.c (.b true)) (.t 9))⟩,
 ⟨(some 11), none, .q (.mov (.t 10))⟩,
 ⟨(some 12), (some (11, false)), .q (.mov (.t 1))⟩,
 ⟨(some 13), (some (11, false)), .q (.mov (.t 0))⟩,
 ⟨(some 14), (some (11, false)), .q (.nck (.t 13))⟩,
 ⟨(some 15), (some (11, false)), .q (.fa 2 (.t 14))⟩,
 ⟨(some 16), (some (11, false)), .q (.ld1 (.t 15))⟩,
 ⟨(some 17), (some (11, false)), .q (.lenL (.t 16))⟩,
 ⟨(some 18), (some (11, false)), .q (.bin .geq (.t 12) (.t 17))⟩,
 ⟨(some 19), none, .q (.pick (.t 11) (.c (.b true)) (.t 18))⟩])
 (.cond (.t 19) (.seq (.reg [⟨(some 4), none, .q (.mov (.c .nilp))⟩])
 .ret)
 .skip))
 (.seq (.reg [⟨(some 20), none, .q (.mov (.t 0))⟩,
 ⟨(some 21), none, .q (.nck (.t 20))⟩,
 ⟨(some 22), none, .q (.fa 2 (.t 21))⟩,
 ⟨(some 23), none, .q (.ld1 (.t 22))⟩,
 ⟨(some 24), none, .q (.mov (.t 1))⟩,
 ⟨(some 25), none, .q (.ia 1 (.t 23) (.t 24))⟩,
 ⟨(some 26), none, .q (.ld1 (.t 25))⟩,
 ⟨(some 4), none, .q (.mov (.t 26))⟩])
 .ret)))⟩
def f9 : FnC := ⟨10, [.tmp 2],
 (.seq (.reg [⟨(some 2), none, .q (.mov (.c .nilsl))⟩])
 (.seq (.seq (.reg [⟨(some 3), none, .q (.mov (.t 0))⟩,
 ⟨(some 4), none, .q (.eqr false .ptr (.t 3) (.c .nilp))⟩])
 (.cond (.t 4) (.seq (.reg [⟨(some 2), none, .q (.mov (.c .nilsl))⟩])
 .ret)
 .skip))
 (.seq (.reg [⟨(some 5), none, .q (.mov (.t 0))⟩,
 ⟨(some 6), none, .q (.nck (.t 5))⟩,
 ⟨(some 7), none, .q (.fa 1 (.t 6))⟩,
 ⟨(some 8), none, .q (.ld1 (.t 7))⟩,
 ⟨(some 9), none, .call (.c (.fn 16 [])) [(.t 8)]⟩,
 ⟨(some 2), none, .q (.mov (.t 9))⟩])
 .ret)))⟩
def f10 : FnC := ⟨68, [.tmp 2],
 (.seq (.reg [⟨(some 2), none, .q (.mov (.c (.i .i64 0)))⟩])
 (.seq (.seq (.reg [⟨(some 10), none, .q (.mov (.t 0))⟩,
 ⟨(some 11), none, .q (.eqr false .ptr (.t 10) (.c .nilp))⟩])
 (.cond (.t 11) (.seq (.reg [⟨(some 2), none, .q (.mov (.c (.i .i64 0)))⟩])
 .ret)
 .dead))
 .dead))⟩
def f11 : FnC := ⟨26, [.tmp 4],
 (.seq (.reg [⟨(some 4), none, .q (.mov (.c (.b false)))⟩])
 (.seq (.seq (.reg [⟨(some 6), none, .q (.mov (.t 0))⟩,
 ⟨(some 7), none, .q (.lenL (.t 6))⟩,
 ⟨(some 8), none, .q (.mov (.t 1))⟩,
 ⟨(some 9), none, .q (.lenL (.t 8))⟩,
 ⟨(some 10), none, .q (.bni .neq (.t 7) (.t 9))⟩])
 (.cond (.t 10) .dead
 .skip))
 (.seq (.seq (.reg [⟨(some 5), none, .q (.mov (.c (.i .i64 0)))⟩])
 (.block 0 (.loop (.seq (.seq (.reg [⟨(some 11), none, .q (.mov (.t 5))⟩,
 ⟨(some 12), none, .q (.mov (.t 0))⟩,
 ⟨(some 13), none, .q (.lenL (.t 12))⟩,
 ⟨(some 14), none, .q (.bin .lss (.t 11) (.t 13))⟩])
 (.cond (.t 14) .skip
 (.exit 0)))
 (.seq (.block 1 (.seq (.dreg [⟨0, ⟨(some 17), none, .q (.mov (.t 0))⟩, [0], none, [], []⟩,
 ⟨1, ⟨(some 18), none, .q (.mov (.t 5))⟩, [5], none, [], []⟩,
 ⟨2, ⟨(some 19), none, .q (.ia 1 (.t 17) (.t 18))⟩, [17, 18], none, [], [0, 1]⟩,
 ⟨3, ⟨(some 20), none, .q (.ld1 (.t 19))⟩, [19], none, [], [2, 0, 1]⟩,
 ⟨4, ⟨(some 21), none, .q (.mov (.t 1))⟩, [1], none, [], []⟩,
 ⟨5, ⟨(some 22), none, .q (.mov (.t 5))⟩, [5], none, [], []⟩,
 ⟨6, ⟨(some 23), none, .q (.ia 1 (.t 21) (.t 22))⟩, [21, 22], none, [], [4, 5]⟩,
 ⟨7, ⟨(some 24), none, .q (.ld1 (.t 23))⟩, [23], none, [], [6, 4, 5]⟩,
 ⟨8, ⟨(some 25), none, .q (.bni .neq (.t 20) (.t 24))⟩, [20, 24], none, [], [3, 7, 2, 0, 1, 6, 4, 5]⟩])
 (.cond (.t 25) .dead
 .skip)))
 (.reg [⟨(some 15), none, .q (.mov (.t 5))⟩,
 ⟨(some 16), none, .q (.bin .add (.t 15) (.c (.i .i64 1)))⟩,
 ⟨(some 5), none, .q (.mov (.t 16))⟩]))))))
 (.seq (.reg [⟨(some 4), none, .q (.mov (.c (.b true)))⟩])
 .ret))))⟩
def f12 : FnC := ⟨18, [.tmp 2],
 (.seq (.reg [⟨(some 2), none, .q (.mov (.c (.i .i64 0)))⟩])
 (.seq (.seq (.reg [⟨(some 3), none, .q (.mov (.t 0))⟩,
 ⟨(some 4), none, .q (.eqr false .ptr (.t 3) (.c .nilp))⟩])
 (.cond (.t 4) .dead
 .skip))
 (.seq (.dreg [⟨0, ⟨(some 5), none, .q (.mov (.t 0))⟩, [0], none, [], []⟩,
 ⟨1, ⟨(some 6), none, .q (.nck (.t 5))⟩, [5], none, [], [0]⟩,
 ⟨2, ⟨(some 7), none, .q (.fa 0 (.t 6))⟩, [6], none, [], [1, 0]⟩,
 ⟨3, ⟨(some 8), none, .q (.iaa 2 1 (.t 7) (.c (.i .i64 0)))⟩, [7], none, [], [2, 1, 0]⟩,
 ⟨4, ⟨(some 9), none, .q (.ld1 (.t 8))⟩, [8], none, [], [3, 2, 1, 0]⟩,
 ⟨5, ⟨(some 10), none, .q (.lenL (.t 9))⟩, [9], none, [], [4, 3, 2, 1, 0]⟩,
 ⟨6, ⟨(some 11), none, .q (.mov (.t 0))⟩, [0], none, [], []⟩,
 ⟨7, ⟨(some 12), none, .q (.nck (.t 11))⟩, [11], none, [], [6]⟩,
 ⟨8, ⟨(some 13), none, .q (.fa 0 (.t 12))⟩, [12], none, [], [7, 6]⟩,
 ⟨9, ⟨(some 14), none, .q (.iaa 2 1 (.t 13) (.c (.i .i64 1)))⟩, [13], none, [], [8, 7, 6]⟩,
 ⟨10, ⟨(some 15), none, .q (.ld1 (.t 14))⟩, [14], none, [], [9, 8, 7, 6]⟩,
 ⟨11, ⟨(some 16), none, .q (.lenL (.t 15))⟩, [15], none, [], [10, 9, 8, 7, 6]⟩,
 ⟨12, ⟨(some 17), none, .q (.bin .add (.t 10) (.t 16))⟩, [10, 16], none, [], [5, 11, 4, 3, 2, 1, 0, 10, 9, 8, 7, 6]⟩,
 ⟨13, ⟨(some 2), none, .q (.mov (.t 17))⟩, [17], none, [], [12, 0, 1, 2, 3, 4, 5, 6, 7, 8, 9, 10, 11]⟩])
 .ret)))⟩
def f13 : FnC := ⟨11, [.tmp 2],
 (.seq (.reg [⟨(some 2), none, .q (.mov (.c .nilp))⟩])
 (.seq (.seq (.reg [⟨(some 3), none, .q (.mov (.t 0))⟩,
 ⟨(some 4), none, .call (.c (.fn 28 [])) [(.t 3)]⟩,
 ⟨(some 5), none, .q (.un .not (.t 4))⟩])
 (.cond (.t 5) .dead
 .skip))
 (.seq (.reg [⟨(some 6), none, .q (.mov (.t 0))⟩,
 ⟨(some 7), none, .q (.nck (.t 6))⟩,
 ⟨(some 8), none, .q (.fa 0 (.t 7))⟩,
 ⟨(some 9), none, .q (.fa 2 (.t 8))⟩,
 ⟨(some 10), none, .q (.ld1 (.t 9))⟩,
 ⟨(some 2), none, .q (.mov (.t 10))⟩])
 .ret)))⟩
def f14 : FnC := ⟨28, [.cell (some 13) 4],
 (.seq (.reg [⟨(some 4), none, .a (.new [(.b false), (.i .u32 0), (.b false), (.i .u64 0), (.i .u32 0), (.i .u64 0), (.i .i64 0), (.i .i64 0), (.i .i64 0), (.i .i64 0), (.i .i64 0), (.i .i64 0), (.b false)])⟩])
 (.seq (.seq (.reg [⟨(some 5), none, .q (.mov (.t 0))⟩,
 ⟨(some 6), none, .q (.eqr false .ptr (.t 5) (.c .nilp))⟩,
 ⟨(some 7), none, .q (.mov (.t 6))⟩,
 ⟨(some 8), (some (7, false)), .q (.mov (.t 1))⟩,
 ⟨(some 9), (some (7, false)), .q (.bin .lss (.t 8) (.c (.i .i64 0)))⟩,
 ⟨(some 10), none, .q (.pick (.t 7) (.c (.b true)) (.t 9))⟩,
 ⟨(some 11), none, .q (.mov (.t 10))⟩,
 ⟨(some 12), (some (11, false)), .q (.mov (.t 1))⟩,
 ⟨(some 13), (some (11, false)), .q (.mov (.t 0))⟩,
 ⟨(some 14), (some (11, false)), .q (.nck (.t 13))⟩,
 ⟨(some 15), (some (11, false)), .q (.fa 3 (.t 14))⟩,
 ⟨(some 16), (some (11, false)), .q (.ld1 (.t 15))⟩,
 ⟨(some 17), (some (11, false)), .q (.lenL (.t 16))⟩,
 ⟨(some 18), (some (11, false)), .q (.bin .geq (.t 12) (.t 17))⟩,
 ⟨(some 19), none, .q (.pick (.t 11) (.c (.b true)) (.t 18))⟩])
 (.cond (.t 19) .dead
 .skip))
 (.seq (.reg [⟨(some 21), none, .q (.mov (.t 0))⟩,
 ⟨(some 22), none, .q (.nck (.t 21))⟩,
 ⟨(some 23), none, .q (.fa 3 (.t 22))⟩,
 ⟨(some 24), none, .q (.ld1 (.t 23))⟩,
 ⟨(some 25), none, .q (.mov (.t 1))⟩,
 ⟨(some 26), none, .q (.ia 13 (.t 24) (.t 25))⟩,
 ⟨(some 27), none, .q (.ldn 13 (.t 26))⟩,
 ⟨none, none, .h (.st 13 (.t 4) (.t 27))⟩])
 .ret)))⟩
def f15 : FnC := ⟨9, [.tmp 4],
 (.seq (.reg [⟨(some 4), none, .q (.mov (.c (.b false)))⟩])
 (.seq (.reg [⟨(some 5), none, .q (.mov (.t 0))⟩,
 ⟨(some 6), none, .q (.mov (.t 1))⟩,
 ⟨(some 7), none, .call (.c (.fn 29 [])) [(.t 5), (.t 6)]⟩,
 ⟨(some 8), none, .q (.bin .geq (.t 7) (.c (.i .i64 0)))⟩,
 ⟨(some 4), none, .q (.mov (.t 8))⟩])
 .ret))⟩
def f16 : FnC := ⟨8, [.tmp 2],
 (.seq (.reg [⟨(some 2), none, .q (.mov (.c .nilsl))⟩])
 (.seq (.seq (.reg [⟨(some 3), none, .q (.mov (.t 0))⟩,
 ⟨(some 4), none, .q (.eqr false .sl (.t 3) (.c .nilsl))⟩])
 (.cond (.t 4) .dead
 .skip))
 (.seq (.reg [⟨(some 5), none, .a (.mkSl 4 0 [] [])⟩,
 ⟨(some 6), none, .q (.mov (.t 0))⟩,
 ⟨(some 7), none, .h (.app 4 32 (.t 5) (.t 6))⟩,
 ⟨(some 2), none, .q (.mov (.t 7))⟩])
 .ret)))⟩
def f17 : FnC := ⟨14, [.tmp 2, .tmp 3],
 (.seq (.reg [⟨(some 2), none, .q (.mov (.c .nilp))⟩,
 ⟨(some 3), none, .q (.mov (.c (.i .i64 0)))⟩])
 (.seq (.seq (.reg [⟨(some 4), none, .q (.mov (.t 0))⟩,
 ⟨(some 5), none, .q (.bin .lss (.t 4) (.c (.i .i64 1)))⟩,
 ⟨(some 6), none, .q (.mov (.t 5))⟩,
 ⟨(some 7), (some (6, false)), .q (.mov (.t 0))⟩,
 ⟨(some 8), (some (6, false)), .q (.bin .gtr (.t 7) (.c (.i .i64 4096)))⟩,
 ⟨(some 9), none, .q (.pick (.t 6) (.c (.b true)) (.t 8))⟩])
 (.cond (.t 9) .dead
 .skip))
 (.seq (.reg [⟨(some 10), none, .q (.mov (.t 0))⟩,
 ⟨(some 11), none, .a (.mk 64 64 (List.replicate 64 (.i .u8 0)) (.t 10) (.t 10))⟩,
 ⟨(some 12), none, .q (.build [.nilsl, .nilsl] [(0, 1, (.t 11))])⟩,
 ⟨(some 13), none, .a (.box (.t 12))⟩,
 ⟨(some 2), none, .q (.mov (.t 13))⟩,
 ⟨(some 3), none, .q (.mov (.c (.i .i64 0)))⟩])
 .ret)))⟩
def f18 : FnC := ⟨32, [.tmp 6, .tmp 7],
 (.seq (.reg [⟨(some 6), none, .q (.mov (.c .nilp))⟩,
 ⟨(some 7), none, .q (.mov (.c (.i .i64 0)))⟩])
 (.seq (.seq (.reg [⟨(some 10), none, .q (.mov (.t 1))⟩,
 ⟨(some 11), none, .q (.bni .eql (.t 10) (.c (.i .u64 0)))⟩,
 ⟨(some 12), none, .q (.mov (.t 11))⟩,
 ⟨(some 13), (some (12, false)), .q (.mov (.t 1))⟩,
 ⟨(some 14), (some (12, false)), .call (.c (.fn 30 [])) [(.t 13)]⟩,
 ⟨(some 15), (some (12, false)), .q (.un .not (.t 14))⟩,
 ⟨(some 16), none, .q (.pick (.t 12) (.c (.b true)) (.t 15))⟩,
 ⟨(some 17), none, .q (.mov (.t 16))⟩,
 ⟨(some 18), (some (17, false)), .q (.mov (.t 1))⟩,
 ⟨(some 19), (some (17, false)), .call (.c (.fn 31 [])) [(.t 18)]⟩,
 ⟨(some 20), none, .q (.pick (.t 17) (.c (.b true)) (.t 19))⟩])
 (.cond (.t 20) .dead
 .skip))
 (.seq (.reg [⟨(some 21), none, .q (.mov (.t 0))⟩,
 ⟨(some 22), none, .q (.mov (.t 1))⟩,
 ⟨(some 23), none, .q (.mov (.t 2))⟩,
 ⟨(some 24), none, .q (.build [.nilp, .nilp, .nilp, .nilp, .nilp, .nilp, (.i .u64 0), (.i .i64 0), (.b false)] [(5, 1, (.t 21)), (6, 1, (.t 22)), (7, 1, (.t 23))])⟩,
 ⟨(some 25), none, .a (.box (.t 24))⟩,
 ⟨(some 8), none, .q (.mov (.t 25))⟩])
 (.seq (.seq (.reg [⟨(some 26), none, .q (.mov (.t 8))⟩,
 ⟨(some 27), none, .call (.c (.fn 32 [])) [(.t 26)]⟩,
 ⟨(some 9), none, .q (.mov (.t 27))⟩])
 (.seq (.reg [⟨(some 28), none, .q (.mov (.t 9))⟩,
 ⟨(some 29), none, .q (.bni .neq (.t 28) (.c (.i .i64 0)))⟩])
 (.cond (.t 29) .dead
 .skip)))
 (.seq (.reg [⟨(some 31), none, .q (.mov (.t 8))⟩,
 ⟨(some 6), none, .q (.mov (.t 31))⟩,
 ⟨(some 7), none, .q (.mov (.c (.i .i64 0)))⟩])
 .ret)))))⟩
def f19 : FnC := ⟨59, [.tmp 6],
 (.seq (.reg [⟨(some 6), none, .q (.mov (.c (.b false)))⟩])
 (.seq (.reg [⟨(some 7), none, .q (.mov (.c .nilsl))⟩])
 (.seq (.seq (.reg [⟨(some 12), none, .q (.mov (.t 2))⟩,
 ⟨(some 13), none, .q (.lenL (.t 12))⟩,
 ⟨(some 14), none, .q (.mov (.c (.i .i64 0)))⟩])
 (.block 0 (.loop (.seq (.reg [⟨(some 15), none, .q (.bin .lss (.t 14) (.t 13))⟩])
 (.seq (.cond (.t 15) .skip
 (.exit 0))
 (.seq (.block 1 (.seq (.reg [⟨(some 16), none, .q (.ia 4 (.t 12) (.t 14))⟩,
 ⟨(some 17), none, .q (.ldn 4 (.t 16))⟩,
 ⟨(some 9), none, .a (.new [(.i .i64 0), (.i .i64 0), (.i .i64 0), (.i .i64 0)])⟩,
 ⟨none, none, .h (.st 4 (.t 9) (.t 17))⟩])
 (.seq (.seq (.reg [⟨(some 18), none, .q (.ldn 4 (.t 9))⟩,
 ⟨(some 19), none, .call (.c (.fn 33 [])) [(.t 18)]⟩,
 ⟨(some 20), none, .q (.mov (.c (.i .i64 0)))⟩])
 (.block 2 (.loop (.seq (.reg [⟨(some 21), none, .q (.bin .lss (.t 20) (.c (.i .i64 2)))⟩])
 (.seq (.cond (.t 21) .skip
 (.exit 2))
 (.seq (.block 3 (.seq (.reg [⟨(some 22), none, .q (.ixa 2 2 (some 2) (.t 19) (.t 20))⟩,
 ⟨(some 11), none, .a (.new [(.i .i64 0), (.i .i64 0)])⟩,
 ⟨none, none, .h (.st 2 (.t 11) (.t 22))⟩])
 (.seq (.seq (.reg [⟨(some 23), none, .q (.fa 0 (.t 11))⟩,
 ⟨(some 24), none, .q (.ld1 (.t 23))⟩,
 ⟨(some 25), none, .q (.bin .lss (.t 24) (.c (.i .i64 0)))⟩,
 ⟨(some 26), none, .q (.mov (.t 25))⟩,
 ⟨(some 27), (some (26, false)), .q (.fa 0 (.t 11))⟩,
 ⟨(some 28), (some (26, false)), .q (.ld1 (.t 27))⟩,
 ⟨(some 29), (some (26, false)), .q (.mov (.t 0))⟩,
 ⟨(some 30), (some (26, false)), .q (.bin .geq (.t 28) (.t 29))⟩,
 ⟨(some 31), none, .q (.pick (.t 26) (.c (.b true)) (.t 30))⟩,
 ⟨(some 32), none, .q (.mov (.t 31))⟩,
 ⟨(some 33), (some (32, false)), .q (.fa 1 (.t 11))⟩,
 ⟨(some 34), (some (32, false)), .q (.ld1 (.t 33))⟩,
 ⟨(some 35), (some (32, false)), .q (.bin .lss (.t 34) (.c (.i .i64 0)))⟩,
 ⟨(some 36), none, .q (.pick (.t 32) (.c (.b true)) (.t 35))⟩,
 ⟨(some 37), none, .q (.mov (.t 36))⟩,
 ⟨(some 38), (some (37, false)), .q (.fa 1 (.t 11))⟩,
 ⟨(some 39), (some (37, false)), .q (.ld1 (.t 38))⟩,
 ⟨(some 40), (some (37, false)), .q (.mov (.t 1))⟩,
 ⟨(some 41), (some (37, false)), .q (.bin .geq (.t 39) (.t 40))⟩,
 ⟨(some 42), none, .q (.pick (.t 37) (.c (.b true)) (.t 41))⟩,
 ⟨(some 43), none, .q (.mov (.t 42))⟩,
 ⟨(some 44), (some (43, false)), .q (.mov (.t 7))⟩,
 ⟨(some 45), (some (43, false)), .q (.ldn 2 (.t 11))⟩,
 ⟨(some 46), (some (43, false)), .call (.c (.fn 34 [])) [(.t 44), (.t 45)]⟩,
 ⟨(some 47), none, .q (.pick (.t 43) (.c (.b true)) (.t 46))⟩])
 (.cond (.t 47) .dead
 .skip))
 (.reg [⟨(some 48), none, .q (.mov (.t 7))⟩,
 ⟨(some 49), none, .q (.ldn 2 (.t 11))⟩,
 ⟨(some 50), none, .a (.mkSl 2 1 [(.i .i64 0), (.i .i64 0)] [(0, 2, (.t 49))])⟩,
 ⟨(some 51), none, .h (.app 2 16 (.t 48) (.t 50))⟩,
 ⟨(some 7), none, .q (.mov (.t 51))⟩]))))
 (.reg [⟨(some 52), none, .q (.bin .add (.t 20) (.c (.i .i64 1)))⟩,
 ⟨(some 20), none, .q (.mov (.t 52))⟩])))))))
 (.seq (.reg [⟨(some 53), none, .q (.fa 0 (.t 9))⟩,
 ⟨(some 54), none, .q (.ld1 (.t 53))⟩,
 ⟨(some 55), none, .q (.fa 2 (.t 9))⟩,
 ⟨(some 56), none, .q (.ld1 (.t 55))⟩,
 ⟨(some 57), none, .q (.bni .eql (.t 54) (.t 56))⟩])
 (.cond (.t 57) .dead
 .skip)))))
 (.reg [⟨(some 58), none, .q (.bin .add (.t 14) (.c (.i .i64 1)))⟩,
 ⟨(some 14), none, .q (.mov (.t 58))⟩])))))))
 (.seq (.reg [⟨(some 6), none, .q (.mov (.c (.b true)))⟩])
 .ret))))⟩
def f20 : FnC := ⟨48, [.tmp 6, .tmp 7],
 (.seq (.reg [⟨(some 6), none, .q (.mov (.c .nilsl))⟩,
 ⟨(some 7), none, .q (.mov (.c (.b false)))⟩])
 (.seq (.reg [⟨(some 12), none, .q (.mov (.t 0))⟩,
 ⟨(some 13), none, .q (.mov (.t 1))⟩,
 ⟨(some 14), none, .call (.c (.fn 8 [])) [(.t 12), (.t 13)]⟩,
 ⟨(some 15), none, .q (.mov (.t 2))⟩,
 ⟨(some 16), none, .call (.c (.fn 21 [])) [(.t 14), (.t 15)]⟩,
 ⟨(some 11), none, .q (.mov (.t 16))⟩,
 ⟨(some 17), none, .q (.ext 0 (.t 11))⟩,
 ⟨(some 18), none, .q (.ext 1 (.t 11))⟩,
 ⟨(some 8), none, .q (.mov (.t 17))⟩,
 ⟨(some 9), none, .q (.mov (.t 18))⟩])
 (.seq (.seq (.reg [⟨(some 19), none, .q (.mov (.t 9))⟩,
 ⟨(some 20), none, .q (.un .not (.t 19))⟩])
 (.cond (.t 20) (.seq (.reg [⟨(some 6), none, .q (.mov (.c .nilsl))⟩,
 ⟨(some 7), none, .q (.mov (.c (.b false)))⟩])
 .ret)
 .skip))
 (.seq (.reg [⟨(some 21), none, .q (.mov (.t 0))⟩,
 ⟨(some 22), none, .q (.nck (.t 21))⟩,
 ⟨(some 23), none, .q (.fa 1 (.t 22))⟩,
 ⟨(some 24), none, .q (.ld1 (.t 23))⟩,
 ⟨(some 25), none, .q (.mov (.t 1))⟩,
 ⟨(some 26), none, .q (.ia 4 (.t 24) (.t 25))⟩,
 ⟨(some 27), none, .q (.ldn 4 (.t 26))⟩,
 ⟨(some 28), none, .call (.c (.fn 33 [])) [(.t 27)]⟩,
 ⟨(some 29), none, .q (.mov (.t 2))⟩,
 ⟨(some 30), none, .q (.bin .sub (.c (.i .i64 1)) (.t 29))⟩,
 ⟨(some 31), none, .q (.ixa 2 2 (some 2) (.t 28) (.t 30))⟩,
 ⟨(some 10), none, .a (.new [(.i .i64 0), (.i .i64 0)])⟩,
 ⟨none, none, .h (.st 2 (.t 10) (.t 31))⟩])
 (.seq (.dreg [⟨0, ⟨(some 32), none, .q (.mov (.t 0))⟩, [0], none, [], []⟩,
 ⟨1, ⟨(some 33), none, .q (.fa 0 (.t 10))⟩, [10], none, [], []⟩,
 ⟨2, ⟨(some 34), none, .q (.ld1 (.t 33))⟩, [33], none, [], [1]⟩,
 ⟨3, ⟨(some 35), none, .q (.mov (.t 0))⟩, [0], none, [], []⟩,
 ⟨4, ⟨(some 36), none, .q (.nck (.t 35))⟩, [35], none, [], [3]⟩,
 ⟨5, ⟨(some 37), none, .q (.fa 0 (.t 36))⟩, [36], none, [], [4, 3]⟩,
 ⟨6, ⟨(some 38), none, .q (.ld1 (.t 37))⟩, [37], none, [], [5, 4, 3]⟩,
 ⟨7, ⟨(some 39), none, .q (.fa 0 (.t 10))⟩, [10], none, [], []⟩,
 ⟨8, ⟨(some 40), none, .q (.ld1 (.t 39))⟩, [39], none, [], [7]⟩,
 ⟨9, ⟨(some 41), none, .q (.ia 1 (.t 38) (.t 40))⟩, [38, 40], none, [], [6, 8, 5, 4, 3, 7]⟩,
 ⟨10, ⟨(some 42), none, .q (.ld1 (.t 41))⟩, [41], none, [], [9, 6, 8, 5, 4, 3, 7]⟩,
 ⟨11, ⟨(some 43), none, .q (.fa 1 (.t 10))⟩, [10], none, [], []⟩,
 ⟨12, ⟨(some 44), none, .q (.ld1 (.t 43))⟩, [43], none, [], [11]⟩,
 ⟨13, ⟨(some 45), none, .q (.mov (.t 8))⟩, [8], none, [], []⟩,
 ⟨14, ⟨(some 46), none, .call (.c (.fn 25 [])) [(.t 42), (.t 44), (.t 45)]⟩, [42, 44, 45], none, [13, 12, 11], [10, 12, 13, 9, 6, 8, 5, 4, 3, 7, 11]⟩,
 ⟨15, ⟨(some 47), none, .call (.c (.fn 22 [])) [(.t 32), (.t 34), (.t 46)]⟩, [32, 34, 46], none, [], [0, 2, 14, 1, 10, 12, 13, 9, 6, 8, 5, 4, 3, 7, 11]⟩,
 ⟨16, ⟨(some 6), none, .q (.mov (.t 47))⟩, [47], none, [], [15, 0, 1, 2, 3, 4, 5, 6, 7, 8, 9, 10, 11, 12, 13, 14]⟩,
 ⟨17, ⟨(some 7), none, .q (.mov (.c (.b true)))⟩, [], none, [], [16, 0, 1, 2, 3, 4, 5, 6, 7, 8, 9, 10, 11, 12, 13, 14, 15]⟩])
 .ret)))))⟩
def f21 : FnC := ⟨32, [.tmp 4, .tmp 5],
 (.seq (.reg [⟨(some 4), none, .q (.mov (.c .nilsl))⟩,
 ⟨(some 5), none, .q (.mov (.c (.b false)))⟩])
 (.seq (.reg [⟨(some 8), none, .q (.mov (.t 0))⟩,
 ⟨(some 9), none, .q (.mov (.t 1))⟩,
 ⟨(some 10), none, .call (.c (.fn 35 [])) [(.t 8), (.t 9)]⟩,
 ⟨(some 6), none, .q (.mov (.t 10))⟩])
 (.seq (.seq (.reg [⟨(some 11), none, .q (.mov (.t 6))⟩,
 ⟨(some 12), none, .q (.eqr false .ptr (.t 11) (.c .nilp))⟩,
 ⟨(some 13), none, .q (.mov (.t 12))⟩,
 ⟨(some 14), (some (13, false)), .q (.mov (.t 6))⟩,
 ⟨(some 15), (some (13, false)), .q (.nck (.t 14))⟩,
 ⟨(some 16), (some (13, false)), .q (.ld1 (.t 15))⟩,
 ⟨(some 17), (some (13, false)), .q (.lenL (.t 16))⟩,
 ⟨(some 18), (some (13, false)), .q (.bni .eql (.t 17) (.c (.i .i64 0)))⟩,
 ⟨(some 19), none, .q (.pick (.t 13) (.c (.b true)) (.t 18))⟩])
 (.cond (.t 19) (.seq (.reg [⟨(some 4), none, .q (.mov (.c .nilsl))⟩,
 ⟨(some 5), none, .q (.mov (.c (.b false)))⟩])
 .ret)
 .skip))
 (.seq (.reg [⟨(some 20), none, .q (.mov (.t 6))⟩,
 ⟨(some 21), none, .q (.nck (.t 20))⟩,
 ⟨(some 22), none, .q (.ld1 (.t 21))⟩,
 ⟨(some 23), none, .q (.ia 1 (.t 22) (.c (.i .i64 0)))⟩,
 ⟨(some 24), none, .q (.ld1 (.t 23))⟩,
 ⟨(some 7), none, .q (.mov (.t 24))⟩])
 (.seq (.reg [⟨(some 25), none, .q (.mov (.t 6))⟩,
 ⟨(some 26), none, .q (.mov (.t 6))⟩,
 ⟨(some 27), none, .q (.nck (.t 26))⟩,
 ⟨(some 28), none, .q (.ld1 (.t 27))⟩,
 ⟨(some 29), none, .q (.sl 1 (.t 28) (some (.c (.i .i64 1))) none none)⟩,
 ⟨(some 30), none, .q (.nck (.t 25))⟩,
 ⟨none, none, .h (.st 1 (.t 30) (.t 29))⟩])
 (.seq (.reg [⟨(some 31), none, .q (.mov (.t 7))⟩,
 ⟨(some 4), none, .q (.mov (.t 31))⟩,
 ⟨(some 5), none, .q (.mov (.c (.b true)))⟩])
 .ret))))))⟩
def f22 : FnC := ⟨48, [.tmp 6],
 (.seq (.reg [⟨(some 6), none, .q (.mov (.c .nilsl))⟩])
 (.seq (.reg [⟨(some 7), none, .q (.mov (.c .nilsl))⟩])
 (.seq (.seq (.reg [⟨(some 13), none, .q (.mov (.t 2))⟩,
 ⟨(some 14), none, .q (.lenL (.t 13))⟩,
 ⟨(some 15), none, .q (.mov (.c (.i .i64 0)))⟩])
 (.block 0 (.loop (.seq (.reg [⟨(some 16), none, .q (.bin .lss (.t 15) (.t 14))⟩])
 (.seq (.cond (.t 16) .skip
 (.exit 0))
 (.seq (.block 1 (.seq (.reg [⟨(some 17), none, .q (.ia 2 (.t 13) (.t 15))⟩,
 ⟨(some 18), none, .q (.ldn 2 (.t 17))⟩,
 ⟨(some 9), none, .a (.new [(.i .i64 0), .nilsl])⟩,
 ⟨none, none, .h (.st 2 (.t 9) (.t 18))⟩])
 (.seq (.seq (.reg [⟨(some 20), none, .q (.mov (.t 0))⟩,
 ⟨(some 21), none, .q (.mov (.t 1))⟩,
 ⟨(some 22), none, .q (.fa 0 (.t 9))⟩,
 ⟨(some 23), none, .q (.ld1 (.t 22))⟩,
 ⟨(some 24), none, .q (.build [(.i .i64 0), (.i .i64 0)] [(0, 1, (.t 21)), (1, 1, (.t 23))])⟩,
 ⟨(some 25), none, .call (.c (.fn 36 [])) [(.t 20), (.t 24)]⟩,
 ⟨(some 19), none, .q (.mov (.t 25))⟩,
 ⟨(some 26), none, .q (.ext 0 (.t 19))⟩,
 ⟨(some 27), none, .q (.ext 1 (.t 19))⟩,
 ⟨(some 28), none, .q (.ext 2 (.t 19))⟩,
 ⟨(some 10), none, .q (.mov (.t 26))⟩,
 ⟨(some 11), none, .q (.mov (.t 27))⟩,
 ⟨(some 12), none, .q (.mov (.t 28))⟩])
 (.seq (.reg [⟨(some 29), none, .q (.mov (.t 12))⟩])
 (.cond (.t 29) (.seq (.dreg [⟨0, ⟨(some 30), none, .q (.mov (.t 0))⟩, [0], none, [], []⟩,
 ⟨1, ⟨(some 31), none, .q (.nck (.t 30))⟩, [30], none, [], [0]⟩,
 ⟨2, ⟨(some 32), none, .q (.fa 2 (.t 31))⟩, [31], none, [], [1, 0]⟩,
 ⟨3, ⟨(some 33), none, .q (.ld1 (.t 32))⟩, [32], none, [], [2, 1, 0]⟩,
 ⟨4, ⟨(some 34), none, .q (.mov (.t 10))⟩, [10], none, [], []⟩,
 ⟨5, ⟨(some 35), none, .q (.ia 1 (.t 33) (.t 34))⟩, [33, 34], none, [], [3, 4, 2, 1, 0]⟩,
 ⟨6, ⟨(some 36), none, .q (.ld1 (.t 35))⟩, [35], none, [], [5, 3, 4, 2, 1, 0]⟩,
 ⟨7, ⟨(some 37), none, .q (.mov (.t 11))⟩, [11], none, [], []⟩,
 ⟨8, ⟨(some 38), none, .q (.fa 1 (.t 9))⟩, [9], none, [], []⟩,
 ⟨9, ⟨(some 39), none, .q (.ld1 (.t 38))⟩, [38], none, [], [8]⟩,
 ⟨10, ⟨(some 40), none, .a (.mkSl 1 1 [.nilsl] [(0, 1, (.t 39))])⟩, [39], none, [], [9, 8]⟩,
 ⟨11, ⟨(some 41), none, .call (.c (.fn 37 [])) [(.t 36), (.t 37), (.t 40)]⟩, [36, 37, 40], none, [], [6, 7, 10, 5, 3, 4, 2, 1, 0, 9, 8]⟩])
 (.exit 1))
 .skip)))
 (.reg [⟨(some 42), none, .q (.mov (.t 7))⟩,
 ⟨(some 43), none, .q (.ldn 2 (.t 9))⟩,
 ⟨(some 44), none, .a (.mkSl 2 1 [(.i .i64 0), .nilsl] [(0, 2, (.t 43))])⟩,
 ⟨(some 45), none, .h (.app 2 32 (.t 42) (.t 44))⟩,
 ⟨(some 7), none, .q (.mov (.t 45))⟩]))))
 (.reg [⟨(some 46), none, .q (.bin .add (.t 15) (.c (.i .i64 1)))⟩,
 ⟨(some 15), none, .q (.mov (.t 46))⟩])))))))
 (.seq (.reg [⟨(some 47), none, .q (.mov (.t 7))⟩,
 ⟨(some 6), none, .q (.mov (.t 47))⟩])
 .ret))))⟩
def f23 : FnC := ⟨35, [.tmp 2],
 (.seq (.reg [⟨(some 2), none, .q (.mov (.c .nilsl))⟩])
 (.seq (.seq (.reg [⟨(some 5), none, .q (.mov (.t 0))⟩,
 ⟨(some 6), none, .call (.c (.fn 28 [])) [(.t 5)]⟩,
 ⟨(some 7), none, .q (.un .not (.t 6))⟩])
 (.cond (.t 7) .dead
 .skip))
 (.seq (.reg [⟨(some 8), none, .q (.mov (.t 0))⟩,
 ⟨(some 9), none, .q (.nck (.t 8))⟩,
 ⟨(some 10), none, .q (.fa 0 (.t 9))⟩,
 ⟨(some 11), none, .q (.fa 3 (.t 10))⟩,
 ⟨(some 12), none, .q (.ld1 (.t 11))⟩,
 ⟨(some 13), none, .call (.c (.fn 38 [])) [(.t 12)]⟩])
 (.seq (.reg [⟨(some 14), none, .q (.mov (.t 0))⟩,
 ⟨(some 15), none, .q (.nck (.t 14))⟩,
 ⟨(some 16), none, .q (.fa 0 (.t 15))⟩,
 ⟨(some 17), none, .q (.fa 4 (.t 16))⟩,
 ⟨(some 18), none, .q (.ld1 (.t 17))⟩,
 ⟨(some 19), none, .call (.c (.fn 39 [])) [(.t 18)]⟩])
 (.seq (.reg [⟨(some 21), none, .q (.mov (.t 0))⟩,
 ⟨(some 22), none, .q (.nck (.t 21))⟩,
 ⟨(some 23), none, .q (.fa 0 (.t 22))⟩,
 ⟨(some 24), none, .q (.fa 2 (.t 23))⟩,
 ⟨(some 25), none, .q (.ld1 (.t 24))⟩,
 ⟨(some 26), none, .call (.c (.fn 40 [])) [(.t 25)]⟩,
 ⟨(some 20), none, .q (.mov (.t 26))⟩,
 ⟨(some 27), none, .q (.ext 0 (.t 20))⟩,
 ⟨(some 28), none, .q (.ext 1 (.t 20))⟩,
 ⟨(some 3), none, .q (.mov (.t 27))⟩,
 ⟨(some 4), none, .q (.mov (.t 28))⟩])
 (.seq (.reg [⟨(some 29), none, .q (.mov (.t 0))⟩,
 ⟨(some 30), none, .q (.mov (.t 4))⟩,
 ⟨(some 31), none, .call (.c (.fn 41 [])) [(.t 29), (.t 30)]⟩])
 (.seq (.reg [⟨(some 32), none, .q (.mov (.t 0))⟩,
 ⟨(some 33), none, .q (.mov (.t 3))⟩,
 ⟨(some 34), none, .call (.c (.fn 42 [])) [(.t 32), (.t 33)]⟩,
 ⟨(some 2), none, .q (.mov (.t 34))⟩])
 .ret)))))))⟩
def f24 : FnC := ⟨54, [.tmp 4],
 (.seq (.reg [⟨(some 4), none, .q (.mov (.c .nilsl))⟩])
 (.seq (.seq (.reg [⟨(some 7), none, .q (.mov (.t 0))⟩,
 ⟨(some 8), none, .call (.c (.fn 28 [])) [(.t 7)]⟩,
 ⟨(some 9), none, .q (.un .not (.t 8))⟩])
 (.cond (.t 9) .dead
 .skip))
 (.seq (.reg [⟨(some 11), none, .q (.mov (.t 1))⟩,
 ⟨(some 12), none, .call (.c (.fn 43 [])) [(.t 11)]⟩,
 ⟨(some 10), none, .q (.mov (.t 12))⟩,
 ⟨(some 13), none, .q (.ext 0 (.t 10))⟩,
 ⟨(some 14), none, .q (.ext 1 (.t 10))⟩,
 ⟨(some 5), none, .a (.new [(.i .i64 0), (.i .i64 0), (.i .i64 0), (.i .i64 0), (.i .i64 0), (.i .u8 0), (.i .u8 0), (.i .u64 0)])⟩,
 ⟨none, none, .h (.st 8 (.t 5) (.t 13))⟩,
 ⟨(some 6), none, .q (.mov (.t 14))⟩])
 (.seq (.block 0 (.seq (.reg [⟨(some 20), none, .q (.mov (.t 6))⟩,
 ⟨(some 21), none, .q (.bni .neq (.t 20) (.c (.i .i64 0)))⟩,
 ⟨(some 19), none, .q (.mov (.t 21))⟩])
 (.cond (.t 19) .dead
 (.seq (.reg [⟨(some 23), none, .q (.fa 0 (.t 5))⟩,
 ⟨(some 24), none, .q (.ld1 (.t 23))⟩,
 ⟨(some 25), none, .q (.bni .eql (.t 24) (.c (.i .i64 1)))⟩,
 ⟨(some 22), none, .q (.mov (.t 25))⟩])
 (.cond (.t 22) .dead
 (.seq (.reg [⟨(some 36), none, .q (.fa 0 (.t 5))⟩,
 ⟨(some 37), none, .q (.ld1 (.t 36))⟩,
 ⟨(some 38), none, .q (.bni .eql (.t 37) (.c (.i .i64 2)))⟩,
 ⟨(some 35), none, .q (.mov (.t 38))⟩])
 (.cond (.t 35) .dead
 (.seq (.reg [⟨(some 42), none, .q (.fa 0 (.t 5))⟩,
 ⟨(some 43), none, .q (.ld1 (.t 42))⟩,
 ⟨(some 44), none, .q (.bni .eql (.t 43) (.c (.i .i64 3)))⟩,
 ⟨(some 41), none, .q (.mov (.t 44))⟩])
 (.cond (.t 41) (.reg [⟨(some 45), none, .q (.mov (.t 0))⟩,
 ⟨(some 46), none, .q (.nck (.t 45))⟩,
 ⟨(some 47), none, .q (.fa 0 (.t 46))⟩,
 ⟨(some 48), none, .q (.fa 0 (.t 47))⟩,
 ⟨(some 49), none, .q (.ld1 (.t 48))⟩,
 ⟨(some 50), none, .call (.c (.fn 46 [])) [(.t 49)]⟩])
 .dead)))))))))
 (.seq (.reg [⟨(some 51), none, .q (.mov (.t 6))⟩,
 ⟨(some 52), none, .call (.c (.fn 48 [])) [(.t 51)]⟩,
 ⟨(some 53), none, .a (.mkSl 1 1 [(.s ⟨#[]⟩)] [(0, 1, (.t 52))])⟩,
 ⟨(some 4), none, .q (.mov (.t 53))⟩])
 .ret)))))⟩
def f25 : FnC := ⟨89, [.tmp 6],
 (.seq (.reg [⟨(some 6), none, .q (.mov (.c .nilsl))⟩])
 (.seq (.seq (.reg [⟨(some 16), none, .q (.mov (.t 0))⟩,
 ⟨(some 17), none, .call (.c (.fn 28 [])) [(.t 16)]⟩,
 ⟨(some 18), none, .q (.un .not (.t 17))⟩,
 ⟨(some 19), none, .q (.mov (.t 18))⟩,
 ⟨(some 20), (some (19, false)), .q (.mov (.t 0))⟩,
 ⟨(some 21), (some (19, false)), .q (.nck (.t 20))⟩,
 ⟨(some 22), (some (19, false)), .q (.fa 0 (.t 21))⟩,
 ⟨(some 23), (some (19, false)), .q (.fa 2 (.t 22))⟩,
 ⟨(some 24), (some (19, false)), .q (.ld1 (.t 23))⟩,
 ⟨(some 25), (some (19, false)), .q (.mov (.t 1))⟩,
 ⟨(some 26), (some (19, false)), .call (.c (.fn 14 [])) [(.t 24), (.t 25)]⟩,
 ⟨(some 27), (some (19, false)), .q (.fld 0 (some 9) (.t 26))⟩,
 ⟨(some 28), (some (19, false)), .q (.fld 0 none (.t 27))⟩,
 ⟨(some 29), (some (19, false)), .q (.un .not (.t 28))⟩,
 ⟨(some 30), none, .q (.pick (.t 19) (.c (.b true)) (.t 29))⟩])
 (.cond (.t 30) .dead
 .skip))
 (.seq (.reg [⟨(some 32), none, .q (.mov (.t 2))⟩,
 ⟨(some 33), none, .call (.c (.fn 49 [])) [(.t 32)]⟩,
 ⟨(some 31), none, .q (.mov (.t 33))⟩,
 ⟨(some 34), none, .q (.ext 0 (.t 31))⟩,
 ⟨(some 35), none, .q (.ext 1 (.t 31))⟩,
 ⟨(some 7), none, .a (.new [(.i .u64 0), (.i .u64 0), (.b false), (.i .i64 0), (.i .i64 0), (.i .i64 0), .nilsl])⟩,
 ⟨none, none, .h (.st 7 (.t 7) (.t 34))⟩,
 ⟨(some 8), none, .q (.mov (.t 35))⟩])
 (.seq (.seq (.reg [⟨(some 36), none, .q (.mov (.t 8))⟩,
 ⟨(some 37), none, .q (.bni .neq (.t 36) (.c (.i .i64 0)))⟩])
 (.cond (.t 37) .dead
 .skip))
 (.seq (.seq (.reg [⟨(some 38), none, .q (.ldn 7 (.t 7))⟩,
 ⟨(some 39), none, .call (.c (.fn 50 [])) [(.t 38)]⟩])
 (.cond (.t 39) (.seq (.reg [⟨(some 41), none, .q (.ldn 7 (.t 7))⟩,
 ⟨(some 42), none, .call (.c (.fn 51 [])) [(.t 41)]⟩,
 ⟨(some 40), none, .q (.mov (.t 42))⟩,
 ⟨(some 43), none, .q (.ext 0 (.t 40))⟩,
 ⟨(some 44), none, .q (.ext 1 (.t 40))⟩,
 ⟨(some 9), none, .a (.new [(.i .u64 0), (.i .u32 0), (.i .u64 0), (.i .i64 0), (.i .i64 0), (.i .i64 0), (.b false), (.b false), (.b false), (.b false), (.b false)])⟩,
 ⟨none, none, .h (.st 11 (.t 9) (.t 43))⟩,
 ⟨(some 10), none, .q (.mov (.t 44))⟩])
 (.seq (.seq (.reg [⟨(some 45), none, .q (.mov (.t 10))⟩,
 ⟨(some 46), none, .q (.bni .neq (.t 45) (.c (.i .i64 0)))⟩])
 (.cond (.t 46) .dead
 .skip))
 (.seq (.reg [⟨(some 47), none, .q (.mov (.t 0))⟩,
 ⟨(some 48), none, .q (.mov (.t 1))⟩,
 ⟨(some 49), none, .q (.ldn 11 (.t 9))⟩,
 ⟨(some 50), none, .call (.c (.fn 52 [])) [(.t 47), (.t 48), (.t 49)]⟩,
 ⟨(some 6), none, .q (.mov (.t 50))⟩])
 .ret)))
 .dead))
 .dead)))))⟩
def f28 : FnC := ⟨12, [.tmp 2],
 (.seq (.reg [⟨(some 2), none, .q (.mov (.c (.b false)))⟩])
 (.seq (.reg [⟨(some 3), none, .q (.mov (.t 0))⟩,
 ⟨(some 4), none, .q (.eqr true .ptr (.t 3) (.c .nilp))⟩,
 ⟨(some 5), none, .q (.mov (.t 4))⟩,
 ⟨(some 6), (some (5, true)), .q (.mov (.t 0))⟩,
 ⟨(some 7), (some (5, true)), .q (.nck (.t 6))⟩,
 ⟨(some 8), (some (5, true)), .q (.fa 8 (.t 7))⟩,
 ⟨(some 9), (some (5, true)), .q (.ld1 (.t 8))⟩,
 ⟨(some 10), (some (5, true)), .q (.un .not (.t 9))⟩,
 ⟨(some 11), none, .q (.pick (.t 5) (.t 10) (.c (.b false)))⟩,
 ⟨(some 2), none, .q (.mov (.t 11))⟩])
 .ret))⟩
def f29 : FnC := ⟨19, [.tmp 4],
 (.seq (.reg [⟨(some 4), none, .q (.mov (.c (.i .i64 0)))⟩])
 (.seq (.seq (.reg [⟨(some 6), none, .q (.mov (.t 0))⟩,
 ⟨(some 7), none, .q (.lenL (.t 6))⟩,
 ⟨(some 8), none, .q (.mov (.c (.i .i64 0)))⟩])
 (.block 0 (.loop (.seq (.reg [⟨(some 9), none, .q (.bin .lss (.t 8) (.t 7))⟩])
 (.seq (.cond (.t 9) .skip
 (.exit 0))
 (.seq (.block 1 (.seq (.reg [⟨(some 10), none, .q (.mov (.t 8))⟩,
 ⟨(some 5), none, .q (.mov (.t 10))⟩])
 (.seq (.reg [⟨(some 11), none, .q (.mov (.t 1))⟩,
 ⟨(some 12), none, .q (.mov (.t 0))⟩,
 ⟨(some 13), none, .q (.mov (.t 5))⟩,
 ⟨(some 14), none, .q (.ia 1 (.t 12) (.t 13))⟩,
 ⟨(some 15), none, .q (.ld1 (.t 14))⟩,
 ⟨(some 16), none, .q (.bni .eql (.t 11) (.t 15))⟩])
 (.cond (.t 16) (.seq (.reg [⟨(some 17), none, .q (.mov (.t 5))⟩,
 ⟨(some 4), none, .q (.mov (.t 17))⟩])
 .ret)
 .skip))))
 (.reg [⟨(some 18), none, .q (.bin .add (.t 8) (.c (.i .i64 1)))⟩,
 ⟨(some 8), none, .q (.mov (.t 18))⟩])))))))
 (.seq (.reg [⟨(some 4), none, .q (.mov (.c (.i .i64 (-1))))⟩])
 .ret)))⟩
def f30 : FnC := ⟨6, [.tmp 2],
 (.seq (.reg [⟨(some 2), none, .q (.mov (.c (.b false)))⟩])
 (.seq (.reg [⟨(some 3), none, .q (.mov (.t 0))⟩,
 ⟨(some 4), none, .q (.bin .shr (.t 3) (.c (.i .u64 48)))⟩,
 ⟨(some 5), none, .q (.bni .eql (.t 4) (.c (.i .u64 0)))⟩,
 ⟨(some 2), none, .q (.mov (.t 5))⟩])
 .ret))⟩
def f31 : FnC := ⟨11, [.tmp 2],
 (.seq (.reg [⟨(some 2), none, .q (.mov (.c (.b false)))⟩])
 (.seq (.reg [⟨(some 3), none, .q (.mov (.t 0))⟩,
 ⟨(some 4), none, .call (.c (.fn 30 [])) [(.t 3)]⟩,
 ⟨(some 5), none, .q (.mov (.t 4))⟩,
 ⟨(some 6), (some (5, true)), .q (.mov (.t 0))⟩,
 ⟨(some 7), (some (5, true)), .q (.bin .shr (.t 6) (.c (.i .u64 40)))⟩,
 ⟨(some 8), (some (5, true)), .q (.bin .and (.t 7) (.c (.i .u64 1)))⟩,
 ⟨(some 9), (some (5, true)), .q (.bni .eql (.t 8) (.c (.i .u64 1)))⟩,
 ⟨(some 10), none, .q (.pick (.t 5) (.t 9) (.c (.b false)))⟩,
 ⟨(some 2), none, .q (.mov (.t 10))⟩])
 .ret))⟩
def f32 : FnC := ⟨79, [.tmp 2],
 (.seq (.reg [⟨(some 2), none, .q (.mov (.c (.i .i64 0)))⟩])
 (.seq (.reg [⟨(some 8), none, .q (.mov (.t 0))⟩,
 ⟨(some 9), none, .q (.nck (.t 8))⟩,
 ⟨(some 10), none, .q (.fa 8 (.t 9))⟩,
 ⟨none, none, .h (.st 1 (.t 10) (.c (.b true)))⟩])
 (.seq (.dreg [⟨0, ⟨(some 12), none, .q (.mov (.t 0))⟩, [0], none, [], []⟩,
 ⟨1, ⟨(some 13), none, .q (.nck (.t 12))⟩, [12], none, [], [0]⟩,
 ⟨2, ⟨(some 14), none, .q (.fa 5 (.t 13))⟩, [13], none, [], [1, 0]⟩,
 ⟨3, ⟨(some 15), none, .q (.ld1 (.t 14))⟩, [14], none, [], [2, 1, 0]⟩,
 ⟨4, ⟨(some 16), none, .q (.mov (.t 0))⟩, [0], none, [], []⟩,
 ⟨5, ⟨(some 17), none, .q (.nck (.t 16))⟩, [16], none, [], [4]⟩,
 ⟨6, ⟨(some 18), none, .q (.fa 7 (.t 17))⟩, [17], none, [], [5, 4]⟩,
 ⟨7, ⟨(some 19), none, .q (.ld1 (.t 18))⟩, [18], none, [], [6, 5, 4]⟩,
 ⟨8, ⟨(some 20), none, .call (.c (.fn 59 [])) [(.t 15), (.t 19)]⟩, [15, 19], none, [], [3, 7, 2, 1, 0, 6, 5, 4]⟩,
 ⟨9, ⟨(some 11), none, .q (.mov (.t 20))⟩, [20], none, [], [8, 3, 7, 2, 1, 0, 6, 5, 4]⟩,
 ⟨10, ⟨(some 21), none, .q (.ext 0 (.t 11))⟩, [11], none, [], [9, 8, 3, 7, 2, 1, 0, 6, 5, 4]⟩,
 ⟨11, ⟨(some 22), none, .q (.ext 1 (.t 11))⟩, [11], none, [], [9, 8, 3, 7, 2, 1, 0, 6, 5, 4]⟩,
 ⟨12, ⟨(some 3), none, .q (.mov (.t 21))⟩, [21], none, [], [10, 8, 0, 1, 2, 3, 4, 5, 6, 7, 9]⟩,
 ⟨13, ⟨(some 4), none, .q (.mov (.t 22))⟩, [22], none, [], [11, 12, 0, 1, 2, 3, 4, 5, 6, 7, 8, 9, 10]⟩])
 (.seq (.seq (.reg [⟨(some 23), none, .q (.mov (.t 4))⟩,
 ⟨(some 24), none, .q (.bni .neq (.t 23) (.c (.i .i64 0)))⟩])
 (.cond (.t 24) .dead
 .skip))
 (.seq (.reg [⟨(some 26), none, .q (.mov (.t 3))⟩,
 ⟨(some 27), none, .call (.c (.fn 54 [])) [(.t 26)]⟩,
 ⟨(some 5), none, .a (.new [(.i .i64 0), (.i .i64 0), (.i .i64 0), .nilsl, .nilsl, .nilsl])⟩,
 ⟨none, none, .h (.st 6 (.t 5) (.t 27))⟩])
 (.seq (.dreg [⟨0, ⟨(some 29), none, .q (.fa 0 (.t 5))⟩, [5], none, [], []⟩,
 ⟨1, ⟨(some 30), none, .q (.ld1 (.t 29))⟩, [29], none, [], [0]⟩,
 ⟨2, ⟨(some 31), none, .q (.mov (.t 0))⟩, [0], none, [], []⟩,
 ⟨3, ⟨(some 32), none, .q (.nck (.t 31))⟩, [31], none, [], [2]⟩,
 ⟨4, ⟨(some 33), none, .q (.fa 6 (.t 32))⟩, [32], none, [], [3, 2]⟩,
 ⟨5, ⟨(some 34), none, .q (.ld1 (.t 33))⟩, [33], none, [], [4, 3, 2]⟩,
 ⟨7, ⟨(some 36), none, .q (.fa 1 (.t 5))⟩, [5], none, [], []⟩,
 ⟨8, ⟨(some 37), none, .q (.ld1 (.t 36))⟩, [36], none, [], [6]⟩,
 ⟨9, ⟨(some 38), none, .q (.fa 2 (.t 5))⟩, [5], none, [], []⟩,
 ⟨10, ⟨(some 39), none, .q (.ld1 (.t 38))⟩, [38], none, [], [8]⟩,
 ⟨11, ⟨(some 40), none, .q (.fa 3 (.t 5))⟩, [5], none, [], []⟩,
 ⟨12, ⟨(some 41), none, .q (.ld1 (.t 40))⟩, [40], none, [], [10]⟩,
 ⟨6, ⟨(some 35), none, .call (.c (.fn 61 [])) [(.t 30), (.t 34)]⟩, [30, 34], none, [5, 4, 3, 2, 1, 0], [1, 5, 0, 4, 3, 2]⟩,
 ⟨13, ⟨(some 42), none, .call (.c (.fn 60 [])) [(.t 35), (.t 37), (.t 39), (.t 41)]⟩, [35, 37, 39, 41], none, [], [12, 7, 9, 11, 1, 5, 0, 4, 3, 2, 6, 8, 10]⟩,
 ⟨14, ⟨(some 28), none, .q (.mov (.t 42))⟩, [42], none, [], [13, 12, 7, 9, 11, 1, 5, 0, 4, 3, 2, 6, 8, 10]⟩,
 ⟨15, ⟨(some 43), none, .q (.ext 0 (.t 28))⟩, [28], none, [], [14, 13, 12, 7, 9, 11, 1, 5, 0, 4, 3, 2, 6, 8, 10]⟩,
 ⟨16, ⟨(some 44), none, .q (.ext 1 (.t 28))⟩, [28], none, [], [14, 13, 12, 7, 9, 11, 1, 5, 0, 4, 3, 2, 6, 8, 10]⟩,
 ⟨17, ⟨(some 6), none, .q (.mov (.t 43))⟩, [43], none, [], [15, 13, 0, 1, 2, 3, 4, 5, 12, 6, 7, 8, 9, 10, 11, 14]⟩,
 ⟨18, ⟨(some 4), none, .q (.mov (.t 44))⟩, [44], none, [], [16, 17, 0, 1, 2, 3, 4, 5, 12, 6, 7, 8, 9, 10, 11, 13, 14, 15]⟩])
 (.seq (.seq (.reg [⟨(some 45), none, .q (.mov (.t 4))⟩,
 ⟨(some 46), none, .q (.bni .neq (.t 45) (.c (.i .i64 0)))⟩])
 (.cond (.t 46) .dead
 .skip))
 (.seq (.reg [⟨(some 49), none, .q (.mov (.t 0))⟩,
 ⟨(some 50), none, .q (.nck (.t 49))⟩,
 ⟨(some 51), none, .q (.fa 7 (.t 50))⟩,
 ⟨(some 52), none, .q (.ld1 (.t 51))⟩,
 ⟨(some 53), none, .call (.c (.fn 62 [])) [(.t 52)]⟩,
 ⟨(some 48), none, .q (.mov (.t 53))⟩,
 ⟨(some 54), none, .q (.ext 0 (.t 48))⟩,
 ⟨(some 55), none, .q (.ext 1 (.t 48))⟩,
 ⟨(some 7), none, .q (.mov (.t 54))⟩,
 ⟨(some 4), none, .q (.mov (.t 55))⟩])
 (.seq (.seq (.reg [⟨(some 56), none, .q (.mov (.t 4))⟩,
 ⟨(some 57), none, .q (.bni .neq (.t 56) (.c (.i .i64 0)))⟩])
 (.cond (.t 57) .dead
 .skip))
 (.seq (.reg [⟨(some 59), none, .q (.mov (.t 0))⟩,
 ⟨(some 60), none, .call (.c (.fn 63 [])) []⟩,
 ⟨(some 61), none, .q (.mov (.t 3))⟩,
 ⟨(some 62), none, .q (.mov (.t 6))⟩,
 ⟨(some 63), none, .call (.c (.fn 64 [])) []⟩,
 ⟨(some 64), none, .q (.mov (.t 7))⟩,
 ⟨(some 65), none, .q (.build [.nilp, .nilp, .nilp, .nilp, .nilp] [(0, 1, (.t 60)), (1, 1, (.t 61)), (2, 1, (.t 62)), (3, 1, (.t 63)), (4, 1, (.t 64))])⟩,
 ⟨(some 66), none, .q (.nck (.t 59))⟩,
 ⟨(some 67), none, .q (.fa 0 (.t 66))⟩,
 ⟨none, none, .h (.st 5 (.t 67) (.t 65))⟩])
 (.seq (.dreg [⟨0, ⟨(some 68), none, .q (.mov (.t 0))⟩, [0], none, [], []⟩,
 ⟨1, ⟨(some 69), none, .q (.nck (.t 68))⟩, [68], none, [], [0]⟩,
 ⟨2, ⟨(some 70), none, .q (.fa 0 (.t 69))⟩, [69], none, [], [1, 0]⟩,
 ⟨3, ⟨(some 71), none, .q (.fa 3 (.t 70))⟩, [70], none, [], [2, 1, 0]⟩,
 ⟨4, ⟨(some 72), none, .q (.ld1 (.t 71))⟩, [71], none, [], [3, 2, 1, 0]⟩,
 ⟨5, ⟨(some 73), none, .q (.fa 5 (.t 5))⟩, [5], none, [], []⟩,
 ⟨6, ⟨(some 74), none, .q (.ld1 (.t 73))⟩, [73], none, [], [5]⟩,
 ⟨7, ⟨(some 75), none, .call (.c (.fn 65 [])) [(.t 72), (.t 74)]⟩, [72, 74], none, [], [4, 6, 3, 2, 1, 0, 5]⟩])
 (.seq (.reg [⟨(some 76), none, .q (.mov (.t 0))⟩,
 ⟨(some 77), none, .q (.nck (.t 76))⟩,
 ⟨(some 78), none, .q (.fa 8 (.t 77))⟩,
 ⟨none, none, .h (.st 1 (.t 78) (.c (.b false)))⟩])
 (.seq (.reg [⟨(some 2), none, .q (.mov (.c (.i .i64 0)))⟩])
 .ret)))))))))))))⟩
def f33 : FnC := ⟨14, [.cell (some 4) 2],
 (.seq (.reg [⟨(some 1), none, .a (.box (.t 0))⟩,
 ⟨(some 2), none, .a (.new [(.i .i64 0), (.i .i64 0), (.i .i64 0), (.i .i64 0)])⟩])
 (.seq (.reg [⟨(some 3), none, .q (.fa 0 (.t 1))⟩,
 ⟨(some 4), none, .q (.ld1 (.t 3))⟩,
 ⟨(some 5), none, .q (.fa 1 (.t 1))⟩,
 ⟨(some 6), none, .q (.ld1 (.t 5))⟩,
 ⟨(some 7), none, .q (.build [(.i .i64 0), (.i .i64 0)] [(0, 1, (.t 4)), (1, 1, (.t 6))])⟩,
 ⟨(some 8), none, .q (.fa 2 (.t 1))⟩,
 ⟨(some 9), none, .q (.ld1 (.t 8))⟩,
 ⟨(some 10), none, .q (.fa 3 (.t 1))⟩,
 ⟨(some 11), none, .q (.ld1 (.t 10))⟩,
 ⟨(some 12), none, .q (.build [(.i .i64 0), (.i .i64 0)] [(0, 1, (.t 9)), (1, 1, (.t 11))])⟩,
 ⟨(some 13), none, .q (.build [(.i .i64 0), (.i .i64 0), (.i .i64 0), (.i .i64 0)] [(0, 2, (.t 7)), (2, 2, (.t 12))])⟩,
 ⟨none, none, .h (.st 4 (.t 2) (.t 13))⟩])
 .ret))⟩
def f34 : FnC := ⟨9, [.tmp 4],
 (.seq (.reg [⟨(some 3), none, .a (.box (.t 1))⟩,
 ⟨(some 4), none, .q (.mov (.c (.b false)))⟩])
 (.seq (.reg [⟨(some 5), none, .q (.mov (.t 0))⟩,
 ⟨(some 6), none, .q (.ldn 2 (.t 3))⟩,
 ⟨(some 7), none, .call (.c (.fn 66 [])) [(.t 5), (.t 6)]⟩,
 ⟨(some 8), none, .q (.bin .geq (.t 7) (.c (.i .i64 0)))⟩,
 ⟨(some 4), none, .q (.mov (.t 8))⟩])
 .ret))⟩
def f35 : FnC := ⟨20, [.tmp 4],
 (.seq (.reg [⟨(some 4), none, .q (.mov (.c .nilp))⟩])
 (.seq (.seq (.reg [⟨(some 5), none, .q (.mov (.t 0))⟩,
 ⟨(some 6), none, .q (.eqr false .ptr (.t 5) (.c .nilp))⟩,
 ⟨(some 7), none, .q (.mov (.t 6))⟩,
 ⟨(some 8), (some (7, false)), .q (.mov (.t 1))⟩,
 ⟨(some 9), (some (7, false)), .q (.bin .lss (.t 8) (.c (.i .i64 0)))⟩,
 ⟨(some 10), none, .q (.pick (.t 7) (.c (.b true)) (.t 9))⟩,
 ⟨(some 11), none, .q (.mov (.t 10))⟩,
 ⟨(some 12), (some (11, false)), .q (.mov (.t 1))⟩,
 ⟨(some 13), (some (11, false)), .q (.bin .geq (.t 12) (.c (.i .i64 2)))⟩,
 ⟨(some 14), none, .q (.pick (.t 11) (.c (.b true)) (.t 13))⟩])
 (.cond (.t 14) (.seq (.reg [⟨(some 4), none, .q (.mov (.c .nilp))⟩])
 .ret)
 .skip))
 (.seq (.reg [⟨(some 15), none, .q (.mov (.t 0))⟩,
 ⟨(some 16), none, .q (.mov (.t 1))⟩,
 ⟨(some 17), none, .q (.nck (.t 15))⟩,
 ⟨(some 18), none, .q (.fa 0 (.t 17))⟩,
 ⟨(some 19), none, .q (.iaa 2 1 (.t 18) (.t 16))⟩,
 ⟨(some 4), none, .q (.mov (.t 19))⟩])
 .ret)))⟩
def f36 : FnC := ⟨38, [.tmp 4, .tmp 5, .tmp 6],
 (.seq (.reg [⟨(some 3), none, .a (.box (.t 1))⟩,
 ⟨(some 4), none, .q (.mov (.c (.i .i64 0)))⟩,
 ⟨(some 5), none, .q (.mov (.c (.i .i64 0)))⟩,
 ⟨(some 6), none, .q (.mov (.c (.b false)))⟩])
 (.seq (.seq (.reg [⟨(some 10), none, .q (.mov (.t 0))⟩,
 ⟨(some 11), none, .q (.nck (.t 10))⟩,
 ⟨(some 12), none, .q (.fa 1 (.t 11))⟩,
 ⟨(some 13), none, .q (.ld1 (.t 12))⟩,
 ⟨(some 14), none, .q (.lenL (.t 13))⟩,
 ⟨(some 15), none, .q (.mov (.c (.i .i64 0)))⟩])
 (.block 0 (.loop (.seq (.reg [⟨(some 16), none, .q (.bin .lss (.t 15) (.t 14))⟩])
 (.seq (.cond (.t 16) .skip
 (.exit 0))
 (.seq (.block 1 (.seq (.reg [⟨(some 17), none, .q (.mov (.t 15))⟩,
 ⟨(some 18), none, .q (.ia 4 (.t 13) (.t 15))⟩,
 ⟨(some 19), none, .q (.ldn 4 (.t 18))⟩,
 ⟨(some 8), none, .a (.new [(.i .i64 0), (.i .i64 0), (.i .i64 0), (.i .i64 0)])⟩,
 ⟨(some 7), none, .q (.mov (.t 17))⟩,
 ⟨none, none, .h (.st 4 (.t 8) (.t 19))⟩])
 (.seq (.reg [⟨(some 20), none, .q (.fa 0 (.t 8))⟩,
 ⟨(some 21), none, .q (.ld1 (.t 20))⟩,
 ⟨(some 22), none, .q (.fa 1 (.t 8))⟩,
 ⟨(some 23), none, .q (.ld1 (.t 22))⟩,
 ⟨(some 24), none, .q (.build [(.i .i64 0), (.i .i64 0)] [(0, 1, (.t 21)), (1, 1, (.t 23))])⟩,
 ⟨(some 25), none, .q (.fa 2 (.t 8))⟩,
 ⟨(some 26), none, .q (.ld1 (.t 25))⟩,
 ⟨(some 27), none, .q (.fa 3 (.t 8))⟩,
 ⟨(some 28), none, .q (.ld1 (.t 27))⟩,
 ⟨(some 29), none, .q (.build [(.i .i64 0), (.i .i64 0)] [(0, 1, (.t 26)), (1, 1, (.t 28))])⟩,
 ⟨(some 30), none, .a (.mkSl 2 2 [(.i .i64 0), (.i .i64 0), (.i .i64 0), (.i .i64 0)] [(0, 2, (.t 24)), (2, 2, (.t 29))])⟩,
 ⟨(some 31), none, .q (.ldn 2 (.t 3))⟩,
 ⟨(some 32), none, .call (.c (.fn 66 [])) [(.t 30), (.t 31)]⟩,
 ⟨(some 9), none, .q (.mov (.t 32))⟩])
 (.seq (.reg [⟨(some 33), none, .q (.mov (.t 9))⟩,
 ⟨(some 34), none, .q (.bin .geq (.t 33) (.c (.i .i64 0)))⟩])
 (.cond (.t 34) (.seq (.reg [⟨(some 35), none, .q (.mov (.t 7))⟩,
 ⟨(some 36), none, .q (.mov (.t 9))⟩,
 ⟨(some 4), none, .q (.mov (.t 35))⟩,
 ⟨(some 5), none, .q (.mov (.t 36))⟩,
 ⟨(some 6), none, .q (.mov (.c (.b true)))⟩])
 .ret)
 .skip)))))
 (.reg [⟨(some 37), none, .q (.bin .add (.t 15) (.c (.i .i64 1)))⟩,
 ⟨(some 15), none, .q (.mov (.t 37))⟩])))))))
 (.seq (.reg [⟨(some 4), none, .q (.mov (.c (.i .i64 0)))⟩,
 ⟨(some 5), none, .q (.mov (.c (.i .i64 0)))⟩,
 ⟨(some 6), none, .q (.mov (.c (.b false)))⟩])
 .ret)))⟩
def f37 : FnC := ⟨43, [.tmp 6],
 (.seq (.reg [⟨(some 6), none, .q (.mov (.c (.i .i64 0)))⟩])
 (.seq (.reg [⟨(some 11), none, .q (.mov (.t 0))⟩,
 ⟨(some 12), none, .q (.mov (.t 1))⟩,
 ⟨(some 13), none, .call (.c (.fn 35 [])) [(.t 11), (.t 12)]⟩,
 ⟨(some 7), none, .q (.mov (.t 13))⟩])
 (.seq (.seq (.reg [⟨(some 14), none, .q (.mov (.t 7))⟩,
 ⟨(some 15), none, .q (.eqr false .ptr (.t 14) (.c .nilp))⟩])
 (.cond (.t 15) .dead
 .skip))
 (.seq (.reg [⟨(some 16), none, .q (.mov (.t 2))⟩,
 ⟨(some 17), none, .q (.lenL (.t 16))⟩,
 ⟨(some 18), none, .q (.mov (.t 7))⟩,
 ⟨(some 19), none, .q (.nck (.t 18))⟩,
 ⟨(some 20), none, .q (.ld1 (.t 19))⟩,
 ⟨(some 21), none, .q (.lenL (.t 20))⟩,
 ⟨(some 22), none, .q (.bin .sub (.c (.i .i64 64)) (.t 21))⟩,
 ⟨(some 23), none, .q (.mn (.t 17) [(.t 22)])⟩,
 ⟨(some 8), none, .q (.mov (.t 23))⟩])
 (.seq (.seq (.reg [⟨(some 24), none, .q (.mov (.t 2))⟩,
 ⟨(some 25), none, .q (.mov (.t 8))⟩,
 ⟨(some 26), none, .q (.sl 1 (.t 24) none (some (.t 25)) none)⟩,
 ⟨(some 27), none, .q (.lenL (.t 26))⟩,
 ⟨(some 28), none, .q (.mov (.c (.i .i64 0)))⟩])
 (.block 0 (.loop (.seq (.reg [⟨(some 29), none, .q (.bin .lss (.t 28) (.t 27))⟩])
 (.seq (.cond (.t 29) .skip
 (.exit 0))
 (.seq (.block 1 (.seq (.reg [⟨(some 30), none, .q (.ia 1 (.t 26) (.t 28))⟩,
 ⟨(some 31), none, .q (.ld1 (.t 30))⟩,
 ⟨(some 10), none, .q (.mov (.t 31))⟩])
 (.dreg [⟨0, ⟨(some 32), none, .q (.mov (.t 7))⟩, [7], none, [], []⟩,
 ⟨1, ⟨(some 33), none, .q (.mov (.t 7))⟩, [7], none, [], []⟩,
 ⟨2, ⟨(some 34), none, .q (.nck (.t 33))⟩, [33], none, [], [1]⟩,
 ⟨3, ⟨(some 35), none, .q (.ld1 (.t 34))⟩, [34], none, [], [2, 1]⟩,
 ⟨4, ⟨(some 36), none, .q (.mov (.t 10))⟩, [10], none, [], []⟩,
 ⟨5, ⟨(some 37), none, .call (.c (.fn 58 [])) [(.t 36)]⟩, [36], none, [4, 3, 2, 1], [4]⟩,
 ⟨6, ⟨(some 38), none, .a (.mkSl 1 1 [.nilsl] [(0, 1, (.t 37))])⟩, [37], none, [], [5, 4]⟩,
 ⟨7, ⟨(some 39), none, .h (.app 1 24 (.t 35) (.t 38))⟩, [35, 38], none, [6], [3, 6, 5, 2, 1, 4]⟩,
 ⟨8, ⟨(some 40), none, .q (.nck (.t 32))⟩, [32], none, [], [0, 1, 2, 3, 4, 5, 6, 7]⟩,
 ⟨9, ⟨none, none, .h (.st 1 (.t 40) (.t 39))⟩, [40, 39], none, [], [8, 7, 0, 1, 2, 3, 4, 5, 6]⟩])))
 (.reg [⟨(some 41), none, .q (.bin .add (.t 28) (.c (.i .i64 1)))⟩,
 ⟨(some 28), none, .q (.mov (.t 41))⟩])))))))
 (.seq (.reg [⟨(some 42), none, .q (.mov (.t 8))⟩,
 ⟨(some 6), none, .q (.mov (.t 42))⟩])
 .ret))))))⟩
def f38 : FnC := ⟨27, [],
 (.seq (.reg [⟨(some 1), none, .a (.box (.t 0))⟩])
 (.seq (.seq (.reg [⟨(some 2), none, .q (.ld1 (.t 1))⟩,
 ⟨(some 3), none, .q (.eqr false .ptr (.t 2) (.c .nilp))⟩,
 ⟨(some 4), none, .q (.mov (.t 3))⟩,
 ⟨(some 5), (some (4, false)), .q (.ld1 (.t 1))⟩,
 ⟨(some 6), (some (4, false)), .q (.nck (.t 5))⟩,
 ⟨(some 7), (some (4, false)), .q (.fa 0 (.t 6))⟩,
 ⟨(some 8), (some (4, false)), .q (.ld1 (.t 7))⟩,
 ⟨(some 9), (some (4, false)), .q (.bin .geq (.t 8) (.c (.i .i64 1073741824)))⟩,
 ⟨(some 10), none, .q (.pick (.t 4) (.c (.b true)) (.t 9))⟩])
 (.cond (.t 10) .dead
 .skip))
 (.seq (.reg [⟨(some 11), none, .q (.ld1 (.t 1))⟩,
 ⟨(some 12), none, .q (.nck (.t 11))⟩,
 ⟨(some 13), none, .q (.fa 0 (.t 12))⟩,
 ⟨(some 14), none, .q (.ld1 (.t 13))⟩,
 ⟨(some 15), none, .q (.bin .add (.t 14) (.c (.i .i64 1)))⟩,
 ⟨(some 16), none, .q (.nck (.t 11))⟩,
 ⟨(some 17), none, .q (.fa 0 (.t 16))⟩,
 ⟨none, none, .h (.st 1 (.t 17) (.t 15))⟩])
 (.dreg [⟨0, ⟨(some 18), none, .q (.ld1 (.t 1))⟩, [1], none, [], []⟩,
 ⟨1, ⟨(some 19), none, .q (.ld1 (.t 1))⟩, [1], none, [], []⟩,
 ⟨2, ⟨(some 20), none, .q (.nck (.t 19))⟩, [19], none, [], [1]⟩,
 ⟨3, ⟨(some 21), none, .q (.fa 2 (.t 20))⟩, [20], none, [], [2, 1]⟩,
 ⟨4, ⟨(some 22), none, .q (.ld1 (.t 21))⟩, [21], none, [], [3, 2, 1]⟩,
 ⟨5, ⟨(some 23), none, .q (.mkf 68 [(.t 1)])⟩, [1], none, [], []⟩,
 ⟨6, ⟨(some 24), none, .call (.c (.fn 67 [])) [(.t 22), (.t 23)]⟩, [22, 23], none, [5], [4, 5, 3, 2, 1]⟩,
 ⟨7, ⟨(some 25), none, .q (.nck (.t 18))⟩, [18], none, [], [0, 1, 2, 3, 4, 5, 6]⟩,
 ⟨8, ⟨(some 26), none, .q (.fa 2 (.t 25))⟩, [25], none, [], [7, 0, 1, 2, 3, 4, 5, 6]⟩,
 ⟨9, ⟨none, none, .h (.st 1 (.t 26) (.t 24))⟩, [26, 24], none, [], [8, 6, 0, 1, 2, 3, 4, 5, 7]⟩]))))⟩
def f39 : FnC := ⟨24, [],
 (.seq (.reg [⟨(some 3), none, .q (.mov (.t 0))⟩,
 ⟨(some 4), none, .call (.c (.fn 69 [])) [(.t 3)]⟩,
 ⟨(some 5), none, .q (.mov (.c (.i .i64 0)))⟩])
 (.block 0 (.loop (.seq (.reg [⟨(some 6), none, .q (.bin .lss (.t 5) (.t 4))⟩])
 (.seq (.cond (.t 6) .skip
 (.exit 0))
 (.seq (.block 1 (.seq (.reg [⟨(some 7), none, .q (.mov (.t 5))⟩,
 ⟨(some 2), none, .q (.mov (.t 7))⟩])
 (.dreg [⟨0, ⟨(some 8), none, .q (.mov (.t 0))⟩, [0], none, [], []⟩,
 ⟨1, ⟨(some 9), none, .q (.nck (.t 8))⟩, [8], none, [], [0]⟩,
 ⟨2, ⟨(some 10), none, .q (.fa 0 (.t 9))⟩, [9], none, [], [1, 0]⟩,
 ⟨3, ⟨(some 11), none, .q (.ld1 (.t 10))⟩, [10], none, [], [2, 1, 0]⟩,
 ⟨4, ⟨(some 12), none, .q (.mov (.t 2))⟩, [2], none, [], []⟩,
 ⟨5, ⟨(some 13), none, .q (.mov (.t 0))⟩, [0], none, [], []⟩,
 ⟨6, ⟨(some 14), none, .q (.nck (.t 13))⟩, [13], none, [], [5]⟩,
 ⟨7, ⟨(some 15), none, .q (.fa 0 (.t 14))⟩, [14], none, [], [6, 5]⟩,
 ⟨8, ⟨(some 16), none, .q (.ld1 (.t 15))⟩, [15], none, [], [7, 6, 5]⟩,
 ⟨9, ⟨(some 17), none, .q (.mov (.t 2))⟩, [2], none, [], []⟩,
 ⟨10, ⟨(some 18), none, .q (.ia 1 (.t 16) (.t 17))⟩, [16, 17], none, [], [8, 9, 7, 6, 5]⟩,
 ⟨11, ⟨(some 19), none, .q (.ld1 (.t 18))⟩, [18], none, [], [10, 8, 9, 7, 6, 5]⟩,
 ⟨12, ⟨(some 20), none, .q (.bin .sub (.t 19) (.c (.i .i64 1)))⟩, [19], none, [], [11, 10, 8, 9, 7, 6, 5]⟩,
 ⟨13, ⟨(some 21), none, .q (.mx (.t 20) [(.c (.i .i64 0))])⟩, [20], none, [], [12, 11, 10, 8, 9, 7, 6, 5]⟩,
 ⟨14, ⟨(some 22), none, .q (.ia 1 (.t 11) (.t 12))⟩, [11, 12], none, [], [3, 4, 0, 1, 2, 5, 6, 7, 8, 9, 10, 11, 12, 13]⟩,
 ⟨15, ⟨none, none, .h (.st 1 (.t 22) (.t 21))⟩, [22, 21], none, [], [14, 13, 0, 1, 2, 3, 4, 5, 6, 7, 8, 9, 10, 11, 12]⟩])))
 (.reg [⟨(some 23), none, .q (.bin .add (.t 5) (.c (.i .i64 1)))⟩,
 ⟨(some 5), none, .q (.mov (.t 23))⟩])))))))⟩
def f40 : FnC := ⟨87, [.tmp 2, .tmp 3],
 (.seq (.reg [⟨(some 2), none, .q (.mov (.c .nilsl))⟩,
 ⟨(some 3), none, .q (.mov (.c .nilsl))⟩])
 (.seq (.seq (.reg [⟨(some 9), none, .q (.mov (.t 0))⟩,
 ⟨(some 10), none, .q (.eqr false .ptr (.t 9) (.c .nilp))⟩])
 (.cond (.t 10) .dead
 .skip))
 (.seq (.reg [⟨(some 11), none, .q (.mov (.t 0))⟩,
 ⟨(some 12), none, .call (.c (.fn 70 [])) [(.t 11)]⟩,
 ⟨(some 4), none, .q (.mov (.t 12))⟩])
 (.seq (.seq (.reg [⟨(some 13), none, .q (.mov (.t 0))⟩,
 ⟨(some 14), none, .q (.nck (.t 13))⟩,
 ⟨(some 15), none, .q (.fa 3 (.t 14))⟩,
 ⟨(some 16), none, .q (.ld1 (.t 15))⟩,
 ⟨(some 17), none, .q (.lenL (.t 16))⟩,
 ⟨(some 18), none, .q (.mov (.c (.i .i64 0)))⟩])
 (.block 0 (.loop (.seq (.reg [⟨(some 19), none, .q (.bin .lss (.t 18) (.t 17))⟩])
 (.seq (.cond (.t 19) .skip
 (.exit 0))
 (.seq (.block 1 (.seq (.reg [⟨(some 20), none, .q (.mov (.t 18))⟩,
 ⟨(some 5), none, .q (.mov (.t 20))⟩])
 (.reg [⟨(some 21), none, .q (.mov (.t 0))⟩,
 ⟨(some 22), none, .q (.nck (.t 21))⟩,
 ⟨(some 23), none, .q (.fa 3 (.t 22))⟩,
 ⟨(some 24), none, .q (.ld1 (.t 23))⟩,
 ⟨(some 25), none, .q (.mov (.t 5))⟩,
 ⟨(some 26), none, .q (.ia 13 (.t 24) (.t 25))⟩,
 ⟨(some 27), none, .q (.fa 0 (.t 26))⟩,
 ⟨(some 28), none, .q (.fa 2 (.t 27))⟩,
 ⟨(some 29), none, .call (.c (.fn 71 [])) [(.t 28)]⟩])))
 (.reg [⟨(some 30), none, .q (.bin .add (.t 18) (.c (.i .i64 1)))⟩,
 ⟨(some 18), none, .q (.mov (.t 30))⟩])))))))
 (.seq (.reg [⟨(some 31), none, .q (.mov (.t 0))⟩,
 ⟨(some 32), none, .call (.c (.fn 72 [])) [(.t 31)]⟩])
 (.seq (.seq (.reg [⟨(some 33), none, .q (.mov (.t 0))⟩,
 ⟨(some 34), none, .q (.nck (.t 33))⟩,
 ⟨(some 35), none, .q (.fa 3 (.t 34))⟩,
 ⟨(some 36), none, .q (.ld1 (.t 35))⟩,
 ⟨(some 37), none, .q (.lenL (.t 36))⟩,
 ⟨(some 38), none, .q (.mov (.c (.i .i64 0)))⟩])
 (.block 2 (.loop (.seq (.reg [⟨(some 39), none, .q (.bin .lss (.t 38) (.t 37))⟩])
 (.seq (.cond (.t 39) .skip
 (.exit 2))
 (.seq (.block 3 (.seq (.reg [⟨(some 40), none, .q (.mov (.t 38))⟩,
 ⟨(some 6), none, .q (.mov (.t 40))⟩])
 (.seq (.reg [⟨(some 41), none, .q (.mov (.t 0))⟩,
 ⟨(some 42), none, .q (.nck (.t 41))⟩,
 ⟨(some 43), none, .q (.fa 3 (.t 42))⟩,
 ⟨(some 44), none, .q (.ld1 (.t 43))⟩,
 ⟨(some 45), none, .q (.mov (.t 6))⟩,
 ⟨(some 46), none, .q (.ia 13 (.t 44) (.t 45))⟩,
 ⟨(some 7), none, .q (.mov (.t 46))⟩])
 (.seq (.reg [⟨(some 47), none, .q (.mov (.t 7))⟩,
 ⟨(some 48), none, .q (.mov (.t 0))⟩,
 ⟨(some 49), none, .q (.nck (.t 48))⟩,
 ⟨(some 50), none, .q (.fa 0 (.t 49))⟩,
 ⟨(some 51), none, .q (.fa 1 (.t 50))⟩,
 ⟨(some 52), none, .q (.ld1 (.t 51))⟩,
 ⟨(some 53), none, .call (.c (.fn 73 [])) [(.t 47), (.t 52)]⟩])
 (.seq (.reg [⟨(some 54), none, .q (.mov (.t 7))⟩,
 ⟨(some 55), none, .q (.nck (.t 54))⟩,
 ⟨(some 56), none, .q (.fa 0 (.t 55))⟩,
 ⟨(some 57), none, .q (.fa 0 (.t 56))⟩,
 ⟨(some 58), none, .q (.ld1 (.t 57))⟩,
 ⟨(some 59), none, .q (.mov (.t 58))⟩,
 ⟨(some 60), (some (59, true)), .q (.mov (.t 7))⟩,
 ⟨(some 61), (some (59, true)), .q (.nck (.t 60))⟩,
 ⟨(some 62), (some (59, true)), .q (.fa 9 (.t 61))⟩,
 ⟨(some 63), (some (59, true)), .q (.ld1 (.t 62))⟩,
 ⟨(some 64), (some (59, true)), .q (.bni .eql (.t 63) (.c (.i .i64 3)))⟩,
 ⟨(some 65), none, .q (.pick (.t 59) (.t 64) (.c (.b false)))⟩])
 (.cond (.t 65) (.seq (.reg [⟨(some 66), none, .q (.mov (.t 6))⟩,
 ⟨(some 67), none, .q (.mov (.t 0))⟩,
 ⟨(some 68), none, .q (.mov (.t 6))⟩,
 ⟨(some 69), none, .call (.c (.fn 74 [])) [(.t 67), (.t 68)]⟩,
 ⟨(some 70), none, .q (.build [(.i .i64 0), (.i .u64 0), (.i .u32 0), (.i .u64 0), (.i .i64 0), (.i .i64 0), (.i .i64 0), (.b false), (.b false), (.b false), (.b false), (.b false)] [(0, 1, (.t 66)), (1, 11, (.t 69))])⟩,
 ⟨(some 8), none, .a (.new [(.i .i64 0), (.i .u64 0), (.i .u32 0), (.i .u64 0), (.i .i64 0), (.i .i64 0), (.i .i64 0), (.b false), (.b false), (.b false), (.b false), (.b false)])⟩,
 ⟨none, none, .h (.st 12 (.t 8) (.t 70))⟩])
 (.seq (.reg [⟨(some 71), none, .q (.mov (.t 7))⟩,
 ⟨(some 72), none, .q (.nck (.t 71))⟩,
 ⟨(some 73), none, .q (.fa 10 (.t 72))⟩,
 ⟨(some 74), none, .q (.ld1 (.t 73))⟩,
 ⟨(some 75), none, .q (.bni .neq (.t 74) (.c (.i .i64 2)))⟩,
 ⟨(some 76), none, .q (.fa 1 (.t 8))⟩,
 ⟨(some 77), none, .q (.fa 6 (.t 76))⟩,
 ⟨none, none, .h (.st 1 (.t 77) (.t 75))⟩])
 (.reg [⟨(some 78), none, .q (.mov (.t 2))⟩,
 ⟨(some 79), none, .q (.ldn 12 (.t 8))⟩,
 ⟨(some 80), none, .a (.mkSl 12 1 [(.i .i64 0), (.i .u64 0), (.i .u32 0), (.i .u64 0), (.i .i64 0), (.i .i64 0), (.i .i64 0), (.b false), (.b false), (.b false), (.b false), (.b false)] [(0, 12, (.t 79))])⟩,
 ⟨(some 81), none, .h (.app 12 64 (.t 78) (.t 80))⟩,
 ⟨(some 2), none, .q (.mov (.t 81))⟩])))
 .dead))))))
 (.reg [⟨(some 82), none, .q (.bin .add (.t 38) (.c (.i .i64 1)))⟩,
 ⟨(some 38), none, .q (.mov (.t 82))⟩])))))))
 (.seq (.reg [⟨(some 83), none, .q (.mov (.t 2))⟩,
 ⟨(some 84), none, .q (.mov (.t 0))⟩,
 ⟨(some 85), none, .q (.mov (.t 4))⟩,
 ⟨(some 86), none, .call (.c (.fn 75 [])) [(.t 84), (.t 85)]⟩,
 ⟨(some 2), none, .q (.mov (.t 83))⟩,
 ⟨(some 3), none, .q (.mov (.t 86))⟩])
 .ret)))))))⟩
def f41 : FnC := ⟨20, [],
 (.seq (.reg [⟨(some 4), none, .q (.mov (.t 1))⟩,
 ⟨(some 5), none, .q (.lenL (.t 4))⟩,
 ⟨(some 6), none, .q (.bin .gtr (.t 5) (.c (.i .i64 0)))⟩])
 (.cond (.t 6) (.dreg [⟨0, ⟨(some 7), none, .q (.mov (.t 0))⟩, [0], none, [], []⟩,
 ⟨1, ⟨(some 8), none, .q (.nck (.t 7))⟩, [7], none, [], [0]⟩,
 ⟨2, ⟨(some 9), none, .q (.fa 0 (.t 8))⟩, [8], none, [], [1, 0]⟩,
 ⟨3, ⟨(some 10), none, .q (.fa 3 (.t 9))⟩, [9], none, [], [2, 1, 0]⟩,
 ⟨4, ⟨(some 11), none, .q (.ld1 (.t 10))⟩, [10], none, [], [3, 2, 1, 0]⟩,
 ⟨5, ⟨(some 12), none, .q (.mov (.t 0))⟩, [0], none, [], []⟩,
 ⟨6, ⟨(some 13), none, .q (.nck (.t 12))⟩, [12], none, [], [5]⟩,
 ⟨7, ⟨(some 14), none, .q (.fa 0 (.t 13))⟩, [13], none, [], [6, 5]⟩,
 ⟨8, ⟨(some 15), none, .q (.fa 4 (.t 14))⟩, [14], none, [], [7, 6, 5]⟩,
 ⟨9, ⟨(some 16), none, .q (.ld1 (.t 15))⟩, [15], none, [], [8, 7, 6, 5]⟩,
 ⟨10, ⟨(some 17), none, .q (.mov (.t 1))⟩, [1], none, [], []⟩,
 ⟨11, ⟨(some 18), none, .call (.c (.fn 77 [])) [(.t 16), (.t 17)]⟩, [16, 17], none, [10, 9, 8, 7, 6], [9, 10, 8, 7, 6, 5]⟩,
 ⟨12, ⟨(some 19), none, .call (.c (.fn 76 [])) [(.t 11), (.t 18)]⟩, [11, 18], none, [], [4, 11, 3, 2, 1, 0, 9, 10, 8, 7, 6, 5]⟩])
 .skip))⟩
def f42 : FnC := ⟨57, [.tmp 4],
 (.seq (.reg [⟨(some 4), none, .q (.mov (.c .nilsl))⟩])
 (.seq (.reg [⟨(some 5), none, .q (.mov (.c .nilsl))⟩])
 (.seq (.seq (.reg [⟨(some 13), none, .q (.mov (.t 1))⟩,
 ⟨(some 14), none, .q (.lenL (.t 13))⟩,
 ⟨(some 15), none, .q (.mov (.c (.i .i64 0)))⟩])
 (.block 0 (.loop (.seq (.reg [⟨(some 16), none, .q (.bin .lss (.t 15) (.t 14))⟩])
 (.seq (.cond (.t 16) .skip
 (.exit 0))
 (.seq (.block 1 (.seq (.reg [⟨(some 17), none, .q (.ia 12 (.t 13) (.t 15))⟩,
 ⟨(some 18), none, .q (.ldn 12 (.t 17))⟩,
 ⟨(some 7), none, .a (.new [(.i .i64 0), (.i .u64 0), (.i .u32 0), (.i .u64 0), (.i .i64 0), (.i .i64 0), (.i .i64 0), (.b false), (.b false), (.b false), (.b false), (.b false)])⟩,
 ⟨none, none, .h (.st 12 (.t 7) (.t 18))⟩])
 (.seq (.reg [⟨(some 19), none, .q (.fa 1 (.t 7))⟩,
 ⟨(some 20), none, .q (.ldn 11 (.t 19))⟩,
 ⟨(some 8), none, .a (.new [(.i .u64 0), (.i .u32 0), (.i .u64 0), (.i .i64 0), (.i .i64 0), (.i .i64 0), (.b false), (.b false), (.b false), (.b false), (.b false)])⟩,
 ⟨none, none, .h (.st 11 (.t 8) (.t 20))⟩])
 (.seq (.dreg [⟨0, ⟨(some 21), none, .q (.mov (.t 0))⟩, [0], none, [], []⟩,
 ⟨1, ⟨(some 22), none, .q (.nck (.t 21))⟩, [21], none, [], [0]⟩,
 ⟨2, ⟨(some 23), none, .q (.fa 0 (.t 22))⟩, [22], none, [], [1, 0]⟩,
 ⟨3, ⟨(some 24), none, .q (.fa 4 (.t 23))⟩, [23], none, [], [2, 1, 0]⟩,
 ⟨4, ⟨(some 25), none, .q (.ld1 (.t 24))⟩, [24], none, [], [3, 2, 1, 0]⟩,
 ⟨5, ⟨(some 26), none, .q (.fa 0 (.t 7))⟩, [7], none, [], []⟩,
 ⟨6, ⟨(some 27), none, .q (.ld1 (.t 26))⟩, [26], none, [], [5]⟩,
 ⟨7, ⟨(some 28), none, .call (.c (.fn 78 [])) [(.t 25), (.t 27)]⟩, [25, 27], none, [], [4, 6, 3, 2, 1, 0, 5]⟩,
 ⟨8, ⟨(some 29), none, .q (.fa 10 (.t 8))⟩, [8], none, [], [0, 1, 2, 3, 4, 5, 6, 7]⟩,
 ⟨9, ⟨none, none, .h (.st 1 (.t 29) (.t 28))⟩, [29, 28], none, [], [8, 7, 0, 1, 2, 3, 4, 5, 6]⟩])
 (.seq (.dreg [⟨0, ⟨(some 31), none, .q (.mov (.t 0))⟩, [0], none, [], []⟩,
 ⟨1, ⟨(some 32), none, .q (.nck (.t 31))⟩, [31], none, [], [0]⟩,
 ⟨2, ⟨(some 33), none, .q (.fa 6 (.t 32))⟩, [32], none, [], [1, 0]⟩,
 ⟨3, ⟨(some 34), none, .q (.ld1 (.t 33))⟩, [33], none, [], [2, 1, 0]⟩,
 ⟨4, ⟨(some 35), none, .q (.ldn 11 (.t 8))⟩, [8], none, [], []⟩,
 ⟨5, ⟨(some 36), none, .call (.c (.fn 79 [])) [(.t 34), (.t 35)]⟩, [34, 35], none, [], [3, 4, 2, 1, 0]⟩,
 ⟨6, ⟨(some 30), none, .q (.mov (.t 36))⟩, [36], none, [], [5, 3, 4, 2, 1, 0]⟩,
 ⟨7, ⟨(some 37), none, .q (.ext 0 (.t 30))⟩, [30], none, [], [6, 5, 3, 4, 2, 1, 0]⟩,
 ⟨8, ⟨(some 38), none, .q (.ext 1 (.t 30))⟩, [30], none, [], [6, 5, 3, 4, 2, 1, 0]⟩,
 ⟨9, ⟨(some 9), none, .a (.new [(.i .u64 0), (.i .u64 0), (.b false), (.i .i64 0), (.i .i64 0), (.i .i64 0), .nilsl])⟩, [], none, [], []⟩,
 ⟨10, ⟨none, none, .h (.st 7 (.t 9) (.t 37))⟩, [9, 37], none, [1], [9, 7, 5, 0, 1, 2, 3, 4, 6]⟩,
 ⟨11, ⟨(some 10), none, .q (.mov (.t 38))⟩, [38], none, [], [8, 10, 0, 1, 2, 3, 4, 5, 6, 7, 9]⟩])
 (.seq (.seq (.reg [⟨(some 39), none, .q (.mov (.t 10))⟩,
 ⟨(some 40), none, .q (.bni .neq (.t 39) (.c (.i .i64 0)))⟩])
 (.cond (.t 40) .dead
 .skip))
 (.seq (.reg [⟨(some 42), none, .q (.ldn 7 (.t 9))⟩,
 ⟨(some 43), none, .call (.c (.fn 56 [])) [(.t 42)]⟩,
 ⟨(some 41), none, .q (.mov (.t 43))⟩,
 ⟨(some 44), none, .q (.ext 0 (.t 41))⟩,
 ⟨(some 45), none, .q (.ext 1 (.t 41))⟩,
 ⟨(some 11), none, .q (.mov (.t 44))⟩,
 ⟨(some 12), none, .q (.mov (.t 45))⟩])
 (.seq (.reg [⟨(some 46), none, .q (.mov (.t 12))⟩,
 ⟨(some 47), none, .q (.bni .eql (.t 46) (.c (.i .i64 0)))⟩])
 (.cond (.t 47) (.reg [⟨(some 48), none, .q (.mov (.t 5))⟩,
 ⟨(some 49), none, .q (.fa 0 (.t 7))⟩,
 ⟨(some 50), none, .q (.ld1 (.t 49))⟩,
 ⟨(some 51), none, .q (.mov (.t 11))⟩,
 ⟨(some 52), none, .q (.build [(.i .i64 0), .nilsl] [(0, 1, (.t 50)), (1, 1, (.t 51))])⟩,
 ⟨(some 53), none, .a (.mkSl 2 1 [(.i .i64 0), .nilsl] [(0, 2, (.t 52))])⟩,
 ⟨(some 54), none, .h (.app 2 32 (.t 48) (.t 53))⟩,
 ⟨(some 5), none, .q (.mov (.t 54))⟩])
 .dead)))))))))
 (.reg [⟨(some 55), none, .q (.bin .add (.t 15) (.c (.i .i64 1)))⟩,
 ⟨(some 15), none, .q (.mov (.t 55))⟩])))))))
 (.seq (.reg [⟨(some 56), none, .q (.mov (.t 5))⟩,
 ⟨(some 4), none, .q (.mov (.t 56))⟩])
 .ret))))⟩
def f43 : FnC := ⟨31, [.cell (some 8) 2, .tmp 3],
 (.seq (.reg [⟨(some 2), none, .a (.new [(.i .i64 0), (.i .i64 0), (.i .i64 0), (.i .i64 0), (.i .i64 0), (.i .u8 0), (.i .u8 0), (.i .u64 0)])⟩,
 ⟨(some 3), none, .q (.mov (.c (.i .i64 0)))⟩])
 (.seq (.seq (.reg [⟨(some 9), none, .q (.mov (.t 0))⟩,
 ⟨(some 10), none, .q (.lenS (.t 9))⟩,
 ⟨(some 11), none, .q (.bin .gtr (.t 10) (.c (.i .i64 200)))⟩])
 (.cond (.t 11) .dead
 .skip))
 (.seq (.reg [⟨(some 13), none, .q (.mov (.t 0))⟩,
 ⟨(some 14), none, .call (.c (.fn 80 [])) [(.t 13)]⟩,
 ⟨(some 4), none, .q (.mov (.t 14))⟩])
 (.seq (.seq (.reg [⟨(some 15), none, .call (.c (.fn 81 [])) []⟩,
 ⟨(some 16), none, .q (.lenL (.t 15))⟩,
 ⟨(some 17), none, .q (.mov (.c (.i .i64 0)))⟩])
 (.block 0 (.loop (.seq (.reg [⟨(some 18), none, .q (.bin .lss (.t 17) (.t 16))⟩])
 (.seq (.cond (.t 18) .skip
 .dead)
 (.seq (.block 1 (.seq (.reg [⟨(some 19), none, .q (.ia 9 (.t 15) (.t 17))⟩,
 ⟨(some 20), none, .q (.ldn 9 (.t 19))⟩,
 ⟨(some 6), none, .a (.new [(.i .i64 0), (.i .i64 0), (.i .i64 0), (.i .i64 0), (.i .i64 0), (.i .u8 0), (.i .u8 0), (.i .u64 0), (.s ⟨#[]⟩)])⟩,
 ⟨none, none, .h (.st 9 (.t 6) (.t 20))⟩])
 (.seq (.reg [⟨(some 22), none, .q (.ldn 9 (.t 6))⟩,
 ⟨(some 23), none, .q (.mov (.t 4))⟩,
 ⟨(some 24), none, .call (.c (.fn 82 [])) [(.t 22), (.t 23)]⟩,
 ⟨(some 21), none, .q (.mov (.t 24))⟩,
 ⟨(some 25), none, .q (.ext 0 (.t 21))⟩,
 ⟨(some 26), none, .q (.ext 1 (.t 21))⟩,
 ⟨(some 7), none, .a (.new [(.i .i64 0), (.i .i64 0), (.i .i64 0), (.i .i64 0), (.i .i64 0), (.i .u8 0), (.i .u8 0), (.i .u64 0)])⟩,
 ⟨none, none, .h (.st 8 (.t 7) (.t 25))⟩,
 ⟨(some 8), none, .q (.mov (.t 26))⟩])
 (.seq (.reg [⟨(some 27), none, .q (.mov (.t 8))⟩])
 (.cond (.t 27) (.seq (.reg [⟨(some 28), none, .q (.ldn 8 (.t 7))⟩,
 ⟨none, none, .h (.st 8 (.t 2) (.t 28))⟩,
 ⟨(some 3), none, .q (.mov (.c (.i .i64 0)))⟩])
 .ret)
 .skip)))))
 (.reg [⟨(some 29), none, .q (.bin .add (.t 17) (.c (.i .i64 1)))⟩,
 ⟨(some 17), none, .q (.mov (.t 29))⟩])))))))
 .dead))))⟩
def f46 : FnC := ⟨15, [.tmp 2],
 (.seq (.reg [⟨(some 2), none, .q (.mov (.c (.i .i64 0)))⟩])
 (.seq (.seq (.reg [⟨(some 4), none, .q (.mov (.t 0))⟩,
 ⟨(some 5), none, .q (.eqr false .ptr (.t 4) (.c .nilp))⟩])
 (.cond (.t 5) .dead
 .skip))
 (.seq (.reg [⟨(some 6), none, .q (.mov (.t 0))⟩,
 ⟨(some 7), none, .q (.nck (.t 6))⟩,
 ⟨(some 8), none, .q (.fa 0 (.t 7))⟩,
 ⟨(some 9), none, .q (.ld1 (.t 8))⟩,
 ⟨(some 10), none, .q (.lenL (.t 9))⟩,
 ⟨(some 3), none, .q (.mov (.t 10))⟩])
 (.seq (.reg [⟨(some 11), none, .q (.mov (.t 0))⟩,
 ⟨(some 12), none, .q (.nck (.t 11))⟩,
 ⟨(some 13), none, .q (.fa 0 (.t 12))⟩,
 ⟨none, none, .h (.st 1 (.t 13) (.c .nilsl))⟩])
 (.seq (.reg [⟨(some 14), none, .q (.mov (.t 3))⟩,
 ⟨(some 2), none, .q (.mov (.t 14))⟩])
 .ret)))))⟩
def f48 : FnC := ⟨9, [.tmp 2],
 (.seq (.reg [⟨(some 2), none, .q (.mov (.c (.s ⟨#[]⟩)))⟩])
 (.seq (.seq (.reg [⟨(some 3), none, .q (.mov (.t 0))⟩,
 ⟨(some 4), none, .q (.bni .eql (.t 3) (.c (.i .i64 0)))⟩])
 (.cond (.t 4) (.seq (.reg [⟨(some 2), none, .q (.mov (.c (.s ⟨#[111, 107]⟩)))⟩])
 .ret)
 .dead))
 .dead))⟩
def f49 : FnC := ⟨57, [.cell (some 7) 2, .tmp 3],
 (.seq (.reg [⟨(some 2), none, .a (.new [(.i .u64 0), (.i .u64 0), (.b false), (.i .i64 0), (.i .i64 0), (.i .i64 0), .nilsl])⟩,
 ⟨(some 3), none, .q (.mov (.c (.i .i64 0)))⟩])
 (.seq (.seq (.reg [⟨(some 6), none, .q (.mov (.t 0))⟩,
 ⟨(some 7), none, .q (.lenL (.t 6))⟩,
 ⟨(some 8), none, .q (.bin .lss (.t 7) (.c (.i .i64 14)))⟩])
 (.cond (.t 8) .dead
 .skip))
 (.seq (.reg [⟨(some 4), none, .a (.new [(.i .u64 0), (.i .u64 0), (.b false), (.i .i64 0), (.i .i64 0), (.i .i64 0), .nilsl])⟩])
 (.seq (.reg [⟨(some 11), none, .q (.mov (.t 0))⟩,
 ⟨(some 12), none, .q (.sl 1 (.t 11) none (some (.c (.i .i64 6))) none)⟩,
 ⟨(some 13), none, .call (.c (.fn 91 [])) [(.t 12)]⟩,
 ⟨(some 10), none, .q (.mov (.t 13))⟩,
 ⟨(some 14), none, .q (.ext 0 (.t 10))⟩,
 ⟨(some 15), none, .q (.ext 1 (.t 10))⟩,
 ⟨(some 16), none, .q (.fa 0 (.t 4))⟩,
 ⟨none, none, .h (.st 1 (.t 16) (.t 14))⟩])
 (.seq (.reg [⟨(some 18), none, .q (.mov (.t 0))⟩,
 ⟨(some 19), none, .q (.sl 1 (.t 18) (some (.c (.i .i64 6))) (some (.c (.i .i64 12))) none)⟩,
 ⟨(some 20), none, .call (.c (.fn 91 [])) [(.t 19)]⟩,
 ⟨(some 17), none, .q (.mov (.t 20))⟩,
 ⟨(some 21), none, .q (.ext 0 (.t 17))⟩,
 ⟨(some 22), none, .q (.ext 1 (.t 17))⟩,
 ⟨(some 23), none, .q (.fa 1 (.t 4))⟩,
 ⟨none, none, .h (.st 1 (.t 23) (.t 21))⟩])
 (.seq (.reg [⟨(some 24), none, .q (.mov (.t 0))⟩,
 ⟨(some 25), none, .q (.sl 1 (.t 24) (some (.c (.i .i64 12))) none none)⟩,
 ⟨(some 0), none, .q (.mov (.t 25))⟩])
 (.seq (.seq (.reg [⟨(some 26), none, .q (.mov (.t 0))⟩,
 ⟨(some 27), none, .call (.c (.fn 92 [])) [(.t 26)]⟩,
 ⟨(some 28), none, .q (.bni .eql (.t 27) (.c (.i .i64 33024)))⟩])
 (.cond (.t 28) .dead
 .skip))
 (.seq (.dreg [⟨0, ⟨(some 45), none, .q (.mov (.t 0))⟩, [0], none, [], []⟩,
 ⟨2, ⟨(some 47), none, .q (.mov (.t 0))⟩, [0], none, [], []⟩,
 ⟨3, ⟨(some 48), none, .q (.sl 1 (.t 47) (some (.c (.i .i64 2))) none none)⟩, [47], none, [], [1]⟩,
 ⟨1, ⟨(some 46), none, .call (.c (.fn 92 [])) [(.t 45)]⟩, [45], none, [1, 0], [0]⟩,
 ⟨5, ⟨(some 50), none, .q (.fa 5 (.t 4))⟩, [4], none, [], [0, 3]⟩,
 ⟨4, ⟨(some 49), none, .call (.c (.fn 58 [])) [(.t 48)]⟩, [48], none, [0], [2, 3, 1, 0]⟩,
 ⟨6, ⟨none, none, .h (.st 1 (.t 50) (.t 46))⟩, [50, 46], none, [], [4, 3, 5, 0, 2, 1]⟩,
 ⟨7, ⟨(some 51), none, .q (.fa 6 (.t 4))⟩, [4], none, [], [0, 3, 1, 2, 5, 4, 6]⟩,
 ⟨8, ⟨none, none, .h (.st 1 (.t 51) (.t 49))⟩, [51, 49], none, [], [7, 5, 6, 0, 3, 1, 2, 4]⟩])
 (.seq (.seq (.reg [⟨(some 52), none, .q (.ldn 7 (.t 4))⟩,
 ⟨(some 53), none, .call (.c (.fn 93 [])) [(.t 52)]⟩,
 ⟨(some 54), none, .q (.un .not (.t 53))⟩])
 (.cond (.t 54) .dead
 .skip))
 (.seq (.reg [⟨(some 56), none, .q (.ldn 7 (.t 4))⟩,
 ⟨none, none, .h (.st 7 (.t 2) (.t 56))⟩,
 ⟨(some 3), none, .q (.mov (.c (.i .i64 0)))⟩])
 .ret))))))))))⟩
def f50 : FnC := ⟨6, [.tmp 2],
 (.seq (.reg [⟨(some 1), none, .a (.box (.t 0))⟩,
 ⟨(some 2), none, .q (.mov (.c (.b false)))⟩])
 (.seq (.reg [⟨(some 3), none, .q (.fa 0 (.t 1))⟩,
 ⟨(some 4), none, .q (.ld1 (.t 3))⟩,
 ⟨(some 5), none, .q (.bni .eql (.t 4) (.c (.i .u64 1652522221568)))⟩,
 ⟨(some 2), none, .q (.mov (.t 5))⟩])
 .ret))⟩
def f51 : FnC := ⟨159, [.cell (some 11) 2, .tmp 3],
 (.seq (.reg [⟨(some 1), none, .a (.box (.t 0))⟩,
 ⟨(some 2), none, .a (.new [(.i .u64 0), (.i .u32 0), (.i .u64 0), (.i .i64 0), (.i .i64 0), (.i .i64 0), (.b false), (.b false), (.b false), (.b false), (.b false)])⟩,
 ⟨(some 3), none, .q (.mov (.c (.i .i64 0)))⟩])
 (.seq (.seq (.dreg [⟨0, ⟨(some 6), none, .q (.ldn 7 (.t 1))⟩, [1], none, [], []⟩,
 ⟨1, ⟨(some 7), none, .call (.c (.fn 50 [])) [(.t 6)]⟩, [6], none, [], [0]⟩,
 ⟨2, ⟨(some 8), none, .q (.un .not (.t 7))⟩, [7], none, [], [1, 0]⟩,
 ⟨3, ⟨(some 9), none, .q (.mov (.t 8))⟩, [8], none, [], [2, 1, 0]⟩,
 ⟨4, ⟨(some 10), (some (9, false)), .q (.ldn 7 (.t 1))⟩, [1, 9], none, [], [3, 2, 1, 0]⟩,
 ⟨5, ⟨(some 11), (some (9, false)), .call (.c (.fn 93 [])) [(.t 10)]⟩, [10, 9], none, [], [4, 3, 2, 1, 0]⟩,
 ⟨6, ⟨(some 12), (some (9, false)), .q (.un .not (.t 11))⟩, [11, 9], none, [], [5, 3, 4, 2, 1, 0]⟩,
 ⟨7, ⟨(some 13), none, .q (.pick (.t 9) (.c (.b true)) (.t 12))⟩, [9, 12], none, [], [3, 6, 2, 1, 0, 5, 4]⟩,
 ⟨8, ⟨(some 14), none, .q (.mov (.t 13))⟩, [13], none, [], [7, 5, 3, 6, 2, 1, 0, 4]⟩,
 ⟨9, ⟨(some 15), (some (14, false)), .q (.fa 2 (.t 1))⟩, [1, 14], none, [], [8, 7, 5, 3, 6, 2, 1, 0, 4]⟩,
 ⟨10, ⟨(some 16), (some (14, false)), .q (.ld1 (.t 15))⟩, [15, 14], none, [], [9, 8, 7, 5, 3, 6, 2, 1, 0, 4]⟩,
 ⟨11, ⟨(some 17), none, .q (.pick (.t 14) (.c (.b true)) (.t 16))⟩, [14, 16], none, [], [8, 10, 7, 5, 3, 6, 2, 1, 0, 4, 9]⟩,
 ⟨12, ⟨(some 18), none, .q (.mov (.t 17))⟩, [17], none, [], [11, 8, 10, 7, 5, 3, 6, 2, 1, 0, 4, 9]⟩,
 ⟨13, ⟨(some 19), (some (18, false)), .q (.fa 5 (.t 1))⟩, [1, 18], none, [], [12, 11, 8, 10, 7, 5, 3, 6, 2, 1, 0, 4, 9]⟩,
 ⟨14, ⟨(some 20), (some (18, false)), .q (.ld1 (.t 19))⟩, [19, 18], none, [], [13, 12, 11, 8, 10, 7, 5, 3, 6, 2, 1, 0, 4, 9]⟩,
 ⟨15, ⟨(some 21), (some (18, false)), .q (.bni .neq (.t 20) (.c (.i .i64 39)))⟩, [20, 18], none, [], [14, 12, 13, 11, 8, 10, 7, 5, 3, 6, 2, 1, 0, 4, 9]⟩,
 ⟨16, ⟨(some 22), none, .q (.pick (.t 18) (.c (.b true)) (.t 21))⟩, [18, 21], none, [], [12, 15, 11, 8, 10, 7, 5, 3, 6, 2, 1, 0, 4, 9, 14, 13]⟩,
 ⟨17, ⟨(some 23), none, .q (.mov (.t 22))⟩, [22], none, [], [16, 12, 15, 11, 8, 10, 7, 5, 3, 6, 2, 1, 0, 4, 9, 14, 13]⟩,
 ⟨18, ⟨(some 24), (some (23, false)), .q (.fa 6 (.t 1))⟩, [1, 23], none, [], [17, 16, 12, 15, 11, 8, 10, 7, 5, 3, 6, 2, 1, 0, 4, 9, 14, 13]⟩,
 ⟨19, ⟨(some 25), (some (23, false)), .q (.ld1 (.t 24))⟩, [24, 23], none, [], [18, 17, 16, 12, 15, 11, 8, 10, 7, 5, 3, 6, 2, 1, 0, 4, 9, 14, 13]⟩,
 ⟨20, ⟨(some 26), (some (23, false)), .q (.lenL (.t 25))⟩, [25, 23], none, [], [19, 17, 18, 16, 12, 15, 11, 8, 10, 7, 5, 3, 6, 2, 1, 0, 4, 9, 14, 13]⟩,
 ⟨21, ⟨(some 27), (some (23, false)), .q (.bin .lss (.t 26) (.c (.i .i64 39)))⟩, [26, 23], none, [], [20, 17, 19, 18, 16, 12, 15, 11, 8, 10, 7, 5, 3, 6, 2, 1, 0, 4, 9, 14, 13]⟩,
 ⟨22, ⟨(some 28), none, .q (.pick (.t 23) (.c (.b true)) (.t 27))⟩, [23, 27], none, [], [17, 21, 16, 12, 15, 11, 8, 10, 7, 5, 3, 6, 2, 1, 0, 4, 9, 14, 13, 20, 19, 18]⟩,
 ⟨23, ⟨(some 29), none, .q (.mov (.t 28))⟩, [28], none, [], [22, 17, 21, 16, 12, 15, 11, 8, 10, 7, 5, 3, 6, 2, 1, 0, 4, 9, 14, 13, 20, 19, 18]⟩,
 ⟨24, ⟨(some 30), (some (29, false)), .q (.fa 6 (.t 1))⟩, [1, 29], none, [], [23, 22, 17, 21, 16, 12, 15, 11, 8, 10, 7, 5, 3, 6, 2, 1, 0, 4, 9, 14, 13, 20, 19, 18]⟩,
 ⟨25, ⟨(some 31), (some (29, false)), .q (.ld1 (.t 30))⟩, [30, 29], none, [], [24, 23, 22, 17, 21, 16, 12, 15, 11, 8, 10, 7, 5, 3, 6, 2, 1, 0, 4, 9, 14, 13, 20, 19, 18]⟩,
 ⟨26, ⟨(some 32), (some (29, false)), .call (.c (.fn 95 [])) []⟩, [29], none, [1, 0], [23, 22, 17, 21, 16, 12, 15, 11, 8, 10, 7, 5, 3, 6, 2, 1, 0, 4, 9, 14, 13, 20, 19, 18]⟩,
 ⟨27, ⟨(some 33), (some (29, false)), .q (.lenL (.t 32))⟩, [32, 29], none, [], [26, 23, 22, 17, 21, 16, 12, 15, 11, 8, 10, 7, 5, 3, 6, 2, 1, 0, 4, 9, 14, 13, 20, 19, 18]⟩,
 ⟨28, ⟨(some 34), (some (29, false)), .q (.sl 1 (.t 31) none (some (.t 33)) none)⟩, [31, 33, 29], none, [], [25, 27, 23, 24, 22, 17, 21, 16, 12, 15, 11, 8, 10, 7, 5, 3, 6, 2, 1, 0, 4, 9, 14, 13, 20, 19, 18, 26]⟩,
 ⟨29, ⟨(some 35), (some (29, false)), .call (.c (.fn 95 [])) []⟩, [29], none, [4, 3, 1, 0], [26, 23, 22, 17, 21, 16, 12, 15, 11, 8, 10, 7, 5, 3, 6, 2, 1, 0, 4, 9, 14, 13, 20, 19, 18]⟩,
 ⟨30, ⟨(some 36), (some (29, false)), .call (.c (.fn 94 [])) [(.t 34), (.t 35)]⟩, [34, 35, 29], none, [], [28, 29, 23, 25, 27, 24, 22, 17, 21, 16, 12, 15, 11, 8, 10, 7, 5, 3, 6, 2, 1, 0, 4, 9, 14, 13, 20, 19, 18, 26]⟩,
 ⟨31, ⟨(some 37), (some (29, false)), .q (.un .not (.t 36))⟩, [36, 29], none, [], [30, 23, 28, 29, 25, 27, 24, 22, 17, 21, 16, 12, 15, 11, 8, 10, 7, 5, 3, 6, 2, 1, 0, 4, 9, 14, 13, 20, 19, 18, 26]⟩,
 ⟨32, ⟨(some 38), none, .q (.pick (.t 29) (.c (.b true)) (.t 37))⟩, [29, 37], none, [], [23, 31, 22, 17, 21, 16, 12, 15, 11, 8, 10, 7, 5, 3, 6, 2, 1, 0, 4, 9, 14, 13, 20, 19, 18, 30, 28, 29, 25, 27, 24, 26]⟩])
 (.cond (.t 38) .dead
 .skip))
 (.seq (.dreg [⟨0, ⟨(some 40), none, .q (.fa 6 (.t 1))⟩, [1], none, [], []⟩,
 ⟨1, ⟨(some 41), none, .q (.ld1 (.t 40))⟩, [40], none, [], [0]⟩,
 ⟨2, ⟨(some 42), none, .call (.c (.fn 95 [])) []⟩, [], none, [1, 0], []⟩,
 ⟨3, ⟨(some 43), none, .q (.lenL (.t 42))⟩, [42], none, [], [2]⟩,
 ⟨4, ⟨(some 44), none, .q (.sl 1 (.t 41) (some (.t 43)) none none)⟩, [41, 43], none, [], [1, 3, 0, 2]⟩,
 ⟨5, ⟨(some 45), none, .q (.build [.nilsl] [(0, 1, (.t 44))])⟩, [44], none, [], [4, 1, 3, 0, 2]⟩,
 ⟨6, ⟨(some 46), none, .q (.build [(.i .u64 0), (.i .u32 0), (.i .u64 0), (.i .i64 0), (.i .i64 0), (.i .i64 0), (.b false), (.b false), (.b false), (.b false), (.b false), .nilsl] [(11, 1, (.t 45))])⟩, [45], none, [], [5, 4, 1, 3, 0, 2]⟩,
 ⟨7, ⟨(some 47), none, .a (.box (.t 46))⟩, [46], none, [], [6, 5, 4, 1, 3, 0, 2]⟩,
 ⟨8, ⟨(some 4), none, .q (.mov (.t 47))⟩, [47], none, [], [7, 2, 0, 1, 3, 4, 5, 6]⟩])
 (.seq (.reg [⟨(some 48), none, .q (.mov (.t 4))⟩,
 ⟨(some 49), none, .q (.nck (.t 48))⟩,
 ⟨(some 50), none, .q (.fa 11 (.t 49))⟩,
 ⟨(some 51), none, .call (.c (.fn 96 [])) [(.t 50), (.c (.i .i64 1))]⟩,
 ⟨(some 52), none, .q (.cvi .u8 (.t 51))⟩,
 ⟨(some 5), none, .q (.mov (.t 52))⟩])
 (.seq (.reg [⟨(some 53), none, .q (.mov (.t 4))⟩,
 ⟨(some 54), none, .q (.mov (.t 4))⟩,
 ⟨(some 55), none, .q (.nck (.t 54))⟩,
 ⟨(some 56), none, .q (.fa 11 (.t 55))⟩,
 ⟨(some 57), none, .call (.c (.fn 96 [])) [(.t 56), (.c (.i .i64 8))]⟩,
 ⟨(some 58), none, .q (.nck (.t 53))⟩,
 ⟨(some 59), none, .q (.fa 0 (.t 58))⟩,
 ⟨(some 60), none, .q (.fa 0 (.t 59))⟩,
 ⟨(some 61), none, .q (.fa 0 (.t 60))⟩,
 ⟨none, none, .h (.st 1 (.t 61) (.t 57))⟩])
 (.seq (.reg [⟨(some 62), none, .q (.mov (.t 4))⟩,
 ⟨(some 63), none, .q (.mov (.t 4))⟩,
 ⟨(some 64), none, .q (.nck (.t 63))⟩,
 ⟨(some 65), none, .q (.fa 11 (.t 64))⟩,
 ⟨(some 66), none, .call (.c (.fn 96 [])) [(.t 65), (.c (.i .i64 4))]⟩,
 ⟨(some 67), none, .q (.cvi .u32 (.t 66))⟩,
 ⟨(some 68), none, .q (.nck (.t 62))⟩,
 ⟨(some 69), none, .q (.fa 0 (.t 68))⟩,
 ⟨(some 70), none, .q (.fa 0 (.t 69))⟩,
 ⟨(some 71), none, .q (.fa 1 (.t 70))⟩,
 ⟨none, none, .h (.st 1 (.t 71) (.t 67))⟩])
 (.seq (.reg [⟨(some 72), none, .q (.mov (.t 4))⟩,
 ⟨(some 73), none, .q (.mov (.t 4))⟩,
 ⟨(some 74), none, .q (.nck (.t 73))⟩,
 ⟨(some 75), none, .q (.fa 11 (.t 74))⟩,
 ⟨(some 76), none, .call (.c (.fn 96 [])) [(.t 75), (.c (.i .i64 8))]⟩,
 ⟨(some 77), none, .q (.nck (.t 72))⟩,
 ⟨(some 78), none, .q (.fa 0 (.t 77))⟩,
 ⟨(some 79), none, .q (.fa 0 (.t 78))⟩,
 ⟨(some 80), none, .q (.fa 2 (.t 79))⟩,
 ⟨none, none, .h (.st 1 (.t 80) (.t 76))⟩])
 (.seq (.reg [⟨(some 81), none, .q (.mov (.t 4))⟩,
 ⟨(some 82), none, .q (.mov (.t 4))⟩,
 ⟨(some 83), none, .q (.nck (.t 82))⟩,
 ⟨(some 84), none, .q (.fa 11 (.t 83))⟩,
 ⟨(some 85), none, .call (.c (.fn 96 [])) [(.t 84), (.c (.i .i64 2))]⟩,
 ⟨(some 86), none, .q (.cvi .i64 (.t 85))⟩,
 ⟨(some 87), none, .q (.nck (.t 81))⟩,
 ⟨(some 88), none, .q (.fa 0 (.t 87))⟩,
 ⟨(some 89), none, .q (.fa 0 (.t 88))⟩,
 ⟨(some 90), none, .q (.fa 3 (.t 89))⟩,
 ⟨none, none, .h (.st 1 (.t 90) (.t 86))⟩])
 (.seq (.reg [⟨(some 91), none, .q (.mov (.t 4))⟩,
 ⟨(some 92), none, .q (.mov (.t 4))⟩,
 ⟨(some 93), none, .q (.nck (.t 92))⟩,
 ⟨(some 94), none, .q (.fa 11 (.t 93))⟩,
 ⟨(some 95), none, .call (.c (.fn 96 [])) [(.t 94), (.c (.i .i64 2))]⟩,
 ⟨(some 96), none, .q (.cvi .i64 (.t 95))⟩,
 ⟨(some 97), none, .q (.nck (.t 91))⟩,
 ⟨(some 98), none, .q (.fa 0 (.t 97))⟩,
 ⟨(some 99), none, .q (.fa 4 (.t 98))⟩,
 ⟨none, none, .h (.st 1 (.t 99) (.t 96))⟩])
 (.seq (.reg [⟨(some 100), none, .q (.mov (.t 4))⟩,
 ⟨(some 101), none, .q (.mov (.t 5))⟩,
 ⟨(some 102), none, .q (.bin .shr (.t 101) (.c (.i .u64 2)))⟩,
 ⟨(some 103), none, .q (.bin .and (.t 102) (.c (.i .u8 3)))⟩,
 ⟨(some 104), none, .q (.cvi .i64 (.t 103))⟩,
 ⟨(some 105), none, .q (.nck (.t 100))⟩,
 ⟨(some 106), none, .q (.fa 0 (.t 105))⟩,
 ⟨(some 107), none, .q (.fa 5 (.t 106))⟩,
 ⟨none, none, .h (.st 1 (.t 107) (.t 104))⟩])
 (.seq (.reg [⟨(some 108), none, .q (.mov (.t 4))⟩,
 ⟨(some 109), none, .q (.mov (.t 4))⟩,
 ⟨(some 110), none, .q (.mov (.t 4))⟩,
 ⟨(some 111), none, .q (.mov (.t 5))⟩,
 ⟨(some 112), none, .q (.bin .and (.t 111) (.c (.i .u8 1)))⟩,
 ⟨(some 113), none, .q (.bni .neq (.t 112) (.c (.i .u8 0)))⟩,
 ⟨(some 114), none, .q (.mov (.t 5))⟩,
 ⟨(some 115), none, .q (.bin .and (.t 114) (.c (.i .u8 2)))⟩,
 ⟨(some 116), none, .q (.bni .neq (.t 115) (.c (.i .u8 0)))⟩,
 ⟨(some 117), none, .q (.mov (.t 5))⟩,
 ⟨(some 118), none, .q (.bin .and (.t 117) (.c (.i .u8 64)))⟩,
 ⟨(some 119), none, .q (.bni .neq (.t 118) (.c (.i .u8 0)))⟩,
 ⟨(some 120), none, .q (.nck (.t 108))⟩,
 ⟨(some 121), none, .q (.fa 0 (.t 120))⟩,
 ⟨(some 122), none, .q (.fa 10 (.t 121))⟩,
 ⟨none, none, .h (.st 1 (.t 122) (.t 113))⟩,
 ⟨(some 123), none, .q (.nck (.t 109))⟩,
 ⟨(some 124), none, .q (.fa 0 (.t 123))⟩,
 ⟨(some 125), none, .q (.fa 6 (.t 124))⟩,
 ⟨none, none, .h (.st 1 (.t 125) (.t 116))⟩,
 ⟨(some 126), none, .q (.nck (.t 110))⟩,
 ⟨(some 127), none, .q (.fa 0 (.t 126))⟩,
 ⟨(some 128), none, .q (.fa 7 (.t 127))⟩,
 ⟨none, none, .h (.st 1 (.t 128) (.t 119))⟩])
 (.seq (.reg [⟨(some 129), none, .q (.mov (.t 4))⟩,
 ⟨(some 130), none, .q (.mov (.t 4))⟩,
 ⟨(some 131), none, .q (.mov (.t 5))⟩,
 ⟨(some 132), none, .q (.bin .and (.t 131) (.c (.i .u8 16)))⟩,
 ⟨(some 133), none, .q (.bni .neq (.t 132) (.c (.i .u8 0)))⟩,
 ⟨(some 134), none, .q (.mov (.t 5))⟩,
 ⟨(some 135), none, .q (.bin .and (.t 134) (.c (.i .u8 32)))⟩,
 ⟨(some 136), none, .q (.bni .neq (.t 135) (.c (.i .u8 0)))⟩,
 ⟨(some 137), none, .q (.nck (.t 129))⟩,
 ⟨(some 138), none, .q (.fa 0 (.t 137))⟩,
 ⟨(some 139), none, .q (.fa 8 (.t 138))⟩,
 ⟨none, none, .h (.st 1 (.t 139) (.t 133))⟩,
 ⟨(some 140), none, .q (.nck (.t 130))⟩,
 ⟨(some 141), none, .q (.fa 0 (.t 140))⟩,
 ⟨(some 142), none, .q (.fa 9 (.t 141))⟩,
 ⟨none, none, .h (.st 1 (.t 142) (.t 136))⟩])
 (.seq (.seq (.reg [⟨(some 143), none, .q (.mov (.t 5))⟩,
 ⟨(some 144), none, .q (.bin .and (.t 143) (.c (.i .u8 128)))⟩,
 ⟨(some 145), none, .q (.bni .neq (.t 144) (.c (.i .u8 0)))⟩,
 ⟨(some 146), none, .q (.mov (.t 145))⟩,
 ⟨(some 147), (some (146, false)), .q (.mov (.t 4))⟩,
 ⟨(some 148), (some (146, false)), .q (.nck (.t 147))⟩,
 ⟨(some 149), (some (146, false)), .q (.fa 0 (.t 148))⟩,
 ⟨(some 150), (some (146, false)), .q (.ldn 11 (.t 149))⟩,
 ⟨(some 151), (some (146, false)), .call (.c (.fn 97 [])) [(.t 150)]⟩,
 ⟨(some 152), (some (146, false)), .q (.un .not (.t 151))⟩,
 ⟨(some 153), none, .q (.pick (.t 146) (.c (.b true)) (.t 152))⟩])
 (.cond (.t 153) .dead
 .skip))
 (.seq (.reg [⟨(some 155), none, .q (.mov (.t 4))⟩,
 ⟨(some 156), none, .q (.nck (.t 155))⟩,
 ⟨(some 157), none, .q (.fa 0 (.t 156))⟩,
 ⟨(some 158), none, .q (.ldn 11 (.t 157))⟩,
 ⟨none, none, .h (.st 11 (.t 2) (.t 158))⟩,
 ⟨(some 3), none, .q (.mov (.c (.i .i64 0)))⟩])
 .ret))))))))))))))⟩
def f52 : FnC := ⟨54, [.tmp 6],
 (.seq (.reg [⟨(some 5), none, .a (.box (.t 2))⟩,
 ⟨(some 6), none, .q (.mov (.c .nilsl))⟩])
 (.seq (.dreg [⟨0, ⟨(some 10), none, .q (.mov (.t 0))⟩, [0], none, [], []⟩,
 ⟨1, ⟨(some 11), none, .q (.nck (.t 10))⟩, [10], none, [], [0]⟩,
 ⟨2, ⟨(some 12), none, .q (.fa 0 (.t 11))⟩, [11], none, [], [1, 0]⟩,
 ⟨3, ⟨(some 13), none, .q (.fa 2 (.t 12))⟩, [12], none, [], [2, 1, 0]⟩,
 ⟨4, ⟨(some 14), none, .q (.ld1 (.t 13))⟩, [13], none, [], [3, 2, 1, 0]⟩,
 ⟨5, ⟨(some 15), none, .q (.mov (.t 1))⟩, [1], none, [], []⟩,
 ⟨6, ⟨(some 16), none, .q (.ldn 11 (.t 5))⟩, [5], none, [], []⟩,
 ⟨7, ⟨(some 17), none, .a (.mkSl 11 1 [(.i .u64 0), (.i .u32 0), (.i .u64 0), (.i .i64 0), (.i .i64 0), (.i .i64 0), (.b false), (.b false), (.b false), (.b false), (.b false)] [(0, 11, (.t 16))])⟩, [16], none, [], [6]⟩,
 ⟨8, ⟨(some 18), none, .call (.c (.fn 98 [])) [(.t 14), (.t 15), (.t 17)]⟩, [14, 15, 17], none, [], [4, 5, 7, 3, 2, 1, 0, 6]⟩,
 ⟨9, ⟨(some 9), none, .q (.mov (.t 18))⟩, [18], none, [], [8, 4, 5, 7, 3, 2, 1, 0, 6]⟩,
 ⟨10, ⟨(some 19), none, .q (.ext 0 (.t 9))⟩, [9], none, [], [9, 8, 4, 5, 7, 3, 2, 1, 0, 6]⟩,
 ⟨11, ⟨(some 20), none, .q (.ext 1 (.t 9))⟩, [9], none, [], [9, 8, 4, 5, 7, 3, 2, 1, 0, 6]⟩,
 ⟨12, ⟨(some 7), none, .q (.mov (.t 19))⟩, [19], none, [], [10, 8, 0, 1, 2, 3, 4, 5, 6, 7, 9]⟩,
 ⟨13, ⟨(some 8), none, .q (.mov (.t 20))⟩, [20], none, [], [11, 12, 0, 1, 2, 3, 4, 5, 6, 7, 8, 9, 10]⟩])
 (.seq (.reg [⟨(some 21), none, .q (.mov (.t 0))⟩,
 ⟨(some 22), none, .q (.mov (.t 8))⟩,
 ⟨(some 23), none, .call (.c (.fn 41 [])) [(.t 21), (.t 22)]⟩])
 (.seq (.seq (.reg [⟨(some 24), none, .q (.fa 10 (.t 5))⟩,
 ⟨(some 25), none, .q (.ld1 (.t 24))⟩,
 ⟨(some 26), none, .q (.mov (.t 25))⟩,
 ⟨(some 27), (some (26, true)), .q (.mov (.t 0))⟩,
 ⟨(some 28), (some (26, true)), .q (.nck (.t 27))⟩,
 ⟨(some 29), (some (26, true)), .q (.fa 0 (.t 28))⟩,
 ⟨(some 30), (some (26, true)), .q (.fa 2 (.t 29))⟩,
 ⟨(some 31), (some (26, true)), .q (.ld1 (.t 30))⟩,
 ⟨(some 32), (some (26, true)), .q (.mov (.t 1))⟩,
 ⟨(some 33), (some (26, true)), .call (.c (.fn 14 [])) [(.t 31), (.t 32)]⟩,
 ⟨(some 34), (some (26, true)), .q (.fld 10 none (.t 33))⟩,
 ⟨(some 35), (some (26, true)), .q (.bni .eql (.t 34) (.c (.i .i64 2)))⟩,
 ⟨(some 36), none, .q (.pick (.t 26) (.t 35) (.c (.b false)))⟩])
 (.cond (.t 36) .dead
 .skip))
 (.seq (.reg [⟨(some 51), none, .q (.mov (.t 0))⟩,
 ⟨(some 52), none, .q (.mov (.t 7))⟩,
 ⟨(some 53), none, .call (.c (.fn 42 [])) [(.t 51), (.t 52)]⟩,
 ⟨(some 6), none, .q (.mov (.t 53))⟩])
 .ret)))))⟩
def f54 : FnC := ⟨11, [.cell (some 6) 2],
 (.seq (.reg [⟨(some 2), none, .a (.new [(.i .i64 0), (.i .i64 0), (.i .i64 0), .nilsl, .nilsl, .nilsl])⟩])
 (.seq (.seq (.reg [⟨(some 3), none, .q (.mov (.t 0))⟩,
 ⟨(some 4), none, .q (.eqr false .ptr (.t 3) (.c .nilp))⟩])
 (.cond (.t 4) .dead
 .skip))
 (.seq (.reg [⟨(some 6), none, .q (.mov (.t 0))⟩,
 ⟨(some 7), none, .q (.nck (.t 6))⟩,
 ⟨(some 8), none, .q (.fa 2 (.t 7))⟩,
 ⟨(some 9), none, .q (.ldn 6 (.t 8))⟩,
 ⟨(some 10), none, .call (.c (.fn 105 [])) [(.t 9)]⟩,
 ⟨none, none, .h (.st 6 (.t 2) (.t 10))⟩])
 .ret)))⟩
def f56 : FnC := ⟨38, [.tmp 2, .tmp 3],
 (.seq (.reg [⟨(some 1), none, .a (.box (.t 0))⟩,
 ⟨(some 2), none, .q (.mov (.c .nilsl))⟩,
 ⟨(some 3), none, .q (.mov (.c (.i .i64 0)))⟩])
 (.seq (.seq (.reg [⟨(some 7), none, .q (.ldn 7 (.t 1))⟩,
 ⟨(some 8), none, .call (.c (.fn 93 [])) [(.t 7)]⟩,
 ⟨(some 9), none, .q (.un .not (.t 8))⟩])
 (.cond (.t 9) .dead
 .skip))
 (.seq (.dreg [⟨0, ⟨(some 10), none, .q (.fa 0 (.t 1))⟩, [1], none, [], []⟩,
 ⟨1, ⟨(some 11), none, .q (.ld1 (.t 10))⟩, [10], none, [], [0]⟩,
 ⟨3, ⟨(some 13), none, .q (.fa 1 (.t 1))⟩, [1], none, [], []⟩,
 ⟨4, ⟨(some 14), none, .q (.ld1 (.t 13))⟩, [13], none, [], [2]⟩,
 ⟨2, ⟨(some 12), none, .call (.c (.fn 106 [])) [(.t 11)]⟩, [11], none, [1, 0], [1, 0]⟩,
 ⟨5, ⟨(some 15), none, .call (.c (.fn 106 [])) [(.t 14)]⟩, [14], none, [], [3, 4, 2, 1, 0]⟩,
 ⟨6, ⟨(some 4), none, .a (.new (List.replicate 6 (.i .u8 0)))⟩, [], none, [], []⟩,
 ⟨7, ⟨(some 5), none, .a (.new (List.replicate 6 (.i .u8 0)))⟩, [], none, [], []⟩,
 ⟨8, ⟨none, none, .h (.st 6 (.t 4) (.t 12))⟩, [4, 12], none, [], [6, 4, 5, 0, 1, 7, 3, 2]⟩,
 ⟨9, ⟨none, none, .h (.st 6 (.t 5) (.t 15))⟩, [5, 15], none, [], [7, 5, 8, 0, 1, 4, 2, 3, 6]⟩])
 (.seq (.reg [⟨(some 6), none, .q (.mov (.c .nilsl))⟩])
 (.seq (.seq (.reg [⟨(some 16), none, .q (.fa 2 (.t 1))⟩,
 ⟨(some 17), none, .q (.ld1 (.t 16))⟩])
 (.cond (.t 17) .dead
 .skip))
 (.seq (.dreg [⟨0, ⟨(some 28), none, .q (.sla 6 1 (.t 4) none none none)⟩, [4], none, [], []⟩,
 ⟨1, ⟨(some 29), none, .q (.sla 6 1 (.t 5) none none none)⟩, [5], none, [], []⟩,
 ⟨2, ⟨(some 30), none, .q (.mov (.t 6))⟩, [6], none, [], []⟩,
 ⟨3, ⟨(some 31), none, .q (.fa 5 (.t 1))⟩, [1], none, [], []⟩,
 ⟨4, ⟨(some 32), none, .q (.ld1 (.t 31))⟩, [31], none, [], [3]⟩,
 ⟨6, ⟨(some 34), none, .q (.fa 6 (.t 1))⟩, [1], none, [], []⟩,
 ⟨7, ⟨(some 35), none, .q (.ld1 (.t 34))⟩, [34], none, [], [5]⟩,
 ⟨5, ⟨(some 33), none, .call (.c (.fn 108 [])) [(.t 32)]⟩, [32], none, [6, 5, 4, 1, 0], [4, 3]⟩,
 ⟨8, ⟨(some 36), none, .a (.mkSl 1 5 [.nilsl, .nilsl, .nilsl, .nilsl, .nilsl] [(0, 1, (.t 28)), (1, 1, (.t 29)), (2, 1, (.t 30)), (3, 1, (.t 33)), (4, 1, (.t 35))])⟩, [28, 29, 30, 33, 35], none, [], [0, 1, 2, 7, 6, 4, 3, 5]⟩,
 ⟨9, ⟨(some 37), none, .call (.c (.fn 107 [])) [(.t 36)]⟩, [36], none, [], [8, 7, 0, 1, 2, 6, 4, 3, 5]⟩,
 ⟨10, ⟨(some 2), none, .q (.mov (.t 37))⟩, [37], none, [], [9, 0, 1, 2, 3, 4, 7, 5, 6, 8]⟩,
 ⟨11, ⟨(some 3), none, .q (.mov (.c (.i .i64 0)))⟩, [], none, [], [10, 0, 1, 2, 3, 4, 7, 5, 6, 8, 9]⟩])
 .ret))))))⟩
def f58 : FnC := ⟨8, [.tmp 2],
 (.seq (.reg [⟨(some 2), none, .q (.mov (.c .nilsl))⟩])
 (.seq (.seq (.reg [⟨(some 3), none, .q (.mov (.t 0))⟩,
 ⟨(some 4), none, .q (.eqr false .sl (.t 3) (.c .nilsl))⟩])
 (.cond (.t 4) .dead
 .skip))
 (.seq (.reg [⟨(some 5), none, .a (.mkSl 1 0 [] [])⟩,
 ⟨(some 6), none, .q (.mov (.t 0))⟩,
 ⟨(some 7), none, .h (.app 1 1 (.t 5) (.t 6))⟩,
 ⟨(some 2), none, .q (.mov (.t 7))⟩])
 .ret)))⟩
def f59 : FnC := ⟨73, [.tmp 4, .tmp 5],
 (.seq (.reg [⟨(some 4), none, .q (.mov (.c .nilp))⟩,
 ⟨(some 5), none, .q (.mov (.c (.i .i64 0)))⟩])
 (.seq (.seq (.reg [⟨(some 11), none, .q (.mov (.t 0))⟩,
 ⟨(some 12), none, .call (.c (.fn 110 [])) [(.t 11)]⟩,
 ⟨(some 13), none, .q (.bin .lss (.t 12) (.c (.i .i64 40)))⟩,
 ⟨(some 14), none, .q (.mov (.t 13))⟩,
 ⟨(some 15), (some (14, false)), .q (.mov (.t 1))⟩,
 ⟨(some 16), (some (14, false)), .q (.bin .lss (.t 15) (.c (.i .i64 1)))⟩,
 ⟨(some 17), none, .q (.pick (.t 14) (.c (.b true)) (.t 16))⟩,
 ⟨(some 18), none, .q (.mov (.t 17))⟩,
 ⟨(some 19), (some (18, false)), .q (.mov (.t 1))⟩,
 ⟨(some 20), (some (18, false)), .q (.bin .gtr (.t 19) (.c (.i .i64 8)))⟩,
 ⟨(some 21), none, .q (.pick (.t 18) (.c (.b true)) (.t 20))⟩])
 (.cond (.t 21) .dead
 .skip))
 (.seq (.reg [⟨(some 23), none, .q (.mov (.t 0))⟩,
 ⟨(some 24), none, .q (.mov (.t 1))⟩,
 ⟨(some 25), none, .call (.c (.fn 111 [])) [(.t 23), (.t 24)]⟩,
 ⟨(some 22), none, .q (.mov (.t 25))⟩,
 ⟨(some 26), none, .q (.ext 0 (.t 22))⟩,
 ⟨(some 27), none, .q (.ext 1 (.t 22))⟩,
 ⟨(some 28), none, .q (.ext 2 (.t 22))⟩,
 ⟨(some 6), none, .q (.mov (.t 26))⟩,
 ⟨(some 7), none, .q (.mov (.t 27))⟩,
 ⟨(some 8), none, .q (.mov (.t 28))⟩])
 (.seq (.seq (.reg [⟨(some 29), none, .q (.mov (.t 8))⟩,
 ⟨(some 30), none, .q (.bni .neq (.t 29) (.c (.i .i64 0)))⟩])
 (.cond (.t 30) .dead
 .skip))
 (.seq (.reg [⟨(some 33), none, .q (.mov (.t 7))⟩,
 ⟨(some 34), none, .call (.c (.fn 112 [])) [(.t 33)]⟩,
 ⟨(some 32), none, .q (.mov (.t 34))⟩,
 ⟨(some 35), none, .q (.ext 0 (.t 32))⟩,
 ⟨(some 36), none, .q (.ext 1 (.t 32))⟩,
 ⟨(some 9), none, .a (.new [(.i .i64 0), (.i .i64 0), (.i .i64 0), .nilsl, .nilsl, .nilsl])⟩,
 ⟨none, none, .h (.st 6 (.t 9) (.t 35))⟩,
 ⟨(some 8), none, .q (.mov (.t 36))⟩])
 (.seq (.seq (.reg [⟨(some 37), none, .q (.mov (.t 8))⟩,
 ⟨(some 38), none, .q (.bni .neq (.t 37) (.c (.i .i64 0)))⟩,
 ⟨(some 39), none, .q (.mov (.t 38))⟩,
 ⟨(some 40), (some (39, false)), .q (.fa 3 (.t 9))⟩,
 ⟨(some 41), (some (39, false)), .q (.ld1 (.t 40))⟩,
 ⟨(some 42), (some (39, false)), .q (.lenL (.t 41))⟩,
 ⟨(some 43), (some (39, false)), .q (.mov (.t 1))⟩,
 ⟨(some 44), (some (39, false)), .q (.bni .neq (.t 42) (.t 43))⟩,
 ⟨(some 45), none, .q (.pick (.t 39) (.c (.b true)) (.t 44))⟩])
 (.cond (.t 45) .dead
 .skip))
 (.seq (.reg [⟨(some 47), none, .q (.mov (.t 0))⟩,
 ⟨(some 48), none, .q (.mov (.t 0))⟩,
 ⟨(some 49), none, .call (.c (.fn 110 [])) [(.t 48)]⟩,
 ⟨(some 50), none, .q (.mov (.t 6))⟩,
 ⟨(some 51), none, .call (.c (.fn 113 [])) [(.t 47), (.c (.i .i64 32)), (.t 49), (.t 50)]⟩,
 ⟨(some 46), none, .q (.mov (.t 51))⟩,
 ⟨(some 52), none, .q (.ext 0 (.t 46))⟩,
 ⟨(some 53), none, .q (.ext 1 (.t 46))⟩,
 ⟨(some 10), none, .q (.mov (.t 52))⟩,
 ⟨(some 8), none, .q (.mov (.t 53))⟩])
 (.seq (.seq (.reg [⟨(some 54), none, .q (.mov (.t 8))⟩,
 ⟨(some 55), none, .q (.bni .neq (.t 54) (.c (.i .i64 0)))⟩])
 (.cond (.t 55) .dead
 .skip))
 (.seq (.seq (.dreg [⟨0, ⟨(some 58), none, .q (.ldn 6 (.t 9))⟩, [9], none, [], []⟩,
 ⟨1, ⟨(some 59), none, .q (.mov (.t 10))⟩, [10], none, [], []⟩,
 ⟨2, ⟨(some 60), none, .call (.c (.fn 115 [])) [(.t 59)]⟩, [59], none, [1], [1]⟩,
 ⟨3, ⟨(some 61), none, .call (.c (.fn 114 [])) [(.t 58), (.t 60)]⟩, [58, 60], none, [], [0, 2, 1]⟩,
 ⟨4, ⟨(some 57), none, .q (.mov (.t 61))⟩, [61], none, [], [3, 0, 2, 1]⟩,
 ⟨5, ⟨(some 62), none, .q (.ext 0 (.t 57))⟩, [57], none, [], [4, 3, 0, 2, 1]⟩,
 ⟨6, ⟨(some 63), none, .q (.ext 1 (.t 57))⟩, [57], none, [], [4, 3, 0, 2, 1]⟩,
 ⟨7, ⟨none, none, .h (.st 6 (.t 9) (.t 62))⟩, [9, 62], none, [0], [5, 3, 0, 1, 2, 4]⟩,
 ⟨8, ⟨(some 8), none, .q (.mov (.t 63))⟩, [63], none, [], [6, 7, 0, 1, 2, 3, 4, 5]⟩])
 (.seq (.reg [⟨(some 64), none, .q (.mov (.t 8))⟩,
 ⟨(some 65), none, .q (.bni .neq (.t 64) (.c (.i .i64 0)))⟩])
 (.cond (.t 65) .dead
 .skip)))
 (.seq (.reg [⟨(some 67), none, .q (.mov (.t 10))⟩,
 ⟨(some 68), none, .q (.mov (.t 0))⟩,
 ⟨(some 69), none, .q (.ldn 6 (.t 9))⟩,
 ⟨(some 70), none, .q (.mov (.t 6))⟩,
 ⟨(some 71), none, .q (.build [.nilp, .nilp, (.i .i64 0), (.i .i64 0), (.i .i64 0), .nilsl, .nilsl, .nilsl, (.i .u32 0)] [(0, 1, (.t 67)), (1, 1, (.t 68)), (2, 6, (.t 69)), (8, 1, (.t 70))])⟩,
 ⟨(some 72), none, .a (.box (.t 71))⟩,
 ⟨(some 4), none, .q (.mov (.t 72))⟩,
 ⟨(some 5), none, .q (.mov (.c (.i .i64 0)))⟩])
 .ret))))))))))⟩
def f60 : FnC := ⟨41, [.tmp 8, .tmp 9],
 (.seq (.reg [⟨(some 8), none, .q (.mov (.c .nilp))⟩,
 ⟨(some 9), none, .q (.mov (.c (.i .i64 0)))⟩])
 (.seq (.reg [⟨(some 12), none, .q (.mov (.t 1))⟩,
 ⟨(some 13), none, .q (.mov (.t 2))⟩,
 ⟨(some 14), none, .q (.build [(.i .i64 0), (.i .i64 0)] [(0, 1, (.t 12)), (1, 1, (.t 13))])⟩,
 ⟨(some 10), none, .a (.new [(.i .i64 0), (.i .i64 0)])⟩,
 ⟨none, none, .h (.st 2 (.t 10) (.t 14))⟩])
 (.seq (.seq (.reg [⟨(some 15), none, .q (.ldn 2 (.t 10))⟩,
 ⟨(some 16), none, .call (.c (.fn 116 [])) [(.t 15)]⟩,
 ⟨(some 17), none, .q (.un .not (.t 16))⟩,
 ⟨(some 18), none, .q (.mov (.t 17))⟩,
 ⟨(some 19), (some (18, false)), .q (.mov (.t 3))⟩,
 ⟨(some 20), (some (18, false)), .q (.lenL (.t 19))⟩,
 ⟨(some 21), (some (18, false)), .q (.bin .lss (.t 20) (.c (.i .i64 1)))⟩,
 ⟨(some 22), none, .q (.pick (.t 18) (.c (.b true)) (.t 21))⟩,
 ⟨(some 23), none, .q (.mov (.t 22))⟩,
 ⟨(some 24), (some (23, false)), .q (.mov (.t 3))⟩,
 ⟨(some 25), (some (23, false)), .q (.lenL (.t 24))⟩,
 ⟨(some 26), (some (23, false)), .q (.bin .gtr (.t 25) (.c (.i .i64 8)))⟩,
 ⟨(some 27), none, .q (.pick (.t 23) (.c (.b true)) (.t 26))⟩])
 (.cond (.t 27) .dead
 .skip))
 (.seq (.dreg [⟨0, ⟨(some 28), none, .q (.ldn 2 (.t 10))⟩, [10], none, [], []⟩,
 ⟨1, ⟨(some 29), none, .q (.mov (.t 0))⟩, [0], none, [], []⟩,
 ⟨2, ⟨(some 30), none, .q (.mov (.t 3))⟩, [3], none, [], []⟩,
 ⟨3, ⟨(some 31), none, .q (.lenL (.t 30))⟩, [30], none, [], [2]⟩,
 ⟨4, ⟨(some 32), none, .a (.mk 13 96 [(.b false), (.i .u32 0), (.b false), (.i .u64 0), (.i .u32 0), (.i .u64 0), (.i .i64 0), (.i .i64 0), (.i .i64 0), (.i .i64 0), (.i .i64 0), (.i .i64 0), (.b false)] (.t 31) (.t 31))⟩, [31], none, [], [3, 2]⟩,
 ⟨5, ⟨(some 33), none, .q (.build [(.i .i64 0), (.i .i64 0), (.i .u64 0), .nilsl, (.i .u64 0), (.i .u32 0), (.i .u64 0), (.i .i64 0), (.i .i64 0), (.i .i64 0), .nilsl, .nilsl] [(0, 2, (.t 28)), (2, 1, (.t 29)), (3, 1, (.t 32))])⟩, [28, 29, 32], none, [], [0, 1, 4, 3, 2]⟩,
 ⟨6, ⟨(some 34), none, .a (.box (.t 33))⟩, [33], none, [], [5, 0, 1, 4, 3, 2]⟩,
 ⟨7, ⟨(some 11), none, .q (.mov (.t 34))⟩, [34], none, [], [6, 0, 1, 2, 3, 4, 5]⟩])
 (.seq (.reg [⟨(some 35), none, .q (.mov (.t 11))⟩,
 ⟨(some 36), none, .q (.mov (.t 3))⟩,
 ⟨(some 37), none, .call (.c (.fn 117 [])) [(.t 35), (.t 36)]⟩])
 (.seq (.reg [⟨(some 38), none, .q (.mov (.t 11))⟩,
 ⟨(some 39), none, .call (.c (.fn 72 [])) [(.t 38)]⟩])
 (.seq (.reg [⟨(some 40), none, .q (.mov (.t 11))⟩,
 ⟨(some 8), none, .q (.mov (.t 40))⟩,
 ⟨(some 9), none, .q (.mov (.c (.i .i64 0)))⟩])
 .ret)))))))⟩
def f61 : FnC := ⟨12, [.tmp 4],
 (.seq (.reg [⟨(some 4), none, .q (.mov (.c (.i .u64 0)))⟩])
 (.seq (.reg [⟨(some 5), none, .q (.mov (.t 0))⟩,
 ⟨(some 6), none, .q (.cvi .u64 (.t 5))⟩,
 ⟨(some 7), none, .q (.bin .rem (.t 6) (.c (.i .u64 65536)))⟩,
 ⟨(some 8), none, .q (.bin .shl (.t 7) (.c (.i .u64 48)))⟩,
 ⟨(some 9), none, .q (.mov (.t 1))⟩,
 ⟨(some 10), none, .q (.bin .rem (.t 9) (.c (.i .u64 281474976710656)))⟩,
 ⟨(some 11), none, .q (.bin .or (.t 8) (.t 10))⟩,
 ⟨(some 4), none, .q (.mov (.t 11))⟩])
 .ret))⟩
def f62 : FnC := ⟨14, [.tmp 2, .tmp 3],
 (.seq (.reg [⟨(some 2), none, .q (.mov (.c .nilp))⟩,
 ⟨(some 3), none, .q (.mov (.c (.i .i64 0)))⟩])
 (.seq (.seq (.reg [⟨(some 4), none, .q (.mov (.t 0))⟩,
 ⟨(some 5), none, .q (.bin .lss (.t 4) (.c (.i .i64 1)))⟩,
 ⟨(some 6), none, .q (.mov (.t 5))⟩,
 ⟨(some 7), (some (6, false)), .q (.mov (.t 0))⟩,
 ⟨(some 8), (some (6, false)), .q (.bin .gtr (.t 7) (.c (.i .i64 8)))⟩,
 ⟨(some 9), none, .q (.pick (.t 6) (.c (.b true)) (.t 8))⟩])
 (.cond (.t 9) .dead
 .skip))
 (.seq (.reg [⟨(some 10), none, .q (.mov (.t 0))⟩,
 ⟨(some 11), none, .a (.mk 1 8 [(.i .i64 0)] (.t 10) (.t 10))⟩,
 ⟨(some 12), none, .q (.build [.nilsl] [(0, 1, (.t 11))])⟩,
 ⟨(some 13), none, .a (.box (.t 12))⟩,
 ⟨(some 2), none, .q (.mov (.t 13))⟩,
 ⟨(some 3), none, .q (.mov (.c (.i .i64 0)))⟩])
 .ret)))⟩
def f63 : FnC := ⟨3, [.tmp 0],
 (.seq (.reg [⟨(some 0), none, .q (.mov (.c .nilp))⟩])
 (.seq (.reg [⟨(some 1), none, .q (.build [.nilsl] [])⟩,
 ⟨(some 2), none, .a (.box (.t 1))⟩,
 ⟨(some 0), none, .q (.mov (.t 2))⟩])
 .ret))⟩
def f64 : FnC := ⟨4, [.tmp 0],
 (.seq (.reg [⟨(some 0), none, .q (.mov (.c .nilp))⟩])
 (.seq (.reg [⟨(some 1), none, .a .mkm⟩,
 ⟨(some 2), none, .q (.build [(.i .i64 0), .nilm, .nilsl] [(1, 1, (.t 1))])⟩,
 ⟨(some 3), none, .a (.box (.t 2))⟩,
 ⟨(some 0), none, .q (.mov (.t 3))⟩])
 .ret))⟩
def f65 : FnC := ⟨27, [],
 (.seq (.reg [⟨(some 2), none, .a (.box (.t 0))⟩])
 (.seq (.seq (.reg [⟨(some 6), none, .q (.ld1 (.t 2))⟩,
 ⟨(some 7), none, .q (.eqr false .ptr (.t 6) (.c .nilp))⟩])
 (.cond (.t 7) .dead
 .skip))
 (.seq (.reg [⟨(some 8), none, .q (.ld1 (.t 2))⟩,
 ⟨(some 9), none, .a .mkm⟩,
 ⟨(some 10), none, .q (.nck (.t 8))⟩,
 ⟨(some 11), none, .q (.fa 1 (.t 10))⟩,
 ⟨none, none, .h (.st 1 (.t 11) (.t 9))⟩])
 (.seq (.reg [⟨(some 12), none, .q (.mov (.t 1))⟩,
 ⟨(some 13), none, .call (.c (.fn 118 [])) [(.t 12)]⟩])
 (.block 0 (.rf (.t 13) 65))))))⟩
def y65 : Rd := ⟨[14, 15],
 .dead,
 .dead⟩
def f66 : FnC := ⟨19, [.tmp 4],
 (.seq (.reg [⟨(some 3), none, .a (.box (.t 1))⟩,
 ⟨(some 4), none, .q (.mov (.c (.i .i64 0)))⟩])
 (.seq (.seq (.reg [⟨(some 6), none, .q (.mov (.t 0))⟩,
 ⟨(some 7), none, .q (.lenL (.t 6))⟩,
 ⟨(some 8), none, .q (.mov (.c (.i .i64 0)))⟩])
 (.block 0 (.loop (.seq (.reg [⟨(some 9), none, .q (.bin .lss (.t 8) (.t 7))⟩])
 (.seq (.cond (.t 9) .skip
 (.exit 0))
 (.seq (.block 1 (.seq (.reg [⟨(some 10), none, .q (.mov (.t 8))⟩,
 ⟨(some 5), none, .q (.mov (.t 10))⟩])
 (.seq (.dreg [⟨0, ⟨(some 11), none, .q (.ldn 2 (.t 3))⟩, [3], none, [], []⟩,
 ⟨1, ⟨(some 12), none, .q (.mov (.t 0))⟩, [0], none, [], []⟩,
 ⟨2, ⟨(some 13), none, .q (.mov (.t 5))⟩, [5], none, [], []⟩,
 ⟨3, ⟨(some 14), none, .q (.ia 2 (.t 12) (.t 13))⟩, [12, 13], none, [], [1, 2]⟩,
 ⟨4, ⟨(some 15), none, .q (.ldn 2 (.t 14))⟩, [14], none, [], [3, 1, 2]⟩,
 ⟨5, ⟨(some 16), none, .q (.eqs false [.int, .int] (.t 11) (.t 15))⟩, [11, 15], none, [], [0, 4, 3, 1, 2]⟩])
 (.cond (.t 16) (.seq (.reg [⟨(some 17), none, .q (.mov (.t 5))⟩,
 ⟨(some 4), none, .q (.mov (.t 17))⟩])
 .ret)
 .skip))))
 (.reg [⟨(some 18), none, .q (.bin .add (.t 8) (.c (.i .i64 1)))⟩,
 ⟨(some 8), none, .q (.mov (.t 18))⟩])))))))
 (.seq (.reg [⟨(some 4), none, .q (.mov (.c (.i .i64 (-1))))⟩])
 .ret)))⟩
def f67 : FnC := ⟨42, [.tmp 4],
 (.seq (.reg [⟨(some 4), none, .q (.mov (.c .nilsl))⟩])
 (.seq (.reg [⟨(some 8), none, .q (.mov (.t 0))⟩,
 ⟨(some 9), none, .q (.mov (.t 1))⟩,
 ⟨(some 10), none, .call (.c (.fn 119 [])) [(.t 8), (.t 9)]⟩,
 ⟨(some 5), none, .q (.mov (.t 10))⟩])
 (.seq (.seq (.reg [⟨(some 11), none, .q (.mov (.t 5))⟩,
 ⟨(some 12), none, .q (.bni .eql (.t 11) (.c (.i .i64 (-1))))⟩])
 (.cond (.t 12) (.seq (.reg [⟨(some 13), none, .q (.mov (.t 0))⟩,
 ⟨(some 4), none, .q (.mov (.t 13))⟩])
 .ret)
 .dead))
 .dead)))⟩
def f69 : FnC := ⟨10, [.tmp 2],
 (.seq (.reg [⟨(some 2), none, .q (.mov (.c (.i .i64 0)))⟩])
 (.seq (.seq (.reg [⟨(some 3), none, .q (.mov (.t 0))⟩,
 ⟨(some 4), none, .q (.eqr false .ptr (.t 3) (.c .nilp))⟩])
 (.cond (.t 4) .dead
 .skip))
 (.seq (.reg [⟨(some 5), none, .q (.mov (.t 0))⟩,
 ⟨(some 6), none, .q (.nck (.t 5))⟩,
 ⟨(some 7), none, .q (.fa 0 (.t 6))⟩,
 ⟨(some 8), none, .q (.ld1 (.t 7))⟩,
 ⟨(some 9), none, .q (.lenL (.t 8))⟩,
 ⟨(some 2), none, .q (.mov (.t 9))⟩])
 .ret)))⟩
def f70 : FnC := ⟨23, [.tmp 2],
 (.seq (.reg [⟨(some 2), none, .q (.mov (.c .nilsl))⟩])
 (.seq (.reg [⟨(some 3), none, .q (.mov (.c .nilsl))⟩])
 (.seq (.seq (.reg [⟨(some 6), none, .q (.mov (.t 0))⟩,
 ⟨(some 7), none, .q (.nck (.t 6))⟩,
 ⟨(some 8), none, .q (.fa 3 (.t 7))⟩,
 ⟨(some 9), none, .q (.ld1 (.t 8))⟩,
 ⟨(some 10), none, .q (.lenL (.t 9))⟩,
 ⟨(some 11), none, .q (.mov (.c (.i .i64 0)))⟩])
 (.block 0 (.loop (.seq (.reg [⟨(some 12), none, .q (.bin .lss (.t 11) (.t 10))⟩])
 (.seq (.cond (.t 12) .skip
 (.exit 0))
 (.seq (.block 1 (.seq (.reg [⟨(some 13), none, .q (.ia 13 (.t 9) (.t 11))⟩,
 ⟨(some 14), none, .q (.ldn 13 (.t 13))⟩,
 ⟨(some 5), none, .a (.new [(.b false), (.i .u32 0), (.b false), (.i .u64 0), (.i .u32 0), (.i .u64 0), (.i .i64 0), (.i .i64 0), (.i .i64 0), (.i .i64 0), (.i .i64 0), (.i .i64 0), (.b false)])⟩,
 ⟨none, none, .h (.st 13 (.t 5) (.t 14))⟩])
 (.reg [⟨(some 15), none, .q (.mov (.t 3))⟩,
 ⟨(some 16), none, .q (.fa 10 (.t 5))⟩,
 ⟨(some 17), none, .q (.ld1 (.t 16))⟩,
 ⟨(some 18), none, .q (.bni .eql (.t 17) (.c (.i .i64 2)))⟩,
 ⟨(some 19), none, .a (.mkSl 1 1 [(.b false)] [(0, 1, (.t 18))])⟩,
 ⟨(some 20), none, .h (.app 1 1 (.t 15) (.t 19))⟩,
 ⟨(some 3), none, .q (.mov (.t 20))⟩])))
 (.reg [⟨(some 21), none, .q (.bin .add (.t 11) (.c (.i .i64 1)))⟩,
 ⟨(some 11), none, .q (.mov (.t 21))⟩])))))))
 (.seq (.reg [⟨(some 22), none, .q (.mov (.t 3))⟩,
 ⟨(some 2), none, .q (.mov (.t 22))⟩])
 .ret))))⟩
def f71 : FnC := ⟨26, [.tmp 2],
 (.seq (.reg [⟨(some 2), none, .q (.mov (.c (.b false)))⟩])
 (.seq (.seq (.reg [⟨(some 3), none, .q (.mov (.t 0))⟩,
 ⟨(some 4), none, .q (.eqr false .ptr (.t 3) (.c .nilp))⟩,
 ⟨(some 5), none, .q (.mov (.t 4))⟩,
 ⟨(some 6), (some (5, false)), .q (.mov (.t 0))⟩,
 ⟨(some 7), (some (5, false)), .q (.nck (.t 6))⟩,
 ⟨(some 8), (some (5, false)), .q (.fa 0 (.t 7))⟩,
 ⟨(some 9), (some (5, false)), .q (.ld1 (.t 8))⟩,
 ⟨(some 10), (some (5, false)), .q (.un .not (.t 9))⟩,
 ⟨(some 11), none, .q (.pick (.t 5) (.c (.b true)) (.t 10))⟩])
 (.cond (.t 11) (.seq (.reg [⟨(some 2), none, .q (.mov (.c (.b false)))⟩])
 .ret)
 .dead))
 .dead))⟩
def f72 : FnC := ⟨42, [],
 (.seq (.dreg [⟨0, ⟨(some 3), none, .q (.mov (.t 0))⟩, [0], none, [], []⟩,
 ⟨1, ⟨(some 4), none, .q (.mov (.t 0))⟩, [0], none, [], []⟩,
 ⟨2, ⟨(some 5), none, .q (.nck (.t 4))⟩, [4], none, [], [1]⟩,
 ⟨3, ⟨(some 6), none, .q (.fa 2 (.t 5))⟩, [5], none, [], [2, 1]⟩,
 ⟨4, ⟨(some 7), none, .q (.ld1 (.t 6))⟩, [6], none, [], [3, 2, 1]⟩,
 ⟨5, ⟨(some 8), none, .q (.mov (.t 0))⟩, [0], none, [], []⟩,
 ⟨6, ⟨(some 9), none, .call (.c (.fn 122 [])) [(.t 8)]⟩, [8], none, [5, 4, 3, 2, 1], [5]⟩,
 ⟨7, ⟨(some 10), none, .call (.c (.fn 121 [])) [(.t 7), (.t 9)]⟩, [7, 9], none, [6], [4, 6, 3, 2, 1, 5]⟩,
 ⟨8, ⟨(some 11), none, .q (.nck (.t 3))⟩, [3], none, [], [0, 1, 2, 3, 4, 5, 6, 7]⟩,
 ⟨9, ⟨(some 12), none, .q (.fa 4 (.t 11))⟩, [11], none, [], [8, 0, 1, 2, 3, 4, 5, 6, 7]⟩,
 ⟨10, ⟨none, none, .h (.st 8 (.t 12) (.t 10))⟩, [12, 10], none, [], [9, 7, 0, 1, 2, 3, 4, 5, 6, 8]⟩])
 (.seq (.reg [⟨(some 13), none, .q (.mov (.t 0))⟩,
 ⟨(some 14), none, .q (.nck (.t 13))⟩,
 ⟨(some 15), none, .q (.fa 3 (.t 14))⟩,
 ⟨(some 16), none, .q (.ld1 (.t 15))⟩,
 ⟨(some 17), none, .q (.lenL (.t 16))⟩,
 ⟨(some 18), none, .q (.mov (.c (.i .i64 0)))⟩])
 (.block 0 (.loop (.seq (.reg [⟨(some 19), none, .q (.bin .lss (.t 18) (.t 17))⟩])
 (.seq (.cond (.t 19) .skip
 (.exit 0))
 (.seq (.block 1 (.seq (.reg [⟨(some 20), none, .q (.mov (.t 18))⟩,
 ⟨(some 2), none, .q (.mov (.t 20))⟩])
 (.dreg [⟨0, ⟨(some 21), none, .q (.mov (.t 0))⟩, [0], none, [], []⟩,
 ⟨1, ⟨(some 22), none, .q (.nck (.t 21))⟩, [21], none, [], [0]⟩,
 ⟨2, ⟨(some 23), none, .q (.fa 3 (.t 22))⟩, [22], none, [], [1, 0]⟩,
 ⟨3, ⟨(some 24), none, .q (.ld1 (.t 23))⟩, [23], none, [], [2, 1, 0]⟩,
 ⟨4, ⟨(some 25), none, .q (.mov (.t 2))⟩, [2], none, [], []⟩,
 ⟨5, ⟨(some 26), none, .q (.ia 13 (.t 24) (.t 25))⟩, [24, 25], none, [], [3, 4, 2, 1, 0]⟩,
 ⟨6, ⟨(some 27), none, .q (.mov (.t 0))⟩, [0], none, [], []⟩,
 ⟨7, ⟨(some 28), none, .q (.nck (.t 27))⟩, [27], none, [], [6]⟩,
 ⟨8, ⟨(some 29), none, .q (.fa 4 (.t 28))⟩, [28], none, [], [7, 6]⟩,
 ⟨9, ⟨(some 30), none, .q (.fa 6 (.t 29))⟩, [29], none, [], [8, 7, 6]⟩,
 ⟨10, ⟨(some 31), none, .q (.ld1 (.t 30))⟩, [30], none, [], [9, 8, 7, 6]⟩,
 ⟨11, ⟨(some 32), none, .q (.mov (.t 2))⟩, [2], none, [], []⟩,
 ⟨12, ⟨(some 33), none, .q (.ia 1 (.t 31) (.t 32))⟩, [31, 32], none, [], [10, 11, 9, 8, 7, 6]⟩,
 ⟨13, ⟨(some 34), none, .q (.ld1 (.t 33))⟩, [33], none, [], [12, 10, 11, 9, 8, 7, 6]⟩,
 ⟨14, ⟨(some 35), none, .q (.mov (.t 0))⟩, [0], none, [], []⟩,
 ⟨15, ⟨(some 36), none, .q (.nck (.t 35))⟩, [35], none, [], [14]⟩,
 ⟨16, ⟨(some 37), none, .q (.fa 0 (.t 36))⟩, [36], none, [], [15, 14]⟩,
 ⟨17, ⟨(some 38), none, .q (.fa 1 (.t 37))⟩, [37], none, [], [16, 15, 14]⟩,
 ⟨18, ⟨(some 39), none, .q (.ld1 (.t 38))⟩, [38], none, [], [17, 16, 15, 14]⟩,
 ⟨19, ⟨(some 40), none, .call (.c (.fn 123 [])) [(.t 26), (.t 34), (.t 39)]⟩, [26, 34, 39], none, [], [5, 13, 18, 3, 4, 2, 1, 0, 12, 10, 11, 9, 8, 7, 6, 17, 16, 15, 14]⟩])))
 (.reg [⟨(some 41), none, .q (.bin .add (.t 18) (.c (.i .i64 1)))⟩,
 ⟨(some 18), none, .q (.mov (.t 41))⟩]))))))))⟩
def f73 : FnC := ⟨43, [.tmp 4],
 (.seq (.reg [⟨(some 4), none, .q (.mov (.c (.b false)))⟩])
 (.seq (.seq (.reg [⟨(some 5), none, .q (.mov (.t 0))⟩,
 ⟨(some 6), none, .call (.c (.fn 124 [])) [(.t 5)]⟩,
 ⟨(some 7), none, .q (.un .not (.t 6))⟩,
 ⟨(some 8), none, .q (.mov (.t 7))⟩,
 ⟨(some 9), (some (8, false)), .q (.mov (.t 0))⟩,
 ⟨(some 10), (some (8, false)), .q (.nck (.t 9))⟩,
 ⟨(some 11), (some (8, false)), .q (.fa 10 (.t 10))⟩,
 ⟨(some 12), (some (8, false)), .q (.ld1 (.t 11))⟩,
 ⟨(some 13), (some (8, false)), .q (.bni .eql (.t 12) (.c (.i .i64 2)))⟩,
 ⟨(some 14), none, .q (.pick (.t 8) (.c (.b true)) (.t 13))⟩])
 (.cond (.t 14) .dead
 .skip))
 (.seq (.seq (.reg [⟨(some 15), none, .q (.mov (.t 0))⟩,
 ⟨(some 16), none, .q (.nck (.t 15))⟩,
 ⟨(some 17), none, .q (.fa 11 (.t 16))⟩,
 ⟨(some 18), none, .q (.ld1 (.t 17))⟩,
 ⟨(some 19), none, .q (.bin .gtr (.t 18) (.c (.i .i64 1)))⟩])
 (.cond (.t 19) (.seq (.reg [⟨(some 20), none, .q (.mov (.t 0))⟩,
 ⟨(some 21), none, .q (.nck (.t 20))⟩,
 ⟨(some 22), none, .q (.fa 11 (.t 21))⟩,
 ⟨(some 23), none, .q (.ld1 (.t 22))⟩,
 ⟨(some 24), none, .q (.bin .sub (.t 23) (.c (.i .i64 1)))⟩,
 ⟨(some 25), none, .q (.nck (.t 20))⟩,
 ⟨(some 26), none, .q (.fa 11 (.t 25))⟩,
 ⟨none, none, .h (.st 1 (.t 26) (.t 24))⟩])
 (.seq (.reg [⟨(some 4), none, .q (.mov (.c (.b false)))⟩])
 .ret))
 .dead))
 .dead)))⟩
def f74 : FnC := ⟨39, [.cell (some 11) 4],
 (.seq (.reg [⟨(some 4), none, .a (.new [(.i .u64 0), (.i .u32 0), (.i .u64 0), (.i .i64 0), (.i .i64 0), (.i .i64 0), (.b false), (.b false), (.b false), (.b false), (.b false)])⟩])
 (.seq (.reg [⟨(some 7), none, .q (.mov (.t 0))⟩,
 ⟨(some 8), none, .q (.nck (.t 7))⟩,
 ⟨(some 9), none, .q (.fa 3 (.t 8))⟩,
 ⟨(some 10), none, .q (.ld1 (.t 9))⟩,
 ⟨(some 11), none, .q (.mov (.t 1))⟩,
 ⟨(some 12), none, .q (.ia 13 (.t 10) (.t 11))⟩,
 ⟨(some 13), none, .q (.ldn 13 (.t 12))⟩,
 ⟨(some 5), none, .a (.new [(.b false), (.i .u32 0), (.b false), (.i .u64 0), (.i .u32 0), (.i .u64 0), (.i .i64 0), (.i .i64 0), (.i .i64 0), (.i .i64 0), (.i .i64 0), (.i .i64 0), (.b false)])⟩,
 ⟨none, none, .h (.st 13 (.t 5) (.t 13))⟩])
 (.seq (.reg [⟨(some 14), none, .q (.fa 9 (.t 5))⟩,
 ⟨(some 15), none, .q (.ld1 (.t 14))⟩,
 ⟨(some 6), none, .q (.mov (.t 15))⟩])
 (.seq (.seq (.reg [⟨(some 16), none, .q (.mov (.t 6))⟩,
 ⟨(some 17), none, .q (.bni .eql (.t 16) (.c (.i .i64 4)))⟩])
 (.cond (.t 17) .dead
 .skip))
 (.seq (.dreg [⟨0, ⟨(some 18), none, .q (.mov (.t 0))⟩, [0], none, [], []⟩,
 ⟨1, ⟨(some 19), none, .q (.nck (.t 18))⟩, [18], none, [], [0]⟩,
 ⟨2, ⟨(some 20), none, .q (.fa 4 (.t 19))⟩, [19], none, [], [1, 0]⟩,
 ⟨3, ⟨(some 21), none, .q (.fa 7 (.t 20))⟩, [20], none, [], [2, 1, 0]⟩,
 ⟨4, ⟨(some 22), none, .q (.ld1 (.t 21))⟩, [21], none, [], [3, 2, 1, 0]⟩,
 ⟨5, ⟨(some 23), none, .q (.mov (.t 1))⟩, [1], none, [], []⟩,
 ⟨6, ⟨(some 24), none, .q (.ia 4 (.t 22) (.t 23))⟩, [22, 23], none, [], [4, 5, 3, 2, 1, 0]⟩,
 ⟨7, ⟨(some 25), none, .q (.ldn 4 (.t 24))⟩, [24], none, [], [6, 4, 5, 3, 2, 1, 0]⟩,
 ⟨8, ⟨(some 26), none, .q (.mov (.t 0))⟩, [0], none, [], []⟩,
 ⟨9, ⟨(some 27), none, .q (.nck (.t 26))⟩, [26], none, [], [8]⟩,
 ⟨10, ⟨(some 28), none, .q (.fa 4 (.t 27))⟩, [27], none, [], [9, 8]⟩,
 ⟨11, ⟨(some 29), none, .q (.fa 5 (.t 28))⟩, [28], none, [], [10, 9, 8]⟩,
 ⟨12, ⟨(some 30), none, .q (.ld1 (.t 29))⟩, [29], none, [], [11, 10, 9, 8]⟩,
 ⟨13, ⟨(some 31), none, .q (.mov (.t 6))⟩, [6], none, [], []⟩,
 ⟨14, ⟨(some 32), none, .q (.fa 10 (.t 5))⟩, [5], none, [], []⟩,
 ⟨15, ⟨(some 33), none, .q (.ld1 (.t 32))⟩, [32], none, [], [14]⟩,
 ⟨16, ⟨(some 34), none, .q (.bni .neq (.t 33) (.c (.i .i64 0)))⟩, [33], none, [], [15, 14]⟩,
 ⟨17, ⟨(some 35), none, .q (.fa 10 (.t 5))⟩, [5], none, [], []⟩,
 ⟨18, ⟨(some 36), none, .q (.ld1 (.t 35))⟩, [35], none, [], [17]⟩,
 ⟨19, ⟨(some 37), none, .q (.bni .eql (.t 36) (.c (.i .i64 2)))⟩, [36], none, [], [18, 17]⟩,
 ⟨20, ⟨(some 38), none, .q (.build [(.i .u64 0), (.i .u32 0), (.i .u64 0), (.i .i64 0), (.i .i64 0), (.i .i64 0), (.b false), (.b false), (.b false), (.b false), (.b false)] [(0, 4, (.t 25)), (4, 1, (.t 30)), (5, 1, (.t 31)), (8, 1, (.t 34)), (9, 1, (.t 37))])⟩, [25, 30, 31, 34, 37], none, [], [7, 12, 13, 16, 19, 6, 4, 5, 3, 2, 1, 0, 11, 10, 9, 8, 15, 14, 18, 17]⟩,
 ⟨21, ⟨none, none, .h (.st 11 (.t 4) (.t 38))⟩, [4, 38], none, [], [20, 0, 1, 2, 3, 4, 5, 6, 7, 8, 9, 10, 11, 12, 13, 14, 15, 16, 17, 18, 19]⟩])
 .ret)))))⟩
def f75 : FnC := ⟨28, [.tmp 4],
 (.seq (.reg [⟨(some 4), none, .q (.mov (.c .nilsl))⟩])
 (.seq (.reg [⟨(some 5), none, .q (.mov (.c .nilsl))⟩])
 (.seq (.seq (.reg [⟨(some 8), none, .q (.mov (.t 0))⟩,
 ⟨(some 9), none, .call (.c (.fn 70 [])) [(.t 8)]⟩,
 ⟨(some 10), none, .q (.lenL (.t 9))⟩,
 ⟨(some 11), none, .q (.mov (.c (.i .i64 0)))⟩])
 (.block 0 (.loop (.seq (.reg [⟨(some 12), none, .q (.bin .lss (.t 11) (.t 10))⟩])
 (.seq (.cond (.t 12) .skip
 (.exit 0))
 (.seq (.block 1 (.seq (.reg [⟨(some 13), none, .q (.mov (.t 11))⟩,
 ⟨(some 14), none, .q (.ia 1 (.t 9) (.t 11))⟩,
 ⟨(some 15), none, .q (.ld1 (.t 14))⟩,
 ⟨(some 6), none, .q (.mov (.t 13))⟩,
 ⟨(some 7), none, .q (.mov (.t 15))⟩])
 (.seq (.reg [⟨(some 16), none, .q (.mov (.t 7))⟩,
 ⟨(some 17), none, .q (.mov (.t 1))⟩,
 ⟨(some 18), none, .q (.mov (.t 6))⟩,
 ⟨(some 19), none, .q (.ia 1 (.t 17) (.t 18))⟩,
 ⟨(some 20), none, .q (.ld1 (.t 19))⟩,
 ⟨(some 21), none, .q (.bin .neq (.t 16) (.t 20))⟩])
 (.cond (.t 21) (.reg [⟨(some 22), none, .q (.mov (.t 5))⟩,
 ⟨(some 23), none, .q (.mov (.t 6))⟩,
 ⟨(some 24), none, .a (.mkSl 1 1 [(.i .i64 0)] [(0, 1, (.t 23))])⟩,
 ⟨(some 25), none, .h (.app 1 8 (.t 22) (.t 24))⟩,
 ⟨(some 5), none, .q (.mov (.t 25))⟩])
 .skip))))
 (.reg [⟨(some 26), none, .q (.bin .add (.t 11) (.c (.i .i64 1)))⟩,
 ⟨(some 11), none, .q (.mov (.t 26))⟩])))))))
 (.seq (.reg [⟨(some 27), none, .q (.mov (.t 5))⟩,
 ⟨(some 4), none, .q (.mov (.t 27))⟩])
 .ret))))⟩
def f76 : FnC := ⟨15, [],
 (.seq (.reg [⟨(some 3), none, .a (.box (.t 1))⟩])
 (.seq (.reg [⟨(some 4), none, .q (.mov (.t 0))⟩,
 ⟨(some 5), none, .q (.eqr true .ptr (.t 4) (.c .nilp))⟩])
 (.cond (.t 5) (.reg [⟨(some 6), none, .q (.mov (.t 0))⟩,
 ⟨(some 7), none, .q (.mov (.t 0))⟩,
 ⟨(some 8), none, .q (.nck (.t 7))⟩,
 ⟨(some 9), none, .q (.fa 2 (.t 8))⟩,
 ⟨(some 10), none, .q (.ld1 (.t 9))⟩,
 ⟨(some 11), none, .q (.mkf 126 [(.t 3)])⟩,
 ⟨(some 12), none, .call (.c (.fn 67 [])) [(.t 10), (.t 11)]⟩,
 ⟨(some 13), none, .q (.nck (.t 6))⟩,
 ⟨(some 14), none, .q (.fa 2 (.t 13))⟩,
 ⟨none, none, .h (.st 1 (.t 14) (.t 12))⟩])
 .dead)))⟩
def f77 : FnC := ⟨28, [.tmp 4],
 (.seq (.reg [⟨(some 4), none, .q (.mov (.c .nilsl))⟩])
 (.seq (.reg [⟨(some 5), none, .q (.mov (.c .nilsl))⟩])
 (.seq (.seq (.reg [⟨(some 7), none, .q (.mov (.t 0))⟩,
 ⟨(some 8), none, .call (.c (.fn 69 [])) [(.t 7)]⟩,
 ⟨(some 9), none, .q (.mov (.c (.i .i64 0)))⟩])
 (.block 0 (.loop (.seq (.reg [⟨(some 10), none, .q (.bin .lss (.t 9) (.t 8))⟩])
 (.seq (.cond (.t 10) .skip
 (.exit 0))
 (.seq (.block 1 (.seq (.reg [⟨(some 11), none, .q (.mov (.t 9))⟩,
 ⟨(some 6), none, .q (.mov (.t 11))⟩])
 (.seq (.reg [⟨(some 12), none, .q (.mov (.t 1))⟩,
 ⟨(some 13), none, .q (.mov (.t 6))⟩,
 ⟨(some 14), none, .call (.c (.fn 127 [])) [(.t 12), (.t 13)]⟩,
 ⟨(some 15), none, .q (.un .not (.t 14))⟩])
 (.cond (.t 15) (.seq (.reg [⟨(some 16), none, .q (.mov (.t 0))⟩,
 ⟨(some 17), none, .q (.nck (.t 16))⟩,
 ⟨(some 18), none, .q (.fa 0 (.t 17))⟩,
 ⟨(some 19), none, .q (.ld1 (.t 18))⟩,
 ⟨(some 20), none, .q (.mov (.t 6))⟩,
 ⟨(some 21), none, .q (.ia 1 (.t 19) (.t 20))⟩,
 ⟨none, none, .h (.st 1 (.t 21) (.c (.i .i64 3)))⟩])
 (.reg [⟨(some 22), none, .q (.mov (.t 5))⟩,
 ⟨(some 23), none, .q (.mov (.t 6))⟩,
 ⟨(some 24), none, .a (.mkSl 1 1 [(.i .i64 0)] [(0, 1, (.t 23))])⟩,
 ⟨(some 25), none, .h (.app 1 8 (.t 22) (.t 24))⟩,
 ⟨(some 5), none, .q (.mov (.t 25))⟩]))
 .skip))))
 (.reg [⟨(some 26), none, .q (.bin .add (.t 9) (.c (.i .i64 1)))⟩,
 ⟨(some 9), none, .q (.mov (.t 26))⟩])))))))
 (.seq (.reg [⟨(some 27), none, .q (.mov (.t 5))⟩,
 ⟨(some 4), none, .q (.mov (.t 27))⟩])
 .ret))))⟩
def f78 : FnC := ⟨23, [.tmp 4],
 (.seq (.reg [⟨(some 4), none, .q (.mov (.c (.b false)))⟩])
 (.seq (.reg [⟨(some 5), none, .q (.mov (.t 1))⟩,
 ⟨(some 6), none, .q (.bin .geq (.t 5) (.c (.i .i64 0)))⟩,
 ⟨(some 7), none, .q (.mov (.t 6))⟩,
 ⟨(some 8), (some (7, true)), .q (.mov (.t 1))⟩,
 ⟨(some 9), (some (7, true)), .q (.mov (.t 0))⟩,
 ⟨(some 10), (some (7, true)), .call (.c (.fn 69 [])) [(.t 9)]⟩,
 ⟨(some 11), (some (7, true)), .q (.bin .lss (.t 8) (.t 10))⟩,
 ⟨(some 12), none, .q (.pick (.t 7) (.t 11) (.c (.b false)))⟩,
 ⟨(some 13), none, .q (.mov (.t 12))⟩,
 ⟨(some 14), (some (13, true)), .q (.mov (.t 0))⟩,
 ⟨(some 15), (some (13, true)), .q (.nck (.t 14))⟩,
 ⟨(some 16), (some (13, true)), .q (.fa 0 (.t 15))⟩,
 ⟨(some 17), (some (13, true)), .q (.ld1 (.t 16))⟩,
 ⟨(some 18), (some (13, true)), .q (.mov (.t 1))⟩,
 ⟨(some 19), (some (13, true)), .q (.ia 1 (.t 17) (.t 18))⟩,
 ⟨(some 20), (some (13, true)), .q (.ld1 (.t 19))⟩,
 ⟨(some 21), (some (13, true)), .q (.bin .gtr (.t 20) (.c (.i .i64 0)))⟩,
 ⟨(some 22), none, .q (.pick (.t 13) (.t 21) (.c (.b false)))⟩,
 ⟨(some 4), none, .q (.mov (.t 22))⟩])
 .ret))⟩
def f79 : FnC := ⟨102, [.cell (some 7) 4, .tmp 5],
 (.seq (.reg [⟨(some 3), none, .a (.box (.t 1))⟩,
 ⟨(some 4), none, .a (.new [(.i .u64 0), (.i .u64 0), (.b false), (.i .i64 0), (.i .i64 0), (.i .i64 0), .nilsl])⟩,
 ⟨(some 5), none, .q (.mov (.c (.i .i64 0)))⟩])
 (.seq (.seq (.reg [⟨(some 7), none, .q (.ldn 11 (.t 3))⟩,
 ⟨(some 8), none, .call (.c (.fn 97 [])) [(.t 7)]⟩,
 ⟨(some 9), none, .q (.un .not (.t 8))⟩,
 ⟨(some 10), none, .q (.mov (.t 9))⟩,
 ⟨(some 11), (some (10, false)), .q (.mov (.t 0))⟩,
 ⟨(some 12), (some (10, false)), .call (.c (.fn 30 [])) [(.t 11)]⟩,
 ⟨(some 13), (some (10, false)), .q (.un .not (.t 12))⟩,
 ⟨(some 14), none, .q (.pick (.t 10) (.c (.b true)) (.t 13))⟩,
 ⟨(some 15), none, .q (.mov (.t 14))⟩,
 ⟨(some 16), (some (15, false)), .q (.mov (.t 0))⟩,
 ⟨(some 17), (some (15, false)), .call (.c (.fn 31 [])) [(.t 16)]⟩,
 ⟨(some 18), none, .q (.pick (.t 15) (.c (.b true)) (.t 17))⟩])
 (.cond (.t 18) .dead
 .skip))
 (.seq (.dreg [⟨0, ⟨(some 20), none, .q (.ldn 11 (.t 3))⟩, [3], none, [], []⟩,
 ⟨1, ⟨(some 21), none, .call (.c (.fn 95 [])) []⟩, [], none, [0], []⟩,
 ⟨2, ⟨(some 22), none, .q (.build [.nilsl] [(0, 1, (.t 21))])⟩, [21], none, [], [1]⟩,
 ⟨3, ⟨(some 23), none, .q (.build [(.i .u64 0), (.i .u32 0), (.i .u64 0), (.i .i64 0), (.i .i64 0), (.i .i64 0), (.b false), (.b false), (.b false), (.b false), (.b false), .nilsl] [(0, 11, (.t 20)), (11, 1, (.t 22))])⟩, [20, 22], none, [], [0, 2, 1]⟩,
 ⟨4, ⟨(some 24), none, .a (.box (.t 23))⟩, [23], none, [], [3, 0, 2, 1]⟩,
 ⟨5, ⟨(some 6), none, .q (.mov (.t 24))⟩, [24], none, [], [4, 1, 0, 2, 3]⟩])
 (.seq (.dreg [⟨0, ⟨(some 25), none, .q (.mov (.t 6))⟩, [6], none, [], []⟩,
 ⟨1, ⟨(some 26), none, .q (.nck (.t 25))⟩, [25], none, [], [0]⟩,
 ⟨2, ⟨(some 27), none, .q (.fa 11 (.t 26))⟩, [26], none, [], [1, 0]⟩,
 ⟨3, ⟨(some 28), none, .q (.mov (.t 6))⟩, [6], none, [], []⟩,
 ⟨4, ⟨(some 29), none, .call (.c (.fn 129 [])) [(.t 28)]⟩, [28], none, [3, 2, 1], [3]⟩,
 ⟨5, ⟨(some 30), none, .q (.cvi .u64 (.t 29))⟩, [29], none, [], [4, 3]⟩,
 ⟨6, ⟨(some 31), none, .call (.c (.fn 128 [])) [(.t 27), (.t 30), (.c (.i .i64 1))]⟩, [27, 30], none, [], [2, 5, 4, 1, 0, 3]⟩])
 (.seq (.dreg [⟨0, ⟨(some 32), none, .q (.mov (.t 6))⟩, [6], none, [], []⟩,
 ⟨1, ⟨(some 33), none, .q (.nck (.t 32))⟩, [32], none, [], [0]⟩,
 ⟨2, ⟨(some 34), none, .q (.fa 11 (.t 33))⟩, [33], none, [], [1, 0]⟩,
 ⟨3, ⟨(some 35), none, .q (.mov (.t 6))⟩, [6], none, [], []⟩,
 ⟨4, ⟨(some 36), none, .q (.nck (.t 35))⟩, [35], none, [], [3]⟩,
 ⟨5, ⟨(some 37), none, .q (.fa 0 (.t 36))⟩, [36], none, [], [4, 3]⟩,
 ⟨6, ⟨(some 38), none, .q (.fa 0 (.t 37))⟩, [37], none, [], [5, 4, 3]⟩,
 ⟨7, ⟨(some 39), none, .q (.fa 0 (.t 38))⟩, [38], none, [], [6, 5, 4, 3]⟩,
 ⟨8, ⟨(some 40), none, .q (.ld1 (.t 39))⟩, [39], none, [], [7, 6, 5, 4, 3]⟩,
 ⟨9, ⟨(some 41), none, .call (.c (.fn 128 [])) [(.t 34), (.t 40), (.c (.i .i64 8))]⟩, [34, 40], none, [], [2, 8, 1, 0, 7, 6, 5, 4, 3]⟩])
 (.seq (.dreg [⟨0, ⟨(some 42), none, .q (.mov (.t 6))⟩, [6], none, [], []⟩,
 ⟨1, ⟨(some 43), none, .q (.nck (.t 42))⟩, [42], none, [], [0]⟩,
 ⟨2, ⟨(some 44), none, .q (.fa 11 (.t 43))⟩, [43], none, [], [1, 0]⟩,
 ⟨3, ⟨(some 45), none, .q (.mov (.t 6))⟩, [6], none, [], []⟩,
 ⟨4, ⟨(some 46), none, .q (.nck (.t 45))⟩, [45], none, [], [3]⟩,
 ⟨5, ⟨(some 47), none, .q (.fa 0 (.t 46))⟩, [46], none, [], [4, 3]⟩,
 ⟨6, ⟨(some 48), none, .q (.fa 0 (.t 47))⟩, [47], none, [], [5, 4, 3]⟩,
 ⟨7, ⟨(some 49), none, .q (.fa 1 (.t 48))⟩, [48], none, [], [6, 5, 4, 3]⟩,
 ⟨8, ⟨(some 50), none, .q (.ld1 (.t 49))⟩, [49], none, [], [7, 6, 5, 4, 3]⟩,
 ⟨9, ⟨(some 51), none, .q (.cvi .u64 (.t 50))⟩, [50], none, [], [8, 7, 6, 5, 4, 3]⟩,
 ⟨10, ⟨(some 52), none, .call (.c (.fn 128 [])) [(.t 44), (.t 51), (.c (.i .i64 4))]⟩, [44, 51], none, [], [2, 9, 1, 0, 8, 7, 6, 5, 4, 3]⟩])
 (.seq (.dreg [⟨0, ⟨(some 53), none, .q (.mov (.t 6))⟩, [6], none, [], []⟩,
 ⟨1, ⟨(some 54), none, .q (.nck (.t 53))⟩, [53], none, [], [0]⟩,
 ⟨2, ⟨(some 55), none, .q (.fa 11 (.t 54))⟩, [54], none, [], [1, 0]⟩,
 ⟨3, ⟨(some 56), none, .q (.mov (.t 6))⟩, [6], none, [], []⟩,
 ⟨4, ⟨(some 57), none, .q (.nck (.t 56))⟩, [56], none, [], [3]⟩,
 ⟨5, ⟨(some 58), none, .q (.fa 0 (.t 57))⟩, [57], none, [], [4, 3]⟩,
 ⟨6, ⟨(some 59), none, .q (.fa 0 (.t 58))⟩, [58], none, [], [5, 4, 3]⟩,
 ⟨7, ⟨(some 60), none, .q (.fa 2 (.t 59))⟩, [59], none, [], [6, 5, 4, 3]⟩,
 ⟨8, ⟨(some 61), none, .q (.ld1 (.t 60))⟩, [60], none, [], [7, 6, 5, 4, 3]⟩,
 ⟨9, ⟨(some 62), none, .call (.c (.fn 128 [])) [(.t 55), (.t 61), (.c (.i .i64 8))]⟩, [55, 61], none, [], [2, 8, 1, 0, 7, 6, 5, 4, 3]⟩])
 (.seq (.dreg [⟨0, ⟨(some 63), none, .q (.mov (.t 6))⟩, [6], none, [], []⟩,
 ⟨1, ⟨(some 64), none, .q (.nck (.t 63))⟩, [63], none, [], [0]⟩,
 ⟨2, ⟨(some 65), none, .q (.fa 11 (.t 64))⟩, [64], none, [], [1, 0]⟩,
 ⟨3, ⟨(some 66), none, .q (.mov (.t 6))⟩, [6], none, [], []⟩,
 ⟨4, ⟨(some 67), none, .q (.nck (.t 66))⟩, [66], none, [], [3]⟩,
 ⟨5, ⟨(some 68), none, .q (.fa 0 (.t 67))⟩, [67], none, [], [4, 3]⟩,
 ⟨6, ⟨(some 69), none, .q (.fa 0 (.t 68))⟩, [68], none, [], [5, 4, 3]⟩,
 ⟨7, ⟨(some 70), none, .q (.fa 3 (.t 69))⟩, [69], none, [], [6, 5, 4, 3]⟩,
 ⟨8, ⟨(some 71), none, .q (.ld1 (.t 70))⟩, [70], none, [], [7, 6, 5, 4, 3]⟩,
 ⟨9, ⟨(some 72), none, .q (.cvi .u64 (.t 71))⟩, [71], none, [], [8, 7, 6, 5, 4, 3]⟩,
 ⟨10, ⟨(some 73), none, .call (.c (.fn 128 [])) [(.t 65), (.t 72), (.c (.i .i64 2))]⟩, [65, 72], none, [], [2, 9, 1, 0, 8, 7, 6, 5, 4, 3]⟩])
 (.seq (.dreg [⟨0, ⟨(some 74), none, .q (.mov (.t 6))⟩, [6], none, [], []⟩,
 ⟨1, ⟨(some 75), none, .q (.nck (.t 74))⟩, [74], none, [], [0]⟩,
 ⟨2, ⟨(some 76), none, .q (.fa 11 (.t 75))⟩, [75], none, [], [1, 0]⟩,
 ⟨3, ⟨(some 77), none, .q (.mov (.t 6))⟩, [6], none, [], []⟩,
 ⟨4, ⟨(some 78), none, .q (.nck (.t 77))⟩, [77], none, [], [3]⟩,
 ⟨5, ⟨(some 79), none, .q (.fa 0 (.t 78))⟩, [78], none, [], [4, 3]⟩,
 ⟨6, ⟨(some 80), none, .q (.fa 4 (.t 79))⟩, [79], none, [], [5, 4, 3]⟩,
 ⟨7, ⟨(some 81), none, .q (.ld1 (.t 80))⟩, [80], none, [], [6, 5, 4, 3]⟩,
 ⟨8, ⟨(some 82), none, .q (.cvi .u64 (.t 81))⟩, [81], none, [], [7, 6, 5, 4, 3]⟩,
 ⟨9, ⟨(some 83), none, .call (.c (.fn 128 [])) [(.t 76), (.t 82), (.c (.i .i64 2))]⟩, [76, 82], none, [], [2, 8, 1, 0, 7, 6, 5, 4, 3]⟩])
 (.seq (.block 0 (.loop (.seq (.seq (.reg [⟨(some 84), none, .q (.mov (.t 6))⟩,
 ⟨(some 85), none, .q (.nck (.t 84))⟩,
 ⟨(some 86), none, .q (.fa 11 (.t 85))⟩,
 ⟨(some 87), none, .q (.fa 0 (.t 86))⟩,
 ⟨(some 88), none, .q (.ld1 (.t 87))⟩,
 ⟨(some 89), none, .q (.lenL (.t 88))⟩,
 ⟨(some 90), none, .q (.bin .lss (.t 89) (.c (.i .i64 39)))⟩])
 (.cond (.t 90) .skip
 (.exit 0)))
 (.block 1 (.reg [⟨(some 91), none, .q (.mov (.t 6))⟩,
 ⟨(some 92), none, .q (.nck (.t 91))⟩,
 ⟨(some 93), none, .q (.fa 11 (.t 92))⟩,
 ⟨(some 94), none, .call (.c (.fn 128 [])) [(.t 93), (.c (.i .u64 0)), (.c (.i .i64 1))]⟩])))))
 (.seq (.reg [⟨(some 95), none, .q (.mov (.t 0))⟩,
 ⟨(some 96), none, .q (.mov (.t 6))⟩,
 ⟨(some 97), none, .q (.nck (.t 96))⟩,
 ⟨(some 98), none, .q (.fa 11 (.t 97))⟩,
 ⟨(some 99), none, .q (.fa 0 (.t 98))⟩,
 ⟨(some 100), none, .q (.ld1 (.t 99))⟩,
 ⟨(some 101), none, .q (.build [(.i .u64 0), (.i .u64 0), (.b false), (.i .i64 0), (.i .i64 0), (.i .i64 0), .nilsl] [(0, 1, (.c (.i .u64 1652522221568))), (1, 1, (.t 95)), (5, 1, (.c (.i .i64 39))), (6, 1, (.t 100))])⟩,
 ⟨none, none, .h (.st 7 (.t 4) (.t 101))⟩,
 ⟨(some 5), none, .q (.mov (.c (.i .i64 0)))⟩])
 .ret)))))))))))⟩
def f80 : FnC := ⟨21, [.tmp 2],
 (.seq (.reg [⟨(some 2), none, .q (.mov (.c .nilsl))⟩])
 (.seq (.reg [⟨(some 3), none, .q (.mov (.c .nilsl))⟩])
 (.seq (.seq (.reg [⟨(some 6), none, .q (.mov (.t 0))⟩,
 ⟨(some 7), none, .call (.c (.fn 130 [])) [(.t 6), (.c (.s ⟨#[32]⟩))]⟩,
 ⟨(some 8), none, .q (.lenL (.t 7))⟩,
 ⟨(some 9), none, .q (.mov (.c (.i .i64 0)))⟩])
 (.block 0 (.loop (.seq (.reg [⟨(some 10), none, .q (.bin .lss (.t 9) (.t 8))⟩])
 (.seq (.cond (.t 10) .skip
 (.exit 0))
 (.seq (.block 1 (.seq (.reg [⟨(some 11), none, .q (.ia 1 (.t 7) (.t 9))⟩,
 ⟨(some 12), none, .q (.ld1 (.t 11))⟩,
 ⟨(some 5), none, .q (.mov (.t 12))⟩])
 (.seq (.reg [⟨(some 13), none, .q (.mov (.t 5))⟩,
 ⟨(some 14), none, .q (.bni .neq (.t 13) (.c (.s ⟨#[]⟩)))⟩])
 (.cond (.t 14) (.reg [⟨(some 15), none, .q (.mov (.t 3))⟩,
 ⟨(some 16), none, .q (.mov (.t 5))⟩,
 ⟨(some 17), none, .a (.mkSl 1 1 [(.s ⟨#[]⟩)] [(0, 1, (.t 16))])⟩,
 ⟨(some 18), none, .h (.app 1 16 (.t 15) (.t 17))⟩,
 ⟨(some 3), none, .q (.mov (.t 18))⟩])
 .dead))))
 (.reg [⟨(some 19), none, .q (.bin .add (.t 9) (.c (.i .i64 1)))⟩,
 ⟨(some 9), none, .q (.mov (.t 19))⟩])))))))
 (.seq (.reg [⟨(some 20), none, .q (.mov (.t 3))⟩,
 ⟨(some 2), none, .q (.mov (.t 20))⟩])
 .ret))))⟩
def f81 : FnC := ⟨35, [.tmp 0],
 (.seq (.reg [⟨(some 0), none, .q (.mov (.c .nilsl))⟩])
 (.seq (.reg [⟨(some 1), none, .q (.mov (.c (.fn 131 [])))⟩])
 (.seq (.reg [⟨(some 2), none, .q (.mov (.t 1))⟩,
 ⟨(some 3), none, .call (.t 2) [(.c (.i .i64 1)), (.c (.i .i64 0)), (.c (.s ⟨#[112, 114, 105, 111, 114, 105, 116, 121, 32, 78]⟩))]⟩,
 ⟨(some 4), none, .q (.mov (.t 1))⟩,
 ⟨(some 5), none, .call (.t 4) [(.c (.i .i64 2)), (.c (.i .i64 0)), (.c (.s ⟨#[97, 103, 101, 32, 78]⟩))]⟩,
 ⟨(some 6), none, .q (.mov (.t 1))⟩,
 ⟨(some 7), none, .call (.t 6) [(.c (.i .i64 3)), (.c (.i .i64 0)), (.c (.s ⟨#[100, 101, 108, 97, 121, 32, 78]⟩))]⟩,
 ⟨(some 8), none, .q (.mov (.t 1))⟩,
 ⟨(some 9), none, .call (.t 8) [(.c (.i .i64 4)), (.c (.i .i64 1)), (.c (.s ⟨#[112, 111, 114, 116, 32, 80, 32, 117, 112]⟩))]⟩,
 ⟨(some 10), none, .q (.mov (.t 1))⟩,
 ⟨(some 11), none, .call (.t 10) [(.c (.i .i64 4)), (.c (.i .i64 0)), (.c (.s ⟨#[112, 111, 114, 116, 32, 80, 32, 100, 111, 119, 110]⟩))]⟩,
 ⟨(some 12), none, .q (.mov (.t 1))⟩,
 ⟨(some 13), none, .call (.t 12) [(.c (.i .i64 5)), (.c (.i .i64 0)), (.c (.s ⟨#[112, 111, 114, 116, 32, 80, 32, 99, 111, 115, 116, 32, 78]⟩))]⟩,
 ⟨(some 14), none, .q (.mov (.t 1))⟩,
 ⟨(some 15), none, .call (.t 14) [(.c (.i .i64 6)), (.c (.i .i64 0)), (.c (.s ⟨#[112, 111, 114, 116, 32, 80, 32, 112, 118, 105, 100, 32, 78]⟩))]⟩,
 ⟨(some 16), none, .q (.mov (.t 1))⟩,
 ⟨(some 17), none, .call (.t 16) [(.c (.i .i64 7)), (.c (.i .i64 0)), (.c (.s ⟨#[118, 108, 97, 110, 32, 86, 32, 109, 101, 109, 98, 101, 114, 115, 32, 77, 32, 116, 97, 103, 103, 101, 100, 32, 84]⟩))]⟩,
 ⟨(some 18), none, .q (.mov (.t 1))⟩,
 ⟨(some 19), none, .call (.t 18) [(.c (.i .i64 8)), (.c (.i .i64 0)), (.c (.s ⟨#[110, 111, 32, 118, 108, 97, 110, 32, 86]⟩))]⟩,
 ⟨(some 20), none, .q (.mov (.t 1))⟩,
 ⟨(some 21), none, .call (.t 20) [(.c (.i .i64 9)), (.c (.i .i64 0)), (.c (.s ⟨#[115, 116, 97, 116, 105, 99, 32, 65, 32, 118, 108, 97, 110, 32, 86, 32, 112, 111, 114, 116, 32, 80]⟩))]⟩,
 ⟨(some 22), none, .q (.mov (.t 1))⟩,
 ⟨(some 23), none, .call (.t 22) [(.c (.i .i64 10)), (.c (.i .i64 0)), (.c (.s ⟨#[110, 111, 32, 115, 116, 97, 116, 105, 99, 32, 65, 32, 118, 108, 97, 110, 32, 86]⟩))]⟩,
 ⟨(some 24), none, .q (.build [(.i .i64 0), (.i .i64 0), (.i .i64 0), (.i .i64 0), (.i .i64 0), (.i .u8 0), (.i .u8 0), (.i .u64 0)] [(0, 1, (.c (.i .i64 2)))])⟩,
 ⟨(some 25), none, .q (.build [(.i .i64 0), (.i .i64 0), (.i .i64 0), (.i .i64 0), (.i .i64 0), (.i .u8 0), (.i .u8 0), (.i .u64 0), (.s ⟨#[]⟩)] [(0, 8, (.t 24)), (8, 1, (.c (.s ⟨#[99, 111, 109, 109, 105, 116]⟩)))])⟩,
 ⟨(some 26), none, .q (.build [(.i .i64 0), (.i .i64 0), (.i .i64 0), (.i .i64 0), (.i .i64 0), (.i .u8 0), (.i .u8 0), (.i .u64 0)] [(0, 1, (.c (.i .i64 3)))])⟩,
 ⟨(some 27), none, .q (.build [(.i .i64 0), (.i .i64 0), (.i .i64 0), (.i .i64 0), (.i .i64 0), (.i .u8 0), (.i .u8 0), (.i .u64 0), (.s ⟨#[]⟩)] [(0, 8, (.t 26)), (8, 1, (.c (.s ⟨#[114, 111, 108, 108, 98, 97, 99, 107]⟩)))])⟩,
 ⟨(some 28), none, .q (.build [(.i .i64 0), (.i .i64 0), (.i .i64 0), (.i .i64 0), (.i .i64 0), (.i .u8 0), (.i .u8 0), (.i .u64 0)] [(0, 1, (.c (.i .i64 4)))])⟩,
 ⟨(some 29), none, .q (.build [(.i .i64 0), (.i .i64 0), (.i .i64 0), (.i .i64 0), (.i .i64 0), (.i .u8 0), (.i .u8 0), (.i .u64 0), (.s ⟨#[]⟩)] [(0, 8, (.t 28)), (8, 1, (.c (.s ⟨#[115, 104, 111, 119, 32, 99, 111, 110, 102, 105, 103]⟩)))])⟩,
 ⟨(some 30), none, .q (.build [(.i .i64 0), (.i .i64 0), (.i .i64 0), (.i .i64 0), (.i .i64 0), (.i .u8 0), (.i .u8 0), (.i .u64 0)] [(0, 1, (.c (.i .i64 5)))])⟩,
 ⟨(some 31), none, .q (.build [(.i .i64 0), (.i .i64 0), (.i .i64 0), (.i .i64 0), (.i .i64 0), (.i .u8 0), (.i .u8 0), (.i .u64 0), (.s ⟨#[]⟩)] [(0, 8, (.t 30)), (8, 1, (.c (.s ⟨#[115, 104, 111, 119, 32, 112, 111, 114, 116, 115]⟩)))])⟩,
 ⟨(some 32), none, .q (.build [(.i .i64 0), (.i .i64 0), (.i .i64 0), (.i .i64 0), (.i .i64 0), (.i .u8 0), (.i .u8 0), (.i .u64 0)] [(0, 1, (.c (.i .i64 6)))])⟩,
 ⟨(some 33), none, .q (.build [(.i .i64 0), (.i .i64 0), (.i .i64 0), (.i .i64 0), (.i .i64 0), (.i .u8 0), (.i .u8 0), (.i .u64 0), (.s ⟨#[]⟩)] [(0, 8, (.t 32)), (8, 1, (.c (.s ⟨#[115, 104, 111, 119, 32, 116, 97, 98, 108, 101]⟩)))])⟩,
 ⟨(some 34), none, .a (.mkSl 9 16 [(.i .i64 0), (.i .i64 0), (.i .i64 0), (.i .i64 0), (.i .i64 0), (.i .u8 0), (.i .u8 0), (.i .u64 0), (.s ⟨#[]⟩), (.i .i64 0), (.i .i64 0), (.i .i64 0), (.i .i64 0), (.i .i64 0), (.i .u8 0), (.i .u8 0), (.i .u64 0), (.s ⟨#[]⟩), (.i .i64 0), (.i .i64 0), (.i .i64 0), (.i .i64 0), (.i .i64 0), (.i .u8 0), (.i .u8 0), (.i .u64 0), (.s ⟨#[]⟩), (.i .i64 0), (.i .i64 0), (.i .i64 0), (.i .i64 0), (.i .i64 0), (.i .u8 0), (.i .u8 0), (.i .u64 0), (.s ⟨#[]⟩), (.i .i64 0), (.i .i64 0), (.i .i64 0), (.i .i64 0), (.i .i64 0), (.i .u8 0), (.i .u8 0), (.i .u64 0), (.s ⟨#[]⟩), (.i .i64 0), (.i .i64 0), (.i .i64 0), (.i .i64 0), (.i .i64 0), (.i .u8 0), (.i .u8 0), (.i .u64 0), (.s ⟨#[]⟩), (.i .i64 0), (.i .i64 0), (.i .i64 0), (.i .i64 0), (.i .i64 0), (.i .u8 0), (.i .u8 0), (.i .u64 0), (.s ⟨#[]⟩), (.i .i64 0), (.i .i64 0), (.i .i64 0), (.i .i64 0), (.i .i64 0), (.i .u8 0), (.i .u8 0), (.i .u64 0), (.s ⟨#[]⟩), (.i .i64 0), (.i .i64 0), (.i .i64 0), (.i .i64 0), (.i .i64 0), (.i .u8 0), (.i .u8 0), (.i .u64 0), (.s ⟨#[]⟩), (.i .i64 0), (.i .i64 0), (.i .i64 0), (.i .i64 0), (.i .i64 0), (.i .u8 0), (.i .u8 0), (.i .u64 0), (.s ⟨#[]⟩), (.i .i64 0), (.i .i64 0), (.i .i64 0), (.i .i64 0), (.i .i64 0), (.i .u8 0), (.i .u8 0), (.i .u64 0), (.s ⟨#[]⟩), (.i .i64 0), (.i .i64 0), (.i .i64 0), (.i .i64 0), (.i .i64 0), (.i .u8 0), (.i .u8 0), (.i .u64 0), (.s ⟨#[]⟩), (.i .i64 0), (.i .i64 0), (.i .i64 0), (.i .i64 0), (.i .i64 0), (.i .u8 0), (.i .u8 0), (.i .u64 0), (.s ⟨#[]⟩), (.i .i64 0), (.i .i64 0), (.i .i64 0), (.i .i64 0), (.i .i64 0), (.i .u8 0), (.i .u8 0), (.i .u64 0), (.s ⟨#[]⟩), (.i .i64 0), (.i .i64 0), (.i .i64 0), (.i .i64 0), (.i .i64 0), (.i .u8 0), (.i .u8 0), (.i .u64 0), (.s ⟨#[]⟩), (.i .i64 0), (.i .i64 0), (.i .i64 0), (.i .i64 0), (.i .i64 0), (.i .u8 0), (.i .u8 0), (.i .u64 0), (.s ⟨#[]⟩)] [(0, 9, (.t 3)), (9, 9, (.t 5)), (18, 9, (.t 7)), (27, 9, (.t 9)), (36, 9, (.t 11)), (45, 9, (.t 13)), (54, 9, (.t 15)), (63, 9, (.t 17)), (72, 9, (.t 19)), (81, 9, (.t 21)), (90, 9, (.t 23)), (99, 9, (.t 25)), (108, 9, (.t 27)), (117, 9, (.t 29)), (126, 9, (.t 31)), (135, 9, (.t 33))])⟩,
 ⟨(some 0), none, .q (.mov (.t 34))⟩])
 .ret)))⟩
def f82 : FnC := ⟨38, [.cell (some 8) 4, .tmp 5],
 (.seq (.reg [⟨(some 2), none, .a (.box (.t 0))⟩,
 ⟨(some 4), none, .a (.new [(.i .i64 0), (.i .i64 0), (.i .i64 0), (.i .i64 0), (.i .i64 0), (.i .u8 0), (.i .u8 0), (.i .u64 0)])⟩,
 ⟨(some 5), none, .q (.mov (.c (.b false)))⟩])
 (.seq (.reg [⟨(some 10), none, .q (.fa 8 (.t 2))⟩,
 ⟨(some 11), none, .q (.ld1 (.t 10))⟩,
 ⟨(some 12), none, .call (.c (.fn 80 [])) [(.t 11)]⟩,
 ⟨(some 6), none, .q (.mov (.t 12))⟩])
 (.seq (.seq (.reg [⟨(some 13), none, .q (.mov (.t 6))⟩,
 ⟨(some 14), none, .q (.lenL (.t 13))⟩,
 ⟨(some 15), none, .q (.mov (.t 1))⟩,
 ⟨(some 16), none, .q (.lenL (.t 15))⟩,
 ⟨(some 17), none, .q (.bni .neq (.t 14) (.t 16))⟩])
 (.cond (.t 17) (.seq (.reg [⟨(some 18), none, .q (.build [(.i .i64 0), (.i .i64 0), (.i .i64 0), (.i .i64 0), (.i .i64 0), (.i .u8 0), (.i .u8 0), (.i .u64 0)] [])⟩,
 ⟨none, none, .h (.st 8 (.t 4) (.t 18))⟩,
 ⟨(some 5), none, .q (.mov (.c (.b false)))⟩])
 .ret)
 .skip))
 (.seq (.reg [⟨(some 19), none, .q (.fa 0 (.t 2))⟩,
 ⟨(some 20), none, .q (.ldn 8 (.t 19))⟩,
 ⟨(some 7), none, .a (.new [(.i .i64 0), (.i .i64 0), (.i .i64 0), (.i .i64 0), (.i .i64 0), (.i .u8 0), (.i .u8 0), (.i .u64 0)])⟩,
 ⟨none, none, .h (.st 8 (.t 7) (.t 20))⟩])
 (.seq (.seq (.reg [⟨(some 21), none, .q (.mov (.t 1))⟩,
 ⟨(some 22), none, .q (.lenL (.t 21))⟩,
 ⟨(some 23), none, .q (.mov (.c (.i .i64 0)))⟩])
 (.block 0 (.loop (.seq (.reg [⟨(some 24), none, .q (.bin .lss (.t 23) (.t 22))⟩])
 (.seq (.cond (.t 24) .skip
 (.exit 0))
 (.seq (.block 1 (.seq (.reg [⟨(some 25), none, .q (.mov (.t 23))⟩,
 ⟨(some 26), none, .q (.ia 1 (.t 21) (.t 23))⟩,
 ⟨(some 27), none, .q (.ld1 (.t 26))⟩,
 ⟨(some 8), none, .q (.mov (.t 25))⟩,
 ⟨(some 9), none, .q (.mov (.t 27))⟩])
 (.seq (.reg [⟨(some 28), none, .q (.mov (.t 6))⟩,
 ⟨(some 29), none, .q (.mov (.t 8))⟩,
 ⟨(some 30), none, .q (.ia 1 (.t 28) (.t 29))⟩,
 ⟨(some 31), none, .q (.ld1 (.t 30))⟩,
 ⟨(some 32), none, .q (.mov (.t 9))⟩,
 ⟨(some 33), none, .call (.c (.fn 132 [])) [(.t 7), (.t 31), (.t 32)]⟩,
 ⟨(some 34), none, .q (.un .not (.t 33))⟩])
 (.cond (.t 34) (.seq (.reg [⟨(some 35), none, .q (.build [(.i .i64 0), (.i .i64 0), (.i .i64 0), (.i .i64 0), (.i .i64 0), (.i .u8 0), (.i .u8 0), (.i .u64 0)] [])⟩,
 ⟨none, none, .h (.st 8 (.t 4) (.t 35))⟩,
 ⟨(some 5), none, .q (.mov (.c (.b false)))⟩])
 .ret)
 .skip))))
 (.reg [⟨(some 36), none, .q (.bin .add (.t 23) (.c (.i .i64 1)))⟩,
 ⟨(some 23), none, .q (.mov (.t 36))⟩])))))))
 (.seq (.reg [⟨(some 37), none, .q (.ldn 8 (.t 7))⟩,
 ⟨none, none, .h (.st 8 (.t 4) (.t 37))⟩,
 ⟨(some 5), none, .q (.mov (.c (.b true)))⟩])
 .ret))))))⟩
def f91 : FnC := ⟨23, [.tmp 2, .tmp 3],
 (.seq (.reg [⟨(some 2), none, .q (.mov (.c (.i .u64 0)))⟩,
 ⟨(some 3), none, .q (.mov (.c (.i .i64 0)))⟩])
 (.seq (.seq (.reg [⟨(some 7), none, .q (.mov (.t 0))⟩,
 ⟨(some 8), none, .q (.lenL (.t 7))⟩,
 ⟨(some 9), none, .q (.bni .neq (.t 8) (.c (.i .i64 6)))⟩])
 (.cond (.t 9) .dead
 .skip))
 (.seq (.reg [⟨(some 4), none, .q (.mov (.c (.i .u64 0)))⟩])
 (.seq (.seq (.reg [⟨(some 10), none, .q (.mov (.t 0))⟩,
 ⟨(some 11), none, .q (.lenL (.t 10))⟩,
 ⟨(some 12), none, .q (.mov (.c (.i .i64 0)))⟩])
 (.block 0 (.loop (.seq (.reg [⟨(some 13), none, .q (.bin .lss (.t 12) (.t 11))⟩])
 (.seq (.cond (.t 13) .skip
 (.exit 0))
 (.seq (.block 1 (.seq (.reg [⟨(some 14), none, .q (.ia 1 (.t 10) (.t 12))⟩,
 ⟨(some 15), none, .q (.ld1 (.t 14))⟩,
 ⟨(some 6), none, .q (.mov (.t 15))⟩])
 (.reg [⟨(some 16), none, .q (.mov (.t 4))⟩,
 ⟨(some 17), none, .q (.bin .shl (.t 16) (.c (.i .u64 8)))⟩,
 ⟨(some 18), none, .q (.mov (.t 6))⟩,
 ⟨(some 19), none, .q (.cvi .u64 (.t 18))⟩,
 ⟨(some 20), none, .q (.bin .or (.t 17) (.t 19))⟩,
 ⟨(some 4), none, .q (.mov (.t 20))⟩])))
 (.reg [⟨(some 21), none, .q (.bin .add (.t 12) (.c (.i .i64 1)))⟩,
 ⟨(some 12), none, .q (.mov (.t 21))⟩])))))))
 (.seq (.reg [⟨(some 22), none, .q (.mov (.t 4))⟩,
 ⟨(some 2), none, .q (.mov (.t 22))⟩,
 ⟨(some 3), none, .q (.mov (.c (.i .i64 0)))⟩])
 .ret)))))⟩
def f92 : FnC := ⟨13, [.tmp 2],
 (.seq (.reg [⟨(some 2), none, .q (.mov (.c (.i .i64 0)))⟩])
 (.seq (.dreg [⟨0, ⟨(some 3), none, .q (.mov (.t 0))⟩, [0], none, [], []⟩,
 ⟨1, ⟨(some 4), none, .q (.ia 1 (.t 3) (.c (.i .i64 0)))⟩, [3], none, [], [0]⟩,
 ⟨2, ⟨(some 5), none, .q (.ld1 (.t 4))⟩, [4], none, [], [1, 0]⟩,
 ⟨3, ⟨(some 6), none, .q (.cvi .i64 (.t 5))⟩, [5], none, [], [2, 1, 0]⟩,
 ⟨4, ⟨(some 7), none, .q (.bin .shl (.t 6) (.c (.i .u64 8)))⟩, [6], none, [], [3, 2, 1, 0]⟩,
 ⟨5, ⟨(some 8), none, .q (.mov (.t 0))⟩, [0], none, [], []⟩,
 ⟨6, ⟨(some 9), none, .q (.ia 1 (.t 8) (.c (.i .i64 1)))⟩, [8], none, [], [5]⟩,
 ⟨7, ⟨(some 10), none, .q (.ld1 (.t 9))⟩, [9], none, [], [6, 5]⟩,
 ⟨8, ⟨(some 11), none, .q (.cvi .i64 (.t 10))⟩, [10], none, [], [7, 6, 5]⟩,
 ⟨9, ⟨(some 12), none, .q (.bin .or (.t 7) (.t 11))⟩, [7, 11], none, [], [4, 8, 3, 2, 1, 0, 7, 6, 5]⟩,
 ⟨10, ⟨(some 2), none, .q (.mov (.t 12))⟩, [12], none, [], [9, 0, 1, 2, 3, 4, 5, 6, 7, 8]⟩])
 .ret))⟩
def f93 : FnC := ⟨71, [.tmp 2],
 (.seq (.reg [⟨(some 1), none, .a (.box (.t 0))⟩,
 ⟨(some 2), none, .q (.mov (.c (.b false)))⟩])
 (.seq (.seq (.dreg [⟨0, ⟨(some 3), none, .q (.fa 0 (.t 1))⟩, [1], none, [], []⟩,
 ⟨1, ⟨(some 4), none, .q (.ld1 (.t 3))⟩, [3], none, [], [0]⟩,
 ⟨2, ⟨(some 5), none, .call (.c (.fn 30 [])) [(.t 4)]⟩, [4], none, [], [1, 0]⟩,
 ⟨3, ⟨(some 6), none, .q (.un .not (.t 5))⟩, [5], none, [], [2, 1, 0]⟩,
 ⟨4, ⟨(some 7), none, .q (.mov (.t 6))⟩, [6], none, [], [3, 2, 1, 0]⟩,
 ⟨5, ⟨(some 8), (some (7, false)), .q (.fa 1 (.t 1))⟩, [1, 7], none, [], [4, 3, 2, 1, 0]⟩,
 ⟨6, ⟨(some 9), (some (7, false)), .q (.ld1 (.t 8))⟩, [8, 7], none, [], [5, 4, 3, 2, 1, 0]⟩,
 ⟨7, ⟨(some 10), (some (7, false)), .call (.c (.fn 30 [])) [(.t 9)]⟩, [9, 7], none, [], [6, 4, 5, 3, 2, 1, 0]⟩,
 ⟨8, ⟨(some 11), (some (7, false)), .q (.un .not (.t 10))⟩, [10, 7], none, [], [7, 4, 6, 5, 3, 2, 1, 0]⟩,
 ⟨9, ⟨(some 12), none, .q (.pick (.t 7) (.c (.b true)) (.t 11))⟩, [7, 11], none, [], [4, 8, 3, 2, 1, 0, 7, 6, 5]⟩,
 ⟨10, ⟨(some 13), none, .q (.mov (.t 12))⟩, [12], none, [], [9, 7, 4, 8, 3, 2, 1, 0, 6, 5]⟩,
 ⟨11, ⟨(some 14), (some (13, false)), .q (.fa 1 (.t 1))⟩, [1, 13], none, [], [10, 9, 7, 4, 8, 3, 2, 1, 0, 6, 5]⟩,
 ⟨12, ⟨(some 15), (some (13, false)), .q (.ld1 (.t 14))⟩, [14, 13], none, [], [11, 10, 9, 7, 4, 8, 3, 2, 1, 0, 6, 5]⟩,
 ⟨13, ⟨(some 16), (some (13, false)), .call (.c (.fn 31 [])) [(.t 15)]⟩, [15, 13], none, [], [12, 10, 11, 9, 7, 4, 8, 3, 2, 1, 0, 6, 5]⟩,
 ⟨14, ⟨(some 17), none, .q (.pick (.t 13) (.c (.b true)) (.t 16))⟩, [13, 16], none, [], [10, 13, 9, 7, 4, 8, 3, 2, 1, 0, 6, 5, 12, 11]⟩,
 ⟨15, ⟨(some 18), none, .q (.mov (.t 17))⟩, [17], none, [], [14, 13, 10, 9, 7, 4, 8, 3, 2, 1, 0, 6, 5, 12, 11]⟩,
 ⟨16, ⟨(some 19), (some (18, false)), .q (.fa 5 (.t 1))⟩, [1, 18], none, [], [15, 14, 13, 10, 9, 7, 4, 8, 3, 2, 1, 0, 6, 5, 12, 11]⟩,
 ⟨17, ⟨(some 20), (some (18, false)), .q (.ld1 (.t 19))⟩, [19, 18], none, [], [16, 15, 14, 13, 10, 9, 7, 4, 8, 3, 2, 1, 0, 6, 5, 12, 11]⟩,
 ⟨18, ⟨(some 21), (some (18, false)), .q (.bin .lss (.t 20) (.c (.i .i64 0)))⟩, [20, 18], none, [], [17, 15, 16, 14, 13, 10, 9, 7, 4, 8, 3, 2, 1, 0, 6, 5, 12, 11]⟩,
 ⟨19, ⟨(some 22), none, .q (.pick (.t 18) (.c (.b true)) (.t 21))⟩, [18, 21], none, [], [15, 18, 14, 13, 10, 9, 7, 4, 8, 3, 2, 1, 0, 6, 5, 12, 11, 17, 16]⟩,
 ⟨20, ⟨(some 23), none, .q (.mov (.t 22))⟩, [22], none, [], [19, 15, 18, 14, 13, 10, 9, 7, 4, 8, 3, 2, 1, 0, 6, 5, 12, 11, 17, 16]⟩,
 ⟨21, ⟨(some 24), (some (23, false)), .q (.fa 5 (.t 1))⟩, [1, 23], none, [], [20, 19, 15, 18, 14, 13, 10, 9, 7, 4, 8, 3, 2, 1, 0, 6, 5, 12, 11, 17, 16]⟩,
 ⟨22, ⟨(some 25), (some (23, false)), .q (.ld1 (.t 24))⟩, [24, 23], none, [], [21, 20, 19, 15, 18, 14, 13, 10, 9, 7, 4, 8, 3, 2, 1, 0, 6, 5, 12, 11, 17, 16]⟩,
 ⟨23, ⟨(some 26), (some (23, false)), .q (.bin .geq (.t 25) (.c (.i .i64 65536)))⟩, [25, 23], none, [], [22, 20, 21, 19, 15, 18, 14, 13, 10, 9, 7, 4, 8, 3, 2, 1, 0, 6, 5, 12, 11, 17, 16]⟩,
 ⟨24, ⟨(some 27), none, .q (.pick (.t 23) (.c (.b true)) (.t 26))⟩, [23, 26], none, [], [20, 23, 19, 15, 18, 14, 13, 10, 9, 7, 4, 8, 3, 2, 1, 0, 6, 5, 12, 11, 17, 16, 22, 21]⟩,
 ⟨25, ⟨(some 28), none, .q (.mov (.t 27))⟩, [27], none, [], [24, 20, 23, 19, 15, 18, 14, 13, 10, 9, 7, 4, 8, 3, 2, 1, 0, 6, 5, 12, 11, 17, 16, 22, 21]⟩,
 ⟨26, ⟨(some 29), (some (28, false)), .q (.fa 5 (.t 1))⟩, [1, 28], none, [], [25, 24, 20, 23, 19, 15, 18, 14, 13, 10, 9, 7, 4, 8, 3, 2, 1, 0, 6, 5, 12, 11, 17, 16, 22, 21]⟩,
 ⟨27, ⟨(some 30), (some (28, false)), .q (.ld1 (.t 29))⟩, [29, 28], none, [], [26, 25, 24, 20, 23, 19, 15, 18, 14, 13, 10, 9, 7, 4, 8, 3, 2, 1, 0, 6, 5, 12, 11, 17, 16, 22, 21]⟩,
 ⟨28, ⟨(some 31), (some (28, false)), .q (.bni .eql (.t 30) (.c (.i .i64 33024)))⟩, [30, 28], none, [], [27, 25, 26, 24, 20, 23, 19, 15, 18, 14, 13, 10, 9, 7, 4, 8, 3, 2, 1, 0, 6, 5, 12, 11, 17, 16, 22, 21]⟩,
 ⟨29, ⟨(some 32), none, .q (.pick (.t 28) (.c (.b true)) (.t 31))⟩, [28, 31], none, [], [25, 28, 24, 20, 23, 19, 15, 18, 14, 13, 10, 9, 7, 4, 8, 3, 2, 1, 0, 6, 5, 12, 11, 17, 16, 22, 21, 27, 26]⟩,
 ⟨30, ⟨(some 33), none, .q (.mov (.t 32))⟩, [32], none, [], [29, 25, 28, 24, 20, 23, 19, 15, 18, 14, 13, 10, 9, 7, 4, 8, 3, 2, 1, 0, 6, 5, 12, 11, 17, 16, 22, 21, 27, 26]⟩,
 ⟨31, ⟨(some 34), (some (33, false)), .q (.fa 6 (.t 1))⟩, [1, 33], none, [], [30, 29, 25, 28, 24, 20, 23, 19, 15, 18, 14, 13, 10, 9, 7, 4, 8, 3, 2, 1, 0, 6, 5, 12, 11, 17, 16, 22, 21, 27, 26]⟩,
 ⟨32, ⟨(some 35), (some (33, false)), .q (.ld1 (.t 34))⟩, [34, 33], none, [], [31, 30, 29, 25, 28, 24, 20, 23, 19, 15, 18, 14, 13, 10, 9, 7, 4, 8, 3, 2, 1, 0, 6, 5, 12, 11, 17, 16, 22, 21, 27, 26]⟩,
 ⟨33, ⟨(some 36), (some (33, false)), .q (.lenL (.t 35))⟩, [35, 33], none, [], [32, 30, 31, 29, 25, 28, 24, 20, 23, 19, 15, 18, 14, 13, 10, 9, 7, 4, 8, 3, 2, 1, 0, 6, 5, 12, 11, 17, 16, 22, 21, 27, 26]⟩,
 ⟨34, ⟨(some 37), (some (33, false)), .q (.fa 2 (.t 1))⟩, [1, 33], none, [], [30, 29, 25, 28, 24, 20, 23, 19, 15, 18, 14, 13, 10, 9, 7, 4, 8, 3, 2, 1, 0, 6, 5, 12, 11, 17, 16, 22, 21, 27, 26]⟩,
 ⟨35, ⟨(some 38), (some (33, false)), .q (.ld1 (.t 37))⟩, [37, 33], none, [], [34, 30, 29, 25, 28, 24, 20, 23, 19, 15, 18, 14, 13, 10, 9, 7, 4, 8, 3, 2, 1, 0, 6, 5, 12, 11, 17, 16, 22, 21, 27, 26]⟩,
 ⟨36, ⟨(some 39), (some (33, false)), .call (.c (.fn 142 [])) [(.t 38)]⟩, [38, 33], none, [4, 3, 2], [35, 30, 34, 29, 25, 28, 24, 20, 23, 19, 15, 18, 14, 13, 10, 9, 7, 4, 8, 3, 2, 1, 0, 6, 5, 12, 11, 17, 16, 22, 21, 27, 26]⟩,
 ⟨37, ⟨(some 40), (some (33, false)), .q (.bin .gtr (.t 36) (.t 39))⟩, [36, 39, 33], none, [], [33, 36, 30, 32, 31, 29, 25, 28, 24, 20, 23, 19, 15, 18, 14, 13, 10, 9, 7, 4, 8, 3, 2, 1, 0, 6, 5, 12, 11, 17, 16, 22, 21, 27, 26, 35, 34]⟩,
 ⟨38, ⟨(some 41), none, .q (.pick (.t 33) (.c (.b true)) (.t 40))⟩, [33, 40], none, [], [30, 37, 29, 25, 28, 24, 20, 23, 19, 15, 18, 14, 13, 10, 9, 7, 4, 8, 3, 2, 1, 0, 6, 5, 12, 11, 17, 16, 22, 21, 27, 26, 33, 36, 32, 31, 35, 34]⟩])
 (.cond (.t 41) .dead
 .skip))
 (.seq (.seq (.reg [⟨(some 42), none, .q (.fa 2 (.t 1))⟩,
 ⟨(some 43), none, .q (.ld1 (.t 42))⟩,
 ⟨(some 44), none, .q (.un .not (.t 43))⟩])
 (.cond (.t 44) (.seq (.reg [⟨(some 45), none, .q (.fa 3 (.t 1))⟩,
 ⟨(some 46), none, .q (.ld1 (.t 45))⟩,
 ⟨(some 47), none, .q (.bni .eql (.t 46) (.c (.i .i64 0)))⟩,
 ⟨(some 48), none, .q (.mov (.t 47))⟩,
 ⟨(some 49), (some (48, true)), .q (.fa 4 (.t 1))⟩,
 ⟨(some 50), (some (48, true)), .q (.ld1 (.t 49))⟩,
 ⟨(some 51), (some (48, true)), .q (.bni .eql (.t 50) (.c (.i .i64 0)))⟩,
 ⟨(some 52), none, .q (.pick (.t 48) (.t 51) (.c (.b false)))⟩,
 ⟨(some 2), none, .q (.mov (.t 52))⟩])
 .ret)
 .dead))
 .dead)))⟩
def f94 : FnC := ⟨26, [.tmp 4],
 (.seq (.reg [⟨(some 4), none, .q (.mov (.c (.b false)))⟩])
 (.seq (.seq (.reg [⟨(some 6), none, .q (.mov (.t 0))⟩,
 ⟨(some 7), none, .q (.lenL (.t 6))⟩,
 ⟨(some 8), none, .q (.mov (.t 1))⟩,
 ⟨(some 9), none, .q (.lenL (.t 8))⟩,
 ⟨(some 10), none, .q (.bni .neq (.t 7) (.t 9))⟩])
 (.cond (.t 10) .dead
 .skip))
 (.seq (.seq (.reg [⟨(some 11), none, .q (.mov (.t 0))⟩,
 ⟨(some 12), none, .q (.lenL (.t 11))⟩,
 ⟨(some 13), none, .q (.mov (.c (.i .i64 0)))⟩])
 (.block 0 (.loop (.seq (.reg [⟨(some 14), none, .q (.bin .lss (.t 13) (.t 12))⟩])
 (.seq (.cond (.t 14) .skip
 (.exit 0))
 (.seq (.block 1 (.seq (.reg [⟨(some 15), none, .q (.mov (.t 13))⟩,
 ⟨(some 5), none, .q (.mov (.t 15))⟩])
 (.seq (.dreg [⟨0, ⟨(some 16), none, .q (.mov (.t 0))⟩, [0], none, [], []⟩,
 ⟨1, ⟨(some 17), none, .q (.mov (.t 5))⟩, [5], none, [], []⟩,
 ⟨2, ⟨(some 18), none, .q (.ia 1 (.t 16) (.t 17))⟩, [16, 17], none, [], [0, 1]⟩,
 ⟨3, ⟨(some 19), none, .q (.ld1 (.t 18))⟩, [18], none, [], [2, 0, 1]⟩,
 ⟨4, ⟨(some 20), none, .q (.mov (.t 1))⟩, [1], none, [], []⟩,
 ⟨5, ⟨(some 21), none, .q (.mov (.t 5))⟩, [5], none, [], []⟩,
 ⟨6, ⟨(some 22), none, .q (.ia 1 (.t 20) (.t 21))⟩, [20, 21], none, [], [4, 5]⟩,
 ⟨7, ⟨(some 23), none, .q (.ld1 (.t 22))⟩, [22], none, [], [6, 4, 5]⟩,
 ⟨8, ⟨(some 24), none, .q (.bni .neq (.t 19) (.t 23))⟩, [19, 23], none, [], [3, 7, 2, 0, 1, 6, 4, 5]⟩])
 (.cond (.t 24) .dead
 .skip))))
 (.reg [⟨(some 25), none, .q (.bin .add (.t 13) (.c (.i .i64 1)))⟩,
 ⟨(some 13), none, .q (.mov (.t 25))⟩])))))))
 (.seq (.reg [⟨(some 4), none, .q (.mov (.c (.b true)))⟩])
 .ret))))⟩
def f95 : FnC := ⟨2, [.tmp 0],
 (.seq (.reg [⟨(some 0), none, .q (.mov (.c .nilsl))⟩])
 (.seq (.reg [⟨(some 1), none, .a (.mkSl 1 7 (List.replicate 7 (.i .u8 0)) [(0, 1, (.c (.i .u8 66))), (1, 1, (.c (.i .u8 66))), (2, 1, (.c (.i .u8 3))), (3, 1, (.c (.i .u8 0))), (4, 1, (.c (.i .u8 0))), (5, 1, (.c (.i .u8 2))), (6, 1, (.c (.i .u8 2)))])⟩,
 ⟨(some 0), none, .q (.mov (.t 1))⟩])
 .ret))⟩
def f96 : FnC := ⟨35, [.tmp 4],
 (.seq (.reg [⟨(some 4), none, .q (.mov (.c (.i .u64 0)))⟩])
 (.seq (.reg [⟨(some 5), none, .q (.mov (.c (.i .u64 0)))⟩])
 (.seq (.seq (.reg [⟨(some 8), none, .q (.mov (.t 0))⟩,
 ⟨(some 9), none, .q (.nck (.t 8))⟩,
 ⟨(some 10), none, .q (.fa 0 (.t 9))⟩,
 ⟨(some 11), none, .q (.ld1 (.t 10))⟩,
 ⟨(some 12), none, .q (.mov (.t 1))⟩,
 ⟨(some 13), none, .q (.sl 1 (.t 11) none (some (.t 12)) none)⟩,
 ⟨(some 14), none, .q (.lenL (.t 13))⟩,
 ⟨(some 15), none, .q (.mov (.c (.i .i64 0)))⟩])
 (.block 0 (.loop (.seq (.reg [⟨(some 16), none, .q (.bin .lss (.t 15) (.t 14))⟩])
 (.seq (.cond (.t 16) .skip
 (.exit 0))
 (.seq (.block 1 (.seq (.reg [⟨(some 17), none, .q (.ia 1 (.t 13) (.t 15))⟩,
 ⟨(some 18), none, .q (.ld1 (.t 17))⟩,
 ⟨(some 7), none, .q (.mov (.t 18))⟩])
 (.reg [⟨(some 19), none, .q (.mov (.t 5))⟩,
 ⟨(some 20), none, .q (.bin .shl (.t 19) (.c (.i .u64 8)))⟩,
 ⟨(some 21), none, .q (.mov (.t 7))⟩,
 ⟨(some 22), none, .q (.cvi .u64 (.t 21))⟩,
 ⟨(some 23), none, .q (.bin .or (.t 20) (.t 22))⟩,
 ⟨(some 5), none, .q (.mov (.t 23))⟩])))
 (.reg [⟨(some 24), none, .q (.bin .add (.t 15) (.c (.i .i64 1)))⟩,
 ⟨(some 15), none, .q (.mov (.t 24))⟩])))))))
 (.seq (.reg [⟨(some 25), none, .q (.mov (.t 0))⟩,
 ⟨(some 26), none, .q (.mov (.t 0))⟩,
 ⟨(some 27), none, .q (.nck (.t 26))⟩,
 ⟨(some 28), none, .q (.fa 0 (.t 27))⟩,
 ⟨(some 29), none, .q (.ld1 (.t 28))⟩,
 ⟨(some 30), none, .q (.mov (.t 1))⟩,
 ⟨(some 31), none, .q (.sl 1 (.t 29) (some (.t 30)) none none)⟩,
 ⟨(some 32), none, .q (.nck (.t 25))⟩,
 ⟨(some 33), none, .q (.fa 0 (.t 32))⟩,
 ⟨none, none, .h (.st 1 (.t 33) (.t 31))⟩])
 (.seq (.reg [⟨(some 34), none, .q (.mov (.t 5))⟩,
 ⟨(some 4), none, .q (.mov (.t 34))⟩])
 .ret)))))⟩
def f97 : FnC := ⟨33, [.tmp 2],
 (.seq (.reg [⟨(some 1), none, .a (.box (.t 0))⟩,
 ⟨(some 2), none, .q (.mov (.c (.b false)))⟩])
 (.seq (.reg [⟨(some 3), none, .q (.fa 4 (.t 1))⟩,
 ⟨(some 4), none, .q (.ld1 (.t 3))⟩,
 ⟨(some 5), none, .q (.bin .geq (.t 4) (.c (.i .i64 0)))⟩,
 ⟨(some 6), none, .q (.mov (.t 5))⟩,
 ⟨(some 7), (some (6, true)), .q (.fa 4 (.t 1))⟩,
 ⟨(some 8), (some (6, true)), .q (.ld1 (.t 7))⟩,
 ⟨(some 9), (some (6, true)), .q (.bin .leq (.t 8) (.c (.i .i64 65535)))⟩,
 ⟨(some 10), none, .q (.pick (.t 6) (.t 9) (.c (.b false)))⟩,
 ⟨(some 11), none, .q (.mov (.t 10))⟩,
 ⟨(some 12), (some (11, true)), .q (.fa 0 (.t 1))⟩,
 ⟨(some 13), (some (11, true)), .q (.fa 3 (.t 12))⟩,
 ⟨(some 14), (some (11, true)), .q (.ld1 (.t 13))⟩,
 ⟨(some 15), (some (11, true)), .q (.bin .geq (.t 14) (.c (.i .i64 0)))⟩,
 ⟨(some 16), none, .q (.pick (.t 11) (.t 15) (.c (.b false)))⟩,
 ⟨(some 17), none, .q (.mov (.t 16))⟩,
 ⟨(some 18), (some (17, true)), .q (.fa 0 (.t 1))⟩,
 ⟨(some 19), (some (17, true)), .q (.fa 3 (.t 18))⟩,
 ⟨(some 20), (some (17, true)), .q (.ld1 (.t 19))⟩,
 ⟨(some 21), (some (17, true)), .q (.bin .leq (.t 20) (.c (.i .i64 65535)))⟩,
 ⟨(some 22), none, .q (.pick (.t 17) (.t 21) (.c (.b false)))⟩,
 ⟨(some 23), none, .q (.mov (.t 22))⟩,
 ⟨(some 24), (some (23, true)), .q (.fa 5 (.t 1))⟩,
 ⟨(some 25), (some (23, true)), .q (.ld1 (.t 24))⟩,
 ⟨(some 26), (some (23, true)), .q (.bin .geq (.t 25) (.c (.i .i64 1)))⟩,
 ⟨(some 27), none, .q (.pick (.t 23) (.t 26) (.c (.b false)))⟩,
 ⟨(some 28), none, .q (.mov (.t 27))⟩,
 ⟨(some 29), (some (28, true)), .q (.fa 5 (.t 1))⟩,
 ⟨(some 30), (some (28, true)), .q (.ld1 (.t 29))⟩,
 ⟨(some 31), (some (28, true)), .q (.bin .leq (.t 30) (.c (.i .i64 3)))⟩,
 ⟨(some 32), none, .q (.pick (.t 28) (.t 31) (.c (.b false)))⟩,
 ⟨(some 2), none, .q (.mov (.t 32))⟩])
 .ret))⟩
def f98 : FnC := ⟨57, [.tmp 6, .tmp 7],
 (.seq (.reg [⟨(some 6), none, .q (.mov (.c .nilsl))⟩,
 ⟨(some 7), none, .q (.mov (.c .nilsl))⟩])
 (.seq (.seq (.reg [⟨(some 11), none, .q (.mov (.t 0))⟩,
 ⟨(some 12), none, .q (.eqr false .ptr (.t 11) (.c .nilp))⟩,
 ⟨(some 13), none, .q (.mov (.t 12))⟩,
 ⟨(some 14), (some (13, false)), .q (.mov (.t 1))⟩,
 ⟨(some 15), (some (13, false)), .q (.bin .lss (.t 14) (.c (.i .i64 0)))⟩,
 ⟨(some 16), none, .q (.pick (.t 13) (.c (.b true)) (.t 15))⟩,
 ⟨(some 17), none, .q (.mov (.t 16))⟩,
 ⟨(some 18), (some (17, false)), .q (.mov (.t 1))⟩,
 ⟨(some 19), (some (17, false)), .q (.mov (.t 0))⟩,
 ⟨(some 20), (some (17, false)), .q (.nck (.t 19))⟩,
 ⟨(some 21), (some (17, false)), .q (.fa 3 (.t 20))⟩,
 ⟨(some 22), (some (17, false)), .q (.ld1 (.t 21))⟩,
 ⟨(some 23), (some (17, false)), .q (.lenL (.t 22))⟩,
 ⟨(some 24), (some (17, false)), .q (.bin .geq (.t 18) (.t 23))⟩,
 ⟨(some 25), none, .q (.pick (.t 17) (.c (.b true)) (.t 24))⟩,
 ⟨(some 26), none, .q (.mov (.t 25))⟩,
 ⟨(some 27), (some (26, false)), .q (.mov (.t 0))⟩,
 ⟨(some 28), (some (26, false)), .q (.nck (.t 27))⟩,
 ⟨(some 29), (some (26, false)), .q (.fa 3 (.t 28))⟩,
 ⟨(some 30), (some (26, false)), .q (.ld1 (.t 29))⟩,
 ⟨(some 31), (some (26, false)), .q (.mov (.t 1))⟩,
 ⟨(some 32), (some (26, false)), .q (.ia 13 (.t 30) (.t 31))⟩,
 ⟨(some 33), (some (26, false)), .q (.fa 0 (.t 32))⟩,
 ⟨(some 34), (some (26, false)), .q (.fa 0 (.t 33))⟩,
 ⟨(some 35), (some (26, false)), .q (.ld1 (.t 34))⟩,
 ⟨(some 36), (some (26, false)), .q (.un .not (.t 35))⟩,
 ⟨(some 37), none, .q (.pick (.t 26) (.c (.b true)) (.t 36))⟩])
 (.cond (.t 37) .dead
 .skip))
 (.seq (.reg [⟨(some 38), none, .q (.mov (.t 0))⟩,
 ⟨(some 39), none, .call (.c (.fn 70 [])) [(.t 38)]⟩,
 ⟨(some 8), none, .q (.mov (.t 39))⟩])
 (.seq (.seq (.reg [⟨(some 40), none, .q (.mov (.t 2))⟩,
 ⟨(some 41), none, .q (.lenL (.t 40))⟩,
 ⟨(some 42), none, .q (.mov (.c (.i .i64 0)))⟩])
 (.block 0 (.loop (.seq (.reg [⟨(some 43), none, .q (.bin .lss (.t 42) (.t 41))⟩])
 (.seq (.cond (.t 43) .skip
 (.exit 0))
 (.seq (.block 1 (.seq (.reg [⟨(some 44), none, .q (.ia 11 (.t 40) (.t 42))⟩,
 ⟨(some 45), none, .q (.ldn 11 (.t 44))⟩,
 ⟨(some 10), none, .a (.new [(.i .u64 0), (.i .u32 0), (.i .u64 0), (.i .i64 0), (.i .i64 0), (.i .i64 0), (.b false), (.b false), (.b false), (.b false), (.b false)])⟩,
 ⟨none, none, .h (.st 11 (.t 10) (.t 45))⟩])
 (.reg [⟨(some 46), none, .q (.mov (.t 6))⟩,
 ⟨(some 47), none, .q (.mov (.t 0))⟩,
 ⟨(some 48), none, .q (.mov (.t 1))⟩,
 ⟨(some 49), none, .q (.ldn 11 (.t 10))⟩,
 ⟨(some 50), none, .call (.c (.fn 143 [])) [(.t 47), (.t 48), (.t 49)]⟩,
 ⟨(some 51), none, .h (.app 12 64 (.t 46) (.t 50))⟩,
 ⟨(some 6), none, .q (.mov (.t 51))⟩])))
 (.reg [⟨(some 52), none, .q (.bin .add (.t 42) (.c (.i .i64 1)))⟩,
 ⟨(some 42), none, .q (.mov (.t 52))⟩])))))))
 (.seq (.reg [⟨(some 53), none, .q (.mov (.t 6))⟩,
 ⟨(some 54), none, .q (.mov (.t 0))⟩,
 ⟨(some 55), none, .q (.mov (.t 8))⟩,
 ⟨(some 56), none, .call (.c (.fn 75 [])) [(.t 54), (.t 55)]⟩,
 ⟨(some 6), none, .q (.mov (.t 53))⟩,
 ⟨(some 7), none, .q (.mov (.t 56))⟩])
 .ret)))))⟩
def f105 : FnC := ⟨16, [.cell (some 6) 2],
 (.seq (.reg [⟨(some 1), none, .a (.box (.t 0))⟩,
 ⟨(some 2), none, .a (.new [(.i .i64 0), (.i .i64 0), (.i .i64 0), .nilsl, .nilsl, .nilsl])⟩])
 (.seq (.dreg [⟨0, ⟨(some 3), none, .q (.fa 3 (.t 1))⟩, [1], none, [], []⟩,
 ⟨1, ⟨(some 4), none, .q (.ld1 (.t 3))⟩, [3], none, [], [0]⟩,
 ⟨3, ⟨(some 6), none, .q (.fa 4 (.t 1))⟩, [1], none, [], []⟩,
 ⟨4, ⟨(some 7), none, .q (.ld1 (.t 6))⟩, [6], none, [], [2]⟩,
 ⟨6, ⟨(some 9), none, .q (.fa 5 (.t 1))⟩, [1], none, [], []⟩,
 ⟨7, ⟨(some 10), none, .q (.ld1 (.t 9))⟩, [9], none, [], [4]⟩,
 ⟨2, ⟨(some 5), none, .call (.c (.fn 152 [])) [(.t 4)]⟩, [4], none, [3, 2, 1, 0], [1, 0]⟩,
 ⟨9, ⟨(some 12), none, .q (.fa 3 (.t 1))⟩, [1], none, [], [0, 1, 6, 2, 3, 4, 5]⟩,
 ⟨5, ⟨(some 8), none, .call (.c (.fn 153 [])) [(.t 7)]⟩, [7], none, [3, 2, 0], [3, 6, 2, 1, 0]⟩,
 ⟨8, ⟨(some 11), none, .call (.c (.fn 154 [])) [(.t 10)]⟩, [10], none, [1], [5, 8, 4, 3, 6, 2, 1, 0]⟩,
 ⟨10, ⟨none, none, .h (.st 1 (.t 12) (.t 5))⟩, [12, 5], none, [], [7, 6, 9, 0, 1, 2, 3, 4, 5, 8]⟩,
 ⟨11, ⟨(some 13), none, .q (.fa 4 (.t 1))⟩, [1], none, [], [0, 1, 6, 2, 3, 8, 4, 5, 7, 10, 9]⟩,
 ⟨12, ⟨none, none, .h (.st 1 (.t 13) (.t 8))⟩, [13, 8], none, [], [11, 8, 10, 0, 1, 6, 2, 3, 4, 5, 7, 9]⟩,
 ⟨13, ⟨(some 14), none, .q (.fa 5 (.t 1))⟩, [1], none, [], [0, 1, 6, 2, 3, 8, 4, 5, 9, 7, 10, 11, 12]⟩,
 ⟨14, ⟨none, none, .h (.st 1 (.t 14) (.t 11))⟩, [14, 11], none, [], [13, 9, 12, 0, 1, 6, 2, 3, 8, 4, 5, 7, 10, 11]⟩])
 (.seq (.reg [⟨(some 15), none, .q (.ldn 6 (.t 1))⟩,
 ⟨none, none, .h (.st 6 (.t 2) (.t 15))⟩])
 .ret)))⟩
def f106 : FnC := ⟨18, [.cell (some 6) 2],
 (.seq (.reg [⟨(some 2), none, .a (.new (List.replicate 6 (.i .u8 0)))⟩])
 (.seq (.reg [⟨(some 3), none, .a (.new (List.replicate 6 (.i .u8 0)))⟩])
 (.seq (.seq (.reg [⟨(some 5), none, .q (.mov (.c (.i .i64 0)))⟩])
 (.block 0 (.loop (.seq (.reg [⟨(some 6), none, .q (.bin .lss (.t 5) (.c (.i .i64 6)))⟩])
 (.seq (.cond (.t 6) .skip
 (.exit 0))
 (.seq (.block 1 (.seq (.reg [⟨(some 7), none, .q (.mov (.t 5))⟩,
 ⟨(some 4), none, .q (.mov (.t 7))⟩])
 (.reg [⟨(some 8), none, .q (.mov (.t 4))⟩,
 ⟨(some 9), none, .q (.mov (.t 0))⟩,
 ⟨(some 10), none, .q (.mov (.t 4))⟩,
 ⟨(some 11), none, .q (.bin .sub (.c (.i .i64 5)) (.t 10))⟩,
 ⟨(some 12), none, .q (.bin .mul (.c (.i .i64 8)) (.t 11))⟩,
 ⟨(some 13), none, .q (.bin .shr (.t 9) (.t 12))⟩,
 ⟨(some 14), none, .q (.cvi .u8 (.t 13))⟩,
 ⟨(some 15), none, .q (.iaa 6 1 (.t 3) (.t 8))⟩,
 ⟨none, none, .h (.st 1 (.t 15) (.t 14))⟩])))
 (.reg [⟨(some 16), none, .q (.bin .add (.t 5) (.c (.i .i64 1)))⟩,
 ⟨(some 5), none, .q (.mov (.t 16))⟩])))))))
 (.seq (.reg [⟨(some 17), none, .q (.ldn 6 (.t 3))⟩,
 ⟨none, none, .h (.st 6 (.t 2) (.t 17))⟩])
 .ret))))⟩
def f107 : FnC := ⟨5, [.tmp 2],
 (.seq (.reg [⟨(some 2), none, .q (.mov (.c .nilsl))⟩])
 (.seq (.reg [⟨(some 3), none, .q (.mov (.t 0))⟩,
 ⟨(some 4), none, .call (.c (.fn 155 [])) [(.t 3)]⟩,
 ⟨(some 2), none, .q (.mov (.t 4))⟩])
 .ret))⟩
def f108 : FnC := ⟨9, [.tmp 2],
 (.seq (.reg [⟨(some 2), none, .q (.mov (.c .nilsl))⟩])
 (.seq (.reg [⟨(some 3), none, .q (.mov (.t 0))⟩,
 ⟨(some 4), none, .q (.bin .shr (.t 3) (.c (.i .u64 8)))⟩,
 ⟨(some 5), none, .q (.cvi .u8 (.t 4))⟩,
 ⟨(some 6), none, .q (.mov (.t 0))⟩,
 ⟨(some 7), none, .q (.cvi .u8 (.t 6))⟩,
 ⟨(some 8), none, .a (.mkSl 1 2 [(.i .u8 0), (.i .u8 0)] [(0, 1, (.t 5)), (1, 1, (.t 7))])⟩,
 ⟨(some 2), none, .q (.mov (.t 8))⟩])
 .ret))⟩
def f110 : FnC := ⟨10, [.tmp 2],
 (.seq (.reg [⟨(some 2), none, .q (.mov (.c (.i .i64 0)))⟩])
 (.seq (.seq (.reg [⟨(some 3), none, .q (.mov (.t 0))⟩,
 ⟨(some 4), none, .q (.eqr false .ptr (.t 3) (.c .nilp))⟩])
 (.cond (.t 4) .dead
 .skip))
 (.seq (.reg [⟨(some 5), none, .q (.mov (.t 0))⟩,
 ⟨(some 6), none, .q (.nck (.t 5))⟩,
 ⟨(some 7), none, .q (.fa 0 (.t 6))⟩,
 ⟨(some 8), none, .q (.ld1 (.t 7))⟩,
 ⟨(some 9), none, .q (.lenL (.t 8))⟩,
 ⟨(some 2), none, .q (.mov (.t 9))⟩])
 .ret)))⟩
def f111 : FnC := ⟨42, [.tmp 4, .tmp 5, .tmp 6],
 (.seq (.reg [⟨(some 4), none, .q (.mov (.c (.i .u32 0)))⟩,
 ⟨(some 5), none, .q (.mov (.c .nilsl))⟩,
 ⟨(some 6), none, .q (.mov (.c (.i .i64 0)))⟩])
 (.seq (.reg [⟨(some 13), none, .q (.mov (.t 0))⟩,
 ⟨(some 14), none, .call (.c (.fn 158 [])) [(.t 13)]⟩,
 ⟨(some 12), none, .q (.mov (.t 14))⟩,
 ⟨(some 15), none, .q (.ext 0 (.t 12))⟩,
 ⟨(some 16), none, .q (.ext 1 (.t 12))⟩,
 ⟨(some 17), none, .q (.ext 2 (.t 12))⟩,
 ⟨(some 7), none, .q (.mov (.t 15))⟩,
 ⟨(some 8), none, .q (.mov (.t 16))⟩,
 ⟨(some 9), none, .q (.mov (.t 17))⟩])
 (.seq (.seq (.reg [⟨(some 18), none, .q (.mov (.t 9))⟩,
 ⟨(some 19), none, .q (.bni .neq (.t 18) (.c (.i .i64 13)))⟩])
 (.cond (.t 19) .dead
 .skip))
 (.seq (.reg [⟨(some 24), none, .q (.mov (.t 1))⟩,
 ⟨(some 25), none, .call (.c (.fn 159 [])) [(.t 24)]⟩,
 ⟨(some 23), none, .q (.mov (.t 25))⟩,
 ⟨(some 26), none, .q (.ext 0 (.t 23))⟩,
 ⟨(some 27), none, .q (.ext 1 (.t 23))⟩,
 ⟨(some 10), none, .a (.new [(.i .i64 0), (.i .i64 0), (.i .i64 0), .nilsl, .nilsl, .nilsl])⟩,
 ⟨none, none, .h (.st 6 (.t 10) (.t 26))⟩,
 ⟨(some 9), none, .q (.mov (.t 27))⟩])
 (.seq (.seq (.reg [⟨(some 28), none, .q (.mov (.t 9))⟩,
 ⟨(some 29), none, .q (.bni .neq (.t 28) (.c (.i .i64 0)))⟩])
 (.cond (.t 29) .dead
 .skip))
 (.seq (.seq (.reg [⟨(some 31), none, .q (.mov (.t 0))⟩,
 ⟨(some 32), none, .q (.ldn 6 (.t 10))⟩,
 ⟨(some 33), none, .call (.c (.fn 160 [])) [(.t 31), (.c (.i .u32 1)), (.t 32)]⟩,
 ⟨(some 11), none, .q (.mov (.t 33))⟩])
 (.seq (.reg [⟨(some 34), none, .q (.mov (.t 11))⟩,
 ⟨(some 35), none, .q (.bni .neq (.t 34) (.c (.i .i64 0)))⟩])
 (.cond (.t 35) .dead
 .skip)))
 (.seq (.reg [⟨(some 37), none, .q (.mov (.t 0))⟩,
 ⟨(some 38), none, .call (.c (.fn 158 [])) [(.t 37)]⟩,
 ⟨(some 39), none, .q (.ext 0 (.t 38))⟩,
 ⟨(some 40), none, .q (.ext 1 (.t 38))⟩,
 ⟨(some 41), none, .q (.ext 2 (.t 38))⟩,
 ⟨(some 4), none, .q (.mov (.t 39))⟩,
 ⟨(some 5), none, .q (.mov (.t 40))⟩,
 ⟨(some 6), none, .q (.mov (.t 41))⟩])
 .ret)))))))⟩
def f112 : FnC := ⟨20, [.cell (some 6) 2, .tmp 3],
 (.seq (.reg [⟨(some 2), none, .a (.new [(.i .i64 0), (.i .i64 0), (.i .i64 0), .nilsl, .nilsl, .nilsl])⟩,
 ⟨(some 3), none, .q (.mov (.c (.i .i64 0)))⟩])
 (.seq (.reg [⟨(some 6), none, .q (.mov (.t 0))⟩,
 ⟨(some 7), none, .q (.build [.nilsl, (.b false)] [(0, 1, (.t 6))])⟩,
 ⟨(some 8), none, .q (.build [.nilsl, (.b false)] [(0, 2, (.t 7))])⟩,
 ⟨(some 9), none, .a (.box (.t 8))⟩,
 ⟨(some 4), none, .q (.mov (.t 9))⟩])
 (.seq (.seq (.reg [⟨(some 10), none, .q (.mov (.t 4))⟩,
 ⟨(some 11), none, .call (.c (.fn 161 [])) [(.t 10)]⟩,
 ⟨(some 5), none, .a (.new [(.i .i64 0), (.i .i64 0), (.i .i64 0), .nilsl, .nilsl, .nilsl])⟩,
 ⟨none, none, .h (.st 6 (.t 5) (.t 11))⟩])
 (.seq (.reg [⟨(some 12), none, .q (.mov (.t 4))⟩,
 ⟨(some 13), none, .call (.c (.fn 162 [])) [(.t 12)]⟩,
 ⟨(some 14), none, .q (.mov (.t 13))⟩,
 ⟨(some 15), (some (14, true)), .q (.ldn 6 (.t 5))⟩,
 ⟨(some 16), (some (14, true)), .call (.c (.fn 163 [])) [(.t 15)]⟩,
 ⟨(some 17), none, .q (.pick (.t 14) (.t 16) (.c (.b false)))⟩])
 (.cond (.t 17) (.seq (.reg [⟨(some 18), none, .q (.ldn 6 (.t 5))⟩,
 ⟨none, none, .h (.st 6 (.t 2) (.t 18))⟩,
 ⟨(some 3), none, .q (.mov (.c (.i .i64 0)))⟩])
 .ret)
 .dead)))
 .dead)))⟩
def f113 : FnC := ⟨102, [.tmp 8, .tmp 9],
 (.seq (.reg [⟨(some 8), none, .q (.mov (.c .nilp))⟩,
 ⟨(some 9), none, .q (.mov (.c (.i .i64 0)))⟩])
 (.seq (.seq (.reg [⟨(some 15), none, .q (.mov (.t 0))⟩,
 ⟨(some 16), none, .q (.eqr false .ptr (.t 15) (.c .nilp))⟩,
 ⟨(some 17), none, .q (.mov (.t 16))⟩,
 ⟨(some 18), (some (17, false)), .q (.mov (.t 1))⟩,
 ⟨(some 19), (some (17, false)), .q (.bin .lss (.t 18) (.c (.i .i64 0)))⟩,
 ⟨(some 20), none, .q (.pick (.t 17) (.c (.b true)) (.t 19))⟩,
 ⟨(some 21), none, .q (.mov (.t 20))⟩,
 ⟨(some 22), (some (21, false)), .q (.mov (.t 1))⟩,
 ⟨(some 23), (some (21, false)), .q (.mov (.t 2))⟩,
 ⟨(some 24), (some (21, false)), .q (.bin .geq (.t 22) (.t 23))⟩,
 ⟨(some 25), none, .q (.pick (.t 21) (.c (.b true)) (.t 24))⟩,
 ⟨(some 26), none, .q (.mov (.t 25))⟩,
 ⟨(some 27), (some (26, false)), .q (.mov (.t 2))⟩,
 ⟨(some 28), (some (26, false)), .q (.mov (.t 0))⟩,
 ⟨(some 29), (some (26, false)), .call (.c (.fn 110 [])) [(.t 28)]⟩,
 ⟨(some 30), (some (26, false)), .q (.bin .gtr (.t 27) (.t 29))⟩,
 ⟨(some 31), none, .q (.pick (.t 26) (.c (.b true)) (.t 30))⟩])
 (.cond (.t 31) .dead
 .skip))
 (.seq (.reg [⟨(some 32), none, .q (.mov (.t 0))⟩,
 ⟨(some 33), none, .q (.mov (.t 1))⟩,
 ⟨(some 34), none, .q (.mov (.t 2))⟩,
 ⟨(some 35), none, .q (.build [.nilp, (.i .i64 0), (.i .i64 0)] [(0, 1, (.t 32)), (1, 1, (.t 33)), (2, 1, (.t 34))])⟩,
 ⟨(some 36), none, .q (.mov (.t 3))⟩,
 ⟨(some 37), none, .q (.mov (.t 1))⟩,
 ⟨(some 38), none, .q (.build [.nilp, (.i .i64 0), (.i .i64 0), (.i .u32 0), (.i .i64 0), .nilsl] [(0, 3, (.t 35)), (3, 1, (.t 36)), (4, 1, (.t 37))])⟩,
 ⟨(some 39), none, .a (.box (.t 38))⟩,
 ⟨(some 10), none, .q (.mov (.t 39))⟩])
 (.seq (.reg [⟨(some 40), none, .q (.mov (.t 10))⟩,
 ⟨(some 41), none, .q (.nck (.t 40))⟩,
 ⟨(some 42), none, .q (.fa 0 (.t 41))⟩,
 ⟨(some 43), none, .q (.ldn 3 (.t 42))⟩,
 ⟨(some 44), none, .q (.mov (.t 1))⟩,
 ⟨(some 45), none, .call (.c (.fn 164 [])) [(.t 43), (.t 44)]⟩,
 ⟨(some 11), none, .q (.mov (.t 45))⟩])
 (.seq (.block 0 (.loop (.seq (.seq (.reg [⟨(some 46), none, .q (.mov (.t 11))⟩,
 ⟨(some 47), none, .q (.lenL (.t 46))⟩,
 ⟨(some 48), none, .q (.bin .gtr (.t 47) (.c (.i .i64 0)))⟩])
 (.cond (.t 48) .skip
 .dead))
 (.block 1 (.seq (.reg [⟨(some 50), none, .q (.mov (.t 11))⟩,
 ⟨(some 51), none, .call (.c (.fn 165 [])) [(.t 50)]⟩,
 ⟨(some 49), none, .q (.mov (.t 51))⟩,
 ⟨(some 52), none, .q (.ext 0 (.t 49))⟩,
 ⟨(some 53), none, .q (.ext 1 (.t 49))⟩,
 ⟨(some 54), none, .q (.ext 2 (.t 49))⟩,
 ⟨(some 12), none, .a (.new [(.i .i64 0), (.i .u32 0), (.i .u32 0), .nilsl])⟩,
 ⟨none, none, .h (.st 4 (.t 12) (.t 52))⟩,
 ⟨(some 13), none, .q (.mov (.t 53))⟩,
 ⟨(some 14), none, .q (.mov (.t 54))⟩])
 (.seq (.seq (.dreg [⟨0, ⟨(some 55), none, .q (.mov (.t 14))⟩, [14], none, [], []⟩,
 ⟨1, ⟨(some 56), none, .q (.bni .neq (.t 55) (.c (.i .i64 0)))⟩, [55], none, [], [0]⟩,
 ⟨2, ⟨(some 57), none, .q (.mov (.t 56))⟩, [56], none, [], [1, 0]⟩,
 ⟨3, ⟨(some 58), (some (57, false)), .q (.fa 0 (.t 12))⟩, [12, 57], none, [], [2, 1, 0]⟩,
 ⟨4, ⟨(some 59), (some (57, false)), .q (.ld1 (.t 58))⟩, [58, 57], none, [], [3, 2, 1, 0]⟩,
 ⟨5, ⟨(some 60), (some (57, false)), .q (.bni .neq (.t 59) (.c (.i .i64 1)))⟩, [59, 57], none, [], [4, 2, 3, 1, 0]⟩,
 ⟨6, ⟨(some 61), none, .q (.pick (.t 57) (.c (.b true)) (.t 60))⟩, [57, 60], none, [], [2, 5, 1, 0, 4, 3]⟩,
 ⟨7, ⟨(some 62), none, .q (.mov (.t 61))⟩, [61], none, [], [6, 2, 5, 1, 0, 4, 3]⟩,
 ⟨8, ⟨(some 63), (some (62, false)), .q (.fa 1 (.t 12))⟩, [12, 62], none, [], [7, 6, 2, 5, 1, 0, 4, 3]⟩,
 ⟨9, ⟨(some 64), (some (62, false)), .q (.ld1 (.t 63))⟩, [63, 62], none, [], [8, 7, 6, 2, 5, 1, 0, 4, 3]⟩,
 ⟨10, ⟨(some 65), (some (62, false)), .q (.mov (.t 3))⟩, [3, 62], none, [], [7, 6, 2, 5, 1, 0, 4, 3]⟩,
 ⟨11, ⟨(some 66), (some (62, false)), .q (.bni .neq (.t 64) (.t 65))⟩, [64, 65, 62], none, [], [9, 10, 7, 8, 6, 2, 5, 1, 0, 4, 3]⟩,
 ⟨12, ⟨(some 67), none, .q (.pick (.t 62) (.c (.b true)) (.t 66))⟩, [62, 66], none, [], [7, 11, 6, 2, 5, 1, 0, 4, 3, 9, 10, 8]⟩,
 ⟨13, ⟨(some 68), none, .q (.mov (.t 67))⟩, [67], none, [], [12, 7, 11, 6, 2, 5, 1, 0, 4, 3, 9, 10, 8]⟩,
 ⟨14, ⟨(some 69), (some (68, false)), .q (.fa 2 (.t 12))⟩, [12, 68], none, [], [13, 12, 7, 11, 6, 2, 5, 1, 0, 4, 3, 9, 10, 8]⟩,
 ⟨15, ⟨(some 70), (some (68, false)), .q (.ld1 (.t 69))⟩, [69, 68], none, [], [14, 13, 12, 7, 11, 6, 2, 5, 1, 0, 4, 3, 9, 10, 8]⟩,
 ⟨16, ⟨(some 71), (some (68, false)), .q (.mov (.t 10))⟩, [10, 68], none, [], [13, 12, 7, 11, 6, 2, 5, 1, 0, 4, 3, 9, 10, 8]⟩,
 ⟨17, ⟨(some 72), (some (68, false)), .q (.nck (.t 71))⟩, [71, 68], none, [], [16, 13, 12, 7, 11, 6, 2, 5, 1, 0, 4, 3, 9, 10, 8]⟩,
 ⟨18, ⟨(some 73), (some (68, false)), .q (.fa 5 (.t 72))⟩, [72, 68], none, [], [17, 13, 16, 12, 7, 11, 6, 2, 5, 1, 0, 4, 3, 9, 10, 8]⟩,
 ⟨19, ⟨(some 74), (some (68, false)), .q (.ld1 (.t 73))⟩, [73, 68], none, [], [18, 13, 17, 16, 12, 7, 11, 6, 2, 5, 1, 0, 4, 3, 9, 10, 8]⟩,
 ⟨20, ⟨(some 75), (some (68, false)), .q (.lenL (.t 74))⟩, [74, 68], none, [], [19, 13, 18, 17, 16, 12, 7, 11, 6, 2, 5, 1, 0, 4, 3, 9, 10, 8]⟩,
 ⟨21, ⟨(some 76), (some (68, false)), .q (.cvi .u32 (.t 75))⟩, [75, 68], none, [], [20, 13, 19, 18, 17, 16, 12, 7, 11, 6, 2, 5, 1, 0, 4, 3, 9, 10, 8]⟩,
 ⟨22, ⟨(some 77), (some (68, false)), .q (.bni .neq (.t 70) (.t 76))⟩, [70, 76, 68], none, [], [15, 21, 13, 14, 12, 7, 11, 6, 2, 5, 1, 0, 4, 3, 9, 10, 8, 20, 19, 18, 17, 16]⟩,
 ⟨23, ⟨(some 78), none, .q (.pick (.t 68) (.c (.b true)) (.t 77))⟩, [68, 77], none, [], [13, 22, 12, 7, 11, 6, 2, 5, 1, 0, 4, 3, 9, 10, 8, 15, 21, 14, 20, 19, 18, 17, 16]⟩])
 (.cond (.t 78) (.exit 0)
 .dead))
 .dead))))))
 (.seq (.reg [⟨(some 101), none, .q (.mov (.t 10))⟩,
 ⟨(some 8), none, .q (.mov (.t 101))⟩,
 ⟨(some 9), none, .q (.mov (.c (.i .i64 0)))⟩])
 .ret))))))⟩
def f114 : FnC := ⟨35, [.cell (some 6) 4, .tmp 5],
 (.seq (.reg [⟨(some 2), none, .a (.box (.t 0))⟩,
 ⟨(some 4), none, .a (.new [(.i .i64 0), (.i .i64 0), (.i .i64 0), .nilsl, .nilsl, .nilsl])⟩,
 ⟨(some 5), none, .q (.mov (.c (.i .i64 0)))⟩])
 (.seq (.seq (.reg [⟨(some 10), none, .q (.mov (.t 1))⟩,
 ⟨(some 11), none, .q (.lenL (.t 10))⟩,
 ⟨(some 12), none, .q (.mov (.c (.i .i64 0)))⟩])
 (.block 0 (.loop (.seq (.reg [⟨(some 13), none, .q (.bin .lss (.t 12) (.t 11))⟩])
 (.seq (.cond (.t 13) .dead
 (.exit 0))
 .dead)))))
 (.seq (.reg [⟨(some 34), none, .q (.ldn 6 (.t 2))⟩,
 ⟨none, none, .h (.st 6 (.t 4) (.t 34))⟩,
 ⟨(some 5), none, .q (.mov (.c (.i .i64 0)))⟩])
 .ret)))⟩
def f115 : FnC := ⟨24, [.tmp 2],
 (.seq (.reg [⟨(some 2), none, .q (.mov (.c .nilsl))⟩])
 (.seq (.seq (.reg [⟨(some 6), none, .q (.mov (.t 0))⟩,
 ⟨(some 7), none, .q (.eqr false .ptr (.t 6) (.c .nilp))⟩])
 (.cond (.t 7) .dead
 .skip))
 (.seq (.reg [⟨(some 3), none, .q (.mov (.c .nilsl))⟩])
 (.seq (.seq (.reg [⟨(some 8), none, .q (.mov (.t 0))⟩,
 ⟨(some 9), none, .q (.nck (.t 8))⟩,
 ⟨(some 10), none, .q (.fa 5 (.t 9))⟩,
 ⟨(some 11), none, .q (.ld1 (.t 10))⟩,
 ⟨(some 12), none, .q (.lenL (.t 11))⟩,
 ⟨(some 13), none, .q (.mov (.c (.i .i64 0)))⟩])
 (.block 0 (.loop (.seq (.reg [⟨(some 14), none, .q (.bin .lss (.t 13) (.t 12))⟩])
 (.seq (.cond (.t 14) .dead
 (.exit 0))
 .dead)))))
 (.seq (.reg [⟨(some 23), none, .q (.mov (.t 3))⟩,
 ⟨(some 2), none, .q (.mov (.t 23))⟩])
 .ret)))))⟩
def f116 : FnC := ⟨21, [.tmp 2],
 (.seq (.reg [⟨(some 1), none, .a (.box (.t 0))⟩,
 ⟨(some 2), none, .q (.mov (.c (.b false)))⟩])
 (.seq (.reg [⟨(some 3), none, .q (.fa 0 (.t 1))⟩,
 ⟨(some 4), none, .q (.ld1 (.t 3))⟩,
 ⟨(some 5), none, .q (.bin .geq (.t 4) (.c (.i .i64 1)))⟩,
 ⟨(some 6), none, .q (.mov (.t 5))⟩,
 ⟨(some 7), (some (6, true)), .q (.fa 0 (.t 1))⟩,
 ⟨(some 8), (some (6, true)), .q (.ld1 (.t 7))⟩,
 ⟨(some 9), (some (6, true)), .q (.bin .leq (.t 8) (.c (.i .i64 100)))⟩,
 ⟨(some 10), none, .q (.pick (.t 6) (.t 9) (.c (.b false)))⟩,
 ⟨(some 11), none, .q (.mov (.t 10))⟩,
 ⟨(some 12), (some (11, true)), .q (.fa 1 (.t 1))⟩,
 ⟨(some 13), (some (11, true)), .q (.ld1 (.t 12))⟩,
 ⟨(some 14), (some (11, true)), .q (.bin .geq (.t 13) (.c (.i .i64 1)))⟩,
 ⟨(some 15), none, .q (.pick (.t 11) (.t 14) (.c (.b false)))⟩,
 ⟨(some 16), none, .q (.mov (.t 15))⟩,
 ⟨(some 17), (some (16, true)), .q (.fa 1 (.t 1))⟩,
 ⟨(some 18), (some (16, true)), .q (.ld1 (.t 17))⟩,
 ⟨(some 19), (some (16, true)), .q (.bin .leq (.t 18) (.c (.i .i64 100)))⟩,
 ⟨(some 20), none, .q (.pick (.t 16) (.t 19) (.c (.b false)))⟩,
 ⟨(some 2), none, .q (.mov (.t 20))⟩])
 .ret))⟩
def f117 : FnC := ⟨50, [],
 (.seq (.reg [⟨(some 6), none, .q (.mov (.t 0))⟩,
 ⟨(some 7), none, .q (.nck (.t 6))⟩,
 ⟨(some 8), none, .q (.fa 3 (.t 7))⟩,
 ⟨(some 9), none, .q (.ld1 (.t 8))⟩,
 ⟨(some 10), none, .q (.lenL (.t 9))⟩,
 ⟨(some 11), none, .q (.mov (.c (.i .i64 0)))⟩])
 (.block 0 (.loop (.seq (.reg [⟨(some 12), none, .q (.bin .lss (.t 11) (.t 10))⟩])
 (.seq (.cond (.t 12) .skip
 (.exit 0))
 (.seq (.block 1 (.seq (.reg [⟨(some 13), none, .q (.mov (.t 11))⟩,
 ⟨(some 4), none, .q (.mov (.t 13))⟩])
 (.seq (.reg [⟨(some 14), none, .q (.mov (.t 0))⟩,
 ⟨(some 15), none, .q (.nck (.t 14))⟩,
 ⟨(some 16), none, .q (.fa 3 (.t 15))⟩,
 ⟨(some 17), none, .q (.ld1 (.t 16))⟩,
 ⟨(some 18), none, .q (.mov (.t 4))⟩,
 ⟨(some 19), none, .q (.ia 13 (.t 17) (.t 18))⟩,
 ⟨(some 5), none, .q (.mov (.t 19))⟩])
 (.seq (.dreg [⟨0, ⟨(some 20), none, .q (.mov (.t 5))⟩, [5], none, [], []⟩,
 ⟨1, ⟨(some 21), none, .q (.mov (.t 5))⟩, [5], none, [], []⟩,
 ⟨2, ⟨(some 22), none, .q (.mov (.t 1))⟩, [1], none, [], []⟩,
 ⟨3, ⟨(some 23), none, .q (.mov (.t 4))⟩, [4], none, [], []⟩,
 ⟨4, ⟨(some 24), none, .q (.ia 3 (.t 22) (.t 23))⟩, [22, 23], none, [], [2, 3]⟩,
 ⟨5, ⟨(some 25), none, .q (.fa 0 (.t 24))⟩, [24], none, [], [4, 2, 3]⟩,
 ⟨6, ⟨(some 26), none, .q (.ld1 (.t 25))⟩, [25], none, [], [5, 4, 2, 3]⟩,
 ⟨7, ⟨(some 27), none, .q (.mov (.t 1))⟩, [1], none, [], []⟩,
 ⟨8, ⟨(some 28), none, .q (.mov (.t 4))⟩, [4], none, [], []⟩,
 ⟨9, ⟨(some 29), none, .q (.ia 3 (.t 27) (.t 28))⟩, [27, 28], none, [], [7, 8]⟩,
 ⟨10, ⟨(some 30), none, .q (.fa 1 (.t 29))⟩, [29], none, [], [9, 7, 8]⟩,
 ⟨11, ⟨(some 31), none, .q (.ld1 (.t 30))⟩, [30], none, [], [10, 9, 7, 8]⟩,
 ⟨12, ⟨(some 32), none, .q (.nck (.t 20))⟩, [20], none, [], [0, 2, 3, 4, 5, 6, 11, 10, 9, 7, 8]⟩,
 ⟨13, ⟨(some 33), none, .q (.fa 0 (.t 32))⟩, [32], none, [], [12, 0, 2, 3, 4, 5, 6, 11, 10, 9, 7, 8]⟩,
 ⟨14, ⟨(some 34), none, .q (.fa 0 (.t 33))⟩, [33], none, [], [13, 0, 2, 3, 4, 5, 6, 11, 12, 10, 9, 7, 8]⟩,
 ⟨15, ⟨none, none, .h (.st 1 (.t 34) (.t 26))⟩, [34, 26], none, [13], [14, 6, 0, 2, 3, 4, 5, 11, 13, 12, 10, 9, 7, 8]⟩,
 ⟨16, ⟨(some 35), none, .q (.nck (.t 21))⟩, [21], none, [], [1, 0, 2, 3, 4, 5, 6, 7, 8, 9, 10, 11, 12, 13, 14, 15]⟩,
 ⟨17, ⟨(some 36), none, .q (.fa 0 (.t 35))⟩, [35], none, [], [16, 0, 1, 2, 3, 4, 5, 6, 7, 8, 9, 10, 11, 12, 13, 14, 15]⟩,
 ⟨18, ⟨(some 37), none, .q (.fa 1 (.t 36))⟩, [36], none, [], [17, 0, 1, 2, 3, 4, 5, 6, 7, 8, 9, 10, 11, 12, 13, 14, 15, 16]⟩,
 ⟨19, ⟨none, none, .h (.st 1 (.t 37) (.t 31))⟩, [37, 31], none, [], [18, 11, 15, 0, 1, 2, 3, 4, 5, 6, 7, 8, 9, 10, 12, 13, 14, 17, 16]⟩])
 (.seq (.reg [⟨(some 38), none, .q (.mov (.t 5))⟩,
 ⟨(some 39), none, .q (.nck (.t 38))⟩,
 ⟨(some 40), none, .q (.fa 0 (.t 39))⟩,
 ⟨(some 41), none, .q (.fa 0 (.t 40))⟩,
 ⟨(some 42), none, .q (.ld1 (.t 41))⟩,
 ⟨(some 43), none, .q (.un .not (.t 42))⟩])
 (.cond (.t 43) .dead
 .skip))))))
 (.reg [⟨(some 49), none, .q (.bin .add (.t 11) (.c (.i .i64 1)))⟩,
 ⟨(some 11), none, .q (.mov (.t 49))⟩])))))))⟩
def f118 : FnC := ⟨4, [.tmp 2],
 (.seq (.reg [⟨(some 1), none, .a (.box (.t 0))⟩,
 ⟨(some 2), none, .q (.mov (.c .nilf))⟩])
 (.seq (.reg [⟨(some 3), none, .q (.mkf 168 [(.t 1)])⟩,
 ⟨(some 2), none, .q (.mov (.t 3))⟩])
 .ret))⟩
def f119 : FnC := ⟨19, [.tmp 4],
 (.seq (.reg [⟨(some 4), none, .q (.mov (.c (.i .i64 0)))⟩])
 (.seq (.seq (.reg [⟨(some 6), none, .q (.mov (.t 0))⟩,
 ⟨(some 7), none, .q (.lenL (.t 6))⟩,
 ⟨(some 8), none, .q (.mov (.c (.i .i64 0)))⟩])
 (.block 0 (.loop (.seq (.reg [⟨(some 9), none, .q (.bin .lss (.t 8) (.t 7))⟩])
 (.seq (.cond (.t 9) .dead
 (.exit 0))
 .dead)))))
 (.seq (.reg [⟨(some 4), none, .q (.mov (.c (.i .i64 (-1))))⟩])
 .ret)))⟩
end
end Go.Wg
