/- The code of the functions with its operations resolved (printed by mkcode.py out of the dump), and that the resolving function gives it. -/
import Derived.Test.YtnfomoeicgdkkaaGreatDoorZ2
import Derived.Test.YtnfomoeicgdkkaaGreatDoorProg
import Derived.KernelRfl
namespace Go.Proofs.YtnfomoeicgdkkaaGreatDoor
namespace Eng
def zl64_intu80 : List Value := [.int .u8 0, .int .u8 0, .int .u8 0, .int .u8 0, .int .u8 0, .int .u8 0, .int .u8 0, .int .u8 0, .int .u8 0, .int .u8 0, .int .u8 0, .int .u8 0, .int .u8 0, .int .u8 0, .int .u8 0, .int .u8 0, .int .u8 0, .int .u8 0, .int .u8 0, .int .u8 0, .int .u8 0, .int .u8 0, .int .u8 0, .int .u8 0, .int .u8 0, .int .u8 0, .int .u8 0, .int .u8 0, .int .u8 0, .int .u8 0, .int .u8 0, .int .u8 0, .int .u8 0, .int .u8 0, .int .u8 0, .int .u8 0, .int .u8 0, .int .u8 0, .int .u8 0, .int .u8 0, .int .u8 0, .int .u8 0, .int .u8 0, .int .u8 0, .int .u8 0, .int .u8 0, .int .u8 0, .int .u8 0, .int .u8 0, .int .u8 0, .int .u8 0, .int .u8 0, .int .u8 0, .int .u8 0, .int .u8 0, .int .u8 0, .int .u8 0, .int .u8 0, .int .u8 0, .int .u8 0, .int .u8 0, .int .u8 0, .int .u8 0, .int .u8 0]
def zl6_2 : List Value := [.slice none 0 0, .slice none 0 0, .bool false, .int .i64 0, .int .u64 0, .int .i64 0]
def zl7_3 : List Value := [.pointer none, .int .i64 0, .int .i64 0, .int .i64 0, .int .i64 0, .slice none 0 0, .bool false]
def zl65_4 : List Value := [.int .i64 0, .int .u8 0, .int .u8 0, .int .u8 0, .int .u8 0, .int .u8 0, .int .u8 0, .int .u8 0, .int .u8 0, .int .u8 0, .int .u8 0, .int .u8 0, .int .u8 0, .int .u8 0, .int .u8 0, .int .u8 0, .int .u8 0, .int .u8 0, .int .u8 0, .int .u8 0, .int .u8 0, .int .u8 0, .int .u8 0, .int .u8 0, .int .u8 0, .int .u8 0, .int .u8 0, .int .u8 0, .int .u8 0, .int .u8 0, .int .u8 0, .int .u8 0, .int .u8 0, .int .u8 0, .int .u8 0, .int .u8 0, .int .u8 0, .int .u8 0, .int .u8 0, .int .u8 0, .int .u8 0, .int .u8 0, .int .u8 0, .int .u8 0, .int .u8 0, .int .u8 0, .int .u8 0, .int .u8 0, .int .u8 0, .int .u8 0, .int .u8 0, .int .u8 0, .int .u8 0, .int .u8 0, .int .u8 0, .int .u8 0, .int .u8 0, .int .u8 0, .int .u8 0, .int .u8 0, .int .u8 0, .int .u8 0, .int .u8 0, .int .u8 0, .int .u8 0]

/-- disk_New -/
def ec_disk_New : EC := .seq (.reg [[EG.mk 0 (some 2) none false (.mv (.const (.pointer none)))]]) (.seq (.reg [[EG.mk 0 (some 3) none false (.mv (.tmp 0)), EG.mk 1 (some 4) none false (.mn2 (.tmp 3) (.const (.int .i64 4096))), EG.mk 2 (some 5) none false (.mx2 (.const (.int .i64 1)) (.tmp 4)), EG.mk 3 (some 6) none false (.mks 235 zl64_intu80 64 (.tmp 5) (.tmp 5)), EG.mk 4 (some 7) none false (.build zl6_2 [(0, 1, .tmp 6), (3, 1, .const (.int .i64 (-1)))]), EG.mk 5 (some 8) none false (.box (.tmp 7) 154), EG.mk 6 (some 2) none false (.mv (.tmp 8))]]) .ret)
theorem ok_disk_New : compileFn Tryz.prog Tryz.f16 = some ec_disk_New := by kernel_rfl

/-- log_Open -/
def ec_log_Open_L0 : EC := .block 3 (.seq (.reg [[EG.mk 0 (some 74) none false (.mv (.tmp 4)), EG.mk 1 (some 75) none false (.call 137 #[.tmp 74]), EG.mk 2 (some 73) none false (.mv (.tmp 75)), EG.mk 3 (some 76) none false (.ext (.tmp 73) 0), EG.mk 4 (some 77) none false (.ext (.tmp 73) 1), EG.mk 5 (some 78) none false (.ext (.tmp 73) 2), EG.mk 6 (some 12) none false (.mv (.tmp 76)), EG.mk 7 (some 13) none false (.mv (.tmp 77)), EG.mk 8 (some 14) none false (.mv (.tmp 78))]]) (.seq (.seq (.reg [[EG.mk 0 (some 79) none false (.mv (.tmp 14)), EG.mk 1 (some 80) none false (.bin .neq (.tmp 79) (.const (.int .i64 0)))]]) (.cond (.tmp 80) (.seq (.reg [[EG.mk 0 (some 81) none false (.mv (.tmp 14)), EG.mk 1 (some 2) none false (.mv (.const (.pointer none))), EG.mk 2 (some 3) none false (.mv (.tmp 81))]]) .ret) .skip)) (.seq (.seq (.reg [[EG.mk 0 (some 82) none false (.mv (.tmp 13)), EG.mk 1 (some 83) none false (.bin .eql (.tmp 82) (.const (.int .i64 0)))]]) (.cond (.tmp 83) (.seq (.reg [[EG.mk 0 (some 84) none false (.mv (.tmp 4)), EG.mk 1 (some 2) none false (.mv (.tmp 84)), EG.mk 2 (some 3) none false (.mv (.const (.int .i64 0)))]]) .ret) .skip)) (.reg [[EG.mk 0 (some 85) none true (.mv (.tmp 4)), EG.mk 1 (some 86) none true (.mv (.tmp 4)), EG.mk 2 (some 87) none true (.mv (.tmp 4)), EG.mk 3 (some 88) none true (.nilc (.tmp 87)), EG.mk 4 (some 89) none true (.off (.tmp 88) 5), EG.mk 6 (some 91) none true (.mv (.tmp 12)), EG.mk 9 (some 94) none true (.mv (.tmp 4)), EG.mk 10 (some 95) none true (.nilc (.tmp 94)), EG.mk 11 (some 96) none true (.off (.tmp 95) 4), EG.mk 13 (some 98) none true (.mv (.tmp 13)), EG.mk 5 (some 90) none true (.ld1 (.tmp 89)), EG.mk 12 (some 97) none true (.ld1 (.tmp 96)), EG.mk 14 (some 99) none true (.bin .add (.tmp 97) (.tmp 98)), EG.mk 7 (some 92) none false (.bsl 22 [.slice none 0 0] 1 [(0, 1, .tmp 91)]), EG.mk 8 (some 93) none false (.app 22 [.slice none 0 0] 24 (.tmp 90) (.tmp 92))], [EG.mk 15 (some 100) none true (.nilc (.tmp 85)), EG.mk 16 (some 101) none true (.off (.tmp 100) 5), EG.mk 17 none none false (.st (.tmp 101) (.tmp 93) 1)], [EG.mk 18 (some 102) none true (.nilc (.tmp 86)), EG.mk 19 (some 103) none true (.off (.tmp 102) 4), EG.mk 20 none none false (.st (.tmp 103) (.tmp 99) 1)]]))))
def ec_log_Open_L1 : EC := .seq (.reg [[EG.mk 0 (some 22) none false (.bin .lss (.tmp 21) (.const (.int .i64 2)))]]) (.seq (.cond (.tmp 22) .skip (.exit 0)) (.seq (.block 1 (.seq (.reg [[EG.mk 0 (some 23) none false (.mv (.tmp 21)), EG.mk 1 (some 5) none false (.mv (.tmp 23))]]) (.seq (.reg [[EG.mk 0 (some 25) none false (.mv (.tmp 0)), EG.mk 1 (some 26) none false (.mv (.tmp 5)), EG.mk 2 (some 27) none false (.call 133 #[.tmp 25, .tmp 26]), EG.mk 3 (some 24) none false (.mv (.tmp 27)), EG.mk 4 (some 28) none false (.ext (.tmp 24) 0), EG.mk 5 (some 29) none false (.ext (.tmp 24) 1), EG.mk 6 (some 6) none false (.alloc zl64_intu80 235), EG.mk 7 none none false (.st (.tmp 6) (.tmp 28) 64), EG.mk 8 (some 7) none false (.mv (.tmp 29))]]) (.seq (.seq (.reg [[EG.mk 0 (some 30) none false (.mv (.tmp 7)), EG.mk 1 (some 31) none false (.bin .neq (.tmp 30) (.const (.int .i64 0)))]]) (.cond (.tmp 31) (.seq (.reg [[EG.mk 0 (some 32) none false (.mv (.tmp 7)), EG.mk 1 (some 2) none false (.mv (.const (.pointer none))), EG.mk 2 (some 3) none false (.mv (.tmp 32))]]) .ret) .skip)) (.seq (.reg [[EG.mk 0 (some 34) none false (.mv (.tmp 4)), EG.mk 1 (some 35) none false (.ldn (.tmp 6) 64), EG.mk 2 (some 36) none false (.call 134 #[.tmp 34, .tmp 35]), EG.mk 3 (some 33) none false (.mv (.tmp 36)), EG.mk 4 (some 37) none false (.ext (.tmp 33) 0), EG.mk 5 (some 38) none false (.ext (.tmp 33) 1), EG.mk 6 (some 8) none false (.mv (.tmp 37)), EG.mk 7 (some 9) none false (.mv (.tmp 38))]]) (.seq (.reg [[EG.mk 0 (some 39) none false (.mv (.tmp 9)), EG.mk 1 (some 40) none false (.mv (.tmp 39)), EG.mk 2 (some 41) (some (40, true)) false (.mv (.tmp 8)), EG.mk 3 (some 42) (some (40, true)) false (.mv (.tmp 4)), EG.mk 4 (some 43) (some (40, true)) false (.nilc (.tmp 42)), EG.mk 5 (some 44) (some (40, true)) false (.off (.tmp 43) 1), EG.mk 6 (some 45) (some (40, true)) false (.ld1 (.tmp 44)), EG.mk 7 (some 46) (some (40, true)) false (.bin .gtr (.tmp 41) (.tmp 45)), EG.mk 8 (some 47) none false (.pick (.tmp 40) (.tmp 46) (.const (.bool false)))]]) (.cond (.tmp 47) (.reg [[EG.mk 0 (some 48) none false (.mv (.tmp 4)), EG.mk 1 (some 49) none false (.mv (.tmp 4)), EG.mk 2 (some 50) none false (.mv (.tmp 8)), EG.mk 3 (some 51) none false (.mv (.tmp 5)), EG.mk 4 (some 52) none false (.nilc (.tmp 48)), EG.mk 5 (some 53) none false (.off (.tmp 52) 1), EG.mk 6 none none false (.st (.tmp 53) (.tmp 50) 1), EG.mk 7 (some 54) none false (.nilc (.tmp 49)), EG.mk 8 (some 55) none false (.off (.tmp 54) 3), EG.mk 9 none none false (.st (.tmp 55) (.tmp 51) 1)]]) .skip))))))) (.reg [[EG.mk 0 (some 56) none false (.bin .add (.tmp 21) (.const (.int .i64 1))), EG.mk 1 (some 21) none false (.mv (.tmp 56))]])))
def ec_log_Open : EC := .seq (.reg [[EG.mk 0 (some 2) none false (.mv (.const (.pointer none))), EG.mk 1 (some 3) none false (.mv (.const (.int .i64 0)))]]) (.seq (.seq (.reg [[EG.mk 0 (some 15) none false (.mv (.tmp 0)), EG.mk 1 (some 16) none false (.call 132 #[.tmp 15]), EG.mk 2 (some 17) none false (.bin .lss (.tmp 16) (.const (.int .i64 6)))]]) (.cond (.tmp 17) (.seq (.reg [[EG.mk 0 (some 2) none false (.mv (.const (.pointer none))), EG.mk 1 (some 3) none false (.mv (.const (.int .i64 1)))]]) .ret) .skip)) (.seq (.reg [[EG.mk 0 (some 18) none false (.mv (.tmp 0)), EG.mk 1 (some 19) none false (.build zl7_3 [(0, 1, .tmp 18)]), EG.mk 2 (some 20) none false (.box (.tmp 19) 233), EG.mk 3 (some 4) none false (.mv (.tmp 20))]]) (.seq (.seq (.reg [[EG.mk 0 (some 21) none false (.mv (.const (.int .i64 0)))]]) (.block 0 (.loop ec_log_Open_L1))) (.seq (.seq (.reg [[EG.mk 0 (some 57) none false (.mv (.tmp 4)), EG.mk 1 (some 58) none false (.call 135 #[.tmp 57]), EG.mk 2 (some 10) none false (.mv (.tmp 58))]]) (.seq (.reg [[EG.mk 0 (some 59) none false (.mv (.tmp 10)), EG.mk 1 (some 60) none false (.bin .neq (.tmp 59) (.const (.int .i64 0)))]]) (.cond (.tmp 60) (.seq (.reg [[EG.mk 0 (some 61) none false (.mv (.tmp 10)), EG.mk 1 (some 2) none false (.mv (.const (.pointer none))), EG.mk 2 (some 3) none false (.mv (.tmp 61))]]) .ret) .skip))) (.seq (.seq (.reg [[EG.mk 0 (some 62) none false (.mv (.tmp 4)), EG.mk 1 (some 63) none false (.nilc (.tmp 62)), EG.mk 2 (some 64) none false (.off (.tmp 63) 1), EG.mk 3 (some 65) none false (.ld1 (.tmp 64)), EG.mk 4 (some 66) none false (.bin .eql (.tmp 65) (.const (.int .i64 0)))]]) (.cond (.tmp 66) (.seq (.seq (.reg [[EG.mk 0 (some 67) none false (.mv (.tmp 4)), EG.mk 1 (some 68) none false (.call 136 #[.tmp 67, .const (.slice none 0 0)]), EG.mk 2 (some 11) none false (.mv (.tmp 68))]]) (.seq (.reg [[EG.mk 0 (some 69) none false (.mv (.tmp 11)), EG.mk 1 (some 70) none false (.bin .neq (.tmp 69) (.const (.int .i64 0)))]]) (.cond (.tmp 70) (.seq (.reg [[EG.mk 0 (some 71) none false (.mv (.tmp 11)), EG.mk 1 (some 2) none false (.mv (.const (.pointer none))), EG.mk 2 (some 3) none false (.mv (.tmp 71))]]) .ret) .skip))) (.seq (.reg [[EG.mk 0 (some 72) none false (.mv (.tmp 4)), EG.mk 1 (some 2) none false (.mv (.tmp 72)), EG.mk 2 (some 3) none false (.mv (.const (.int .i64 0)))]]) .ret)) .skip)) (.block 2 (.loop ec_log_Open_L0)))))))
theorem ok_log_Open : compileFn Tryz.prog Tryz.f83 = some ec_log_Open := by kernel_rfl

/-- log_Log_List -/
def ec_log_Log_List_L0 : EC := .seq (.reg [[EG.mk 0 (some 12) none false (.bin .lss (.tmp 11) (.tmp 10))]]) (.seq (.cond (.tmp 12) .skip (.exit 0)) (.seq (.block 1 (.seq (.reg [[EG.mk 0 (some 13) none false (.ixS (.tmp 9) (.tmp 11) 1), EG.mk 1 (some 14) none false (.ld1 (.tmp 13)), EG.mk 2 (some 5) none false (.mv (.tmp 14))]]) (.reg [[EG.mk 0 (some 15) none false (.mv (.tmp 3)), EG.mk 1 (some 16) none false (.mv (.tmp 5)), EG.mk 2 (some 17) none false (.app 5 [.int .u8 0] 1 (.const (.slice none 0 0)) (.tmp 16)), EG.mk 3 (some 18) none false (.bsl 22 [.slice none 0 0] 1 [(0, 1, .tmp 17)]), EG.mk 4 (some 19) none false (.app 22 [.slice none 0 0] 24 (.tmp 15) (.tmp 18)), EG.mk 5 (some 3) none false (.mv (.tmp 19))]]))) (.reg [[EG.mk 0 (some 20) none false (.bin .add (.tmp 11) (.const (.int .i64 1))), EG.mk 1 (some 11) none false (.mv (.tmp 20))]])))
def ec_log_Log_List : EC := .seq (.reg [[EG.mk 0 (some 2) none false (.mv (.const (.slice none 0 0)))]]) (.seq (.reg [[EG.mk 0 (some 3) none false (.mv (.const (.slice none 0 0)))]]) (.seq (.seq (.reg [[EG.mk 0 (some 6) none false (.mv (.tmp 0)), EG.mk 1 (some 7) none false (.nilc (.tmp 6)), EG.mk 2 (some 8) none false (.off (.tmp 7) 5), EG.mk 3 (some 9) none false (.ld1 (.tmp 8)), EG.mk 4 (some 10) none false (.len (.tmp 9)), EG.mk 5 (some 11) none false (.mv (.const (.int .i64 0)))]]) (.block 0 (.loop ec_log_Log_List_L0))) (.seq (.reg [[EG.mk 0 (some 21) none false (.mv (.tmp 3)), EG.mk 1 (some 2) none false (.mv (.tmp 21))]]) .ret)))
theorem ok_log_Log_List : compileFn Tryz.prog Tryz.f85 = some ec_log_Log_List := by kernel_rfl

/-- log_Log_Append -/
def ec_log_Log_Append : EC := .seq (.reg [[EG.mk 0 (some 4) none false (.mv (.const (.int .i64 0)))]]) (.seq (.seq (.reg [[EG.mk 0 (some 7) none false (.mv (.tmp 1)), EG.mk 1 (some 8) none false (.len (.tmp 7)), EG.mk 2 (some 9) none false (.call 151 #[.tmp 8]), EG.mk 3 (some 5) none false (.mv (.tmp 9))]]) (.block 0 (.seq (.reg [[EG.mk 0 (some 11) none false (.mv (.tmp 0)), EG.mk 1 (some 12) none false (.nilc (.tmp 11)), EG.mk 2 (some 13) none false (.off (.tmp 12) 6), EG.mk 3 (some 14) none false (.ld1 (.tmp 13)), EG.mk 4 (some 10) none false (.mv (.tmp 14))]]) (.cond (.tmp 10) (.seq (.reg [[EG.mk 0 (some 4) none false (.mv (.const (.int .i64 3)))]]) .ret) (.seq (.reg [[EG.mk 0 (some 16) none false (.mv (.tmp 1)), EG.mk 1 (some 17) none false (.len (.tmp 16)), EG.mk 2 (some 18) none false (.bin .gtr (.tmp 17) (.const (.int .i64 4096))), EG.mk 3 (some 15) none false (.mv (.tmp 18))]]) (.cond (.tmp 15) (.seq (.reg [[EG.mk 0 (some 4) none false (.mv (.const (.int .i64 6)))]]) .ret) (.seq (.reg [[EG.mk 0 (some 20) none true (.mv (.tmp 0)), EG.mk 1 (some 21) none true (.nilc (.tmp 20)), EG.mk 2 (some 22) none true (.off (.tmp 21) 4), EG.mk 4 (some 24) none true (.mv (.tmp 5)), EG.mk 6 (some 26) none true (.mv (.tmp 0)), EG.mk 7 (some 27) none true (.nilc (.tmp 26)), EG.mk 8 (some 28) none true (.off (.tmp 27) 0), EG.mk 3 (some 23) none true (.ld1 (.tmp 22)), EG.mk 5 (some 25) none true (.bin .add (.tmp 23) (.tmp 24)), EG.mk 9 (some 29) none true (.ld1 (.tmp 28)), EG.mk 10 (some 30) none false (.call 152 #[.tmp 29])], [EG.mk 11 (some 31) none true (.bin .gtr (.tmp 25) (.tmp 30)), EG.mk 12 (some 19) none true (.mv (.tmp 31))]]) (.cond (.tmp 19) (.seq (.reg [[EG.mk 0 (some 4) none false (.mv (.const (.int .i64 7)))]]) .ret) .skip)))))))) (.seq (.seq (.reg [[EG.mk 0 (some 32) none false (.mv (.tmp 0)), EG.mk 1 (some 33) none false (.mv (.tmp 0)), EG.mk 2 (some 34) none false (.mv (.tmp 0)), EG.mk 3 (some 35) none false (.nilc (.tmp 34)), EG.mk 4 (some 36) none false (.off (.tmp 35) 5), EG.mk 5 (some 37) none false (.ld1 (.tmp 36)), EG.mk 6 (some 38) none false (.len (.tmp 37)), EG.mk 7 (some 39) none false (.mv (.tmp 1)), EG.mk 8 (some 40) none false (.call 154 #[.tmp 33, .tmp 38, .tmp 39]), EG.mk 9 (some 41) none false (.call 153 #[.tmp 32, .tmp 40]), EG.mk 10 (some 6) none false (.mv (.tmp 41))]]) (.seq (.reg [[EG.mk 0 (some 42) none false (.mv (.tmp 6)), EG.mk 1 (some 43) none false (.bin .neq (.tmp 42) (.const (.int .i64 0)))]]) (.cond (.tmp 43) (.seq (.reg [[EG.mk 0 (some 44) none false (.mv (.tmp 0)), EG.mk 1 (some 45) none false (.mv (.tmp 6)), EG.mk 2 (some 46) none false (.call 155 #[.tmp 44, .tmp 45]), EG.mk 3 (some 4) none false (.mv (.tmp 46))]]) .ret) .skip))) (.seq (.reg [[EG.mk 0 (some 47) none true (.mv (.tmp 0)), EG.mk 1 (some 48) none true (.nilc (.tmp 47)), EG.mk 2 (some 49) none true (.off (.tmp 48) 4), EG.mk 4 (some 51) none true (.mv (.tmp 1)), EG.mk 5 (some 52) none true (.len (.tmp 51)), EG.mk 3 (some 50) none true (.ld1 (.tmp 49)), EG.mk 6 (some 53) none false (.call 151 #[.tmp 52])], [EG.mk 7 (some 54) none true (.bin .add (.tmp 50) (.tmp 53)), EG.mk 8 (some 55) none true (.nilc (.tmp 47)), EG.mk 9 (some 56) none true (.off (.tmp 55) 4), EG.mk 10 none none false (.st (.tmp 56) (.tmp 54) 1)]]) (.seq (.reg [[EG.mk 0 (some 57) none true (.mv (.tmp 0)), EG.mk 1 (some 58) none true (.mv (.tmp 0)), EG.mk 2 (some 59) none true (.nilc (.tmp 58)), EG.mk 3 (some 60) none true (.off (.tmp 59) 5), EG.mk 5 (some 62) none true (.mv (.tmp 1)), EG.mk 4 (some 61) none true (.ld1 (.tmp 60)), EG.mk 6 (some 63) none false (.app 5 [.int .u8 0] 1 (.const (.slice none 0 0)) (.tmp 62)), EG.mk 7 (some 64) none false (.bsl 22 [.slice none 0 0] 1 [(0, 1, .tmp 63)])], [EG.mk 8 (some 65) none false (.app 22 [.slice none 0 0] 24 (.tmp 61) (.tmp 64))], [EG.mk 9 (some 66) none true (.nilc (.tmp 57)), EG.mk 10 (some 67) none true (.off (.tmp 66) 5), EG.mk 11 none none false (.st (.tmp 67) (.tmp 65) 1)]]) (.seq (.reg [[EG.mk 0 (some 4) none false (.mv (.const (.int .i64 0)))]]) .ret)))))
theorem ok_log_Log_Append : compileFn Tryz.prog Tryz.f90 = some ec_log_Log_Append := by kernel_rfl

/-- disk_Disk_Len -/
def ec_disk_Disk_Len : EC := .seq (.reg [[EG.mk 0 (some 2) none false (.mv (.const (.int .i64 0)))]]) (.seq (.reg [[EG.mk 0 (some 3) none false (.mv (.tmp 0)), EG.mk 1 (some 4) none false (.nilc (.tmp 3)), EG.mk 2 (some 5) none false (.off (.tmp 4) 0), EG.mk 3 (some 6) none false (.ld1 (.tmp 5)), EG.mk 4 (some 7) none false (.len (.tmp 6)), EG.mk 5 (some 2) none false (.mv (.tmp 7))]]) .ret)
theorem ok_disk_Disk_Len : compileFn Tryz.prog Tryz.f132 = some ec_disk_Disk_Len := by kernel_rfl

/-- disk_Disk_Read -/
def ec_disk_Disk_Read_L0 : EC := .seq (.seq (.reg [[EG.mk 0 (some 32) none false (.mv (.tmp 6)), EG.mk 1 (some 33) none false (.bin .geq (.tmp 32) (.const (.int .i64 0)))]]) (.cond (.tmp 33) .skip (.exit 1))) (.seq (.block 2 (.seq (.reg [[EG.mk 0 (some 36) none false (.mv (.tmp 0)), EG.mk 1 (some 37) none false (.nilc (.tmp 36)), EG.mk 2 (some 38) none false (.off (.tmp 37) 1), EG.mk 3 (some 39) none false (.ld1 (.tmp 38)), EG.mk 4 (some 40) none false (.mv (.tmp 6)), EG.mk 5 (some 41) none false (.ixS (.tmp 39) (.tmp 40) 65), EG.mk 6 (some 42) none false (.off (.tmp 41) 0), EG.mk 7 (some 43) none false (.ld1 (.tmp 42)), EG.mk 8 (some 44) none false (.mv (.tmp 1)), EG.mk 9 (some 45) none false (.bin .eql (.tmp 43) (.tmp 44))]]) (.cond (.tmp 45) (.seq (.reg [[EG.mk 0 (some 46) none false (.mv (.tmp 0)), EG.mk 1 (some 47) none false (.nilc (.tmp 46)), EG.mk 2 (some 48) none false (.off (.tmp 47) 1), EG.mk 3 (some 49) none false (.ld1 (.tmp 48)), EG.mk 4 (some 50) none false (.mv (.tmp 6)), EG.mk 5 (some 51) none false (.ixS (.tmp 49) (.tmp 50) 65), EG.mk 6 (some 52) none false (.off (.tmp 51) 1), EG.mk 7 (some 53) none false (.ldn (.tmp 52) 64), EG.mk 8 none none false (.st (.tmp 4) (.tmp 53) 64), EG.mk 9 (some 5) none false (.mv (.const (.int .i64 0)))]]) .ret) .skip))) (.reg [[EG.mk 0 (some 34) none false (.mv (.tmp 6)), EG.mk 1 (some 35) none false (.bin .sub (.tmp 34) (.const (.int .i64 1))), EG.mk 2 (some 6) none false (.mv (.tmp 35))]]))
def ec_disk_Disk_Read : EC := .seq (.reg [[EG.mk 0 (some 4) none false (.alloc zl64_intu80 235), EG.mk 1 (some 5) none false (.mv (.const (.int .i64 0)))]]) (.seq (.block 0 (.seq (.reg [[EG.mk 0 (some 8) none false (.mv (.tmp 0)), EG.mk 1 (some 9) none false (.nilc (.tmp 8)), EG.mk 2 (some 10) none false (.off (.tmp 9) 2), EG.mk 3 (some 11) none false (.ld1 (.tmp 10)), EG.mk 4 (some 7) none false (.mv (.tmp 11))]]) (.cond (.tmp 7) (.seq (.reg [[EG.mk 0 (some 12) none false (.build zl64_intu80 []), EG.mk 1 none none false (.st (.tmp 4) (.tmp 12) 64), EG.mk 2 (some 5) none false (.mv (.const (.int .i64 3)))]]) .ret) (.seq (.reg [[EG.mk 0 (some 14) none false (.mv (.tmp 1)), EG.mk 1 (some 15) none false (.bin .lss (.tmp 14) (.const (.int .i64 0))), EG.mk 2 (some 16) none false (.mv (.tmp 15)), EG.mk 3 (some 17) (some (16, false)) false (.mv (.tmp 1)), EG.mk 4 (some 18) (some (16, false)) false (.mv (.tmp 0)), EG.mk 5 (some 19) (some (16, false)) false (.nilc (.tmp 18)), EG.mk 6 (some 20) (some (16, false)) false (.off (.tmp 19) 0), EG.mk 7 (some 21) (some (16, false)) false (.ld1 (.tmp 20)), EG.mk 8 (some 22) (some (16, false)) false (.len (.tmp 21)), EG.mk 9 (some 23) (some (16, false)) false (.bin .geq (.tmp 17) (.tmp 22)), EG.mk 10 (some 24) none false (.pick (.tmp 16) (.const (.bool true)) (.tmp 23)), EG.mk 11 (some 13) none false (.mv (.tmp 24))]]) (.cond (.tmp 13) (.seq (.reg [[EG.mk 0 (some 25) none false (.build zl64_intu80 []), EG.mk 1 none none false (.st (.tmp 4) (.tmp 25) 64), EG.mk 2 (some 5) none false (.mv (.const (.int .i64 2)))]]) .ret) .skip))))) (.seq (.seq (.reg [[EG.mk 0 (some 26) none false (.mv (.tmp 0)), EG.mk 1 (some 27) none false (.nilc (.tmp 26)), EG.mk 2 (some 28) none false (.off (.tmp 27) 1), EG.mk 3 (some 29) none false (.ld1 (.tmp 28)), EG.mk 4 (some 30) none false (.len (.tmp 29)), EG.mk 5 (some 31) none false (.bin .sub (.tmp 30) (.const (.int .i64 1))), EG.mk 6 (some 6) none false (.mv (.tmp 31))]]) (.block 1 (.loop ec_disk_Disk_Read_L0))) (.seq (.reg [[EG.mk 0 (some 54) none false (.mv (.tmp 0)), EG.mk 1 (some 55) none false (.nilc (.tmp 54)), EG.mk 2 (some 56) none false (.off (.tmp 55) 0), EG.mk 3 (some 57) none false (.ld1 (.tmp 56)), EG.mk 4 (some 58) none false (.mv (.tmp 1)), EG.mk 5 (some 59) none false (.ixS (.tmp 57) (.tmp 58) 64), EG.mk 6 (some 60) none false (.ldn (.tmp 59) 64), EG.mk 7 none none false (.st (.tmp 4) (.tmp 60) 64), EG.mk 8 (some 5) none false (.mv (.const (.int .i64 0)))]]) .ret)))
theorem ok_disk_Disk_Read : compileFn Tryz.prog Tryz.f133 = some ec_disk_Disk_Read := by kernel_rfl

/-- log_Log_good -/
def ec_log_Log_good : EC := .seq (.reg [[EG.mk 0 (some 3) none false (.box (.tmp 1) 235), EG.mk 1 (some 4) none false (.mv (.const (.int .i64 0))), EG.mk 2 (some 5) none false (.mv (.const (.bool false)))]]) (.seq (.seq (.reg [[EG.mk 0 (some 9) none false (.ldn (.tmp 3) 64), EG.mk 1 (some 10) none false (.build zl64_intu80 []), EG.mk 2 (some 11) none false (.eqa false 235 .u8 64 (.tmp 9) (.tmp 10))]]) (.cond (.tmp 11) (.seq (.reg [[EG.mk 0 (some 4) none false (.mv (.const (.int .i64 0))), EG.mk 1 (some 5) none false (.mv (.const (.bool false)))]]) .ret) .skip)) (.seq (.reg [[EG.mk 0 (some 12) none false (.slA (.tmp 3) 64 1 (some (.const (.int .i64 1))) (some (.const (.int .i64 9))) none), EG.mk 1 (some 13) none false (.call 138 #[.tmp 12]), EG.mk 2 (some 6) none false (.mv (.tmp 13))]]) (.seq (.reg [[EG.mk 0 (some 14) none false (.mv (.tmp 6)), EG.mk 1 (some 15) none false (.call 139 #[.tmp 14, .const (.int .i64 2147483648)]), EG.mk 2 (some 7) none false (.mv (.tmp 15))]]) (.seq (.reg [[EG.mk 0 (some 16) none false (.mv (.tmp 6)), EG.mk 1 (some 17) none false (.call 139 #[.tmp 16, .const (.int .i64 4294967295)]), EG.mk 2 (some 8) none false (.mv (.tmp 17))]]) (.seq (.reg [[EG.mk 0 (some 18) none false (.mv (.tmp 7)), EG.mk 1 (some 19) none false (.ixA (.tmp 3) (.const (.int .i64 0)) 64 1), EG.mk 2 (some 20) none false (.ld1 (.tmp 19)), EG.mk 3 (some 21) none false (.bin .eql (.tmp 20) (.const (.int .u8 1))), EG.mk 4 (some 22) none false (.mv (.tmp 21)), EG.mk 5 (some 23) (some (22, true)) false (.mv (.tmp 8)), EG.mk 6 (some 24) (some (22, true)) false (.cvI .u32 (.tmp 23)), EG.mk 7 (some 25) (some (22, true)) false (.slA (.tmp 3) 64 1 none (some (.const (.int .i64 5))) none), EG.mk 8 (some 26) (some (22, true)) false (.bsl 22 [.slice none 0 0] 1 [(0, 1, .tmp 25)]), EG.mk 9 (some 27) (some (22, true)) false (.call 191 #[.tmp 26]), EG.mk 10 (some 28) (some (22, true)) false (.bin .eql (.tmp 24) (.tmp 27)), EG.mk 11 (some 29) none false (.pick (.tmp 22) (.tmp 28) (.const (.bool false))), EG.mk 12 (some 4) none false (.mv (.tmp 18)), EG.mk 13 (some 5) none false (.mv (.tmp 29))]]) .ret)))))
theorem ok_log_Log_good : compileFn Tryz.prog Tryz.f134 = some ec_log_Log_good := by kernel_rfl

/-- log_Log_look -/
def ec_log_Log_look_L0 : EC := .seq (.seq (.reg [[EG.mk 0 (some 14) none false (.mv (.tmp 3)), EG.mk 1 (some 15) none false (.mv (.tmp 0)), EG.mk 2 (some 16) none false (.nilc (.tmp 15)), EG.mk 3 (some 17) none false (.off (.tmp 16) 0), EG.mk 4 (some 18) none false (.ld1 (.tmp 17)), EG.mk 5 (some 19) none false (.call 132 #[.tmp 18]), EG.mk 6 (some 20) none false (.bin .lss (.tmp 14) (.tmp 19))]]) (.cond (.tmp 20) .skip (.exit 0))) (.seq (.block 1 (.seq (.reg [[EG.mk 0 (some 24) none false (.mv (.tmp 0)), EG.mk 1 (some 25) none false (.nilc (.tmp 24)), EG.mk 2 (some 26) none false (.off (.tmp 25) 0), EG.mk 3 (some 27) none false (.ld1 (.tmp 26)), EG.mk 4 (some 28) none false (.mv (.tmp 3)), EG.mk 5 (some 29) none false (.call 133 #[.tmp 27, .tmp 28]), EG.mk 6 (some 23) none false (.mv (.tmp 29)), EG.mk 7 (some 30) none false (.ext (.tmp 23) 0), EG.mk 8 (some 31) none false (.ext (.tmp 23) 1), EG.mk 9 (some 4) none false (.alloc zl64_intu80 235), EG.mk 10 none none false (.st (.tmp 4) (.tmp 30) 64), EG.mk 11 (some 5) none false (.mv (.tmp 31))]]) (.seq (.seq (.reg [[EG.mk 0 (some 32) none false (.mv (.tmp 5)), EG.mk 1 (some 33) none false (.bin .neq (.tmp 32) (.const (.int .i64 0)))]]) (.cond (.tmp 33) (.seq (.reg [[EG.mk 0 (some 34) none false (.mv (.tmp 5)), EG.mk 1 (some 2) none false (.mv (.tmp 34))]]) .ret) .skip)) (.seq (.reg [[EG.mk 0 (some 35) none false (.ixA (.tmp 4) (.const (.int .i64 0)) 64 1), EG.mk 1 (some 36) none false (.ld1 (.tmp 35)), EG.mk 2 (some 37) none false (.bin .eql (.tmp 36) (.const (.int .u8 2)))]]) (.cond (.tmp 37) (.seq (.reg [[EG.mk 0 (some 38) none false (.slA (.tmp 4) 64 1 (some (.const (.int .i64 9))) (some (.const (.int .i64 13))) none), EG.mk 1 (some 39) none false (.call 138 #[.tmp 38]), EG.mk 2 (some 6) none false (.mv (.tmp 39))]]) (.reg [[EG.mk 0 (some 40) none true (.mv (.tmp 0)), EG.mk 1 (some 41) none true (.mv (.tmp 0)), EG.mk 2 (some 42) none true (.nilc (.tmp 41)), EG.mk 3 (some 43) none true (.off (.tmp 42) 2), EG.mk 5 (some 45) none true (.mv (.tmp 6)), EG.mk 4 (some 44) none true (.ld1 (.tmp 43)), EG.mk 6 (some 46) none false (.call 139 #[.tmp 45, .const (.int .i64 2147483648)])], [EG.mk 7 (some 47) none true (.mx2 (.tmp 44) (.tmp 46)), EG.mk 8 (some 48) none true (.nilc (.tmp 40)), EG.mk 9 (some 49) none true (.off (.tmp 48) 2), EG.mk 10 none none false (.st (.tmp 49) (.tmp 47) 1)]])) .skip))))) (.reg [[EG.mk 0 (some 21) none false (.mv (.tmp 3)), EG.mk 1 (some 22) none false (.bin .add (.tmp 21) (.const (.int .i64 1))), EG.mk 2 (some 3) none false (.mv (.tmp 22))]]))
def ec_log_Log_look : EC := .seq (.reg [[EG.mk 0 (some 2) none false (.mv (.const (.int .i64 0)))]]) (.seq (.reg [[EG.mk 0 (some 7) none false (.mv (.tmp 0)), EG.mk 1 (some 8) none false (.mv (.tmp 0)), EG.mk 2 (some 9) none false (.nilc (.tmp 8)), EG.mk 3 (some 10) none false (.off (.tmp 9) 1), EG.mk 4 (some 11) none false (.ld1 (.tmp 10)), EG.mk 5 (some 12) none false (.nilc (.tmp 7)), EG.mk 6 (some 13) none false (.off (.tmp 12) 2), EG.mk 7 none none false (.st (.tmp 13) (.tmp 11) 1)]]) (.seq (.seq (.reg [[EG.mk 0 (some 3) none false (.mv (.const (.int .i64 2)))]]) (.block 0 (.loop ec_log_Log_look_L0))) (.seq (.reg [[EG.mk 0 (some 2) none false (.mv (.const (.int .i64 0)))]]) .ret)))
theorem ok_log_Log_look : compileFn Tryz.prog Tryz.f135 = some ec_log_Log_look := by kernel_rfl

/-- log_Log_Rewrite -/
def ec_log_Log_Rewrite_L0 : EC := .seq (.reg [[EG.mk 0 (some 71) none false (.bin .lss (.tmp 70) (.tmp 69))]]) (.seq (.cond (.tmp 71) .skip (.exit 2)) (.seq (.block 3 (.seq (.reg [[EG.mk 0 (some 72) none false (.mv (.tmp 70)), EG.mk 1 (some 73) none false (.ixS (.tmp 68) (.tmp 70) 1), EG.mk 2 (some 74) none false (.ld1 (.tmp 73)), EG.mk 3 (some 8) none false (.mv (.tmp 72)), EG.mk 4 (some 9) none false (.mv (.tmp 74))]]) (.seq (.seq (.reg [[EG.mk 0 (some 75) none true (.mv (.tmp 0)), EG.mk 1 (some 76) none true (.mv (.tmp 0)), EG.mk 2 (some 77) none true (.nilc (.tmp 76)), EG.mk 3 (some 78) none true (.off (.tmp 77) 4), EG.mk 5 (some 80) none true (.mv (.tmp 0)), EG.mk 6 (some 81) none true (.mv (.tmp 8)), EG.mk 7 (some 82) none true (.mv (.tmp 9)), EG.mk 4 (some 79) none true (.ld1 (.tmp 78)), EG.mk 8 (some 83) none false (.call 154 #[.tmp 80, .tmp 81, .tmp 82])], [EG.mk 9 (some 84) none false (.call 192 #[.tmp 75, .tmp 79, .tmp 83])], [EG.mk 10 (some 10) none true (.mv (.tmp 84))]]) (.seq (.reg [[EG.mk 0 (some 85) none false (.mv (.tmp 10)), EG.mk 1 (some 86) none false (.bin .neq (.tmp 85) (.const (.int .i64 0)))]]) (.cond (.tmp 86) (.seq (.reg [[EG.mk 0 (some 87) none false (.mv (.tmp 0)), EG.mk 1 (some 88) none false (.mv (.tmp 10)), EG.mk 2 (some 89) none false (.call 155 #[.tmp 87, .tmp 88]), EG.mk 3 (some 4) none false (.mv (.tmp 89))]]) .ret) .skip))) (.seq (.reg [[EG.mk 0 (some 90) none true (.mv (.tmp 0)), EG.mk 1 (some 91) none true (.nilc (.tmp 90)), EG.mk 2 (some 92) none true (.off (.tmp 91) 4), EG.mk 4 (some 94) none true (.mv (.tmp 9)), EG.mk 5 (some 95) none true (.len (.tmp 94)), EG.mk 3 (some 93) none true (.ld1 (.tmp 92)), EG.mk 6 (some 96) none false (.call 151 #[.tmp 95])], [EG.mk 7 (some 97) none true (.bin .add (.tmp 93) (.tmp 96)), EG.mk 8 (some 98) none true (.nilc (.tmp 90)), EG.mk 9 (some 99) none true (.off (.tmp 98) 4), EG.mk 10 none none false (.st (.tmp 99) (.tmp 97) 1)]]) (.reg [[EG.mk 0 (some 100) none true (.mv (.tmp 0)), EG.mk 1 (some 101) none true (.mv (.tmp 0)), EG.mk 2 (some 102) none true (.nilc (.tmp 101)), EG.mk 3 (some 103) none true (.off (.tmp 102) 5), EG.mk 5 (some 105) none true (.mv (.tmp 9)), EG.mk 4 (some 104) none true (.ld1 (.tmp 103)), EG.mk 6 (some 106) none false (.app 5 [.int .u8 0] 1 (.const (.slice none 0 0)) (.tmp 105)), EG.mk 7 (some 107) none false (.bsl 22 [.slice none 0 0] 1 [(0, 1, .tmp 106)])], [EG.mk 8 (some 108) none false (.app 22 [.slice none 0 0] 24 (.tmp 104) (.tmp 107))], [EG.mk 9 (some 109) none true (.nilc (.tmp 100)), EG.mk 10 (some 110) none true (.off (.tmp 109) 5), EG.mk 11 none none false (.st (.tmp 110) (.tmp 108) 1)]]))))) (.reg [[EG.mk 0 (some 111) none false (.bin .add (.tmp 70) (.const (.int .i64 1))), EG.mk 1 (some 70) none false (.mv (.tmp 111))]])))
def ec_log_Log_Rewrite_L1 : EC := .seq (.reg [[EG.mk 0 (some 21) none false (.bin .lss (.tmp 20) (.tmp 19))]]) (.seq (.cond (.tmp 21) .skip (.exit 0)) (.seq (.block 1 (.seq (.reg [[EG.mk 0 (some 22) none false (.ixS (.tmp 18) (.tmp 20) 1), EG.mk 1 (some 23) none false (.ld1 (.tmp 22)), EG.mk 2 (some 7) none false (.mv (.tmp 23))]]) (.seq (.seq (.reg [[EG.mk 0 (some 24) none false (.mv (.tmp 7)), EG.mk 1 (some 25) none false (.len (.tmp 24)), EG.mk 2 (some 26) none false (.bin .gtr (.tmp 25) (.const (.int .i64 4096)))]]) (.cond (.tmp 26) (.seq (.reg [[EG.mk 0 (some 4) none false (.mv (.const (.int .i64 6)))]]) .ret) .skip)) (.reg [[EG.mk 0 (some 27) none false (.mv (.tmp 5)), EG.mk 1 (some 28) none false (.mv (.tmp 7)), EG.mk 2 (some 29) none false (.len (.tmp 28)), EG.mk 3 (some 30) none false (.call 151 #[.tmp 29]), EG.mk 4 (some 31) none false (.bin .add (.tmp 27) (.tmp 30)), EG.mk 5 (some 5) none false (.mv (.tmp 31))]])))) (.reg [[EG.mk 0 (some 32) none false (.bin .add (.tmp 20) (.const (.int .i64 1))), EG.mk 1 (some 20) none false (.mv (.tmp 32))]])))
def ec_log_Log_Rewrite : EC := .seq (.reg [[EG.mk 0 (some 4) none false (.mv (.const (.int .i64 0)))]]) (.seq (.seq (.reg [[EG.mk 0 (some 14) none false (.mv (.tmp 0)), EG.mk 1 (some 15) none false (.nilc (.tmp 14)), EG.mk 2 (some 16) none false (.off (.tmp 15) 6), EG.mk 3 (some 17) none false (.ld1 (.tmp 16))]]) (.cond (.tmp 17) (.seq (.reg [[EG.mk 0 (some 4) none false (.mv (.const (.int .i64 3)))]]) .ret) .skip)) (.seq (.reg [[EG.mk 0 (some 5) none false (.mv (.const (.int .i64 0)))]]) (.seq (.seq (.reg [[EG.mk 0 (some 18) none false (.mv (.tmp 1)), EG.mk 1 (some 19) none false (.len (.tmp 18)), EG.mk 2 (some 20) none false (.mv (.const (.int .i64 0)))]]) (.block 0 (.loop ec_log_Log_Rewrite_L1))) (.seq (.seq (.reg [[EG.mk 0 (some 33) none false (.mv (.tmp 5)), EG.mk 1 (some 34) none false (.mv (.tmp 0)), EG.mk 2 (some 35) none false (.nilc (.tmp 34)), EG.mk 3 (some 36) none false (.off (.tmp 35) 0), EG.mk 4 (some 37) none false (.ld1 (.tmp 36)), EG.mk 5 (some 38) none false (.call 152 #[.tmp 37]), EG.mk 6 (some 39) none false (.bin .gtr (.tmp 33) (.tmp 38))]]) (.cond (.tmp 39) (.seq (.reg [[EG.mk 0 (some 4) none false (.mv (.const (.int .i64 7)))]]) .ret) .skip)) (.seq (.reg [[EG.mk 0 (some 40) none false (.mv (.tmp 0)), EG.mk 1 (some 41) none false (.nilc (.tmp 40)), EG.mk 2 (some 42) none false (.off (.tmp 41) 2), EG.mk 3 (some 43) none false (.ld1 (.tmp 42)), EG.mk 4 (some 44) none false (.bin .add (.tmp 43) (.const (.int .i64 1))), EG.mk 5 (some 45) none false (.nilc (.tmp 40)), EG.mk 6 (some 46) none false (.off (.tmp 45) 2), EG.mk 7 none none false (.st (.tmp 46) (.tmp 44) 1)]]) (.seq (.reg [[EG.mk 0 (some 47) none false (.mv (.tmp 0)), EG.mk 1 (some 48) none false (.mv (.tmp 0)), EG.mk 2 (some 49) none false (.nilc (.tmp 48)), EG.mk 3 (some 50) none false (.off (.tmp 49) 2), EG.mk 4 (some 51) none false (.ld1 (.tmp 50)), EG.mk 5 (some 52) none false (.nilc (.tmp 47)), EG.mk 6 (some 53) none false (.off (.tmp 52) 1), EG.mk 7 none none false (.st (.tmp 53) (.tmp 51) 1)]]) (.seq (.reg [[EG.mk 0 (some 54) none false (.mv (.tmp 0)), EG.mk 1 (some 55) none false (.mv (.tmp 0)), EG.mk 2 (some 56) none false (.mv (.tmp 0)), EG.mk 3 (some 57) none false (.nilc (.tmp 56)), EG.mk 4 (some 58) none false (.off (.tmp 57) 3), EG.mk 5 (some 59) none false (.ld1 (.tmp 58)), EG.mk 6 (some 60) none false (.bin .sub (.const (.int .i64 1)) (.tmp 59)), EG.mk 7 (some 61) none false (.nilc (.tmp 54)), EG.mk 8 (some 62) none false (.off (.tmp 61) 3), EG.mk 9 none none false (.st (.tmp 62) (.tmp 60) 1), EG.mk 10 (some 63) none false (.nilc (.tmp 55)), EG.mk 11 (some 64) none false (.off (.tmp 63) 4), EG.mk 12 none none false (.st (.tmp 64) (.const (.int .i64 0)) 1)]]) (.seq (.reg [[EG.mk 0 (some 65) none false (.mv (.tmp 0)), EG.mk 1 (some 66) none false (.nilc (.tmp 65)), EG.mk 2 (some 67) none false (.off (.tmp 66) 5), EG.mk 3 none none false (.st (.tmp 67) (.const (.slice none 0 0)) 1)]]) (.seq (.seq (.reg [[EG.mk 0 (some 68) none false (.mv (.tmp 1)), EG.mk 1 (some 69) none false (.len (.tmp 68)), EG.mk 2 (some 70) none false (.mv (.const (.int .i64 0)))]]) (.block 2 (.loop ec_log_Log_Rewrite_L0))) (.seq (.seq (.reg [[EG.mk 0 (some 112) none false (.mv (.tmp 0)), EG.mk 1 (some 113) none false (.nilc (.tmp 112)), EG.mk 2 (some 114) none false (.off (.tmp 113) 0), EG.mk 3 (some 115) none false (.ld1 (.tmp 114)), EG.mk 4 (some 116) none false (.call 193 #[.tmp 115]), EG.mk 5 (some 11) none false (.mv (.tmp 116))]]) (.seq (.reg [[EG.mk 0 (some 117) none false (.mv (.tmp 11)), EG.mk 1 (some 118) none false (.bin .neq (.tmp 117) (.const (.int .i64 0)))]]) (.cond (.tmp 118) (.seq (.reg [[EG.mk 0 (some 119) none false (.mv (.tmp 0)), EG.mk 1 (some 120) none false (.mv (.tmp 11)), EG.mk 2 (some 121) none false (.call 155 #[.tmp 119, .tmp 120]), EG.mk 3 (some 4) none false (.mv (.tmp 121))]]) .ret) .skip))) (.seq (.reg [[EG.mk 0 (some 12) none false (.alloc zl64_intu80 235)]]) (.seq (.reg [[EG.mk 0 (some 122) none false (.ixA (.tmp 12) (.const (.int .i64 0)) 64 1), EG.mk 1 none none false (.st (.tmp 122) (.const (.int .u8 1)) 1)]]) (.seq (.reg [[EG.mk 0 (some 123) none true (.slA (.tmp 12) 64 1 (some (.const (.int .i64 1))) none none), EG.mk 1 (some 124) none true (.mv (.tmp 0)), EG.mk 2 (some 125) none true (.nilc (.tmp 124)), EG.mk 3 (some 126) none true (.off (.tmp 125) 1), EG.mk 4 (some 127) none false (.ld1 (.tmp 126))], [EG.mk 5 (some 128) none false (.call 156 #[.tmp 127])], [EG.mk 6 (some 129) none false (.cpy 1 (.tmp 123) (.tmp 128))]]) (.seq (.reg [[EG.mk 0 (some 130) none true (.slA (.tmp 12) 64 1 (some (.const (.int .i64 5))) none none), EG.mk 1 (some 131) none true (.slA (.tmp 12) 64 1 none (some (.const (.int .i64 5))) none), EG.mk 2 (some 132) none false (.bsl 22 [.slice none 0 0] 1 [(0, 1, .tmp 131)])], [EG.mk 3 (some 133) none false (.call 191 #[.tmp 132])], [EG.mk 4 (some 134) none true (.cvI .i64 (.tmp 133)), EG.mk 5 (some 135) none false (.call 156 #[.tmp 134])], [EG.mk 6 (some 136) none false (.cpy 1 (.tmp 130) (.tmp 135))]]) (.seq (.seq (.reg [[EG.mk 0 (some 137) none true (.mv (.tmp 0)), EG.mk 1 (some 138) none true (.nilc (.tmp 137)), EG.mk 2 (some 139) none true (.off (.tmp 138) 0), EG.mk 4 (some 141) none true (.mv (.tmp 0)), EG.mk 5 (some 142) none true (.nilc (.tmp 141)), EG.mk 6 (some 143) none true (.off (.tmp 142) 3), EG.mk 3 (some 140) none true (.ld1 (.tmp 139)), EG.mk 7 (some 144) none true (.ld1 (.tmp 143)), EG.mk 8 (some 145) none true (.ldn (.tmp 12) 64)], [EG.mk 9 (some 146) none false (.call 194 #[.tmp 140, .tmp 144, .tmp 145])], [EG.mk 10 (some 13) none true (.mv (.tmp 146))]]) (.seq (.reg [[EG.mk 0 (some 147) none false (.mv (.tmp 13)), EG.mk 1 (some 148) none false (.bin .neq (.tmp 147) (.const (.int .i64 0)))]]) (.cond (.tmp 148) (.seq (.reg [[EG.mk 0 (some 149) none false (.mv (.tmp 0)), EG.mk 1 (some 150) none false (.mv (.tmp 13)), EG.mk 2 (some 151) none false (.call 155 #[.tmp 149, .tmp 150]), EG.mk 3 (some 4) none false (.mv (.tmp 151))]]) .ret) .skip))) (.seq (.reg [[EG.mk 0 (some 152) none false (.mv (.tmp 0)), EG.mk 1 (some 153) none false (.mv (.tmp 0)), EG.mk 2 (some 154) none false (.nilc (.tmp 153)), EG.mk 3 (some 155) none false (.off (.tmp 154) 0), EG.mk 4 (some 156) none false (.ld1 (.tmp 155)), EG.mk 5 (some 157) none false (.call 193 #[.tmp 156]), EG.mk 6 (some 158) none false (.call 155 #[.tmp 152, .tmp 157]), EG.mk 7 (some 4) none false (.mv (.tmp 158))]]) .ret))))))))))))))))
theorem ok_log_Log_Rewrite : compileFn Tryz.prog Tryz.f136 = some ec_log_Log_Rewrite := by kernel_rfl

/-- log_Log_next -/
def ec_log_Log_next_L0 : EC := .seq (.seq (.reg [[EG.mk 0 (some 92) none false (.mv (.tmp 14)), EG.mk 1 (some 93) none false (.mv (.tmp 12)), EG.mk 2 (some 94) none false (.bin .lss (.tmp 92) (.tmp 93))]]) (.cond (.tmp 94) .skip (.exit 0))) (.seq (.block 1 (.seq (.reg [[EG.mk 0 (some 98) none false (.mv (.tmp 0)), EG.mk 1 (some 99) none false (.mv (.tmp 0)), EG.mk 2 (some 100) none false (.nilc (.tmp 99)), EG.mk 3 (some 101) none false (.off (.tmp 100) 4), EG.mk 4 (some 102) none false (.ld1 (.tmp 101)), EG.mk 5 (some 103) none false (.mv (.tmp 14)), EG.mk 6 (some 104) none false (.bin .add (.tmp 102) (.tmp 103)), EG.mk 7 (some 105) none false (.call 195 #[.tmp 98, .tmp 104]), EG.mk 8 (some 97) none false (.mv (.tmp 105)), EG.mk 9 (some 106) none false (.ext (.tmp 97) 0), EG.mk 10 (some 107) none false (.ext (.tmp 97) 1), EG.mk 11 (some 15) none false (.alloc zl64_intu80 235), EG.mk 12 none none false (.st (.tmp 15) (.tmp 106) 64), EG.mk 13 (some 16) none false (.mv (.tmp 107))]]) (.seq (.seq (.reg [[EG.mk 0 (some 108) none false (.mv (.tmp 16)), EG.mk 1 (some 109) none false (.bin .neq (.tmp 108) (.const (.int .i64 0)))]]) (.cond (.tmp 109) (.seq (.reg [[EG.mk 0 (some 110) none false (.mv (.tmp 16)), EG.mk 1 (some 2) none false (.mv (.const (.slice none 0 0))), EG.mk 2 (some 3) none false (.mv (.const (.int .i64 0))), EG.mk 3 (some 4) none false (.mv (.tmp 110))]]) .ret) .skip)) (.seq (.seq (.reg [[EG.mk 0 (some 111) none false (.ixA (.tmp 15) (.const (.int .i64 0)) 64 1), EG.mk 1 (some 112) none false (.ld1 (.tmp 111)), EG.mk 2 (some 113) none false (.bin .neq (.tmp 112) (.const (.int .u8 3)))]]) (.cond (.tmp 113) (.seq (.reg [[EG.mk 0 (some 2) none false (.mv (.const (.slice none 0 0))), EG.mk 1 (some 3) none false (.mv (.const (.int .i64 0))), EG.mk 2 (some 4) none false (.mv (.const (.int .i64 0)))]]) .ret) .skip)) (.reg [[EG.mk 0 (some 114) none false (.mv (.tmp 13)), EG.mk 1 (some 115) none false (.slA (.tmp 15) 64 1 (some (.const (.int .i64 1))) none none), EG.mk 2 (some 116) none false (.app 5 [.int .u8 0] 1 (.tmp 114) (.tmp 115)), EG.mk 3 (some 13) none false (.mv (.tmp 116))]]))))) (.reg [[EG.mk 0 (some 95) none false (.mv (.tmp 14)), EG.mk 1 (some 96) none false (.bin .add (.tmp 95) (.const (.int .i64 1))), EG.mk 2 (some 14) none false (.mv (.tmp 96))]]))
def ec_log_Log_next : EC := .seq (.reg [[EG.mk 0 (some 2) none false (.mv (.const (.slice none 0 0))), EG.mk 1 (some 3) none false (.mv (.const (.int .i64 0))), EG.mk 2 (some 4) none false (.mv (.const (.int .i64 0)))]]) (.seq (.seq (.reg [[EG.mk 0 (some 17) none true (.mv (.tmp 0)), EG.mk 1 (some 18) none true (.nilc (.tmp 17)), EG.mk 2 (some 19) none true (.off (.tmp 18) 4), EG.mk 4 (some 21) none true (.mv (.tmp 0)), EG.mk 5 (some 22) none true (.nilc (.tmp 21)), EG.mk 6 (some 23) none true (.off (.tmp 22) 0), EG.mk 3 (some 20) none true (.ld1 (.tmp 19)), EG.mk 7 (some 24) none true (.ld1 (.tmp 23)), EG.mk 8 (some 25) none false (.call 152 #[.tmp 24])], [EG.mk 9 (some 26) none true (.bin .geq (.tmp 20) (.tmp 25))]]) (.cond (.tmp 26) (.seq (.reg [[EG.mk 0 (some 2) none false (.mv (.const (.slice none 0 0))), EG.mk 1 (some 3) none false (.mv (.const (.int .i64 0))), EG.mk 2 (some 4) none false (.mv (.const (.int .i64 0)))]]) .ret) .skip)) (.seq (.reg [[EG.mk 0 (some 28) none false (.mv (.tmp 0)), EG.mk 1 (some 29) none false (.mv (.tmp 0)), EG.mk 2 (some 30) none false (.nilc (.tmp 29)), EG.mk 3 (some 31) none false (.off (.tmp 30) 4), EG.mk 4 (some 32) none false (.ld1 (.tmp 31)), EG.mk 5 (some 33) none false (.call 195 #[.tmp 28, .tmp 32]), EG.mk 6 (some 27) none false (.mv (.tmp 33)), EG.mk 7 (some 34) none false (.ext (.tmp 27) 0), EG.mk 8 (some 35) none false (.ext (.tmp 27) 1), EG.mk 9 (some 5) none false (.alloc zl64_intu80 235), EG.mk 10 none none false (.st (.tmp 5) (.tmp 34) 64), EG.mk 11 (some 6) none false (.mv (.tmp 35))]]) (.seq (.seq (.reg [[EG.mk 0 (some 36) none false (.mv (.tmp 6)), EG.mk 1 (some 37) none false (.bin .neq (.tmp 36) (.const (.int .i64 0)))]]) (.cond (.tmp 37) (.seq (.reg [[EG.mk 0 (some 38) none false (.mv (.tmp 6)), EG.mk 1 (some 2) none false (.mv (.const (.slice none 0 0))), EG.mk 2 (some 3) none false (.mv (.const (.int .i64 0))), EG.mk 3 (some 4) none false (.mv (.tmp 38))]]) .ret) .skip)) (.seq (.reg [[EG.mk 0 (some 39) none false (.slA (.tmp 5) 64 1 (some (.const (.int .i64 1))) (some (.const (.int .i64 17))) none), EG.mk 1 (some 40) none false (.call 138 #[.tmp 39]), EG.mk 2 (some 7) none false (.mv (.tmp 40))]]) (.seq (.reg [[EG.mk 0 (some 41) none false (.mv (.tmp 7)), EG.mk 1 (some 42) none false (.call 139 #[.tmp 41, .const (.int .i64 4096)]), EG.mk 2 (some 43) none false (.mv (.tmp 7)), EG.mk 3 (some 44) none false (.call 139 #[.tmp 43, .const (.int .i64 2147483648)]), EG.mk 4 (some 45) none false (.mv (.tmp 7)), EG.mk 5 (some 46) none false (.call 139 #[.tmp 45, .const (.int .i64 2147483648)]), EG.mk 6 (some 47) none false (.mv (.tmp 7)), EG.mk 7 (some 48) none false (.call 139 #[.tmp 47, .const (.int .i64 4294967295)]), EG.mk 8 (some 8) none false (.mv (.tmp 42)), EG.mk 9 (some 9) none false (.mv (.tmp 44)), EG.mk 10 (some 10) none false (.mv (.tmp 46)), EG.mk 11 (some 11) none false (.mv (.tmp 48))]]) (.seq (.reg [[EG.mk 0 (some 49) none false (.mv (.tmp 8)), EG.mk 1 (some 50) none false (.call 151 #[.tmp 49]), EG.mk 2 (some 12) none false (.mv (.tmp 50))]]) (.seq (.seq (.reg [[EG.mk 0 (some 51) none true (.ixA (.tmp 5) (.const (.int .i64 0)) 64 1), EG.mk 1 (some 52) none false (.ld1 (.tmp 51))], [EG.mk 2 (some 53) none true (.bin .neq (.tmp 52) (.const (.int .u8 2))), EG.mk 3 (some 54) none true (.mv (.tmp 53)), EG.mk 4 (some 55) (some (54, false)) true (.mv (.tmp 7)), EG.mk 5 (some 56) (some (54, false)) false (.call 145 #[.tmp 55])], [EG.mk 6 (some 57) (some (54, false)) true (.un .not (.tmp 56)), EG.mk 7 (some 58) none true (.pick (.tmp 54) (.const (.bool true)) (.tmp 57)), EG.mk 8 (some 59) none true (.mv (.tmp 58)), EG.mk 9 (some 60) (some (59, false)) true (.mv (.tmp 9)), EG.mk 10 (some 61) (some (59, false)) true (.mv (.tmp 0)), EG.mk 11 (some 62) (some (59, false)) true (.nilc (.tmp 61)), EG.mk 12 (some 63) (some (59, false)) true (.off (.tmp 62) 5), EG.mk 13 (some 64) (some (59, false)) false (.ld1 (.tmp 63))], [EG.mk 14 (some 65) (some (59, false)) true (.len (.tmp 64)), EG.mk 15 (some 66) (some (59, false)) true (.bin .neq (.tmp 60) (.tmp 65)), EG.mk 16 (some 67) none true (.pick (.tmp 59) (.const (.bool true)) (.tmp 66)), EG.mk 17 (some 68) none true (.mv (.tmp 67)), EG.mk 18 (some 69) (some (68, false)) true (.mv (.tmp 10)), EG.mk 19 (some 70) (some (68, false)) true (.mv (.tmp 0)), EG.mk 20 (some 71) (some (68, false)) true (.nilc (.tmp 70)), EG.mk 21 (some 72) (some (68, false)) true (.off (.tmp 71) 1), EG.mk 22 (some 73) (some (68, false)) false (.ld1 (.tmp 72))], [EG.mk 23 (some 74) (some (68, false)) true (.bin .neq (.tmp 69) (.tmp 73)), EG.mk 24 (some 75) none true (.pick (.tmp 68) (.const (.bool true)) (.tmp 74)), EG.mk 25 (some 76) none true (.mv (.tmp 75)), EG.mk 26 (some 77) (some (76, false)) true (.mv (.tmp 0)), EG.mk 27 (some 78) (some (76, false)) true (.nilc (.tmp 77)), EG.mk 28 (some 79) (some (76, false)) true (.off (.tmp 78) 4), EG.mk 30 (some 81) (some (76, false)) true (.mv (.tmp 12)), EG.mk 32 (some 83) (some (76, false)) true (.mv (.tmp 0)), EG.mk 33 (some 84) (some (76, false)) true (.nilc (.tmp 83)), EG.mk 34 (some 85) (some (76, false)) true (.off (.tmp 84) 0), EG.mk 29 (some 80) (some (76, false)) true (.ld1 (.tmp 79)), EG.mk 31 (some 82) (some (76, false)) true (.bin .add (.tmp 80) (.tmp 81)), EG.mk 35 (some 86) (some (76, false)) true (.ld1 (.tmp 85)), EG.mk 36 (some 87) (some (76, false)) false (.call 152 #[.tmp 86])], [EG.mk 37 (some 88) (some (76, false)) true (.bin .gtr (.tmp 82) (.tmp 87)), EG.mk 38 (some 89) none true (.pick (.tmp 76) (.const (.bool true)) (.tmp 88))]]) (.cond (.tmp 89) (.seq (.reg [[EG.mk 0 (some 2) none false (.mv (.const (.slice none 0 0))), EG.mk 1 (some 3) none false (.mv (.const (.int .i64 0))), EG.mk 2 (some 4) none false (.mv (.const (.int .i64 0)))]]) .ret) .skip)) (.seq (.reg [[EG.mk 0 (some 90) none false (.slA (.tmp 5) 64 1 (some (.const (.int .i64 17))) none none), EG.mk 1 (some 91) none false (.app 5 [.int .u8 0] 1 (.const (.slice none 0 0)) (.tmp 90)), EG.mk 2 (some 13) none false (.mv (.tmp 91))]]) (.seq (.seq (.reg [[EG.mk 0 (some 14) none false (.mv (.const (.int .i64 1)))]]) (.block 0 (.loop ec_log_Log_next_L0))) (.seq (.seq (.reg [[EG.mk 0 (some 117) none false (.mv (.tmp 13)), EG.mk 1 (some 118) none false (.mv (.tmp 8)), EG.mk 2 (some 119) none false (.slS (.tmp 117) 1 none (some (.tmp 118)) none), EG.mk 3 (some 13) none false (.mv (.tmp 119))]]) (.seq (.reg [[EG.mk 0 (some 120) none false (.mv (.tmp 9)), EG.mk 1 (some 121) none false (.call 156 #[.tmp 120]), EG.mk 2 (some 122) none false (.mv (.tmp 10)), EG.mk 3 (some 123) none false (.call 156 #[.tmp 122]), EG.mk 4 (some 124) none false (.bsl 257 [.slice none 0 0, .slice none 0 0] 2 [(0, 1, .tmp 121), (1, 1, .tmp 123)]), EG.mk 5 (some 125) none false (.call 159 #[.tmp 124]), EG.mk 6 (some 126) none false (.mv (.tmp 13)), EG.mk 7 (some 127) none false (.bsl 22 [.slice none 0 0, .slice none 0 0] 2 [(0, 1, .tmp 125), (1, 1, .tmp 126)]), EG.mk 8 (some 128) none false (.call 191 #[.tmp 127]), EG.mk 9 (some 129) none false (.mv (.tmp 11)), EG.mk 10 (some 130) none false (.cvI .u32 (.tmp 129)), EG.mk 11 (some 131) none false (.bin .neq (.tmp 128) (.tmp 130))]]) (.cond (.tmp 131) (.seq (.reg [[EG.mk 0 (some 2) none false (.mv (.const (.slice none 0 0))), EG.mk 1 (some 3) none false (.mv (.const (.int .i64 0))), EG.mk 2 (some 4) none false (.mv (.const (.int .i64 0)))]]) .ret) .skip))) (.seq (.reg [[EG.mk 0 (some 132) none false (.mv (.tmp 13)), EG.mk 1 (some 133) none false (.mv (.tmp 12)), EG.mk 2 (some 2) none false (.mv (.tmp 132)), EG.mk 3 (some 3) none false (.mv (.tmp 133)), EG.mk 4 (some 4) none false (.mv (.const (.int .i64 0)))]]) .ret)))))))))))
theorem ok_log_Log_next : compileFn Tryz.prog Tryz.f137 = some ec_log_Log_next := by kernel_rfl

/-- rec_Read -/
def ec_rec_Read : EC := .seq (.reg [[EG.mk 0 (some 2) none false (.mv (.const (.pointer none)))]]) (.seq (.reg [[EG.mk 0 (some 3) none false (.mv (.tmp 0)), EG.mk 1 (some 4) none false (.app 5 [.int .u8 0] 1 (.const (.slice none 0 0)) (.tmp 3)), EG.mk 2 (some 5) none false (.build [.slice none 0 0, .bool false] [(0, 1, .tmp 4)]), EG.mk 3 (some 6) none false (.box (.tmp 5) 296), EG.mk 4 (some 2) none false (.mv (.tmp 6))]]) .ret)
theorem ok_rec_Read : compileFn Tryz.prog Tryz.f138 = some ec_rec_Read := by kernel_rfl

/-- rec_Reader_Num -/
def ec_rec_Reader_Num : EC := .seq (.reg [[EG.mk 0 (some 4) none false (.mv (.const (.int .i64 0)))]]) (.seq (.seq (.reg [[EG.mk 0 (some 6) none false (.mv (.tmp 0)), EG.mk 1 (some 7) none false (.nilc (.tmp 6)), EG.mk 2 (some 8) none false (.off (.tmp 7) 0), EG.mk 3 (some 9) none false (.ld1 (.tmp 8)), EG.mk 4 (some 10) none false (.len (.tmp 9)), EG.mk 5 (some 11) none false (.bin .lss (.tmp 10) (.const (.int .i64 4)))]]) (.cond (.tmp 11) (.seq (.reg [[EG.mk 0 (some 12) none false (.mv (.tmp 0)), EG.mk 1 (some 13) none false (.mv (.tmp 0)), EG.mk 2 (some 14) none false (.nilc (.tmp 12)), EG.mk 3 (some 15) none false (.off (.tmp 14) 1), EG.mk 4 none none false (.st (.tmp 15) (.const (.bool true)) 1), EG.mk 5 (some 16) none false (.nilc (.tmp 13)), EG.mk 6 (some 17) none false (.off (.tmp 16) 0), EG.mk 7 none none false (.st (.tmp 17) (.const (.slice none 0 0)) 1)]]) (.seq (.reg [[EG.mk 0 (some 4) none false (.mv (.const (.int .i64 0)))]]) .ret)) .skip)) (.seq (.reg [[EG.mk 0 (some 18) none true (.mv (.tmp 0)), EG.mk 1 (some 19) none true (.nilc (.tmp 18)), EG.mk 2 (some 20) none true (.off (.tmp 19) 0), EG.mk 7 (some 25) none true (.mv (.tmp 0)), EG.mk 8 (some 26) none true (.nilc (.tmp 25)), EG.mk 9 (some 27) none true (.off (.tmp 26) 0), EG.mk 16 (some 34) none true (.mv (.tmp 0)), EG.mk 17 (some 35) none true (.nilc (.tmp 34)), EG.mk 18 (some 36) none true (.off (.tmp 35) 0), EG.mk 25 (some 43) none true (.mv (.tmp 0)), EG.mk 26 (some 44) none true (.nilc (.tmp 43)), EG.mk 27 (some 45) none true (.off (.tmp 44) 0), EG.mk 3 (some 21) none true (.ld1 (.tmp 20)), EG.mk 4 (some 22) none true (.ixS (.tmp 21) (.const (.int .i64 0)) 1), EG.mk 5 (some 23) none true (.ld1 (.tmp 22)), EG.mk 6 (some 24) none true (.cvI .u32 (.tmp 23)), EG.mk 10 (some 28) none true (.ld1 (.tmp 27)), EG.mk 11 (some 29) none true (.ixS (.tmp 28) (.const (.int .i64 1)) 1), EG.mk 12 (some 30) none true (.ld1 (.tmp 29)), EG.mk 13 (some 31) none true (.cvI .u32 (.tmp 30)), EG.mk 14 (some 32) none true (.bin .shl (.tmp 31) (.const (.int .u64 8))), EG.mk 15 (some 33) none true (.bin .or (.tmp 24) (.tmp 32)), EG.mk 19 (some 37) none true (.ld1 (.tmp 36)), EG.mk 20 (some 38) none true (.ixS (.tmp 37) (.const (.int .i64 2)) 1), EG.mk 21 (some 39) none true (.ld1 (.tmp 38)), EG.mk 22 (some 40) none true (.cvI .u32 (.tmp 39)), EG.mk 23 (some 41) none true (.bin .shl (.tmp 40) (.const (.int .u64 16))), EG.mk 24 (some 42) none true (.bin .or (.tmp 33) (.tmp 41)), EG.mk 28 (some 46) none true (.ld1 (.tmp 45)), EG.mk 29 (some 47) none true (.ixS (.tmp 46) (.const (.int .i64 3)) 1), EG.mk 30 (some 48) none true (.ld1 (.tmp 47)), EG.mk 31 (some 49) none true (.cvI .u32 (.tmp 48)), EG.mk 32 (some 50) none true (.bin .shl (.tmp 49) (.const (.int .u64 24)))], [EG.mk 33 (some 51) none true (.bin .or (.tmp 42) (.tmp 50)), EG.mk 34 (some 5) none true (.mv (.tmp 51))]]) (.seq (.reg [[EG.mk 0 (some 52) none false (.mv (.tmp 0)), EG.mk 1 (some 53) none false (.mv (.tmp 0)), EG.mk 2 (some 54) none false (.nilc (.tmp 53)), EG.mk 3 (some 55) none false (.off (.tmp 54) 0), EG.mk 4 (some 56) none false (.ld1 (.tmp 55)), EG.mk 5 (some 57) none false (.slS (.tmp 56) 1 (some (.const (.int .i64 4))) none none), EG.mk 6 (some 58) none false (.nilc (.tmp 52)), EG.mk 7 (some 59) none false (.off (.tmp 58) 0), EG.mk 8 none none false (.st (.tmp 59) (.tmp 57) 1)]]) (.seq (.seq (.reg [[EG.mk 0 (some 60) none false (.mv (.tmp 5)), EG.mk 1 (some 61) none false (.cvI .i64 (.tmp 60)), EG.mk 2 (some 62) none false (.mv (.tmp 1)), EG.mk 3 (some 63) none false (.bin .gtr (.tmp 61) (.tmp 62))]]) (.cond (.tmp 63) (.seq (.reg [[EG.mk 0 (some 64) none false (.mv (.tmp 0)), EG.mk 1 (some 65) none false (.mv (.tmp 0)), EG.mk 2 (some 66) none false (.nilc (.tmp 64)), EG.mk 3 (some 67) none false (.off (.tmp 66) 1), EG.mk 4 none none false (.st (.tmp 67) (.const (.bool true)) 1), EG.mk 5 (some 68) none false (.nilc (.tmp 65)), EG.mk 6 (some 69) none false (.off (.tmp 68) 0), EG.mk 7 none none false (.st (.tmp 69) (.const (.slice none 0 0)) 1)]]) (.seq (.reg [[EG.mk 0 (some 4) none false (.mv (.const (.int .i64 0)))]]) .ret)) .skip)) (.seq (.reg [[EG.mk 0 (some 70) none false (.mv (.tmp 5)), EG.mk 1 (some 71) none false (.cvI .i64 (.tmp 70)), EG.mk 2 (some 4) none false (.mv (.tmp 71))]]) .ret)))))
theorem ok_rec_Reader_Num : compileFn Tryz.prog Tryz.f139 = some ec_rec_Reader_Num := by kernel_rfl

/-- rec_Reader_Good -/
def ec_rec_Reader_Good : EC := .seq (.reg [[EG.mk 0 (some 2) none false (.mv (.const (.bool false)))]]) (.seq (.reg [[EG.mk 0 (some 3) none false (.mv (.tmp 0)), EG.mk 1 (some 4) none false (.nilc (.tmp 3)), EG.mk 2 (some 5) none false (.off (.tmp 4) 1), EG.mk 3 (some 6) none false (.ld1 (.tmp 5)), EG.mk 4 (some 7) none false (.un .not (.tmp 6)), EG.mk 5 (some 2) none false (.mv (.tmp 7))]]) .ret)
theorem ok_rec_Reader_Good : compileFn Tryz.prog Tryz.f145 = some ec_rec_Reader_Good := by kernel_rfl

/-- log_sectors -/
def ec_log_sectors : EC := .seq (.reg [[EG.mk 0 (some 2) none false (.mv (.const (.int .i64 0)))]]) (.seq (.reg [[EG.mk 0 (some 3) none false (.mv (.tmp 0)), EG.mk 1 (some 4) none false (.bin .add (.const (.int .i64 16)) (.tmp 3)), EG.mk 2 (some 5) none false (.bin .add (.tmp 4) (.const (.int .i64 63))), EG.mk 3 (some 6) none false (.bin .sub (.tmp 5) (.const (.int .i64 1))), EG.mk 4 (some 7) none false (.bin .quo (.tmp 6) (.const (.int .i64 63))), EG.mk 5 (some 2) none false (.mv (.tmp 7))]]) .ret)
theorem ok_log_sectors : compileFn Tryz.prog Tryz.f151 = some ec_log_sectors := by kernel_rfl

/-- log_half -/
def ec_log_half : EC := .seq (.reg [[EG.mk 0 (some 2) none false (.mv (.const (.int .i64 0)))]]) (.seq (.reg [[EG.mk 0 (some 3) none false (.mv (.tmp 0)), EG.mk 1 (some 4) none false (.call 132 #[.tmp 3]), EG.mk 2 (some 5) none false (.bin .sub (.tmp 4) (.const (.int .i64 2))), EG.mk 3 (some 6) none false (.bin .quo (.tmp 5) (.const (.int .i64 2))), EG.mk 4 (some 2) none false (.mv (.tmp 6))]]) .ret)
theorem ok_log_half : compileFn Tryz.prog Tryz.f152 = some ec_log_half := by kernel_rfl

/-- log_Log_keep -/
def ec_log_Log_keep : EC := .seq (.reg [[EG.mk 0 (some 4) none false (.mv (.const (.int .i64 0)))]]) (.seq (.seq (.reg [[EG.mk 0 (some 8) none false (.mv (.tmp 1)), EG.mk 1 (some 9) none false (.len (.tmp 8)), EG.mk 2 (some 10) none false (.bin .gtr (.tmp 9) (.const (.int .i64 1)))]]) (.cond (.tmp 10) (.seq (.seq (.reg [[EG.mk 0 (some 11) none true (.mv (.tmp 0)), EG.mk 1 (some 12) none true (.mv (.tmp 0)), EG.mk 2 (some 13) none true (.nilc (.tmp 12)), EG.mk 3 (some 14) none true (.off (.tmp 13) 4), EG.mk 6 (some 17) none true (.mv (.tmp 1)), EG.mk 7 (some 18) none true (.slS (.tmp 17) 64 (some (.const (.int .i64 1))) none none), EG.mk 4 (some 15) none false (.ld1 (.tmp 14))], [EG.mk 5 (some 16) none true (.bin .add (.tmp 15) (.const (.int .i64 1))), EG.mk 8 (some 19) none false (.call 192 #[.tmp 11, .tmp 16, .tmp 18])], [EG.mk 9 (some 5) none true (.mv (.tmp 19))]]) (.seq (.reg [[EG.mk 0 (some 20) none false (.mv (.tmp 5)), EG.mk 1 (some 21) none false (.bin .neq (.tmp 20) (.const (.int .i64 0)))]]) (.cond (.tmp 21) (.seq (.reg [[EG.mk 0 (some 22) none false (.mv (.tmp 5)), EG.mk 1 (some 4) none false (.mv (.tmp 22))]]) .ret) .skip))) (.seq (.reg [[EG.mk 0 (some 23) none false (.mv (.tmp 0)), EG.mk 1 (some 24) none false (.nilc (.tmp 23)), EG.mk 2 (some 25) none false (.off (.tmp 24) 0), EG.mk 3 (some 26) none false (.ld1 (.tmp 25)), EG.mk 4 (some 27) none false (.call 193 #[.tmp 26]), EG.mk 5 (some 6) none false (.mv (.tmp 27))]]) (.seq (.reg [[EG.mk 0 (some 28) none false (.mv (.tmp 6)), EG.mk 1 (some 29) none false (.bin .neq (.tmp 28) (.const (.int .i64 0)))]]) (.cond (.tmp 29) (.seq (.reg [[EG.mk 0 (some 30) none false (.mv (.tmp 6)), EG.mk 1 (some 4) none false (.mv (.tmp 30))]]) .ret) .skip)))) .skip)) (.seq (.seq (.reg [[EG.mk 0 (some 31) none true (.mv (.tmp 0)), EG.mk 1 (some 32) none true (.mv (.tmp 0)), EG.mk 2 (some 33) none true (.nilc (.tmp 32)), EG.mk 3 (some 34) none true (.off (.tmp 33) 4), EG.mk 5 (some 36) none true (.mv (.tmp 1)), EG.mk 6 (some 37) none true (.slS (.tmp 36) 64 none (some (.const (.int .i64 1))) none), EG.mk 4 (some 35) none false (.ld1 (.tmp 34))], [EG.mk 7 (some 38) none false (.call 192 #[.tmp 31, .tmp 35, .tmp 37])], [EG.mk 8 (some 7) none true (.mv (.tmp 38))]]) (.seq (.reg [[EG.mk 0 (some 39) none false (.mv (.tmp 7)), EG.mk 1 (some 40) none false (.bin .neq (.tmp 39) (.const (.int .i64 0)))]]) (.cond (.tmp 40) (.seq (.reg [[EG.mk 0 (some 41) none false (.mv (.tmp 7)), EG.mk 1 (some 4) none false (.mv (.tmp 41))]]) .ret) .skip))) (.seq (.reg [[EG.mk 0 (some 42) none false (.mv (.tmp 0)), EG.mk 1 (some 43) none false (.nilc (.tmp 42)), EG.mk 2 (some 44) none false (.off (.tmp 43) 0), EG.mk 3 (some 45) none false (.ld1 (.tmp 44)), EG.mk 4 (some 46) none false (.call 193 #[.tmp 45]), EG.mk 5 (some 4) none false (.mv (.tmp 46))]]) .ret)))
theorem ok_log_Log_keep : compileFn Tryz.prog Tryz.f153 = some ec_log_Log_keep := by kernel_rfl

/-- log_Log_cut -/
def ec_log_Log_cut_L0 : EC := .seq (.reg [[EG.mk 0 (some 46) none false (.bin .lss (.tmp 45) (.tmp 44))]]) (.seq (.cond (.tmp 46) .skip (.exit 0)) (.seq (.block 1 (.seq (.reg [[EG.mk 0 (some 47) none false (.mv (.tmp 45)), EG.mk 1 (some 10) none false (.mv (.tmp 47))]]) (.seq (.reg [[EG.mk 0 (some 48) none false (.mv (.tmp 9)), EG.mk 1 (some 49) none false (.mv (.tmp 10)), EG.mk 2 (some 50) none false (.ixS (.tmp 48) (.tmp 49) 64), EG.mk 3 (some 51) none false (.ixA (.tmp 50) (.const (.int .i64 0)) 64 1), EG.mk 4 none none false (.st (.tmp 51) (.const (.int .u8 3)) 1)]]) (.seq (.seq (.reg [[EG.mk 0 (some 52) none false (.mv (.tmp 10)), EG.mk 1 (some 53) none false (.bin .eql (.tmp 52) (.const (.int .i64 0)))]]) (.cond (.tmp 53) (.reg [[EG.mk 0 (some 54) none false (.mv (.tmp 9)), EG.mk 1 (some 55) none false (.mv (.tmp 10)), EG.mk 2 (some 56) none false (.ixS (.tmp 54) (.tmp 55) 64), EG.mk 3 (some 57) none false (.ixA (.tmp 56) (.const (.int .i64 0)) 64 1), EG.mk 4 none none false (.st (.tmp 57) (.const (.int .u8 2)) 1)]]) .skip)) (.reg [[EG.mk 0 (some 58) none false (.mv (.tmp 8)), EG.mk 1 (some 59) none false (.mv (.tmp 9)), EG.mk 2 (some 60) none false (.mv (.tmp 10)), EG.mk 3 (some 61) none false (.ixS (.tmp 59) (.tmp 60) 64), EG.mk 4 (some 62) none false (.slA (.tmp 61) 64 1 (some (.const (.int .i64 1))) none none), EG.mk 5 (some 63) none false (.mv (.tmp 8)), EG.mk 6 (some 64) none false (.cpy 1 (.tmp 62) (.tmp 63)), EG.mk 7 (some 65) none false (.slS (.tmp 58) 1 (some (.tmp 64)) none none), EG.mk 8 (some 8) none false (.mv (.tmp 65))]]))))) (.reg [[EG.mk 0 (some 66) none false (.bin .add (.tmp 45) (.const (.int .i64 1))), EG.mk 1 (some 45) none false (.mv (.tmp 66))]])))
def ec_log_Log_cut : EC := .seq (.reg [[EG.mk 0 (some 6) none false (.mv (.const (.slice none 0 0)))]]) (.seq (.reg [[EG.mk 0 (some 11) none true (.mv (.tmp 1)), EG.mk 2 (some 13) none true (.mv (.tmp 0)), EG.mk 3 (some 14) none true (.nilc (.tmp 13)), EG.mk 4 (some 15) none true (.off (.tmp 14) 1), EG.mk 9 (some 20) none true (.mv (.tmp 2)), EG.mk 5 (some 16) none true (.ld1 (.tmp 15)), EG.mk 1 (some 12) none false (.call 156 #[.tmp 11])], [EG.mk 6 (some 17) none false (.call 156 #[.tmp 16])], [EG.mk 7 (some 18) none false (.bsl 257 [.slice none 0 0, .slice none 0 0] 2 [(0, 1, .tmp 12), (1, 1, .tmp 17)])], [EG.mk 8 (some 19) none false (.call 159 #[.tmp 18])], [EG.mk 10 (some 21) none false (.bsl 22 [.slice none 0 0, .slice none 0 0] 2 [(0, 1, .tmp 19), (1, 1, .tmp 20)])], [EG.mk 11 (some 22) none false (.call 191 #[.tmp 21])], [EG.mk 12 (some 7) none true (.mv (.tmp 22))]]) (.seq (.reg [[EG.mk 0 (some 23) none true (.mv (.tmp 2)), EG.mk 1 (some 24) none true (.len (.tmp 23)), EG.mk 3 (some 26) none true (.mv (.tmp 1)), EG.mk 5 (some 28) none true (.mv (.tmp 0)), EG.mk 6 (some 29) none true (.nilc (.tmp 28)), EG.mk 7 (some 30) none true (.off (.tmp 29) 1), EG.mk 10 (some 33) none true (.mv (.tmp 7)), EG.mk 11 (some 34) none true (.cvI .i64 (.tmp 33)), EG.mk 13 (some 36) none true (.mv (.tmp 2)), EG.mk 8 (some 31) none true (.ld1 (.tmp 30)), EG.mk 2 (some 25) none false (.call 156 #[.tmp 24]), EG.mk 4 (some 27) none false (.call 156 #[.tmp 26])], [EG.mk 9 (some 32) none false (.call 156 #[.tmp 31])], [EG.mk 12 (some 35) none false (.call 156 #[.tmp 34])], [EG.mk 14 (some 37) none false (.bsl 257 [.slice none 0 0, .slice none 0 0, .slice none 0 0, .slice none 0 0, .slice none 0 0] 5 [(0, 1, .tmp 25), (1, 1, .tmp 27), (2, 1, .tmp 32), (3, 1, .tmp 35), (4, 1, .tmp 36)])], [EG.mk 15 (some 38) none false (.call 159 #[.tmp 37])], [EG.mk 16 (some 8) none true (.mv (.tmp 38))]]) (.seq (.reg [[EG.mk 0 (some 39) none false (.mv (.tmp 2)), EG.mk 1 (some 40) none false (.len (.tmp 39)), EG.mk 2 (some 41) none false (.call 151 #[.tmp 40]), EG.mk 3 (some 42) none false (.mks 235 zl64_intu80 64 (.tmp 41) (.tmp 41)), EG.mk 4 (some 9) none false (.mv (.tmp 42))]]) (.seq (.seq (.reg [[EG.mk 0 (some 43) none false (.mv (.tmp 9)), EG.mk 1 (some 44) none false (.len (.tmp 43)), EG.mk 2 (some 45) none false (.mv (.const (.int .i64 0)))]]) (.block 0 (.loop ec_log_Log_cut_L0))) (.seq (.reg [[EG.mk 0 (some 67) none false (.mv (.tmp 9)), EG.mk 1 (some 6) none false (.mv (.tmp 67))]]) .ret)))))
theorem ok_log_Log_cut : compileFn Tryz.prog Tryz.f154 = some ec_log_Log_cut := by kernel_rfl

/-- log_Log_die -/
def ec_log_Log_die : EC := .seq (.reg [[EG.mk 0 (some 4) none false (.mv (.const (.int .i64 0)))]]) (.seq (.reg [[EG.mk 0 (some 5) none false (.mv (.tmp 0)), EG.mk 1 (some 6) none false (.mv (.tmp 0)), EG.mk 2 (some 7) none false (.nilc (.tmp 6)), EG.mk 3 (some 8) none false (.off (.tmp 7) 6), EG.mk 4 (some 9) none false (.ld1 (.tmp 8)), EG.mk 5 (some 10) none false (.mv (.tmp 9)), EG.mk 6 (some 11) (some (10, false)) false (.mv (.tmp 1)), EG.mk 7 (some 12) (some (10, false)) false (.bin .neq (.tmp 11) (.const (.int .i64 0))), EG.mk 8 (some 13) none false (.pick (.tmp 10) (.const (.bool true)) (.tmp 12)), EG.mk 9 (some 14) none false (.nilc (.tmp 5)), EG.mk 10 (some 15) none false (.off (.tmp 14) 6), EG.mk 11 none none false (.st (.tmp 15) (.tmp 13) 1)]]) (.seq (.reg [[EG.mk 0 (some 16) none false (.mv (.tmp 1)), EG.mk 1 (some 4) none false (.mv (.tmp 16))]]) .ret))
theorem ok_log_Log_die : compileFn Tryz.prog Tryz.f155 = some ec_log_Log_die := by kernel_rfl

/-- rec_Num -/
def ec_rec_Num : EC := .seq (.reg [[EG.mk 0 (some 2) none false (.mv (.const (.slice none 0 0)))]]) (.seq (.reg [[EG.mk 0 (some 3) none false (.mv (.tmp 0)), EG.mk 1 (some 4) none false (.cvI .u32 (.tmp 3)), EG.mk 2 (some 5) none false (.call 201 #[.tmp 4]), EG.mk 3 (some 2) none false (.mv (.tmp 5))]]) .ret)
theorem ok_rec_Num : compileFn Tryz.prog Tryz.f156 = some ec_rec_Num := by kernel_rfl

/-- rec_Pack -/
def ec_rec_Pack_L0 : EC := .seq (.reg [[EG.mk 0 (some 9) none false (.bin .lss (.tmp 8) (.tmp 7))]]) (.seq (.cond (.tmp 9) .skip (.exit 0)) (.seq (.block 1 (.seq (.reg [[EG.mk 0 (some 10) none false (.ixS (.tmp 6) (.tmp 8) 1), EG.mk 1 (some 11) none false (.ld1 (.tmp 10)), EG.mk 2 (some 5) none false (.mv (.tmp 11))]]) (.reg [[EG.mk 0 (some 12) none false (.mv (.tmp 3)), EG.mk 1 (some 13) none false (.mv (.tmp 5)), EG.mk 2 (some 14) none false (.app 5 [.int .u8 0] 1 (.tmp 12) (.tmp 13)), EG.mk 3 (some 3) none false (.mv (.tmp 14))]]))) (.reg [[EG.mk 0 (some 15) none false (.bin .add (.tmp 8) (.const (.int .i64 1))), EG.mk 1 (some 8) none false (.mv (.tmp 15))]])))
def ec_rec_Pack : EC := .seq (.reg [[EG.mk 0 (some 2) none false (.mv (.const (.slice none 0 0)))]]) (.seq (.reg [[EG.mk 0 (some 3) none false (.mv (.const (.slice none 0 0)))]]) (.seq (.seq (.reg [[EG.mk 0 (some 6) none false (.mv (.tmp 0)), EG.mk 1 (some 7) none false (.len (.tmp 6)), EG.mk 2 (some 8) none false (.mv (.const (.int .i64 0)))]]) (.block 0 (.loop ec_rec_Pack_L0))) (.seq (.reg [[EG.mk 0 (some 16) none false (.mv (.tmp 3)), EG.mk 1 (some 2) none false (.mv (.tmp 16))]]) .ret)))
theorem ok_rec_Pack : compileFn Tryz.prog Tryz.f159 = some ec_rec_Pack := by kernel_rfl

/-- crc_Of -/
def ec_crc_Of_L0 : EC := .seq (.reg [[EG.mk 0 (some 25) none false (.bin .lss (.tmp 24) (.const (.int .i64 8)))]]) (.seq (.cond (.tmp 25) .skip (.exit 4)) (.seq (.block 5 (.seq (.reg [[EG.mk 0 (some 26) none false (.mv (.tmp 3)), EG.mk 1 (some 27) none false (.bin .and (.tmp 26) (.const (.int .u32 1))), EG.mk 2 (some 28) none false (.bin .eql (.tmp 27) (.const (.int .u32 1)))]]) (.cond (.tmp 28) (.reg [[EG.mk 0 (some 29) none false (.mv (.tmp 3)), EG.mk 1 (some 30) none false (.bin .shr (.tmp 29) (.const (.int .u64 1))), EG.mk 2 (some 31) none false (.bin .xor (.tmp 30) (.const (.int .u32 3988292384))), EG.mk 3 (some 3) none false (.mv (.tmp 31))]]) (.reg [[EG.mk 0 (some 32) none false (.mv (.tmp 3)), EG.mk 1 (some 33) none false (.bin .shr (.tmp 32) (.const (.int .u64 1))), EG.mk 2 (some 3) none false (.mv (.tmp 33))]])))) (.reg [[EG.mk 0 (some 34) none false (.bin .add (.tmp 24) (.const (.int .i64 1))), EG.mk 1 (some 24) none false (.mv (.tmp 34))]])))
def ec_crc_Of_L1 : EC := .seq (.reg [[EG.mk 0 (some 17) none false (.bin .lss (.tmp 16) (.tmp 15))]]) (.seq (.cond (.tmp 17) .skip (.exit 2)) (.seq (.block 3 (.seq (.reg [[EG.mk 0 (some 18) none false (.ixS (.tmp 14) (.tmp 16) 1), EG.mk 1 (some 19) none false (.ld1 (.tmp 18)), EG.mk 2 (some 7) none false (.mv (.tmp 19))]]) (.seq (.reg [[EG.mk 0 (some 20) none false (.mv (.tmp 3)), EG.mk 1 (some 21) none false (.mv (.tmp 7)), EG.mk 2 (some 22) none false (.cvI .u32 (.tmp 21)), EG.mk 3 (some 23) none false (.bin .xor (.tmp 20) (.tmp 22)), EG.mk 4 (some 3) none false (.mv (.tmp 23))]]) (.seq (.reg [[EG.mk 0 (some 24) none false (.mv (.const (.int .i64 0)))]]) (.block 4 (.loop ec_crc_Of_L0)))))) (.reg [[EG.mk 0 (some 35) none false (.bin .add (.tmp 16) (.const (.int .i64 1))), EG.mk 1 (some 16) none false (.mv (.tmp 35))]])))
def ec_crc_Of_L2 : EC := .seq (.reg [[EG.mk 0 (some 11) none false (.bin .lss (.tmp 10) (.tmp 9))]]) (.seq (.cond (.tmp 11) .skip (.exit 0)) (.seq (.block 1 (.seq (.reg [[EG.mk 0 (some 12) none false (.ixS (.tmp 8) (.tmp 10) 1), EG.mk 1 (some 13) none false (.ld1 (.tmp 12)), EG.mk 2 (some 5) none false (.mv (.tmp 13))]]) (.seq (.reg [[EG.mk 0 (some 14) none false (.mv (.tmp 5)), EG.mk 1 (some 15) none false (.len (.tmp 14)), EG.mk 2 (some 16) none false (.mv (.const (.int .i64 0)))]]) (.block 2 (.loop ec_crc_Of_L1))))) (.reg [[EG.mk 0 (some 36) none false (.bin .add (.tmp 10) (.const (.int .i64 1))), EG.mk 1 (some 10) none false (.mv (.tmp 36))]])))
def ec_crc_Of : EC := .seq (.reg [[EG.mk 0 (some 2) none false (.mv (.const (.int .u32 0)))]]) (.seq (.reg [[EG.mk 0 (some 3) none false (.mv (.const (.int .u32 4294967295)))]]) (.seq (.seq (.reg [[EG.mk 0 (some 8) none false (.mv (.tmp 0)), EG.mk 1 (some 9) none false (.len (.tmp 8)), EG.mk 2 (some 10) none false (.mv (.const (.int .i64 0)))]]) (.block 0 (.loop ec_crc_Of_L2))) (.seq (.reg [[EG.mk 0 (some 37) none false (.mv (.tmp 3)), EG.mk 1 (some 38) none false (.un .xor (.tmp 37)), EG.mk 2 (some 2) none false (.mv (.tmp 38))]]) .ret)))
theorem ok_crc_Of : compileFn Tryz.prog Tryz.f191 = some ec_crc_Of := by kernel_rfl

/-- log_Log_put -/
def ec_log_Log_put_L0 : EC := .seq (.reg [[EG.mk 0 (some 13) none false (.bin .lss (.tmp 12) (.tmp 11))]]) (.seq (.cond (.tmp 13) .skip (.exit 0)) (.seq (.block 1 (.seq (.reg [[EG.mk 0 (some 14) none false (.mv (.tmp 12)), EG.mk 1 (some 15) none false (.ixS (.tmp 10) (.tmp 12) 64), EG.mk 2 (some 16) none false (.ldn (.tmp 15) 64), EG.mk 3 (some 8) none false (.alloc zl64_intu80 235), EG.mk 4 (some 7) none false (.mv (.tmp 14)), EG.mk 5 none none false (.st (.tmp 8) (.tmp 16) 64)]]) (.seq (.reg [[EG.mk 0 (some 17) none true (.mv (.tmp 0)), EG.mk 1 (some 18) none true (.nilc (.tmp 17)), EG.mk 2 (some 19) none true (.off (.tmp 18) 0), EG.mk 4 (some 21) none true (.mv (.tmp 0)), EG.mk 5 (some 22) none true (.nilc (.tmp 21)), EG.mk 6 (some 23) none true (.off (.tmp 22) 3), EG.mk 8 (some 25) none true (.mv (.tmp 0)), EG.mk 9 (some 26) none true (.nilc (.tmp 25)), EG.mk 10 (some 27) none true (.off (.tmp 26) 0), EG.mk 15 (some 32) none true (.mv (.tmp 1)), EG.mk 17 (some 34) none true (.mv (.tmp 7)), EG.mk 3 (some 20) none true (.ld1 (.tmp 19)), EG.mk 7 (some 24) none true (.ld1 (.tmp 23)), EG.mk 11 (some 28) none true (.ld1 (.tmp 27)), EG.mk 19 (some 36) none true (.ldn (.tmp 8) 64), EG.mk 12 (some 29) none false (.call 152 #[.tmp 28]), EG.mk 13 (some 30) none true (.bin .mul (.tmp 24) (.tmp 29)), EG.mk 14 (some 31) none true (.bin .add (.const (.int .i64 2)) (.tmp 30)), EG.mk 16 (some 33) none true (.bin .add (.tmp 31) (.tmp 32)), EG.mk 18 (some 35) none true (.bin .add (.tmp 33) (.tmp 34))], [EG.mk 20 (some 37) none false (.call 194 #[.tmp 20, .tmp 35, .tmp 36])], [EG.mk 21 (some 9) none true (.mv (.tmp 37))]]) (.seq (.reg [[EG.mk 0 (some 38) none false (.mv (.tmp 9)), EG.mk 1 (some 39) none false (.bin .neq (.tmp 38) (.const (.int .i64 0)))]]) (.cond (.tmp 39) (.seq (.reg [[EG.mk 0 (some 40) none false (.mv (.tmp 9)), EG.mk 1 (some 6) none false (.mv (.tmp 40))]]) .ret) .skip))))) (.reg [[EG.mk 0 (some 41) none false (.bin .add (.tmp 12) (.const (.int .i64 1))), EG.mk 1 (some 12) none false (.mv (.tmp 41))]])))
def ec_log_Log_put : EC := .seq (.reg [[EG.mk 0 (some 6) none false (.mv (.const (.int .i64 0)))]]) (.seq (.seq (.reg [[EG.mk 0 (some 10) none false (.mv (.tmp 2)), EG.mk 1 (some 11) none false (.len (.tmp 10)), EG.mk 2 (some 12) none false (.mv (.const (.int .i64 0)))]]) (.block 0 (.loop ec_log_Log_put_L0))) (.seq (.reg [[EG.mk 0 (some 6) none false (.mv (.const (.int .i64 0)))]]) .ret))
theorem ok_log_Log_put : compileFn Tryz.prog Tryz.f192 = some ec_log_Log_put := by kernel_rfl

/-- disk_Disk_Flush -/
def ec_disk_Disk_Flush_L0 : EC := .seq (.reg [[EG.mk 0 (some 18) none false (.bin .lss (.tmp 17) (.tmp 16))]]) (.seq (.cond (.tmp 18) .skip (.exit 0)) (.seq (.block 1 (.seq (.reg [[EG.mk 0 (some 19) none false (.ixS (.tmp 15) (.tmp 17) 65), EG.mk 1 (some 20) none false (.ldn (.tmp 19) 65), EG.mk 2 (some 4) none false (.alloc zl65_4 290), EG.mk 3 none none false (.st (.tmp 4) (.tmp 20) 65)]]) (.reg [[EG.mk 0 (some 21) none true (.mv (.tmp 0)), EG.mk 1 (some 22) none true (.nilc (.tmp 21)), EG.mk 2 (some 23) none true (.off (.tmp 22) 0), EG.mk 4 (some 25) none true (.off (.tmp 4) 0), EG.mk 6 (some 27) none true (.off (.tmp 4) 1), EG.mk 3 (some 24) none true (.ld1 (.tmp 23)), EG.mk 5 (some 26) none true (.ld1 (.tmp 25)), EG.mk 7 (some 28) none true (.ldn (.tmp 27) 64)], [EG.mk 8 (some 29) none true (.ixS (.tmp 24) (.tmp 26) 64), EG.mk 9 none none false (.st (.tmp 29) (.tmp 28) 64)]]))) (.reg [[EG.mk 0 (some 30) none false (.bin .add (.tmp 17) (.const (.int .i64 1))), EG.mk 1 (some 17) none false (.mv (.tmp 30))]])))
def ec_disk_Disk_Flush : EC := .seq (.reg [[EG.mk 0 (some 2) none false (.mv (.const (.int .i64 0)))]]) (.seq (.seq (.reg [[EG.mk 0 (some 5) none false (.mv (.tmp 0)), EG.mk 1 (some 6) none false (.nilc (.tmp 5)), EG.mk 2 (some 7) none false (.off (.tmp 6) 2), EG.mk 3 (some 8) none false (.ld1 (.tmp 7))]]) (.cond (.tmp 8) (.seq (.reg [[EG.mk 0 (some 2) none false (.mv (.const (.int .i64 3)))]]) .ret) .skip)) (.seq (.seq (.reg [[EG.mk 0 (some 9) none false (.mv (.tmp 0)), EG.mk 1 (some 10) none false (.call 226 #[.tmp 9]), EG.mk 2 (some 11) none false (.un .not (.tmp 10))]]) (.cond (.tmp 11) (.seq (.reg [[EG.mk 0 (some 2) none false (.mv (.const (.int .i64 3)))]]) .ret) .skip)) (.seq (.seq (.reg [[EG.mk 0 (some 12) none false (.mv (.tmp 0)), EG.mk 1 (some 13) none false (.nilc (.tmp 12)), EG.mk 2 (some 14) none false (.off (.tmp 13) 1), EG.mk 3 (some 15) none false (.ld1 (.tmp 14)), EG.mk 4 (some 16) none false (.len (.tmp 15)), EG.mk 5 (some 17) none false (.mv (.const (.int .i64 0)))]]) (.block 0 (.loop ec_disk_Disk_Flush_L0))) (.seq (.reg [[EG.mk 0 (some 31) none false (.mv (.tmp 0)), EG.mk 1 (some 32) none false (.nilc (.tmp 31)), EG.mk 2 (some 33) none false (.off (.tmp 32) 1), EG.mk 3 none none false (.st (.tmp 33) (.const (.slice none 0 0)) 1)]]) (.seq (.reg [[EG.mk 0 (some 2) none false (.mv (.const (.int .i64 0)))]]) .ret)))))
theorem ok_disk_Disk_Flush : compileFn Tryz.prog Tryz.f193 = some ec_disk_Disk_Flush := by kernel_rfl

/-- disk_Disk_Write -/
def ec_disk_Disk_Write : EC := .seq (.reg [[EG.mk 0 (some 5) none false (.box (.tmp 2) 235), EG.mk 1 (some 6) none false (.mv (.const (.int .i64 0)))]]) (.seq (.block 0 (.seq (.reg [[EG.mk 0 (some 8) none false (.mv (.tmp 0)), EG.mk 1 (some 9) none false (.nilc (.tmp 8)), EG.mk 2 (some 10) none false (.off (.tmp 9) 2), EG.mk 3 (some 11) none false (.ld1 (.tmp 10)), EG.mk 4 (some 7) none false (.mv (.tmp 11))]]) (.cond (.tmp 7) (.seq (.reg [[EG.mk 0 (some 6) none false (.mv (.const (.int .i64 3)))]]) .ret) (.seq (.reg [[EG.mk 0 (some 13) none false (.mv (.tmp 1)), EG.mk 1 (some 14) none false (.bin .lss (.tmp 13) (.const (.int .i64 0))), EG.mk 2 (some 15) none false (.mv (.tmp 14)), EG.mk 3 (some 16) (some (15, false)) false (.mv (.tmp 1)), EG.mk 4 (some 17) (some (15, false)) false (.mv (.tmp 0)), EG.mk 5 (some 18) (some (15, false)) false (.nilc (.tmp 17)), EG.mk 6 (some 19) (some (15, false)) false (.off (.tmp 18) 0), EG.mk 7 (some 20) (some (15, false)) false (.ld1 (.tmp 19)), EG.mk 8 (some 21) (some (15, false)) false (.len (.tmp 20)), EG.mk 9 (some 22) (some (15, false)) false (.bin .geq (.tmp 16) (.tmp 21)), EG.mk 10 (some 23) none false (.pick (.tmp 15) (.const (.bool true)) (.tmp 22)), EG.mk 11 (some 12) none false (.mv (.tmp 23))]]) (.cond (.tmp 12) (.seq (.reg [[EG.mk 0 (some 6) none false (.mv (.const (.int .i64 2)))]]) .ret) .skip))))) (.seq (.reg [[EG.mk 0 (some 24) none true (.mv (.tmp 0)), EG.mk 1 (some 25) none true (.mv (.tmp 0)), EG.mk 2 (some 26) none true (.nilc (.tmp 25)), EG.mk 3 (some 27) none true (.off (.tmp 26) 1), EG.mk 5 (some 29) none true (.mv (.tmp 1)), EG.mk 4 (some 28) none true (.ld1 (.tmp 27)), EG.mk 6 (some 30) none true (.ldn (.tmp 5) 64), EG.mk 7 (some 31) none true (.build zl65_4 [(0, 1, .tmp 29), (1, 64, .tmp 30)]), EG.mk 8 (some 32) none false (.bsl 290 zl65_4 1 [(0, 65, .tmp 31)])], [EG.mk 9 (some 33) none false (.app 290 zl65_4 72 (.tmp 28) (.tmp 32))], [EG.mk 10 (some 34) none true (.nilc (.tmp 24)), EG.mk 11 (some 35) none true (.off (.tmp 34) 1), EG.mk 12 none none false (.st (.tmp 35) (.tmp 33) 1)]]) (.seq (.seq (.reg [[EG.mk 0 (some 36) none false (.mv (.tmp 0)), EG.mk 1 (some 37) none false (.call 226 #[.tmp 36]), EG.mk 2 (some 38) none false (.un .not (.tmp 37))]]) (.cond (.tmp 38) (.seq (.reg [[EG.mk 0 (some 6) none false (.mv (.const (.int .i64 3)))]]) .ret) .skip)) (.seq (.reg [[EG.mk 0 (some 6) none false (.mv (.const (.int .i64 0)))]]) .ret))))
theorem ok_disk_Disk_Write : compileFn Tryz.prog Tryz.f194 = some ec_disk_Disk_Write := by kernel_rfl

/-- log_Log_read -/
def ec_log_Log_read : EC := .seq (.reg [[EG.mk 0 (some 4) none false (.alloc zl64_intu80 235), EG.mk 1 (some 5) none false (.mv (.const (.int .i64 0)))]]) (.seq (.reg [[EG.mk 0 (some 6) none true (.mv (.tmp 0)), EG.mk 1 (some 7) none true (.nilc (.tmp 6)), EG.mk 2 (some 8) none true (.off (.tmp 7) 0), EG.mk 4 (some 10) none true (.mv (.tmp 0)), EG.mk 5 (some 11) none true (.nilc (.tmp 10)), EG.mk 6 (some 12) none true (.off (.tmp 11) 3), EG.mk 8 (some 14) none true (.mv (.tmp 0)), EG.mk 9 (some 15) none true (.nilc (.tmp 14)), EG.mk 10 (some 16) none true (.off (.tmp 15) 0), EG.mk 15 (some 21) none true (.mv (.tmp 1)), EG.mk 3 (some 9) none true (.ld1 (.tmp 8)), EG.mk 7 (some 13) none true (.ld1 (.tmp 12)), EG.mk 11 (some 17) none true (.ld1 (.tmp 16)), EG.mk 12 (some 18) none false (.call 152 #[.tmp 17]), EG.mk 13 (some 19) none true (.bin .mul (.tmp 13) (.tmp 18)), EG.mk 14 (some 20) none true (.bin .add (.const (.int .i64 2)) (.tmp 19)), EG.mk 16 (some 22) none true (.bin .add (.tmp 20) (.tmp 21))], [EG.mk 17 (some 23) none false (.call 133 #[.tmp 9, .tmp 22])], [EG.mk 18 (some 24) none true (.ext (.tmp 23) 0), EG.mk 19 (some 25) none true (.ext (.tmp 23) 1), EG.mk 20 none none false (.st (.tmp 4) (.tmp 24) 64)], [EG.mk 21 (some 5) none true (.mv (.tmp 25))]]) .ret)
theorem ok_log_Log_read : compileFn Tryz.prog Tryz.f195 = some ec_log_Log_read := by kernel_rfl

/-- rec_number -/
def ec_rec_number : EC := .seq (.reg [[EG.mk 0 (some 2) none false (.mv (.const (.slice none 0 0)))]]) (.seq (.reg [[EG.mk 0 (some 3) none false (.mv (.tmp 0)), EG.mk 1 (some 4) none false (.cvI .u8 (.tmp 3)), EG.mk 2 (some 5) none false (.mv (.tmp 0)), EG.mk 3 (some 6) none false (.bin .shr (.tmp 5) (.const (.int .u64 8))), EG.mk 4 (some 7) none false (.cvI .u8 (.tmp 6)), EG.mk 5 (some 8) none false (.mv (.tmp 0)), EG.mk 6 (some 9) none false (.bin .shr (.tmp 8) (.const (.int .u64 16))), EG.mk 7 (some 10) none false (.cvI .u8 (.tmp 9)), EG.mk 8 (some 11) none false (.mv (.tmp 0)), EG.mk 9 (some 12) none false (.bin .shr (.tmp 11) (.const (.int .u64 24))), EG.mk 10 (some 13) none false (.cvI .u8 (.tmp 12)), EG.mk 11 (some 14) none false (.bsl 5 [.int .u8 0, .int .u8 0, .int .u8 0, .int .u8 0] 4 [(0, 1, .tmp 4), (1, 1, .tmp 7), (2, 1, .tmp 10), (3, 1, .tmp 13)]), EG.mk 12 (some 2) none false (.mv (.tmp 14))]]) .ret)
theorem ok_rec_number : compileFn Tryz.prog Tryz.f201 = some ec_rec_number := by kernel_rfl

/-- disk_Disk_step -/
def ec_disk_Disk_step : EC := .seq (.reg [[EG.mk 0 (some 2) none false (.mv (.const (.bool false)))]]) (.seq (.reg [[EG.mk 0 (some 3) none false (.mv (.tmp 0)), EG.mk 1 (some 4) none false (.nilc (.tmp 3)), EG.mk 2 (some 5) none false (.off (.tmp 4) 5), EG.mk 3 (some 6) none false (.ld1 (.tmp 5)), EG.mk 4 (some 7) none false (.bin .add (.tmp 6) (.const (.int .i64 1))), EG.mk 5 (some 8) none false (.nilc (.tmp 3)), EG.mk 6 (some 9) none false (.off (.tmp 8) 5), EG.mk 7 none none false (.st (.tmp 9) (.tmp 7) 1)]]) (.seq (.seq (.reg [[EG.mk 0 (some 10) none false (.mv (.tmp 0)), EG.mk 1 (some 11) none false (.nilc (.tmp 10)), EG.mk 2 (some 12) none false (.off (.tmp 11) 3), EG.mk 3 (some 13) none false (.ld1 (.tmp 12)), EG.mk 4 (some 14) none false (.bin .gtr (.tmp 13) (.const (.int .i64 0)))]]) (.cond (.tmp 14) (.seq (.reg [[EG.mk 0 (some 15) none false (.mv (.tmp 0)), EG.mk 1 (some 16) none false (.nilc (.tmp 15)), EG.mk 2 (some 17) none false (.off (.tmp 16) 3), EG.mk 3 (some 18) none false (.ld1 (.tmp 17)), EG.mk 4 (some 19) none false (.bin .sub (.tmp 18) (.const (.int .i64 1))), EG.mk 5 (some 20) none false (.nilc (.tmp 15)), EG.mk 6 (some 21) none false (.off (.tmp 20) 3), EG.mk 7 none none false (.st (.tmp 21) (.tmp 19) 1)]]) (.seq (.reg [[EG.mk 0 (some 22) none false (.mv (.tmp 0)), EG.mk 1 (some 23) none false (.nilc (.tmp 22)), EG.mk 2 (some 24) none false (.off (.tmp 23) 3), EG.mk 3 (some 25) none false (.ld1 (.tmp 24)), EG.mk 4 (some 26) none false (.bin .eql (.tmp 25) (.const (.int .i64 0)))]]) (.cond (.tmp 26) (.seq (.reg [[EG.mk 0 (some 27) none false (.mv (.tmp 0)), EG.mk 1 (some 28) none false (.mv (.tmp 0)), EG.mk 2 (some 29) none false (.nilc (.tmp 28)), EG.mk 3 (some 30) none false (.off (.tmp 29) 4), EG.mk 4 (some 31) none false (.ld1 (.tmp 30)), EG.mk 5 (some 32) none false (.call 249 #[.tmp 27, .tmp 31])]]) (.seq (.reg [[EG.mk 0 (some 2) none false (.mv (.const (.bool false)))]]) .ret)) .skip))) .skip)) (.seq (.reg [[EG.mk 0 (some 2) none false (.mv (.const (.bool true)))]]) .ret)))
theorem ok_disk_Disk_step : compileFn Tryz.prog Tryz.f226 = some ec_disk_Disk_step := by kernel_rfl

/-- disk_Disk_Crash -/
def ec_disk_Disk_Crash_L0 : EC := .seq (.reg [[EG.mk 0 (some 12) none false (.bin .lss (.tmp 11) (.tmp 10))]]) (.seq (.cond (.tmp 12) .skip (.exit 0)) (.seq (.block 1 (.seq (.reg [[EG.mk 0 (some 13) none false (.mv (.tmp 11)), EG.mk 1 (some 14) none false (.ixS (.tmp 9) (.tmp 11) 65), EG.mk 2 (some 15) none false (.ldn (.tmp 14) 65), EG.mk 3 (some 5) none false (.alloc zl65_4 290), EG.mk 4 (some 4) none false (.mv (.tmp 13)), EG.mk 5 none none false (.st (.tmp 5) (.tmp 15) 65)]]) (.seq (.reg [[EG.mk 0 (some 16) none false (.mv (.tmp 1)), EG.mk 1 (some 17) none false (.mv (.tmp 4)), EG.mk 2 (some 18) none false (.bin .rem (.tmp 17) (.const (.int .i64 64))), EG.mk 3 (some 19) none false (.bin .shr (.tmp 16) (.tmp 18)), EG.mk 4 (some 20) none false (.bin .and (.tmp 19) (.const (.int .u64 1))), EG.mk 5 (some 21) none false (.bin .eql (.tmp 20) (.const (.int .u64 1)))]]) (.cond (.tmp 21) (.reg [[EG.mk 0 (some 22) none true (.mv (.tmp 0)), EG.mk 1 (some 23) none true (.nilc (.tmp 22)), EG.mk 2 (some 24) none true (.off (.tmp 23) 0), EG.mk 4 (some 26) none true (.off (.tmp 5) 0), EG.mk 6 (some 28) none true (.off (.tmp 5) 1), EG.mk 3 (some 25) none true (.ld1 (.tmp 24)), EG.mk 5 (some 27) none true (.ld1 (.tmp 26)), EG.mk 7 (some 29) none true (.ldn (.tmp 28) 64)], [EG.mk 8 (some 30) none true (.ixS (.tmp 25) (.tmp 27) 64), EG.mk 9 none none false (.st (.tmp 30) (.tmp 29) 64)]]) .skip)))) (.reg [[EG.mk 0 (some 31) none false (.bin .add (.tmp 11) (.const (.int .i64 1))), EG.mk 1 (some 11) none false (.mv (.tmp 31))]])))
def ec_disk_Disk_Crash : EC := .seq (.seq (.reg [[EG.mk 0 (some 6) none false (.mv (.tmp 0)), EG.mk 1 (some 7) none false (.nilc (.tmp 6)), EG.mk 2 (some 8) none false (.off (.tmp 7) 1), EG.mk 3 (some 9) none false (.ld1 (.tmp 8)), EG.mk 4 (some 10) none false (.len (.tmp 9)), EG.mk 5 (some 11) none false (.mv (.const (.int .i64 0)))]]) (.block 0 (.loop ec_disk_Disk_Crash_L0))) (.reg [[EG.mk 0 (some 32) none false (.mv (.tmp 0)), EG.mk 1 (some 33) none false (.mv (.tmp 0)), EG.mk 2 (some 34) none false (.mv (.tmp 0)), EG.mk 3 (some 35) none false (.nilc (.tmp 32)), EG.mk 4 (some 36) none false (.off (.tmp 35) 1), EG.mk 5 none none false (.st (.tmp 36) (.const (.slice none 0 0)) 1), EG.mk 6 (some 37) none false (.nilc (.tmp 33)), EG.mk 7 (some 38) none false (.off (.tmp 37) 2), EG.mk 8 none none false (.st (.tmp 38) (.const (.bool true)) 1), EG.mk 9 (some 39) none false (.nilc (.tmp 34)), EG.mk 10 (some 40) none false (.off (.tmp 39) 3), EG.mk 11 none none false (.st (.tmp 40) (.const (.int .i64 (-1))) 1)]])
theorem ok_disk_Disk_Crash : compileFn Tryz.prog Tryz.f249 = some ec_disk_Disk_Crash := by kernel_rfl
end Eng
end Go.Proofs.YtnfomoeicgdkkaaGreatDoor

/- A disk, plainly: sectors that are kept, and writes that perhaps are. -/
set_option linter.unusedSimpArgs false
set_option linter.unusedVariables false
namespace Go.Proofs.YtnfomoeicgdkkaaGreatDoor

abbrev Bytes := List UInt8

structure DiskS where
  kept : List Bytes
  cache : List (Nat × Bytes)
  down : Bool
  fate : Int
  keeps : Nat
  steps : Int

namespace DiskS

def new (n : Int) : DiskS := ⟨List.replicate (max 1 (min n 4096)).toNat (List.replicate 64 0), [], false, -1, 0, 0⟩

/-- of the writes from the i-th on those are kept whose bit is set -/
def keepSome (keeps : Nat) : Nat → List (Nat × Bytes) → List Bytes → List Bytes
  | _, [], k => k
  | i, (a, s) :: r, k => keepSome keeps (i + 1) r (if keeps.testBit (i % 64) then k.set a s else k)

def keepAll : List (Nat × Bytes) → List Bytes → List Bytes
  | [], k => k
  | (a, s) :: r, k => keepAll r (k.set a s)

def crash (D : DiskS) (keeps : Nat) : DiskS := { D with kept := keepSome keeps 0 D.cache D.kept, cache := [], down := true, fate := -1 }

def wrap (n : Int) : Int := IntKind.i64.wrap n

def step (D : DiskS) : Bool × DiskS :=
  if 0 < D.fate then
    if D.fate - 1 = 0 then (false, { D with steps := wrap (D.steps + 1), fate := D.fate - 1 }.crash D.keeps)
    else (true, { D with steps := wrap (D.steps + 1), fate := D.fate - 1 })
  else (true, { D with steps := wrap (D.steps + 1) })

def write (D : DiskS) (at_ : Int) (s : Bytes) : Int × DiskS :=
  if D.down then (3, D) else if at_ < 0 ∨ D.kept.length ≤ at_ then (2, D) else
    let r := { D with cache := D.cache ++ [(at_.toNat, s)] }.step
    (if r.1 then 0 else 3, r.2)

def flush (D : DiskS) : Int × DiskS :=
  if D.down then (3, D) else
    let r := D.step
    if r.1 then (0, { r.2 with kept := keepAll r.2.cache r.2.kept, cache := [] }) else (3, r.2)

/-- what was written last at a place -/
def lastOf (a : Nat) : List (Nat × Bytes) → Option Bytes
  | [] => none
  | (b, s) :: r => match lastOf a r with
    | some x => some x
    | none => if b = a then some s else none

def read (D : DiskS) (at_ : Int) : Bytes × Int :=
  if D.down then (List.replicate 64 0, 3) else if at_ < 0 ∨ D.kept.length ≤ at_ then (List.replicate 64 0, 2) else
    ((lastOf at_.toNat D.cache).getD (D.kept.getD at_.toNat []), 0)

def plan (D : DiskS) (n : Int) (keeps : Nat) : DiskS := { D with fate := n, keeps := keeps }

/-- sectors have their size, and writes their places -/
structure Ok (D : DiskS) : Prop where
  kept : ∀ s ∈ D.kept, s.length = 64
  cache : ∀ e ∈ D.cache, e.1 < D.kept.length ∧ e.2.length = 64
  size : 1 ≤ D.kept.length ∧ D.kept.length ≤ 4096
  keeps : D.keeps < 2 ^ 64
  few : D.cache.length ≤ 1099511627776
  fate : -9223372036854775808 ≤ D.fate ∧ D.fate < 9223372036854775808

theorem keepSome_len (keeps : Nat) : ∀ (r : List (Nat × Bytes)) (i : Nat) (k : List Bytes), (keepSome keeps i r k).length = k.length := by
  intro r
  induction r with
  | nil => intro i k; rfl
  | cons e r ih => intro i k; obtain ⟨a, s⟩ := e; simp only [keepSome]; rw [ih]; split <;> simp

theorem keepAll_len : ∀ (r : List (Nat × Bytes)) (k : List Bytes), (keepAll r k).length = k.length := by
  intro r
  induction r with
  | nil => intro k; rfl
  | cons e r ih => intro k; obtain ⟨a, s⟩ := e; simp only [keepAll]; rw [ih]; simp

theorem set_all {k : List Bytes} (hk : ∀ s ∈ k, s.length = 64) {a : Nat} {s : Bytes} (hs : s.length = 64) : ∀ x ∈ k.set a s, x.length = 64 := by
  intro x hx
  rcases List.mem_or_eq_of_mem_set hx with h | h
  · exact hk x h
  · rw [h]; exact hs

theorem keepSome_all (keeps : Nat) : ∀ (r : List (Nat × Bytes)) (i : Nat) (k : List Bytes), (∀ e ∈ r, e.2.length = 64) → (∀ s ∈ k, s.length = 64) → ∀ s ∈ keepSome keeps i r k, s.length = 64 := by
  intro r
  induction r with
  | nil => intro i k _ hk; exact hk
  | cons e r ih =>
    intro i k hr hk
    obtain ⟨a, s⟩ := e
    simp only [keepSome]
    refine ih _ _ (fun e he => hr e (.tail _ he)) ?_
    split
    · exact set_all hk (hr _ (.head _))
    · exact hk

theorem keepAll_all : ∀ (r : List (Nat × Bytes)) (k : List Bytes), (∀ e ∈ r, e.2.length = 64) → (∀ s ∈ k, s.length = 64) → ∀ s ∈ keepAll r k, s.length = 64 := by
  intro r
  induction r with
  | nil => intro k _ hk; exact hk
  | cons e r ih =>
    intro k hr hk
    obtain ⟨a, s⟩ := e
    simp only [keepAll]
    exact ih _ (fun e he => hr e (.tail _ he)) (set_all hk (hr _ (.head _)))

theorem Ok.crash {D : DiskS} (h : D.Ok) (keeps : Nat) : (D.crash keeps).Ok :=
  ⟨keepSome_all _ _ _ _ (fun e he => (h.cache e he).2) h.kept, (fun e he => by cases he), (by simp only [DiskS.crash]; rw [keepSome_len]; exact h.size), h.keeps, by simp [DiskS.crash], by simp [DiskS.crash]⟩

theorem Ok.step {D : DiskS} (h : D.Ok) : D.step.2.Ok := by
  have hf := h.fate
  unfold DiskS.step
  split
  · split
    · exact Ok.crash (D := { D with steps := wrap (D.steps + 1), fate := D.fate - 1 }) ⟨h.kept, h.cache, h.size, h.keeps, h.few, by dsimp only; omega⟩ _
    · exact ⟨h.kept, h.cache, h.size, h.keeps, h.few, by dsimp only; omega⟩
  · exact ⟨h.kept, h.cache, h.size, h.keeps, h.few, h.fate⟩

theorem step_kept_len (D : DiskS) : D.step.2.kept.length = D.kept.length := by
  unfold DiskS.step
  split
  · split
    · simp only [DiskS.crash]; rw [keepSome_len]
    · rfl
  · rfl

theorem Ok.write {D : DiskS} (h : D.Ok) (hf : D.cache.length < 1099511627776) (a : Int) {s : Bytes} (hs : s.length = 64) : (D.write a s).2.Ok := by
  unfold DiskS.write
  split
  · exact h
  · split
    · exact h
    · rename_i _ hc
      refine Ok.step (D := { D with cache := D.cache ++ [(a.toNat, s)] }) ⟨h.kept, fun e he => ?_, h.size, h.keeps, by simp; omega, h.fate⟩
      rcases List.mem_append.1 he with h1 | h1
      · exact h.cache e h1
      · simp at h1; subst h1; exact ⟨by simp only; omega, hs⟩

theorem Ok.flush {D : DiskS} (h : D.Ok) : (D.flush).2.Ok := by
  unfold DiskS.flush
  split
  · exact h
  · have := h.step
    simp only
    split
    · exact ⟨keepAll_all _ _ (fun e he => (this.cache e he).2) this.kept, (fun e he => by cases he), (by simp only; rw [keepAll_len]; exact this.size), this.keeps, by simp, this.fate⟩
    · exact this

end DiskS

/-- a byte and bytes as cells -/
def bv (b : UInt8) : Value := .int .u8 b.toNat
def bvs (bs : Bytes) : List Value := bs.map bv
def wv (e : Nat × Bytes) : List Value := .int .i64 e.1 :: bvs e.2

theorem bvs_len (bs : Bytes) : (bvs bs).length = bs.length := by simp [bvs]
theorem bvs_one (bs : Bytes) : Eng.oneCells (bvs bs) := by
  intro v hv; obtain ⟨b, _, rfl⟩ := List.mem_map.1 hv; rfl
theorem wv_len {e : Nat × Bytes} (h : e.2.length = 64) : (wv e).length = 65 := by simp [wv, bvs_len, h]
theorem wv_one (e : Nat × Bytes) : Eng.oneCells (wv e) := by
  intro v hv; rcases List.mem_cons.1 hv with h | h
  · subst h; rfl
  · exact bvs_one _ v h

section flat
variable {α : Type} {f : α → List Value} {s : Nat}

theorem flat_len : ∀ (l : List α), (∀ a ∈ l, (f a).length = s) → (l.flatMap f).length = l.length * s := by
  intro l
  induction l with
  | nil => intro _; simp
  | cons a l ih =>
    intro h
    rw [List.flatMap_cons, List.length_append, ih (fun b hb => h b (.tail _ hb)), h a (.head _), List.length_cons, Nat.add_mul]; omega

theorem flat_get : ∀ (l : List α) (sp : List Value) (i : Nat) (a : α), (∀ a ∈ l, (f a).length = s) → l[i]? = some a → ((l.flatMap f ++ sp).drop (i * s)).take s = f a := by
  intro l
  induction l with
  | nil => intro sp i a _ h; simp at h
  | cons b l ih =>
    intro sp i a h hi
    have hb := h b (.head _)
    cases i with
    | zero => simp at hi; subst hi; rw [List.flatMap_cons, List.append_assoc]; simp [← hb]
    | succ i =>
      have := ih sp i a (fun c hc => h c (.tail _ hc)) (by simpa using hi)
      rw [List.flatMap_cons, List.append_assoc, Nat.add_mul, Nat.one_mul, Nat.add_comm, List.drop_append]
      have e1 : (f b).drop (s + i * s) = [] := List.drop_eq_nil_of_le (by omega)
      rw [e1, List.nil_append, hb, Nat.add_sub_cancel_left]; exact this

theorem flat_set : ∀ (l : List α) (i : Nat) (x : α), (∀ a ∈ l, (f a).length = s) → (f x).length = s → i < l.length →
    (l.flatMap f).take (i * s) ++ f x ++ (l.flatMap f).drop (i * s + s) = (l.set i x).flatMap f := by
  intro l
  induction l with
  | nil => intro i x _ _ h; simp at h
  | cons b l ih =>
    intro i x h hx hi
    have hb := h b (.head _)
    cases i with
    | zero => simp only [Nat.zero_mul, List.take_zero, List.nil_append, Nat.zero_add, List.set_cons_zero, List.flatMap_cons]; rw [← hb]; simp
    | succ i =>
      have := ih i x (fun c hc => h c (.tail _ hc)) hx (by simpa using hi)
      have e0 : (i + 1) * s = s + i * s := by rw [Nat.add_mul, Nat.one_mul, Nat.add_comm]
      rw [List.set_cons_succ, List.flatMap_cons, List.flatMap_cons, e0, List.take_append, List.drop_append, ← this]
      have e1 : (f b).take (s + i * s) = f b := List.take_of_length_le (by omega)
      have e2 : (f b).drop (s + i * s + s) = [] := List.drop_eq_nil_of_le (by omega)
      rw [e1, e2, hb, Nat.add_sub_cancel_left, show s + i * s + s - s = i * s + s from by omega]
      simp
end flat

namespace Eng
/-- a disk in memory -/
def DiskI (d : Nat) (D : DiskS) (G : List HA) : Prop := ∃ kb ca cc, D.Ok ∧
  G = [.pt d (.cells [.slice (some ⟨kb, 0, none⟩) D.kept.length D.kept.length, .slice ca D.cache.length cc, .bool D.down, .int .i64 D.fate, .int .u64 D.keeps, .int .i64 D.steps].toArray 154 (0, 0)),
    .pt kb (.cells (D.kept.flatMap bvs).toArray 235 (0, 0)), OwnS ca D.cache.length cc 65 290 (D.cache.flatMap wv)]
def DiskP (d : Nat) (D : DiskS) : HA := grp (DiskI d D)
end Eng
end Go.Proofs.YtnfomoeicgdkkaaGreatDoor

/- The disk's functions: each is what the plain disk says. -/
set_option linter.unusedSimpArgs false
set_option linter.unusedVariables false
namespace Go.Proofs.YtnfomoeicgdkkaaGreatDoor
namespace Eng
attribute [local irreducible] Ops Segs Run Spec

theorem disk_Len (d : Nat) (D : DiskS) (F : Hp) : Spec Tryz.prog 132 [.pointer (some ⟨d, 0, none⟩)].toArray F [DiskP d D] fun v H => v = .int .i64 D.kept.length ∧ H = [DiskP d D] := by
  refine Spec.enter (n := 8) Tryz.func132 ok_disk_Disk_Len rfl (by simp) ?_
  unfold ec_disk_Disk_Len
  simp only [argFr, Nat.reduceAdd]
  refine Run.open_ s0 fun G ⟨kb, ca, cc, hok, hG⟩ => ?_
  subst hG
  simp only [List.cons_append, List.nil_append]
  refine go ?_
  exact Run.ret1 Tryz.func132 rfl rfl (fold_grp (.cons s0 (.cons s0 (.cons s0 .nil))) ⟨kb, ca, cc, hok, rfl⟩) ⟨rfl, rfl⟩

end Eng
end Go.Proofs.YtnfomoeicgdkkaaGreatDoor

/- The disk: the power goes. -/
set_option linter.unusedSimpArgs false
set_option linter.unusedVariables false
namespace Go.Proofs.YtnfomoeicgdkkaaGreatDoor
namespace Eng
attribute [local irreducible] Ops Segs Run Spec

theorem bit_eq (k j : Nat) : ((k >>> j &&& 1 : Nat) : Int) = 1 ↔ k.testBit j = true := by
  rw [Nat.testBit, Nat.and_comm, bne_iff_ne]
  have := Nat.and_one_is_mod (k >>> j)
  rw [Nat.and_comm 1, this]
  omega

set_option maxHeartbeats 1000000 in
theorem crash_any (d : Nat) (D : DiskS) (k : Nat) (hk : k < 2 ^ 64) (F : Hp) : Spec Tryz.prog 249 [.pointer (some ⟨d, 0, none⟩), .int .u64 k].toArray F [DiskP d D] fun v H => v = .tuple [].toArray ∧ H = [DiskP d (D.crash k)] := by
  refine Spec.enter (n := 41) Tryz.func249 ok_disk_Disk_Crash rfl (by simp) ?_
  unfold ec_disk_Disk_Crash
  simp only [argFr, Nat.reduceAdd]
  refine Run.open_ s0 fun G ⟨kb, ca, cc, hok, hG⟩ => ?_
  subst hG
  simp only [List.cons_append, List.nil_append]
  have hfew := hok.few
  refine go ?_
  -- the rounds
  refine Run.loopI (ι := Nat × List Bytes) (fun x => D.cache.length - x.1) (fun x => x.1 ≤ D.cache.length ∧ x.2.length = D.kept.length ∧ (∀ s ∈ x.2, s.length = 64) ∧ DiskS.keepSome k x.1 (D.cache.drop x.1) x.2 = DiskS.keepSome k 0 D.cache D.kept)
    (fun x => [(11, .int .i64 x.1), (10, .int .i64 D.cache.length), (9, .slice ca D.cache.length cc), (0, .pointer (some ⟨d, 0, none⟩)), (1, .int .u64 k)])
    (fun x => [.pt d (.cells [.slice (some ⟨kb, 0, none⟩) D.kept.length D.kept.length, .slice ca D.cache.length cc, .bool D.down, .int .i64 D.fate, .int .u64 D.keeps, .int .i64 D.steps].toArray 154 (0, 0)),
      .pt kb (.cells (x.2.flatMap bvs).toArray 235 (0, 0)), OwnS ca D.cache.length cc 65 290 (D.cache.flatMap wv)])
    (0, D.kept) ⟨Nat.zero_le _, rfl, hok.kept, rfl⟩ (.cons rfl (.cons rfl (.cons rfl (.cons rfl (.cons rfl .nil))))) (fun _ h => h) ?_
  rintro ⟨i, kept⟩ ⟨hi, hlen, h64, hks⟩ ih
  dsimp only at hi hlen h64 hks ih ⊢
  unfold ec_disk_Disk_Crash_L0
  refine go ?_
  refine Run.condD rfl (fun hlt => ?_) (fun hge => ?_)
  · have hlt' : i < D.cache.length := by omega
    refine Run.open_ s2 fun G ⟨hxs, hG⟩ => ?_
    rcases hG with ⟨_, hn, _, _⟩ | ⟨cb, spare, hca, hnc, hcap, hG⟩
    · omega
    subst hca; subst hG
    simp only [List.cons_append, List.nil_append]
    have hel : D.cache[i]? = some D.cache[i] := List.getElem?_eq_getElem hlt'
    have hwl : ∀ e ∈ D.cache, (wv e).length = 65 := fun e he => wv_len (hok.cache e he).2
    have hget := flat_get D.cache spare i _ hwl hel
    obtain ⟨hat, hs64⟩ := hok.cache _ (List.getElem_mem hlt')
    have hdrop : D.cache.drop i = D.cache[i] :: D.cache.drop (i + 1) := List.drop_eq_getElem_cons hlt'
    generalize D.cache[i] = e at *
    obtain ⟨at_, s⟩ := e
    dsimp only at hat hs64
    rw [hdrop] at hks
    simp only [DiskS.keepSome] at hks
    refine go ?_
    refine Ops.ixS rfl rfl ⟨by omega, by omega⟩ ?_
    refine Ops.ldn rfl m0 (by rw [List.length_append, hxs] at *; omega) ?_
    simp only [Nat.zero_add, Int.toNat_natCast, hget]
    refine Ops.alloc fun b5 => ?_
    refine go ?_
    refine Ops.stn0 (vs := wv (at_, s)) rfl rfl rfl (wv_len hs64) (wv_one _) u0 (by simp [zl65_4]) (by simp [wv]) ?_
    have hfull : List.take 0 zl65_4 ++ wv (at_, s) ++ List.drop (0 + 65) zl65_4 = wv (at_, s) := by simp [zl65_4]
    simp only [hfull]
    refine go ?_
    refine Ops.shr (j := i % 64) rfl rfl (by omega) (by simp [IntKind.bits]; omega) ?_
    refine Ops.and (b := 1) rfl rfl rfl rfl rfl (by simp only [IntKind.bits]; exact Nat.lt_of_le_of_lt (Nat.shiftRight_le _ _) hk) (by simp [IntKind.bits]) ?_
    refine go ?_
    refine Run.condD rfl (fun hbit => ?_) (fun hbit => ?_)
    all_goals
      rw [bit_eq] at hbit
    · rw [if_pos hbit] at hks
      refine Run.reg (Segs.lend [_, _] (.cons s0 (.cons s1 .nil)) fun F1 x1 k1 => ?_)
      refine go ?_
      refine Ops.ldF rfl (k1 _ _ m1) rfl ?_
      refine Ops.ldF rfl (k1 _ _ m0) rfl ?_
      refine Ops.ldnF rfl (k1 _ _ m0) (by simp [wv, bvs_len, hs64]) ?_
      simp only [List.cons_append, List.nil_append, wv, List.drop_succ_cons, List.drop_zero, Nat.zero_add, List.take_of_length_le (show (bvs s).length ≤ 64 by rw [bvs_len, hs64]; exact Nat.le_refl _)]
      refine go ?_
      refine Ops.ixS rfl rfl ⟨by omega, by omega⟩ ?_
      have hkl : (kept.flatMap bvs).length = kept.length * 64 := flat_len kept (fun s hs => by rw [bvs_len, h64 s hs])
      have hat64 : at_ * 64 + 64 ≤ kept.length * 64 := by have := Nat.mul_le_mul_right 64 (show at_ + 1 ≤ kept.length by omega); omega
      refine Ops.stn0 (vs := bvs s) rfl rfl rfl (by rw [bvs_len, hs64]) (bvs_one s) u3 (by simp only [Int.toNat_natCast]; omega) (by intro h; have := congrArg List.length h; rw [bvs_len, hs64] at this; cases this) ?_
      simp only [Nat.zero_add, Int.toNat_natCast]
      rw [flat_set kept at_ s (fun s hs => by rw [bvs_len, h64 s hs]) (by rw [bvs_len, hs64]) (by omega)]
      refine go ?_
      refine Run.lp (Run.again (ih (i + 1, kept.set at_ s) (by dsimp only; omega) ⟨by dsimp only; omega, by simp [hlen], DiskS.set_all h64 hs64, hks⟩) ?_ ?_)
      · exact .cons rfl (.cons rfl (.cons rfl (.cons rfl (.cons rfl .nil))))
      · exact fun h q => take_sub (.cons s2 (.cons s2 (.cons s0 .nil))) h (fold_grp (I := OwnI _ _ _ _ _ _) (.cons s2 .nil) ⟨hxs, .inr ⟨cb, spare, rfl, hnc, hcap, rfl⟩⟩ h q)
    · rw [if_neg hbit] at hks
      refine go ?_
      refine Run.lp (Run.again (ih (i + 1, kept) (by dsimp only; omega) ⟨by dsimp only; omega, hlen, h64, hks⟩) ?_ ?_)
      · exact .cons rfl (.cons rfl (.cons rfl (.cons rfl (.cons rfl .nil))))
      · exact fun h q => take_sub (.cons s2 (.cons s2 (.cons s0 .nil))) h (fold_grp (I := OwnI _ _ _ _ _ _) (.cons s1 .nil) ⟨hxs, .inr ⟨cb, spare, rfl, hnc, hcap, rfl⟩⟩ h q)
  · have : i = D.cache.length := by omega
    subst this
    rw [List.drop_length] at hks
    simp only [DiskS.keepSome] at hks
    subst hks
    refine go ?_
    refine Run.exit rfl ?_
    refine go ?_
    refine Run.done0 Tryz.func249 rfl (fun h q => take_sub (.cons s0 .nil) h (fold_grp (I := DiskI d (D.crash k)) (.cons s1 (.cons s1 (.cons s0 .nil))) ⟨kb, none, 0, hok.crash k, ?_⟩ h (own_new (s := 65) (T := 290) h q))) ⟨rfl, rfl⟩
    simp only [DiskS.crash, DiskS.keepSome_len]; rfl
end Eng
end Go.Proofs.YtnfomoeicgdkkaaGreatDoor

/- The disk: steps, writes, flushes. -/
set_option linter.unusedSimpArgs false
set_option linter.unusedVariables false
namespace Go.Proofs.YtnfomoeicgdkkaaGreatDoor
namespace Eng
attribute [local irreducible] Ops Segs Run Spec

theorem disk_step (d : Nat) (D : DiskS) (F : Hp) : Spec Tryz.prog 226 [.pointer (some ⟨d, 0, none⟩)].toArray F [DiskP d D] fun v H => v = .bool D.step.1 ∧ H = [DiskP d D.step.2] := by
  refine Spec.enter (n := 33) Tryz.func226 ok_disk_Disk_step rfl (by simp) ?_
  unfold ec_disk_Disk_step
  simp only [argFr, Nat.reduceAdd]
  refine Run.open_ s0 fun G ⟨kb, ca, cc, hok, hG⟩ => ?_
  subst hG
  simp only [List.cons_append, List.nil_append]
  refine go ?_
  refine Ops.p rfl ?_
  refine go ?_
  refine Run.condD rfl (fun hf => ?_) (fun hf => ?_)
  · have hfr := hok.fate
    refine go ?_
    refine Run.condD rfl (fun hz => ?_) (fun hz => ?_)
    · refine go ?_
      refine Ops.callE1 [DiskP d { D with steps := DiskS.wrap (D.steps + 1), fate := D.fate - 1 }] [] rfl (fold_grp (.cons s0 (.cons s0 (.cons s0 .nil))) ⟨kb, ca, cc, ⟨hok.kept, hok.cache, hok.size, hok.keeps, hok.few, by dsimp only; omega⟩, rfl⟩)
        (fun F' e kn => crash_any d { D with steps := DiskS.wrap (D.steps + 1), fate := D.fate - 1 } D.keeps hok.keeps F') ?_
      rintro v G ⟨rfl, rfl⟩
      simp only [List.cons_append, List.nil_append]
      refine go ?_
      refine Run.ret1 Tryz.func226 rfl rfl (fun h q => q) ⟨?_, ?_⟩
      all_goals (unfold DiskS.step; rw [if_pos hf, if_pos hz])
    · refine go ?_
      refine Run.ret1 Tryz.func226 rfl rfl (fold_grp (.cons s0 (.cons s0 (.cons s0 .nil))) ⟨kb, ca, cc, hok.step, ?_⟩) ⟨?_, rfl⟩
      · unfold DiskS.step; rw [if_pos hf, if_neg hz]
      · unfold DiskS.step; rw [if_pos hf, if_neg hz]; rfl
  · refine go ?_
    refine Run.ret1 Tryz.func226 rfl rfl (fold_grp (.cons s0 (.cons s0 (.cons s0 .nil))) ⟨kb, ca, cc, hok.step, ?_⟩) ⟨?_, rfl⟩
    · unfold DiskS.step; rw [if_neg hf]
    · unfold DiskS.step; rw [if_neg hf]; rfl

theorem disk_Write (d : Nat) (D : DiskS) (hc : D.cache.length < 1099511627776) (at_ : Int) (s : Bytes) (hs : s.length = 64) (F : Hp) :
    Spec Tryz.prog 194 [.pointer (some ⟨d, 0, none⟩), .int .i64 at_, .agg (bvs s).toArray].toArray F [DiskP d D] fun v H => v = .int .i64 (D.write at_ s).1 ∧ H = [DiskP d (D.write at_ s).2] := by
  refine Spec.enter (n := 39) Tryz.func194 ok_disk_Disk_Write rfl (by simp) ?_
  unfold ec_disk_Disk_Write
  simp only [argFr, Nat.reduceAdd]
  refine Run.open_ s0 fun G ⟨kb, ca, cc, hok, hG⟩ => ?_
  subst hG
  simp only [List.cons_append, List.nil_append]
  refine go ?_
  refine Ops.box (vs := bvs s) rfl rfl fun b5 => ?_
  refine go ?_
  have hfold : ∀ h, seps [.pt b5 (.cells (bvs s).toArray 235 (0, 0)), .pt d (.cells [.slice (some ⟨kb, 0, none⟩) D.kept.length D.kept.length, .slice ca D.cache.length cc, .bool D.down, .int .i64 D.fate, .int .u64 D.keeps, .int .i64 D.steps].toArray 154 (0, 0)),
      .pt kb (.cells (D.kept.flatMap bvs).toArray 235 (0, 0)), OwnS ca D.cache.length cc 65 290 (D.cache.flatMap wv)] h → seps [DiskP d D] h :=
    fun h q => take_sub (.cons s0 .nil) h (fold_grp (.cons s1 (.cons s1 (.cons s1 .nil))) ⟨kb, ca, cc, hok, rfl⟩ h q)
  unfold DiskS.write
  cases hd : D.down with
  | true =>
    rw [hd] at hfold
    refine Run.condT rfl ?_
    refine go ?_
    exact Run.ret1 Tryz.func194 rfl rfl hfold ⟨rfl, rfl⟩
  | false =>
    rw [hd] at hfold
    rw [if_neg (by simp)]
    refine Run.condF rfl ?_
    refine go ?_
    by_cases h1 : at_ < 0
    · rw [if_pos (.inl h1)]
      have e1 : decide (at_ < 0) = true := by simpa using h1
      simp only [e1]
      refine go ?_
      refine Run.condT rfl ?_
      refine go ?_
      exact Run.ret1 Tryz.func194 rfl rfl hfold ⟨rfl, rfl⟩
    · have e1 : decide (at_ < 0) = false := by simpa using h1
      simp only [e1]
      refine go ?_
      refine Run.condD rfl (fun h2 => ?_) (fun h2 => ?_)
      · rw [if_pos (.inr h2)]
        refine go ?_
        exact Run.ret1 Tryz.func194 rfl rfl hfold ⟨rfl, rfl⟩
      · rw [if_neg (by omega)]
        refine go ?_
        refine Segs.lend [_, _] (.cons s1 (.cons s0 .nil)) fun F1 x1 k1 => ?_
        refine go ?_
        refine Ops.ldF rfl (k1 _ _ m0) rfl ?_
        refine Ops.ldnF rfl (k1 _ _ m1) (by rw [bvs_len, hs]; exact Nat.le_refl _) ?_
        simp only [List.drop_zero, List.take_of_length_le (show (bvs s).length ≤ 64 by rw [bvs_len, hs]; exact Nat.le_refl _)]
        refine Ops.bld (wv (at_.toNat, s)) rfl (by simp [buildL, vcells, zl65_4, wv, bvs_len, hs]; omega) ?_
        refine Ops.lit (wv (at_.toNat, s)) rfl (by have := wv_len (e := (at_.toNat, s)) hs; simp [buildL, vcells, zl65_4, this]) fun b6 => ?_
        refine go ?_
        simp only [List.cons_append, List.nil_append]
        have hw65 := wv_len (e := (at_.toNat, s)) hs
        refine Ops.app (m := 1) (ys := wv (at_.toNat, s)) rfl rfl rfl s4 (shows_pt m2 (by simp [zl65_4, hw65]) (by simp [zl65_4]; rw [List.take_of_length_le (by omega)])) (wv_one _) (by rw [hw65]; rfl) (by simp [zl65_4]) (by omega) ?_
        intro a' c'
        refine go ?_
        refine Ops.callE1 [DiskP d { D with cache := D.cache ++ [(at_.toNat, s)], down := false }] [] rfl (fun h q => take_sub (.cons s0 .nil) h (fold_grp (.cons s1 (.cons s3 (.cons s0 .nil))) ⟨kb, a', c', ?ok, ?eq⟩ h q)) (fun F' e kn => disk_step d _ F') ?k
        case ok =>
          refine ⟨hok.kept, fun e he => ?_, hok.size, hok.keeps, by simp; omega, hok.fate⟩
          rcases List.mem_append.1 he with x | x
          · exact hok.cache e x
          · simp at x; subst x; exact ⟨by simp only; omega, hs⟩
        case eq => simp [zl65_4]
        rintro v G ⟨rfl, rfl⟩
        simp only [List.cons_append, List.nil_append]
        refine go ?_
        cases hst : ({ D with cache := D.cache ++ [(at_.toNat, s)], down := false } : DiskS).step.1 with
        | true =>
          refine Run.condF rfl ?_
          refine go ?_
          exact Run.ret1 Tryz.func194 rfl rfl (fun h q => q) ⟨by simp, rfl⟩
        | false =>
          refine Run.condT rfl ?_
          refine go ?_
          exact Run.ret1 Tryz.func194 rfl rfl (fun h q => q) ⟨by simp, rfl⟩
end Eng
end Go.Proofs.YtnfomoeicgdkkaaGreatDoor

/- The disk: flushes. -/
set_option linter.unusedSimpArgs false
set_option linter.unusedVariables false
namespace Go.Proofs.YtnfomoeicgdkkaaGreatDoor
namespace Eng
attribute [local irreducible] Ops Segs Run Spec

theorem disk_Flush (d : Nat) (D : DiskS) (F : Hp) :
    Spec Tryz.prog 193 [.pointer (some ⟨d, 0, none⟩)].toArray F [DiskP d D] fun v H => v = .int .i64 D.flush.1 ∧ H = [DiskP d D.flush.2] := by
  refine Spec.enter (n := 34) Tryz.func193 ok_disk_Disk_Flush rfl (by simp) ?_
  unfold ec_disk_Disk_Flush
  simp only [argFr, Nat.reduceAdd]
  refine Run.open_ s0 fun G ⟨kb, ca, cc, hok, hG⟩ => ?_
  subst hG
  simp only [List.cons_append, List.nil_append]
  refine go ?_
  have hfold : ∀ h, seps [.pt d (.cells [.slice (some ⟨kb, 0, none⟩) D.kept.length D.kept.length, .slice ca D.cache.length cc, .bool D.down, .int .i64 D.fate, .int .u64 D.keeps, .int .i64 D.steps].toArray 154 (0, 0)),
      .pt kb (.cells (D.kept.flatMap bvs).toArray 235 (0, 0)), OwnS ca D.cache.length cc 65 290 (D.cache.flatMap wv)] h → seps [DiskP d D] h :=
    fun h q => fold_grp (.cons s0 (.cons s0 (.cons s0 .nil))) ⟨kb, ca, cc, hok, rfl⟩ h q
  unfold DiskS.flush
  by_cases hd : D.down = true
  · rw [if_pos hd]
    refine Run.condT (by rw [← hd]; rfl) ?_
    refine go ?_
    exact Run.ret1 Tryz.func193 rfl rfl hfold ⟨rfl, rfl⟩
  rw [if_neg hd]
  refine Run.condF (by have : D.down = false := by simpa using hd
                       rw [← this]; rfl) ?_
  refine go ?_
  refine Ops.callE1 [DiskP d D] [] rfl hfold (fun F' e kn => disk_step d D F') ?_
  rintro v G ⟨rfl, rfl⟩
  simp only [List.cons_append, List.nil_append]
  refine go ?_
  by_cases hst : D.step.1 = true
  · rw [hst]
    refine Run.condF rfl ?_
    simp only [if_true]
    clear hfold hok hd
    generalize D.step.2 = D at *
    refine Run.open_ s0 fun G ⟨kb, ca, cc, hok, hG⟩ => ?_
    subst hG
    simp only [List.cons_append, List.nil_append]
    have hfew := hok.few
    refine go ?_
    refine Run.loopI (ι := Nat × List Bytes) (fun x => D.cache.length - x.1) (fun x => x.1 ≤ D.cache.length ∧ x.2.length = D.kept.length ∧ (∀ s ∈ x.2, s.length = 64) ∧ DiskS.keepAll (D.cache.drop x.1) x.2 = DiskS.keepAll D.cache D.kept)
      (fun x => [(17, .int .i64 x.1), (16, .int .i64 D.cache.length), (15, .slice ca D.cache.length cc), (0, .pointer (some ⟨d, 0, none⟩))])
      (fun x => [.pt d (.cells [.slice (some ⟨kb, 0, none⟩) D.kept.length D.kept.length, .slice ca D.cache.length cc, .bool D.down, .int .i64 D.fate, .int .u64 D.keeps, .int .i64 D.steps].toArray 154 (0, 0)),
        .pt kb (.cells (x.2.flatMap bvs).toArray 235 (0, 0)), OwnS ca D.cache.length cc 65 290 (D.cache.flatMap wv)])
      (0, D.kept) ⟨Nat.zero_le _, rfl, hok.kept, rfl⟩ (.cons rfl (.cons rfl (.cons rfl (.cons rfl .nil)))) (fun _ h => h) ?_
    rintro ⟨i, kept⟩ ⟨hi, hlen, h64, hks⟩ ih
    dsimp only at hi hlen h64 hks ih ⊢
    unfold ec_disk_Disk_Flush_L0
    refine go ?_
    refine Run.condD rfl (fun hlt => ?_) (fun hge => ?_)
    · have hlt' : i < D.cache.length := by omega
      refine Run.open_ s2 fun G ⟨hxs, hG⟩ => ?_
      rcases hG with ⟨_, hn, _, _⟩ | ⟨cb, spare, hca, hnc, hcap, hG⟩
      · omega
      subst hca; subst hG
      simp only [List.cons_append, List.nil_append]
      have hel : D.cache[i]? = some D.cache[i] := List.getElem?_eq_getElem hlt'
      have hwl : ∀ e ∈ D.cache, (wv e).length = 65 := fun e he => wv_len (hok.cache e he).2
      have hget := flat_get D.cache spare i _ hwl hel
      obtain ⟨hat, hs64⟩ := hok.cache _ (List.getElem_mem hlt')
      have hdrop : D.cache.drop i = D.cache[i] :: D.cache.drop (i + 1) := List.drop_eq_getElem_cons hlt'
      generalize D.cache[i] = e at *
      obtain ⟨at_, s⟩ := e
      dsimp only at hat hs64
      rw [hdrop] at hks
      simp only [DiskS.keepAll] at hks
      refine go ?_
      refine Ops.ixS rfl rfl ⟨by omega, by omega⟩ ?_
      refine Ops.ldn rfl m0 (by rw [List.length_append, hxs] at *; omega) ?_
      simp only [Nat.zero_add, Int.toNat_natCast, hget]
      refine Ops.alloc fun b5 => ?_
      refine go ?_
      refine Ops.stn0 (vs := wv (at_, s)) rfl rfl rfl (wv_len hs64) (wv_one _) u0 (by simp [zl65_4]) (by simp [wv]) ?_
      have hfull : List.take 0 zl65_4 ++ wv (at_, s) ++ List.drop (0 + 65) zl65_4 = wv (at_, s) := by simp [zl65_4]
      simp only [hfull]
      refine go ?_
      refine Segs.lend [_, _] (.cons s0 (.cons s1 .nil)) fun F1 x1 k1 => ?_
      refine go ?_
      refine Ops.ldF rfl (k1 _ _ m1) rfl ?_
      refine Ops.ldF rfl (k1 _ _ m0) rfl ?_
      refine Ops.ldnF rfl (k1 _ _ m0) (by simp [wv, bvs_len, hs64]) ?_
      simp only [List.cons_append, List.nil_append, wv, List.drop_succ_cons, List.drop_zero, Nat.zero_add, List.take_of_length_le (show (bvs s).length ≤ 64 by rw [bvs_len, hs64]; exact Nat.le_refl _)]
      refine go ?_
      refine Ops.ixS rfl rfl ⟨by omega, by omega⟩ ?_
      have hkl : (kept.flatMap bvs).length = kept.length * 64 := flat_len kept (fun s hs => by rw [bvs_len, h64 s hs])
      have hat64 : at_ * 64 + 64 ≤ kept.length * 64 := by have := Nat.mul_le_mul_right 64 (show at_ + 1 ≤ kept.length by omega); omega
      refine Ops.stn0 (vs := bvs s) rfl rfl rfl (by rw [bvs_len, hs64]) (bvs_one s) u3 (by simp only [Int.toNat_natCast]; omega) (by intro h; have := congrArg List.length h; rw [bvs_len, hs64] at this; cases this) ?_
      simp only [Nat.zero_add, Int.toNat_natCast]
      rw [flat_set kept at_ s (fun s hs => by rw [bvs_len, h64 s hs]) (by rw [bvs_len, hs64]) (by omega)]
      refine go ?_
      refine Run.lp (Run.again (ih (i + 1, kept.set at_ s) (by dsimp only; omega) ⟨by dsimp only; omega, by simp [hlen], DiskS.set_all h64 hs64, hks⟩) ?_ ?_)
      · exact .cons rfl (.cons rfl (.cons rfl (.cons rfl .nil)))
      · exact fun h q => take_sub (.cons s2 (.cons s2 (.cons s0 .nil))) h (fold_grp (I := OwnI _ _ _ _ _ _) (.cons s2 .nil) ⟨hxs, .inr ⟨cb, spare, rfl, hnc, hcap, rfl⟩⟩ h q)
    · have : i = D.cache.length := by omega
      subst this
      rw [List.drop_length] at hks
      simp only [DiskS.keepAll] at hks
      subst hks
      refine go ?_
      refine Run.exit rfl ?_
      refine go ?_
      refine Run.ret1 Tryz.func193 rfl rfl (fun h q => take_sub (.cons s0 .nil) h (fold_grp (I := DiskI d { D with kept := DiskS.keepAll D.cache D.kept, cache := [] }) (.cons s1 (.cons s1 (.cons s0 .nil))) ⟨kb, none, 0, ⟨DiskS.keepAll_all _ _ (fun e he => (hok.cache e he).2) hok.kept, (fun e he => by cases he), (by simp only; rw [DiskS.keepAll_len]; exact hok.size), hok.keeps, by simp, hok.fate⟩, ?_⟩ h (own_new (s := 65) (T := 290) h q))) ⟨rfl, rfl⟩
      simp only [DiskS.keepAll_len]; rfl
  · have hst : D.step.1 = false := by simpa using hst
    rw [hst]
    refine Run.condT rfl ?_
    refine go ?_
    exact Run.ret1 Tryz.func193 rfl rfl (fun h q => q) ⟨by simp, rfl⟩
end Eng
end Go.Proofs.YtnfomoeicgdkkaaGreatDoor

/- The disk: reads, and a new one. -/
set_option linter.unusedSimpArgs false
set_option linter.unusedVariables false
namespace Go.Proofs.YtnfomoeicgdkkaaGreatDoor

theorem lastOf_append (a : Nat) (xs ys : List (Nat × Bytes)) : DiskS.lastOf a (xs ++ ys) = (DiskS.lastOf a ys).or (DiskS.lastOf a xs) := by
  induction xs with
  | nil => simp [DiskS.lastOf]
  | cons e xs ih =>
    obtain ⟨b, s⟩ := e
    simp only [List.cons_append, DiskS.lastOf, ih]
    cases DiskS.lastOf a ys with
    | some y => simp
    | none => simp

theorem lastOf_mem {a : Nat} {xs : List (Nat × Bytes)} {s : Bytes} (h : DiskS.lastOf a xs = some s) : (a, s) ∈ xs := by
  induction xs with
  | nil => cases h
  | cons e xs ih =>
    obtain ⟨b, x⟩ := e
    simp only [DiskS.lastOf] at h
    split at h
    · rename_i y hy; cases h; exact .tail _ (ih hy)
    · split at h
      · rename_i hb; cases h; subst hb; exact .head _
      · cases h

namespace DiskS
theorem read_len {D : DiskS} (h : D.Ok) (a : Int) : (D.read a).1.length = 64 := by
  unfold DiskS.read
  split
  · simp
  · split
    · simp
    · rename_i _ hc
      simp only
      cases hl : lastOf a.toNat D.cache with
      | some s => exact (h.cache _ (lastOf_mem hl)).2
      | none =>
        have hlt : a.toNat < D.kept.length := by omega
        simp only [Option.getD_none]
        rw [List.getD_eq_getElem?_getD, List.getElem?_eq_getElem hlt]
        exact h.kept _ (List.getElem_mem hlt)
end DiskS

namespace Eng
attribute [local irreducible] Ops Segs Run Spec

theorem sector_agg : aggOf Tryz.prog 235 = some true := by kernel_rfl
theorem sector_info : Tryz.prog.info? 235 = some Tryz.t235 := by kernel_rfl
theorem zl64_bvs : zl64_intu80 = bvs (List.replicate 64 0) := rfl

set_option maxHeartbeats 400000 in
theorem disk_Read (d : Nat) (D : DiskS) (at_ : Int) (F : Hp) :
    Spec Tryz.prog 133 [.pointer (some ⟨d, 0, none⟩), .int .i64 at_].toArray F [DiskP d D] fun v H => v = .tuple [.agg (bvs (D.read at_).1).toArray, .int .i64 (D.read at_).2].toArray ∧ H = [DiskP d D] := by
  refine Spec.enter (n := 61) Tryz.func133 ok_disk_Disk_Read rfl (by simp) ?_
  unfold ec_disk_Disk_Read
  simp only [argFr, Nat.reduceAdd]
  refine Run.open_ s0 fun G ⟨kb, ca, cc, hok, hG⟩ => ?_
  subst hG
  simp only [List.cons_append, List.nil_append]
  have hfew := hok.few
  refine go ?_
  refine Ops.alloc fun b4 => ?_
  refine go ?_
  have hfold : ∀ (L : List Value), ∀ h, seps [.pt b4 (.cells L.toArray 235 (0, 0)), .pt d (.cells [.slice (some ⟨kb, 0, none⟩) D.kept.length D.kept.length, .slice ca D.cache.length cc, .bool D.down, .int .i64 D.fate, .int .u64 D.keeps, .int .i64 D.steps].toArray 154 (0, 0)),
      .pt kb (.cells (D.kept.flatMap bvs).toArray 235 (0, 0)), OwnS ca D.cache.length cc 65 290 (D.cache.flatMap wv)] h → seps [DiskP d D] h :=
    fun L h q => take_sub (.cons s0 .nil) h (fold_grp (.cons s1 (.cons s1 (.cons s1 .nil))) ⟨kb, ca, cc, hok, rfl⟩ h q)
  have hz : (zl64_intu80.drop 0).take 64 = bvs (List.replicate 64 0) := rfl
  have hzs : ∀ L : List Value, L.length = 64 → List.take 0 L ++ zl64_intu80 ++ List.drop (0 + 64) L = zl64_intu80 := by intro L h; simp [List.drop_eq_nil_of_le (show L.length ≤ 64 by omega)]
  by_cases hd : D.down = true
  · have hm : D.read at_ = (List.replicate 64 0, 3) := by unfold DiskS.read; rw [if_pos hd]
    rw [hm]
    refine Run.condT (by rw [← hd]; rfl) ?_
    refine go ?_
    refine Ops.bld zl64_intu80 rfl rfl ?_
    refine Ops.stn0 (vs := zl64_intu80) rfl rfl rfl rfl (by rw [zl64_bvs]; exact bvs_one _) u0 (by simp [zl64_intu80]) (by simp [zl64_intu80]) ?_
    rw [hzs _ rfl]
    refine go ?_
    exact Run.ret Tryz.func133 (rs := [.cell 4 235, .tmp 5]) rfl (.celln rfl sector_agg sector_info (.inl m0) (Nat.le_refl 64) (.tmp rfl .nil)) (hfold _) ⟨rfl, rfl⟩
  refine Run.condF (by have : D.down = false := by simpa using hd
                       rw [← this]; rfl) ?_
  refine go ?_
  have bad : ∀ (hb : at_ < 0 ∨ (D.kept.length : Int) ≤ at_), D.read at_ = (List.replicate 64 0, 2) := fun hb => by unfold DiskS.read; rw [if_neg hd, if_pos hb]
  by_cases h1 : at_ < 0
  · have e1 : decide (at_ < 0) = true := by simpa using h1
    simp only [e1]
    refine go ?_
    refine Run.condT rfl ?_
    rw [bad (.inl h1)]
    refine go ?_
    refine Ops.bld zl64_intu80 rfl rfl ?_
    refine Ops.stn0 (vs := zl64_intu80) rfl rfl rfl rfl (by rw [zl64_bvs]; exact bvs_one _) u0 (by simp [zl64_intu80]) (by simp [zl64_intu80]) ?_
    rw [hzs _ rfl]
    refine go ?_
    exact Run.ret Tryz.func133 (rs := [.cell 4 235, .tmp 5]) rfl (.celln rfl sector_agg sector_info (.inl m0) (Nat.le_refl 64) (.tmp rfl .nil)) (hfold _) ⟨rfl, rfl⟩
  have e1 : decide (at_ < 0) = false := by simpa using h1
  simp only [e1]
  refine go ?_
  refine Run.condD rfl (fun h2 => ?_) (fun h2 => ?_)
  · rw [bad (.inr h2)]
    refine go ?_
    refine Ops.bld zl64_intu80 rfl rfl ?_
    refine Ops.stn0 (vs := zl64_intu80) rfl rfl rfl rfl (by rw [zl64_bvs]; exact bvs_one _) u0 (by simp [zl64_intu80]) (by simp [zl64_intu80]) ?_
    rw [hzs _ rfl]
    refine go ?_
    exact Run.ret Tryz.func133 (rs := [.cell 4 235, .tmp 5]) rfl (.celln rfl sector_agg sector_info (.inl m0) (Nat.le_refl 64) (.tmp rfl .nil)) (hfold _) ⟨rfl, rfl⟩
  have good : D.read at_ = ((DiskS.lastOf at_.toNat D.cache).getD (D.kept.getD at_.toNat []), 0) := by unfold DiskS.read; rw [if_neg hd, if_neg (by omega)]
  rw [good]
  refine go ?_
  refine Run.loopI (ι := Nat) (fun k => k) (fun k => k ≤ D.cache.length ∧ DiskS.lastOf at_.toNat (D.cache.drop k) = none)
    (fun k => [(6, .int .i64 ((k : Int) - 1)), (5, .int .i64 0), (4, .pointer (some ⟨b4, 0, none⟩)), (0, .pointer (some ⟨d, 0, none⟩)), (1, .int .i64 at_)])
    (fun _ => [.pt b4 (.cells zl64_intu80.toArray 235 (0, 0)), .pt d (.cells [.slice (some ⟨kb, 0, none⟩) D.kept.length D.kept.length, .slice ca D.cache.length cc, .bool D.down, .int .i64 D.fate, .int .u64 D.keeps, .int .i64 D.steps].toArray 154 (0, 0)),
      .pt kb (.cells (D.kept.flatMap bvs).toArray 235 (0, 0)), OwnS ca D.cache.length cc 65 290 (D.cache.flatMap wv)])
    D.cache.length ⟨Nat.le_refl _, by simp [DiskS.lastOf]⟩ (.cons rfl (.cons rfl (.cons rfl (.cons rfl (.cons rfl .nil))))) (fun _ h => h) ?_
  rintro k ⟨hk, hnone⟩ ih
  dsimp only at ih ⊢
  unfold ec_disk_Disk_Read_L0
  refine go ?_
  refine Run.condD rfl (fun hge => ?_) (fun hlt => ?_)
  · refine Run.open_ s3 fun G ⟨hxs, hG⟩ => ?_
    rcases hG with ⟨_, hn, _, _⟩ | ⟨cb, spare, hca, hnc, hcap, hG⟩
    · omega
    subst hca; subst hG
    simp only [List.cons_append, List.nil_append]
    have hk1 : k - 1 < D.cache.length := by omega
    have hel : D.cache[k - 1]? = some D.cache[k - 1] := List.getElem?_eq_getElem hk1
    have hwl : ∀ e ∈ D.cache, (wv e).length = 65 := fun e he => wv_len (hok.cache e he).2
    have hget := flat_get D.cache spare (k - 1) _ hwl hel
    obtain ⟨hat, hs64⟩ := hok.cache _ (List.getElem_mem hk1)
    have hdrop : D.cache.drop (k - 1) = D.cache[k - 1] :: D.cache.drop k := by rw [List.drop_eq_getElem_cons hk1]; congr 2; omega
    have hsplit : D.cache = D.cache.take (k - 1) ++ D.cache.drop (k - 1) := (List.take_append_drop _ _).symm
    generalize D.cache[k - 1] = e at *
    obtain ⟨a0, s⟩ := e
    dsimp only at hat hs64
    have ek : ((k : Int) - 1).toNat = k - 1 := by omega
    have hlen : (List.flatMap wv D.cache ++ spare).length ≥ (k - 1) * 65 + 65 := by
      rw [List.length_append, hxs]
      have := Nat.mul_le_mul_right 65 (show k - 1 + 1 ≤ D.cache.length by omega)
      omega
    have hget0 : (List.flatMap wv D.cache ++ spare)[(k - 1) * 65]? = some (.int .i64 a0) := by
      have := congrArg (fun l => l[0]?) hget
      simpa [List.getElem?_take, List.getElem?_drop, wv] using this
    have hget1 : ((List.flatMap wv D.cache ++ spare).drop ((k - 1) * 65 + 1)).take 64 = bvs s := by
      have := congrArg (fun l => l.drop 1) hget
      simp only [List.drop_take, List.drop_drop] at this
      simpa [wv] using this
    refine go ?_
    refine Ops.ixS rfl rfl ⟨by omega, by omega⟩ ?_
    simp only [ek]
    refine go ?_
    refine Ops.ld (v := .int .i64 a0) rfl m0 (by rw [Nat.add_zero, Nat.zero_add]; exact hget0) ?_
    refine go ?_
    refine Run.condD rfl (fun he => ?_) (fun he => ?_)
    · have hl : DiskS.lastOf at_.toNat D.cache = some s := by
        rw [hsplit, lastOf_append, hdrop]
        simp only [DiskS.lastOf, hnone]
        rw [if_pos (by omega)]; rfl
      rw [hl]
      refine go ?_
      refine Ops.ixS rfl rfl ⟨by omega, by omega⟩ ?_
      simp only [ek]
      refine go ?_
      refine Ops.ldn rfl m0 (by rw [Nat.zero_add]; omega) ?_
      simp only [Nat.zero_add, hget1]
      refine Ops.stn0 (vs := bvs s) rfl rfl rfl (by rw [bvs_len, hs64]) (bvs_one s) u1 (by simp [zl64_intu80]) (by intro h; have := congrArg List.length h; rw [bvs_len, hs64] at this; cases this) ?_
      have hfull : List.take 0 zl64_intu80 ++ bvs s ++ List.drop (0 + 64) zl64_intu80 = bvs s := by simp [zl64_intu80]
      rw [hfull]
      refine go ?_
      refine Run.ret Tryz.func133 (rs := [.cell 4 235, .tmp 5]) rfl (.celln rfl sector_agg sector_info (.inl m1) (by rw [bvs_len, hs64]; exact Nat.le_refl _) (.tmp rfl .nil)) (fun h q => hfold _ h (take_sub (.cons s1 (.cons s1 (.cons s1 (.cons s0 .nil)))) h (fold_grp (I := OwnI _ _ _ _ _ _) (.cons s0 .nil) ⟨hxs, .inr ⟨cb, spare, rfl, hnc, hcap, rfl⟩⟩ h q))) ⟨?_, rfl⟩
      have : (List.drop 0 (bvs s)).take Tryz.t235.size = bvs s := by rw [List.drop_zero]; exact List.take_of_length_le (by rw [bvs_len, hs64]; exact Nat.le_refl _)
      rw [this]; rfl
    · refine go ?_
      refine Run.lp (Run.again (ih (k - 1) (by omega) ⟨by omega, ?_⟩) (.cons (by rw [show ((k - 1 : Nat) : Int) - 1 = (k : Int) - 1 - 1 by omega]; rfl) (.cons rfl (.cons rfl (.cons rfl (.cons rfl .nil))))) ?_)
      · rw [hdrop]
        simp only [DiskS.lastOf, hnone]
        rw [if_neg (by omega)]
      · exact fun h q => take_sub (.cons s1 (.cons s1 (.cons s1 (.cons s0 .nil)))) h (fold_grp (I := OwnI _ _ _ _ _ _) (.cons s0 .nil) ⟨hxs, .inr ⟨cb, spare, rfl, hnc, hcap, rfl⟩⟩ h q)
  · have : k = 0 := by omega
    subst this
    rw [List.drop_zero] at hnone
    rw [hnone]
    refine Run.exit rfl ?_
    have hat : at_.toNat < D.kept.length := by omega
    have hel : D.kept[at_.toNat]? = some D.kept[at_.toNat] := List.getElem?_eq_getElem hat
    have hget := flat_get D.kept [] at_.toNat _ (fun s hs => by rw [bvs_len, hok.kept s hs]) hel
    have hs64 := hok.kept _ (List.getElem_mem hat)
    have hgd : D.kept.getD at_.toNat [] = D.kept[at_.toNat] := by rw [List.getD_eq_getElem?_getD, hel]; rfl
    simp only [Option.getD_none, hgd]
    generalize D.kept[at_.toNat] = s at *
    have hkl : (D.kept.flatMap bvs).length = D.kept.length * 64 := flat_len D.kept (fun s hs => by rw [bvs_len, hok.kept s hs])
    have hat64 : at_.toNat * 64 + 64 ≤ D.kept.length * 64 := by have := Nat.mul_le_mul_right 64 (show at_.toNat + 1 ≤ D.kept.length by omega); omega
    rw [List.append_nil] at hget
    refine go ?_
    refine Ops.ixS rfl rfl ⟨by omega, by omega⟩ ?_
    refine Ops.ldn rfl m2 (by rw [hkl, Nat.zero_add]; omega) ?_
    simp only [Nat.zero_add, hget]
    refine Ops.stn0 (vs := bvs s) rfl rfl rfl (by rw [bvs_len, hs64]) (bvs_one s) u0 (by simp [zl64_intu80]) (by intro h; have := congrArg List.length h; rw [bvs_len, hs64] at this; cases this) ?_
    have hfull : List.take 0 zl64_intu80 ++ bvs s ++ List.drop (0 + 64) zl64_intu80 = bvs s := by simp [zl64_intu80]
    rw [hfull]
    refine go ?_
    refine Run.ret Tryz.func133 (rs := [.cell 4 235, .tmp 5]) rfl (.celln rfl sector_agg sector_info (.inl m0) (by rw [bvs_len, hs64]; exact Nat.le_refl _) (.tmp rfl .nil)) (hfold _) ⟨?_, rfl⟩
    have : (List.drop 0 (bvs s)).take Tryz.t235.size = bvs s := by rw [List.drop_zero]; exact List.take_of_length_le (by rw [bvs_len, hs64]; exact Nat.le_refl _)
    rw [this]; rfl

theorem zeros_flat (n : Nat) : zerosL zl64_intu80 n = (List.replicate n (List.replicate 64 (0 : UInt8))).flatMap bvs := by
  unfold zerosL
  rw [List.flatMap_replicate, zl64_bvs]

theorem disk_New (n : Int) (hn : -9223372036854775808 ≤ n ∧ n < 9223372036854775808) (F : Hp) :
    Spec Tryz.prog 16 [.int .i64 n].toArray F [] fun v H => ∃ d, v = .pointer (some ⟨d, 0, none⟩) ∧ H = [DiskP d (DiskS.new n)] := by
  refine Spec.enter (n := 9) Tryz.func16 ok_disk_New rfl (by simp) ?_
  unfold ec_disk_New
  simp only [argFr, Nat.reduceAdd]
  refine go ?_
  have e1 : (if (4096 : Int) < n then (4096 : Int) else n) = min n 4096 := by split <;> omega
  have e2 : (if (if (4096 : Int) < n then (4096 : Int) else n) > 1 then (if (4096 : Int) < n then (4096 : Int) else n) else 1) = max 1 (min n 4096) := by rw [e1]; split <;> omega
  refine Ops.mks (n := max 1 (min n 4096)) (m := max 1 (min n 4096)) (by rw [← e2]; rfl) (by rw [← e2]; rfl) (by omega) (Int.le_refl _) (by omega) fun kb => ?_
  refine Ops.bld [.slice (some ⟨kb, 0, none⟩) (max 1 (min n 4096)).toNat (max 1 (min n 4096)).toNat, .slice none 0 0, .bool false, .int .i64 (-1), .int .u64 0, .int .i64 0] rfl rfl ?_
  refine Ops.box (vs := [.slice (some ⟨kb, 0, none⟩) (max 1 (min n 4096)).toNat (max 1 (min n 4096)).toNat, .slice none 0 0, .bool false, .int .i64 (-1), .int .u64 0, .int .i64 0]) rfl rfl fun d => ?_
  refine go ?_
  refine Run.ret1 Tryz.func16 rfl rfl (fun h q => fold_grp (I := DiskI d (DiskS.new n)) (.cons s1 (.cons s1 (.cons s0 .nil))) ⟨kb, none, 0, ⟨fun s hs => ?_, (fun e he => by cases he), ?_, by simp [DiskS.new], by simp [DiskS.new], by simp [DiskS.new]⟩, ?_⟩ h (own_new (s := 65) (T := 290) h q)) ⟨d, rfl, rfl⟩
  · rw [(List.mem_replicate.1 hs).2]; simp
  · simp only [DiskS.new, List.length_replicate]; omega
  · rw [zeros_flat]; simp [DiskS.new]

end Eng
end Go.Proofs.YtnfomoeicgdkkaaGreatDoor
