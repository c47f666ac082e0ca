/- The plain forms of functions. -/
import Derived.Test.YtmajepinbldneaaEngH
import Derived.Test.YtmajepinbldneaaProg
namespace Go.Proofs.Ytmajepinbldneaa
set_option maxRecDepth 100000
/-- medlar/head.From -/
theorem cc19 : compF Try.prog 19 = some ⟨82, [.c 2 13 true, .t 3], (.seq (.ops [⟨(some 2), none, .new 31 [(.int .i64 0), (.int .i64 0), (.int .i64 0), (.slice none 0 0), (.bool false), (.bool false), (.int .u64 0), (.int .u64 0), (.int .u64 0), (.int .u64 0), (.int .u64 0), (.int .u64 0), (.int .i64 0)]⟩, ⟨(some 3), none, .mv (.c (.int .i64 0))⟩])
  (.seq (.block 0 (.seq (.ops [⟨(some 10), none, .mv (.t 0)⟩, ⟨(some 11), none, .len (.t 10)⟩, ⟨(some 12), none, .bin .gtr (.t 11) (.c (.int .i64 2097152))⟩, ⟨(some 9), none, .mv (.t 12)⟩])
  (.cond (.t 9) (.seq (.ops [⟨(some 13), none, .bld [(.int .i64 0), (.int .i64 0), (.int .i64 0), (.slice none 0 0), (.bool false), (.bool false), (.int .u64 0), (.int .u64 0), (.int .u64 0), (.int .u64 0), (.int .u64 0), (.int .u64 0), (.int .i64 0)] []⟩, ⟨none, none, .st 13 (.t 2) (.t 13)⟩, ⟨(some 3), none, .mv (.c (.int .i64 3))⟩])
  .ret)
  (.seq (.ops [⟨(some 15), none, .mv (.t 0)⟩, ⟨(some 16), none, .len (.t 15)⟩, ⟨(some 17), none, .bin .lss (.t 16) (.c (.int .i64 47))⟩, ⟨(some 18), none, .mv (.t 17)⟩, ⟨(some 19), (some (18, false)), .mv (.t 0)⟩, ⟨(some 20), (some (18, false)), .len (.t 19)⟩, ⟨(some 21), (some (18, false)), .bin .sub (.t 20) (.c (.int .i64 15))⟩, ⟨(some 22), (some (18, false)), .bin .sub (.t 21) (.c (.int .i64 32))⟩, ⟨(some 23), (some (18, false)), .bin .rem (.t 22) (.c (.int .i64 48))⟩, ⟨(some 24), (some (18, false)), .bin .neq (.t 23) (.c (.int .i64 0))⟩, ⟨(some 25), none, .pick (.t 18) (.c (.bool true)) (.t 24)⟩, ⟨(some 14), none, .mv (.t 25)⟩])
  (.cond (.t 14) (.seq (.ops [⟨(some 26), none, .bld [(.int .i64 0), (.int .i64 0), (.int .i64 0), (.slice none 0 0), (.bool false), (.bool false), (.int .u64 0), (.int .u64 0), (.int .u64 0), (.int .u64 0), (.int .u64 0), (.int .u64 0), (.int .i64 0)] []⟩, ⟨none, none, .st 13 (.t 2) (.t 26)⟩, ⟨(some 3), none, .mv (.c (.int .i64 2))⟩])
  .ret)
  .skip)))))
  (.seq (.ops [⟨(some 27), none, .mv (.t 0)⟩, ⟨(some 28), none, .slc 1 (.t 27) (some (.c (.int .i64 1))) none none⟩, ⟨(some 29), none, .bld [(.slice none 0 0)] [(0, 1, (.t 28))]⟩, ⟨(some 30), none, .box 94 (.t 29)⟩, ⟨(some 4), none, .mv (.t 30)⟩])
  (.seq (.ops [⟨(some 31), none, .mv (.t 4)⟩, ⟨(some 32), none, .call 53 [(.t 31), (.c (.int .i64 1))]⟩, ⟨(some 33), none, .conv .i64 (.t 32)⟩, ⟨(some 34), none, .mv (.t 4)⟩, ⟨(some 35), none, .call 53 [(.t 34), (.c (.int .i64 1))]⟩, ⟨(some 36), none, .conv .i64 (.t 35)⟩, ⟨(some 37), none, .mv (.t 4)⟩, ⟨(some 38), none, .call 53 [(.t 37), (.c (.int .i64 8))]⟩, ⟨(some 39), none, .conv .i64 (.t 38)⟩, ⟨(some 40), none, .bld [(.int .i64 0), (.int .i64 0), (.int .i64 0), (.slice none 0 0), (.bool false), (.bool false), (.int .u64 0), (.int .u64 0), (.int .u64 0), (.int .u64 0), (.int .u64 0), (.int .u64 0), (.int .i64 0)] [(0, 1, (.t 33)), (1, 1, (.t 36)), (2, 1, (.t 39))]⟩, ⟨(some 5), none, .new 31 [(.int .i64 0), (.int .i64 0), (.int .i64 0), (.slice none 0 0), (.bool false), (.bool false), (.int .u64 0), (.int .u64 0), (.int .u64 0), (.int .u64 0), (.int .u64 0), (.int .u64 0), (.int .i64 0)]⟩, ⟨none, none, .st 13 (.t 5) (.t 40)⟩])
  (.seq (.ops [⟨(some 41), none, .mv (.t 4)⟩, ⟨(some 42), none, .call 54 [(.t 41), (.c (.int .i64 4))]⟩])
  (.seq (.block 1 (.loop (.seq (.seq (.ops [⟨(some 43), none, .mv (.t 4)⟩, ⟨(some 44), none, .nck (.t 43)⟩, ⟨(some 45), none, .adr (.t 44) 0⟩, ⟨(some 46), none, .ld (.t 45) 1 false⟩, ⟨(some 47), none, .len (.t 46)⟩, ⟨(some 48), none, .bin .gtr (.t 47) (.c (.int .i64 32))⟩])
  (.cond (.t 48) .skip
  (.exit 1)))
  (.block 2 (.seq (.ops [⟨(some 49), none, .mv (.t 4)⟩, ⟨(some 50), none, .call 53 [(.t 49), (.c (.int .i64 8))]⟩, ⟨(some 51), none, .mv (.t 4)⟩, ⟨(some 52), none, .call 53 [(.t 51), (.c (.int .i64 8))]⟩, ⟨(some 53), none, .bld [(.int .u64 0), (.int .u64 0)] [(0, 1, (.t 50)), (1, 1, (.t 52))]⟩, ⟨(some 54), none, .bld [(.int .u64 0), (.int .u64 0), (.bool false), (.bool false), (.int .u64 0), (.int .u64 0), (.int .u64 0), (.int .u64 0), (.int .u64 0), (.int .u64 0), (.int .i64 0)] [(0, 2, (.t 53))]⟩, ⟨(some 6), none, .new 41 [(.int .u64 0), (.int .u64 0), (.bool false), (.bool false), (.int .u64 0), (.int .u64 0), (.int .u64 0), (.int .u64 0), (.int .u64 0), (.int .u64 0), (.int .i64 0)]⟩, ⟨none, none, .st 11 (.t 6) (.t 54)⟩])
  (.seq (.ops [⟨(some 55), none, .mv (.t 4)⟩, ⟨(some 56), none, .call 55 [(.t 55)]⟩, ⟨(some 57), none, .adr (.t 6) 2⟩, ⟨none, none, .st 9 (.t 57) (.t 56)⟩])
  (.ops [⟨(some 58), none, .adr (.t 5) 3⟩, ⟨(some 59), none, .ld (.t 58) 1 false⟩, ⟨(some 60), none, .ld (.t 6) 11 true⟩, ⟨(some 61), none, .bsl 41 1 11 [(.int .u64 0), (.int .u64 0), (.bool false), (.bool false), (.int .u64 0), (.int .u64 0), (.int .u64 0), (.int .u64 0), (.int .u64 0), (.int .u64 0), (.int .i64 0)] [(0, 11, (.t 60))]⟩, ⟨(some 62), none, .app 22 41 11 80 (.agg #[(.int .u64 0), (.int .u64 0), (.bool false), (.bool false), (.int .u64 0), (.int .u64 0), (.int .u64 0), (.int .u64 0), (.int .u64 0), (.int .u64 0), (.int .i64 0)]) (.t 59) (.t 61)⟩, ⟨(some 63), none, .adr (.t 5) 3⟩, ⟨none, none, .st 1 (.t 63) (.t 62)⟩])))))))
  (.seq (.ops [⟨(some 64), none, .mv (.t 4)⟩, ⟨(some 65), none, .call 55 [(.t 64)]⟩, ⟨(some 66), none, .adr (.t 5) 4⟩, ⟨none, none, .st 9 (.t 66) (.t 65)⟩])
  (.seq (.seq (.ops [⟨(some 68), none, .ld (.t 5) 13 true⟩, ⟨(some 69), none, .call 17 [(.t 68)]⟩, ⟨(some 67), none, .mv (.t 69)⟩, ⟨(some 70), none, .ext (.t 67) 0⟩, ⟨(some 71), none, .ext (.t 67) 1⟩, ⟨(some 7), none, .mv (.t 70)⟩, ⟨(some 8), none, .mv (.t 71)⟩])
  (.seq (.ops [⟨(some 72), none, .mv (.t 8)⟩, ⟨(some 73), none, .bin .neq (.t 72) (.c (.int .i64 0))⟩, ⟨(some 74), none, .mv (.t 73)⟩, ⟨(some 75), (some (74, false)), .mv (.t 7)⟩, ⟨(some 76), (some (74, false)), .mv (.t 0)⟩, ⟨(some 77), (some (74, false)), .call 56 [(.t 75), (.t 76)]⟩, ⟨(some 78), (some (74, false)), .un .not (.t 77)⟩, ⟨(some 79), none, .pick (.t 74) (.c (.bool true)) (.t 78)⟩])
  (.cond (.t 79) (.seq (.ops [⟨(some 80), none, .bld [(.int .i64 0), (.int .i64 0), (.int .i64 0), (.slice none 0 0), (.bool false), (.bool false), (.int .u64 0), (.int .u64 0), (.int .u64 0), (.int .u64 0), (.int .u64 0), (.int .u64 0), (.int .i64 0)] []⟩, ⟨none, none, .st 13 (.t 2) (.t 80)⟩, ⟨(some 3), none, .mv (.c (.int .i64 2))⟩])
  .ret)
  .skip)))
  (.seq (.ops [⟨(some 81), none, .ld (.t 5) 13 true⟩, ⟨none, none, .st 13 (.t 2) (.t 81)⟩, ⟨(some 3), none, .mv (.c (.int .i64 0))⟩])
  .ret)))))))))⟩ := by kernel_rfl
/-- (*medlar/head.reader).number -/
theorem cc53 : compF Try.prog 53 = some ⟨25, [.t 4], (.seq (.ops [⟨(some 4), none, .mv (.c (.int .u64 0))⟩])
  (.seq (.seq (.ops [⟨(some 7), none, .mv (.t 0)⟩, ⟨(some 8), none, .mv (.t 1)⟩, ⟨(some 9), none, .call 54 [(.t 7), (.t 8)]⟩, ⟨(some 10), none, .len (.t 9)⟩, ⟨(some 11), none, .mv (.c (.int .i64 0))⟩])
  (.block 0 (.loop (.seq (.ops [⟨(some 12), none, .bin .lss (.t 11) (.t 10)⟩])
  (.seq (.cond (.t 12) .skip
  (.exit 0))
  (.seq (.block 1 (.seq (.ops [⟨(some 13), none, .mv (.t 11)⟩, ⟨(some 14), none, .at_ (.t 9) (.t 11) 1⟩, ⟨(some 15), none, .ld (.t 14) 1 false⟩, ⟨(some 5), none, .mv (.t 13)⟩, ⟨(some 6), none, .mv (.t 15)⟩])
  (.ops [⟨(some 16), none, .mv (.t 4)⟩, ⟨(some 17), none, .mv (.t 6)⟩, ⟨(some 18), none, .conv .u64 (.t 17)⟩, ⟨(some 19), none, .mv (.t 5)⟩, ⟨(some 20), none, .bin .mul (.c (.int .i64 8)) (.t 19)⟩, ⟨(some 21), none, .bin .shl (.t 18) (.t 20)⟩, ⟨(some 22), none, .bin .or (.t 16) (.t 21)⟩, ⟨(some 4), none, .mv (.t 22)⟩])))
  (.ops [⟨(some 23), none, .bin .add (.t 11) (.c (.int .i64 1))⟩, ⟨(some 11), none, .mv (.t 23)⟩])))))))
  (.seq (.ops [⟨(some 24), none, .mv (.t 4)⟩, ⟨(some 4), none, .mv (.t 24)⟩])
  .ret)))⟩ := by kernel_rfl
/-- (*medlar/head.reader).cut -/
theorem cc54 : compF Try.prog 54 = some ⟨22, [.t 4], (.seq (.ops [⟨(some 4), none, .mv (.c (.slice none 0 0))⟩])
  (.seq (.dtl [⟨(some 5), none, .mv (.t 0)⟩, ⟨(some 6), none, .mv (.t 0)⟩, ⟨(some 7), none, .nck (.t 6)⟩, ⟨(some 8), none, .adr (.t 7) 0⟩, ⟨(some 9), none, .ld (.t 8) 1 false⟩, ⟨(some 10), none, .mv (.t 1)⟩, ⟨(some 11), none, .mv (.t 1)⟩, ⟨(some 12), none, .slc 1 (.t 9) none (some (.t 10)) (some (.t 11))⟩, ⟨(some 13), none, .mv (.t 0)⟩, ⟨(some 14), none, .nck (.t 13)⟩, ⟨(some 15), none, .adr (.t 14) 0⟩, ⟨(some 16), none, .ld (.t 15) 1 false⟩, ⟨(some 17), none, .mv (.t 1)⟩, ⟨(some 18), none, .slc 1 (.t 16) (some (.t 17)) none none⟩, ⟨(some 4), none, .mv (.t 12)⟩, ⟨(some 19), none, .nck (.t 5)⟩, ⟨(some 20), none, .adr (.t 19) 0⟩] [⟨none, none, .st 1 (.t 20) (.t 18)⟩])
  (.seq (.ops [⟨(some 21), none, .mv (.t 4)⟩, ⟨(some 4), none, .mv (.t 21)⟩])
  .ret)))⟩ := by kernel_rfl
/-- (*medlar/head.reader).value -/
theorem cc55 : compF Try.prog 55 = some ⟨13, [.c 2 9 true], (.seq (.ops [⟨(some 2), none, .new 29 [(.bool false), (.bool false), (.int .u64 0), (.int .u64 0), (.int .u64 0), (.int .u64 0), (.int .u64 0), (.int .u64 0), (.int .i64 0)]⟩])
  (.seq (.ops [⟨(some 6), none, .mv (.t 0)⟩, ⟨(some 7), none, .call 54 [(.t 6), (.c (.int .i64 32))]⟩, ⟨(some 8), none, .call 109 [(.t 7)]⟩, ⟨(some 5), none, .mv (.t 8)⟩, ⟨(some 9), none, .ext (.t 5) 0⟩, ⟨(some 10), none, .ext (.t 5) 1⟩, ⟨(some 3), none, .new 27 [(.int .u64 0), (.int .u64 0), (.int .u64 0), (.int .u64 0)]⟩, ⟨none, none, .st 4 (.t 3) (.t 9)⟩, ⟨(some 4), none, .mv (.t 10)⟩])
  (.seq (.ops [⟨(some 11), none, .ld (.t 3) 4 true⟩, ⟨(some 12), none, .bld [(.bool false), (.bool false), (.int .u64 0), (.int .u64 0), (.int .u64 0), (.int .u64 0), (.int .u64 0), (.int .u64 0), (.int .i64 0)] [(1, 1, (.c (.bool true))), (4, 4, (.t 11))]⟩, ⟨none, none, .st 9 (.t 2) (.t 12)⟩])
  .ret)))⟩ := by kernel_rfl
/-- bytes.Equal -/
theorem cc56 : compF Try.prog 56 = some ⟨10, [.t 4], (.seq (.ops [⟨(some 4), none, .mv (.c (.bool false))⟩])
  (.seq (.ops [⟨(some 5), none, .mv (.t 0)⟩, ⟨(some 6), none, .str (.t 5)⟩, ⟨(some 7), none, .mv (.t 1)⟩, ⟨(some 8), none, .str (.t 7)⟩, ⟨(some 9), none, .bin .eql (.t 6) (.t 8)⟩, ⟨(some 4), none, .mv (.t 9)⟩])
  .ret))⟩ := by kernel_rfl
/-- medlar/mix.Of -/
theorem cc76 : compF Try.prog 76 = some ⟨10, [.c 2 2 true, .t 3], (.seq (.ops [⟨(some 2), none, .new 25 [(.int .u64 0), (.int .u64 0)]⟩, ⟨(some 3), none, .mv (.c (.int .i64 0))⟩])
  (.seq (.seq (.ops [⟨(some 4), none, .mv (.t 0)⟩, ⟨(some 5), none, .len (.t 4)⟩, ⟨(some 6), none, .bin .neq (.t 5) (.c (.int .i64 16))⟩])
  (.cond (.t 6) (.seq (.ops [⟨(some 7), none, .bld [(.int .u64 0), (.int .u64 0)] []⟩, ⟨none, none, .st 2 (.t 2) (.t 7)⟩, ⟨(some 3), none, .mv (.c (.int .i64 2))⟩])
  .ret)
  .skip))
  (.seq (.ops [⟨(some 8), none, .mv (.t 0)⟩, ⟨(some 9), none, .call 119 [(.t 8)]⟩, ⟨none, none, .st 2 (.t 2) (.t 9)⟩, ⟨(some 3), none, .mv (.c (.int .i64 0))⟩])
  .ret)))⟩ := by kernel_rfl
/-- medlar/seal.Of -/
theorem cc109 : compF Try.prog 109 = some ⟨34, [.c 2 4 true, .t 3], (.seq (.ops [⟨(some 2), none, .new 27 [(.int .u64 0), (.int .u64 0), (.int .u64 0), (.int .u64 0)]⟩, ⟨(some 3), none, .mv (.c (.int .i64 0))⟩])
  (.seq (.seq (.ops [⟨(some 8), none, .mv (.t 0)⟩, ⟨(some 9), none, .len (.t 8)⟩, ⟨(some 10), none, .bin .neq (.t 9) (.c (.int .i64 32))⟩])
  (.cond (.t 10) (.seq (.ops [⟨(some 11), none, .ld (.t 2) 4 true⟩, ⟨none, none, .st 4 (.t 2) (.t 11)⟩, ⟨(some 3), none, .mv (.c (.int .i64 2))⟩])
  .ret)
  .skip))
  (.seq (.ops [⟨(some 13), none, .mv (.t 0)⟩, ⟨(some 14), none, .slc 1 (.t 13) none (some (.c (.int .i64 16))) none⟩, ⟨(some 15), none, .call 76 [(.t 14)]⟩, ⟨(some 12), none, .mv (.t 15)⟩, ⟨(some 16), none, .ext (.t 12) 0⟩, ⟨(some 17), none, .ext (.t 12) 1⟩, ⟨(some 4), none, .new 25 [(.int .u64 0), (.int .u64 0)]⟩, ⟨none, none, .st 2 (.t 4) (.t 16)⟩, ⟨(some 5), none, .mv (.t 17)⟩])
  (.seq (.ops [⟨(some 19), none, .mv (.t 0)⟩, ⟨(some 20), none, .slc 1 (.t 19) (some (.c (.int .i64 16))) none none⟩, ⟨(some 21), none, .call 76 [(.t 20)]⟩, ⟨(some 18), none, .mv (.t 21)⟩, ⟨(some 22), none, .ext (.t 18) 0⟩, ⟨(some 23), none, .ext (.t 18) 1⟩, ⟨(some 6), none, .new 25 [(.int .u64 0), (.int .u64 0)]⟩, ⟨none, none, .st 2 (.t 6) (.t 22)⟩, ⟨(some 7), none, .mv (.t 23)⟩])
  (.seq (.seq (.ops [⟨(some 24), none, .mv (.t 5)⟩, ⟨(some 25), none, .bin .neq (.t 24) (.c (.int .i64 0))⟩, ⟨(some 26), none, .mv (.t 25)⟩, ⟨(some 27), (some (26, false)), .mv (.t 7)⟩, ⟨(some 28), (some (26, false)), .bin .neq (.t 27) (.c (.int .i64 0))⟩, ⟨(some 29), none, .pick (.t 26) (.c (.bool true)) (.t 28)⟩])
  (.cond (.t 29) (.seq (.ops [⟨(some 30), none, .ld (.t 2) 4 true⟩, ⟨none, none, .st 4 (.t 2) (.t 30)⟩, ⟨(some 3), none, .mv (.c (.int .i64 2))⟩])
  .ret)
  .skip))
  (.seq (.ops [⟨(some 31), none, .ld (.t 4) 2 true⟩, ⟨(some 32), none, .ld (.t 6) 2 true⟩, ⟨(some 33), none, .bld [(.int .u64 0), (.int .u64 0), (.int .u64 0), (.int .u64 0)] [(0, 2, (.t 31)), (2, 2, (.t 32))]⟩, ⟨none, none, .st 4 (.t 2) (.t 33)⟩, ⟨(some 3), none, .mv (.c (.int .i64 0))⟩])
  .ret))))))⟩ := by kernel_rfl
/-- medlar/mix.read -/
theorem cc119 : compF Try.prog 119 = some ⟨26, [.c 2 2 true], (.seq (.ops [⟨(some 2), none, .new 25 [(.int .u64 0), (.int .u64 0)]⟩])
  (.seq (.seq (.ops [⟨(some 5), none, .mv (.t 0)⟩, ⟨(some 6), none, .len (.t 5)⟩, ⟨(some 7), none, .mv (.c (.int .i64 0))⟩])
  (.block 0 (.loop (.seq (.ops [⟨(some 8), none, .bin .lss (.t 7) (.t 6)⟩])
  (.seq (.cond (.t 8) .skip
  (.exit 0))
  (.seq (.block 1 (.seq (.ops [⟨(some 9), none, .mv (.t 7)⟩, ⟨(some 10), none, .at_ (.t 5) (.t 7) 1⟩, ⟨(some 11), none, .ld (.t 10) 1 false⟩, ⟨(some 3), none, .mv (.t 9)⟩, ⟨(some 4), none, .mv (.t 11)⟩])
  (.dtl [⟨(some 12), none, .mv (.t 3)⟩, ⟨(some 13), none, .bin .quo (.t 12) (.c (.int .i64 8))⟩, ⟨(some 14), none, .ata (.t 2) (.t 13) 2 1⟩, ⟨(some 15), none, .ld (.t 14) 1 false⟩, ⟨(some 16), none, .mv (.t 4)⟩, ⟨(some 17), none, .conv .u64 (.t 16)⟩, ⟨(some 18), none, .mv (.t 3)⟩, ⟨(some 19), none, .bin .rem (.t 18) (.c (.int .i64 8))⟩, ⟨(some 20), none, .bin .mul (.t 19) (.c (.int .i64 8))⟩, ⟨(some 21), none, .bin .shl (.t 17) (.t 20)⟩, ⟨(some 22), none, .bin .or (.t 15) (.t 21)⟩, ⟨(some 23), none, .ata (.t 2) (.t 13) 2 1⟩] [⟨none, none, .st 1 (.t 23) (.t 22)⟩])))
  (.ops [⟨(some 24), none, .bin .add (.t 7) (.c (.int .i64 1))⟩, ⟨(some 7), none, .mv (.t 24)⟩])))))))
  (.seq (.ops [⟨(some 25), none, .ld (.t 2) 2 true⟩, ⟨none, none, .st 2 (.t 2) (.t 25)⟩])
  .ret)))⟩ := by kernel_rfl
/-- medlar/medlarlaw16.HeadLong -/
theorem cc4 : compF Try.prog 4 = some ⟨84, [.t 4], (.seq (.ops [⟨(some 4), none, .mv (.c (.bool false))⟩])
  (.seq (.ops [⟨(some 14), none, .call 15 []⟩, ⟨(some 5), none, .mv (.t 14)⟩])
  (.seq (.seq (.ops [⟨(some 15), none, .mv (.t 0)⟩, ⟨(some 16), none, .len (.t 15)⟩, ⟨(some 17), none, .bin .gtr (.t 16) (.c (.int .i64 9000))⟩, ⟨(some 18), none, .mv (.t 17)⟩, ⟨(some 19), (some (18, false)), .mv (.t 1)⟩, ⟨(some 20), (some (18, false)), .bin .gtr (.t 19) (.c (.int .i64 1048576))⟩, ⟨(some 21), none, .pick (.t 18) (.c (.bool true)) (.t 20)⟩])
  (.cond (.t 21) (.seq (.ops [⟨(some 22), none, .mv (.t 5)⟩, ⟨(some 4), none, .mv (.t 22)⟩])
  .ret)
  .skip))
  (.seq (.ops [⟨(some 24), none, .mv (.t 1)⟩, ⟨(some 25), none, .call 18 [(.t 24)]⟩, ⟨(some 23), none, .mv (.t 25)⟩, ⟨(some 26), none, .ext (.t 23) 0⟩, ⟨(some 27), none, .ext (.t 23) 1⟩, ⟨(some 6), none, .mv (.t 26)⟩, ⟨(some 7), none, .mv (.t 27)⟩])
  (.seq (.ops [⟨(some 29), none, .mv (.t 1)⟩, ⟨(some 30), none, .bin .add (.t 29) (.c (.int .i64 1))⟩, ⟨(some 31), none, .call 18 [(.t 30)]⟩, ⟨(some 28), none, .mv (.t 31)⟩, ⟨(some 32), none, .ext (.t 28) 0⟩, ⟨(some 33), none, .ext (.t 28) 1⟩, ⟨(some 8), none, .mv (.t 32)⟩, ⟨(some 9), none, .mv (.t 33)⟩])
  (.seq (.seq (.ops [⟨(some 34), none, .mv (.t 7)⟩, ⟨(some 35), none, .bin .eql (.t 34) (.c (.int .i64 0))⟩, ⟨(some 36), none, .mv (.t 35)⟩, ⟨(some 37), (some (36, true)), .mv (.t 9)⟩, ⟨(some 38), (some (36, true)), .bin .eql (.t 37) (.c (.int .i64 0))⟩, ⟨(some 39), none, .pick (.t 36) (.t 38) (.c (.bool false))⟩, ⟨(some 40), none, .mv (.t 39)⟩, ⟨(some 41), (some (40, true)), .mv (.t 8)⟩, ⟨(some 42), (some (40, true)), .mv (.t 6)⟩, ⟨(some 43), (some (40, true)), .bin .add (.t 42) (.c (.int .i64 48))⟩, ⟨(some 44), (some (40, true)), .bin .neq (.t 41) (.t 43)⟩, ⟨(some 45), none, .pick (.t 40) (.t 44) (.c (.bool false))⟩])
  (.cond (.t 45) (.seq (.ops [⟨(some 4), none, .mv (.c (.bool false))⟩])
  .ret)
  .skip))
  (.seq (.ops [⟨(some 47), none, .mv (.t 0)⟩, ⟨(some 48), none, .call 19 [(.t 47)]⟩, ⟨(some 46), none, .mv (.t 48)⟩, ⟨(some 49), none, .ext (.t 46) 0⟩, ⟨(some 50), none, .ext (.t 46) 1⟩, ⟨(some 10), none, .new 31 [(.int .i64 0), (.int .i64 0), (.int .i64 0), (.slice none 0 0), (.bool false), (.bool false), (.int .u64 0), (.int .u64 0), (.int .u64 0), (.int .u64 0), (.int .u64 0), (.int .u64 0), (.int .i64 0)]⟩, ⟨none, none, .st 13 (.t 10) (.t 49)⟩, ⟨(some 11), none, .mv (.t 50)⟩])
  (.seq (.seq (.ops [⟨(some 51), none, .mv (.t 11)⟩, ⟨(some 52), none, .bin .neq (.t 51) (.c (.int .i64 0))⟩])
  (.cond (.t 52) (.seq (.ops [⟨(some 53), none, .mv (.t 5)⟩, ⟨(some 54), none, .mv (.t 53)⟩, ⟨(some 55), (some (54, true)), .adr (.t 10) 3⟩, ⟨(some 56), (some (54, true)), .ld (.t 55) 1 false⟩, ⟨(some 57), (some (54, true)), .len (.t 56)⟩, ⟨(some 58), (some (54, true)), .bin .eql (.t 57) (.c (.int .i64 0))⟩, ⟨(some 59), none, .pick (.t 54) (.t 58) (.c (.bool false))⟩, ⟨(some 4), none, .mv (.t 59)⟩])
  .ret)
  .skip))
  (.seq (.ops [⟨(some 61), none, .adr (.t 10) 3⟩, ⟨(some 62), none, .ld (.t 61) 1 false⟩, ⟨(some 63), none, .len (.t 62)⟩, ⟨(some 64), none, .call 18 [(.t 63)]⟩, ⟨(some 60), none, .mv (.t 64)⟩, ⟨(some 65), none, .ext (.t 60) 0⟩, ⟨(some 66), none, .ext (.t 60) 1⟩, ⟨(some 12), none, .mv (.t 65)⟩, ⟨(some 13), none, .mv (.t 66)⟩])
  (.seq (.ops [⟨(some 67), none, .mv (.t 5)⟩, ⟨(some 68), none, .mv (.t 67)⟩, ⟨(some 69), (some (68, true)), .mv (.t 13)⟩, ⟨(some 70), (some (68, true)), .bin .eql (.t 69) (.c (.int .i64 0))⟩, ⟨(some 71), none, .pick (.t 68) (.t 70) (.c (.bool false))⟩, ⟨(some 72), none, .mv (.t 71)⟩, ⟨(some 73), (some (72, true)), .mv (.t 12)⟩, ⟨(some 74), (some (72, true)), .mv (.t 0)⟩, ⟨(some 75), (some (72, true)), .len (.t 74)⟩, ⟨(some 76), (some (72, true)), .bin .eql (.t 73) (.t 75)⟩, ⟨(some 77), none, .pick (.t 72) (.t 76) (.c (.bool false))⟩, ⟨(some 78), none, .mv (.t 77)⟩, ⟨(some 79), (some (78, true)), .mv (.t 0)⟩, ⟨(some 80), (some (78, true)), .len (.t 79)⟩, ⟨(some 81), (some (78, true)), .bin .rem (.t 80) (.c (.int .i64 48))⟩, ⟨(some 82), (some (78, true)), .bin .eql (.t 81) (.c (.int .i64 47))⟩, ⟨(some 83), none, .pick (.t 78) (.t 82) (.c (.bool false))⟩, ⟨(some 4), none, .mv (.t 83)⟩])
  .ret))))))))))⟩ := by kernel_rfl
end Go.Proofs.Ytmajepinbldneaa
