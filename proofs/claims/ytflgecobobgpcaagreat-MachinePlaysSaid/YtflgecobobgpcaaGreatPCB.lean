/-
  The code of the functions, second part. Conditions: none beyond those that each statement names.
-/
import Derived.Test.YtflgecobobgpcaaGreatPCA
namespace Go.Vm.Code
open Go.Vm
def c135 : AFunc := ⟨4, 63, [.tmp 8, .tmp 9],
 (.seq (g [o 8 (.mv (.c (i 0))), o 9 (.mv (.c (i 0)))])
 (.seq (g [o 15 (.mv (.t 2)), o 16 (.mv (.t 1)), o 17 (.bin .sub (.t 15) (.t 16)), o 10 (.mv (.t 17))])
 (.seq (g [o 11 (.alloc [i 0])])
 (.seq (g [o 18 (.mv (.t 1)), o 19 (.mv (.t 10)), o 20 (.bin .quo (.t 19) (.c (i 4))), o 21 (.bin .mul (.t 20) (.c (i 1))), o 22 (.bin .add (.t 18) (.t 21)), o 12 (.mv (.t 22))])
 (.seq (g [o 23 (.mv (.t 1)), o 24 (.mv (.t 10)), o 25 (.bin .quo (.t 24) (.c (i 4))), o 26 (.bin .mul (.t 25) (.c (i 2))), o 27 (.bin .add (.t 23) (.t 26)), o 13 (.mv (.t 27))])
 (.seq (g [o 28 (.mv (.t 1)), o 29 (.mv (.t 10)), o 30 (.bin .quo (.t 29) (.c (i 4))), o 31 (.bin .mul (.t 30) (.c (i 3))), o 32 (.bin .add (.t 28) (.t 31)), o 14 (.mv (.t 32))])
 (.seq (.seq (g [o 33 (.mv (.t 10)), o 34 (.bin .geq (.t 33) (.c (i 8)))])
 (.cond (.t 34) (.seq (.seq (g [o 35 (.mv (.t 10)), o 36 (.bin .geq (.t 35) (.c (i 50)))])
 (.cond (.t 36) (.seq (g [o 37 (.mv (.t 0)), o 38 (.mv (.t 12)), o 39 (.mv (.t 3)), o 40 (.call (.c (.fn 184 [])) [(.t 37), (.t 38), (.t 11), (.t 39)]), o 12 (.mv (.t 40))])
 (.seq (g [o 41 (.mv (.t 0)), o 42 (.mv (.t 13)), o 43 (.mv (.t 3)), o 44 (.call (.c (.fn 184 [])) [(.t 41), (.t 42), (.t 11), (.t 43)]), o 13 (.mv (.t 44))])
 (g [o 45 (.mv (.t 0)), o 46 (.mv (.t 14)), o 47 (.mv (.t 3)), o 48 (.call (.c (.fn 184 [])) [(.t 45), (.t 46), (.t 11), (.t 47)]), o 14 (.mv (.t 48))])))
 .skip))
 (g [o 49 (.mv (.t 0)), o 50 (.mv (.t 12)), o 51 (.mv (.t 13)), o 52 (.mv (.t 14)), o 53 (.mv (.t 3)), o 54 (.call (.c (.fn 185 [])) [(.t 49), (.t 50), (.t 51), (.t 52), (.t 11), (.t 53)]), o 13 (.mv (.t 54))]))
 .skip))
 (.seq (g [o 55 (.ld1 (.t 11))])
 (.block 0 (.seq (g [o 58 (.bin .eql (.t 55) (.c (i 0))), o 57 (.mv (.t 58))])
 (.cond (.t 57) (.seq (g [o 59 (.mv (.t 13)), o 8 (.mv (.t 59)), o 9 (.mv (.c (i 1)))])
 .ret)
 (.seq (g [o 61 (.bin .eql (.t 55) (.c (i 12))), o 60 (.mv (.t 61))])
 (.cond (.t 60) (.seq (g [o 62 (.mv (.t 13)), o 8 (.mv (.t 62)), o 9 (.mv (.c (i 2)))])
 .ret)
 (.seq (g [o 56 (.mv (.t 13)), o 8 (.mv (.t 56)), o 9 (.mv (.c (i 0)))])
 .ret))))))))))))))⟩

def v136_0 : AC := .dreg [0, 1, 2, 3, 4, 5, 6, 7, 8, 9, 10, 11, 12, 13, 14, 15] [o 16 (.mv (.t 0)), o 17 (.mv (.t 8)), o 18 (.mv (.t 0)), o 19 (.mv (.t 9)), o 20 (.mv (.t 0)), o 21 (.mv (.t 9)), o 22 (.ixS 8 (.t 20) (.t 21)), o 23 (.ldN 8 (.t 22)), o 24 (.mv (.t 0)), o 25 (.mv (.t 8)), o 26 (.ixS 8 (.t 24) (.t 25)), o 27 (.ldN 8 (.t 26)), o 28 (.ixS 8 (.t 16) (.t 17)), e (.st 8 (.t 28) (.t 23)), o 29 (.ixS 8 (.t 18) (.t 19)), e (.st 8 (.t 29) (.t 27))] none
def w136_0 : AC := .loop [0, 8, 9]
 (.seq (.seq (g [o 13 (.mv (.t 8)), o 14 (.mv (.t 9)), o 15 (.bin .lss (.t 13) (.t 14))])
 (.cond (.t 15) .skip
 (.exit 0)))
 (.block 1 (.seq v136_0
 (.seq (g [o 30 (.mv (.t 8)), o 31 (.bin .add (.t 30) (.c (i 1))), o 8 (.mv (.t 31))])
 (g [o 32 (.mv (.t 9)), o 33 (.bin .sub (.t 32) (.c (i 1))), o 9 (.mv (.t 33))])))))
def c136 : AFunc := ⟨4, 34, [],
 (.seq (g [o 10 (.mv (.t 1)), o 8 (.mv (.t 10))])
 (.seq (g [o 11 (.mv (.t 2)), o 12 (.bin .sub (.t 11) (.c (i 1))), o 9 (.mv (.t 12))])
 (.block 0 w136_0)))⟩

def v137_0 : AC := .dreg [0, 1, 2, 3, 4, 5, 6, 7, 8, 9, 10, 11, 12, 13, 14, 15, 16, 17] [o 19 (.mv (.t 9)), o 20 (.mv (.t 2)), o 21 (.bin .lss (.t 19) (.t 20)), o 22 (.mv (.t 21)), ⟨(some 23), .mv (.t 3), (some (22, true)), []⟩, ⟨(some 24), .mv (.t 0), (some (22, true)), []⟩, ⟨(some 25), .mv (.t 9), (some (22, true)), []⟩, ⟨(some 26), .ixS 8 (.t 24) (.t 25), (some (22, true)), []⟩, ⟨(some 27), .ldN 8 (.t 26), (some (22, true)), []⟩, ⟨(some 28), .mv (.t 0), (some (22, true)), []⟩, ⟨(some 29), .mv (.t 9), (some (22, true)), []⟩, ⟨(some 30), .bin .sub (.t 29) (.c (i 1)), (some (22, true)), []⟩, ⟨(some 31), .ixS 8 (.t 28) (.t 30), (some (22, true)), []⟩, ⟨(some 32), .ldN 8 (.t 31), (some (22, true)), []⟩, ⟨(some 33), .call (.t 23) [(.t 27), (.t 32)], (some (22, true)), []⟩, ⟨(some 34), .bin .lss (.t 33) (.c (i 0)), (some (22, true)), []⟩, ⟨(some 35), .un .not (.t 34), (some (22, true)), []⟩, o 36 (.pick (.t 22) (.t 35) (.c (.bool false)))] none
def w137_0 : AC := .loop [0, 1, 2, 3, 9, 10]
 (.seq (.seq v137_0
 (.cond (.t 36) .skip
 (.exit 2)))
 (.block 3 (g [o 37 (.mv (.t 9)), o 38 (.bin .add (.t 37) (.c (i 1))), o 9 (.mv (.t 38))])))
def v137_1 : AC := .dreg [0, 1, 2, 3, 4, 5, 6, 7, 8, 9, 10, 11, 12, 13, 14, 15, 16, 17] [o 46 (.mv (.t 0)), o 47 (.mv (.t 9)), o 48 (.mv (.t 0)), o 49 (.mv (.t 9)), o 50 (.bin .sub (.t 49) (.c (i 1))), o 51 (.mv (.t 0)), o 52 (.mv (.t 9)), o 53 (.bin .sub (.t 52) (.c (i 1))), o 54 (.ixS 8 (.t 51) (.t 53)), o 55 (.ldN 8 (.t 54)), o 56 (.mv (.t 0)), o 57 (.mv (.t 9)), o 58 (.ixS 8 (.t 56) (.t 57)), o 59 (.ldN 8 (.t 58)), o 60 (.ixS 8 (.t 46) (.t 47)), e (.st 8 (.t 60) (.t 55)), o 61 (.ixS 8 (.t 48) (.t 50)), e (.st 8 (.t 61) (.t 59))] none
def v137_2 : AC := .dreg [0, 1, 2, 3, 4, 5, 6, 7, 8, 9, 10, 11, 12] [o 72 (.mv (.t 3)), o 73 (.mv (.t 0)), o 74 (.mv (.t 11)), o 75 (.ixS 8 (.t 73) (.t 74)), o 76 (.ldN 8 (.t 75)), o 77 (.mv (.t 0)), o 78 (.mv (.t 11)), o 79 (.bin .sub (.t 78) (.c (i 1))), o 80 (.ixS 8 (.t 77) (.t 79)), o 81 (.ldN 8 (.t 80)), o 82 (.call (.t 72) [(.t 76), (.t 81)]), o 83 (.bin .lss (.t 82) (.c (i 0))), o 84 (.un .not (.t 83))] none
def v137_3 : AC := .dreg [0, 1, 2, 3, 4, 5, 6, 7, 8, 9, 10, 11, 12, 13, 14, 15, 16, 17] [o 85 (.mv (.t 0)), o 86 (.mv (.t 11)), o 87 (.mv (.t 0)), o 88 (.mv (.t 11)), o 89 (.bin .sub (.t 88) (.c (i 1))), o 90 (.mv (.t 0)), o 91 (.mv (.t 11)), o 92 (.bin .sub (.t 91) (.c (i 1))), o 93 (.ixS 8 (.t 90) (.t 92)), o 94 (.ldN 8 (.t 93)), o 95 (.mv (.t 0)), o 96 (.mv (.t 11)), o 97 (.ixS 8 (.t 95) (.t 96)), o 98 (.ldN 8 (.t 97)), o 99 (.ixS 8 (.t 85) (.t 86)), e (.st 8 (.t 99) (.t 94)), o 100 (.ixS 8 (.t 87) (.t 89)), e (.st 8 (.t 100) (.t 98))] none
def w137_1 : AC := .loop [0, 1, 2, 3, 9, 10, 11]
 (.seq (.seq (g [o 68 (.mv (.t 11)), o 69 (.bin .geq (.t 68) (.c (i 1)))])
 (.cond (.t 69) .skip
 (.exit 4)))
 (.seq (.block 5 (.seq (.seq v137_2
 (.cond (.t 84) (.exit 4)
 .skip))
 v137_3))
 (g [o 70 (.mv (.t 11)), o 71 (.bin .sub (.t 70) (.c (i 1))), o 11 (.mv (.t 71))])))
def v137_4 : AC := .dreg [0, 1, 2, 3, 4, 5, 6, 7, 8, 9, 10, 11, 12] [o 112 (.mv (.t 3)), o 113 (.mv (.t 0)), o 114 (.mv (.t 12)), o 115 (.ixS 8 (.t 113) (.t 114)), o 116 (.ldN 8 (.t 115)), o 117 (.mv (.t 0)), o 118 (.mv (.t 12)), o 119 (.bin .sub (.t 118) (.c (i 1))), o 120 (.ixS 8 (.t 117) (.t 119)), o 121 (.ldN 8 (.t 120)), o 122 (.call (.t 112) [(.t 116), (.t 121)]), o 123 (.bin .lss (.t 122) (.c (i 0))), o 124 (.un .not (.t 123))] none
def v137_5 : AC := .dreg [0, 1, 2, 3, 4, 5, 6, 7, 8, 9, 10, 11, 12, 13, 14, 15, 16, 17] [o 125 (.mv (.t 0)), o 126 (.mv (.t 12)), o 127 (.mv (.t 0)), o 128 (.mv (.t 12)), o 129 (.bin .sub (.t 128) (.c (i 1))), o 130 (.mv (.t 0)), o 131 (.mv (.t 12)), o 132 (.bin .sub (.t 131) (.c (i 1))), o 133 (.ixS 8 (.t 130) (.t 132)), o 134 (.ldN 8 (.t 133)), o 135 (.mv (.t 0)), o 136 (.mv (.t 12)), o 137 (.ixS 8 (.t 135) (.t 136)), o 138 (.ldN 8 (.t 137)), o 139 (.ixS 8 (.t 125) (.t 126)), e (.st 8 (.t 139) (.t 134)), o 140 (.ixS 8 (.t 127) (.t 129)), e (.st 8 (.t 140) (.t 138))] none
def w137_2 : AC := .loop [0, 1, 2, 3, 9, 10, 12]
 (.seq (.seq (g [o 107 (.mv (.t 12)), o 108 (.mv (.t 2)), o 109 (.bin .lss (.t 107) (.t 108))])
 (.cond (.t 109) .skip
 (.exit 6)))
 (.seq (.block 7 (.seq (.seq v137_4
 (.cond (.t 124) (.exit 6)
 .skip))
 v137_5))
 (g [o 110 (.mv (.t 12)), o 111 (.bin .add (.t 110) (.c (i 1))), o 12 (.mv (.t 111))])))
def w137_3 : AC := .loop [0, 1, 2, 3, 9, 10]
 (.seq (.seq (g [o 15 (.mv (.t 10)), o 16 (.bin .lss (.t 15) (.c (i 5)))])
 (.cond (.t 16) .skip
 (.exit 0)))
 (.seq (.block 1 (.seq (.block 2 w137_0)
 (.seq (.seq (g [o 39 (.mv (.t 9)), o 40 (.mv (.t 2)), o 41 (.bin .eql (.t 39) (.t 40))])
 (.cond (.t 41) (.seq (g [o 8 (.mv (.c (.bool true)))])
 .ret)
 .skip))
 (.seq (.seq (g [o 42 (.mv (.t 2)), o 43 (.mv (.t 1)), o 44 (.bin .sub (.t 42) (.t 43)), o 45 (.bin .lss (.t 44) (.c (i 50)))])
 (.cond (.t 45) (.seq (g [o 8 (.mv (.c (.bool false)))])
 .ret)
 .skip))
 (.seq v137_1
 (.seq (.seq (g [o 62 (.mv (.t 9)), o 63 (.mv (.t 1)), o 64 (.bin .sub (.t 62) (.t 63)), o 65 (.bin .geq (.t 64) (.c (i 2)))])
 (.cond (.t 65) (.seq (g [o 66 (.mv (.t 9)), o 67 (.bin .sub (.t 66) (.c (i 1))), o 11 (.mv (.t 67))])
 (.block 4 w137_1))
 .skip))
 (.seq (g [o 101 (.mv (.t 2)), o 102 (.mv (.t 9)), o 103 (.bin .sub (.t 101) (.t 102)), o 104 (.bin .geq (.t 103) (.c (i 2)))])
 (.cond (.t 104) (.seq (g [o 105 (.mv (.t 9)), o 106 (.bin .add (.t 105) (.c (i 1))), o 12 (.mv (.t 106))])
 (.block 6 w137_2))
 .skip))))))))
 (g [o 17 (.mv (.t 10)), o 18 (.bin .add (.t 17) (.c (i 1))), o 10 (.mv (.t 18))])))
def c137 : AFunc := ⟨4, 141, [.tmp 8],
 (.seq (g [o 8 (.mv (.c (.bool false)))])
 (.seq (g [o 13 (.mv (.t 1)), o 14 (.bin .add (.t 13) (.c (i 1))), o 9 (.mv (.t 14))])
 (.seq (.seq (g [o 10 (.mv (.c (i 0)))])
 (.block 0 w137_3))
 (.seq (g [o 8 (.mv (.c (.bool false)))])
 .ret))))⟩

def v138_0 : AC := .dreg [0, 1, 2, 3, 4, 5, 6, 7, 8, 9, 10, 11, 12, 13, 14, 15] [o 13 (.mv (.t 0)), o 14 (.mv (.t 1)), o 15 (.mv (.t 0)), o 16 (.mv (.t 3)), o 17 (.mv (.t 0)), o 18 (.mv (.t 3)), o 19 (.ixS 8 (.t 17) (.t 18)), o 20 (.ldN 8 (.t 19)), o 21 (.mv (.t 0)), o 22 (.mv (.t 1)), o 23 (.ixS 8 (.t 21) (.t 22)), o 24 (.ldN 8 (.t 23)), o 25 (.ixS 8 (.t 13) (.t 14)), e (.st 8 (.t 25) (.t 20)), o 26 (.ixS 8 (.t 15) (.t 16)), e (.st 8 (.t 26) (.t 24))] none
def v138_1 : AC := .dreg [0, 1, 2, 3, 4, 5, 6, 7, 8, 9, 10, 11, 12, 13, 14, 15, 16] [o 31 (.mv (.t 11)), o 32 (.mv (.t 12)), o 33 (.bin .leq (.t 31) (.t 32)), o 34 (.mv (.t 33)), ⟨(some 35), .mv (.t 4), (some (34, true)), []⟩, ⟨(some 36), .mv (.t 0), (some (34, true)), []⟩, ⟨(some 37), .mv (.t 1), (some (34, true)), []⟩, ⟨(some 38), .ixS 8 (.t 36) (.t 37), (some (34, true)), []⟩, ⟨(some 39), .ldN 8 (.t 38), (some (34, true)), []⟩, ⟨(some 40), .mv (.t 0), (some (34, true)), []⟩, ⟨(some 41), .mv (.t 11), (some (34, true)), []⟩, ⟨(some 42), .ixS 8 (.t 40) (.t 41), (some (34, true)), []⟩, ⟨(some 43), .ldN 8 (.t 42), (some (34, true)), []⟩, ⟨(some 44), .call (.t 35) [(.t 39), (.t 43)], (some (34, true)), []⟩, ⟨(some 45), .bin .lss (.t 44) (.c (i 0)), (some (34, true)), []⟩, ⟨(some 46), .un .not (.t 45), (some (34, true)), []⟩, o 47 (.pick (.t 34) (.t 46) (.c (.bool false)))] none
def w138_0 : AC := .loop [0, 1, 4, 11, 12]
 (.seq (.seq v138_1
 (.cond (.t 47) .skip
 (.exit 2)))
 (.block 3 (g [o 48 (.mv (.t 11)), o 49 (.bin .add (.t 48) (.c (i 1))), o 11 (.mv (.t 49))])))
def v138_2 : AC := .dreg [0, 1, 2, 3, 4, 5, 6, 7, 8, 9, 10, 11, 12, 13, 14, 15] [o 50 (.mv (.t 11)), o 51 (.mv (.t 12)), o 52 (.bin .leq (.t 50) (.t 51)), o 53 (.mv (.t 52)), ⟨(some 54), .mv (.t 4), (some (53, true)), []⟩, ⟨(some 55), .mv (.t 0), (some (53, true)), []⟩, ⟨(some 56), .mv (.t 1), (some (53, true)), []⟩, ⟨(some 57), .ixS 8 (.t 55) (.t 56), (some (53, true)), []⟩, ⟨(some 58), .ldN 8 (.t 57), (some (53, true)), []⟩, ⟨(some 59), .mv (.t 0), (some (53, true)), []⟩, ⟨(some 60), .mv (.t 12), (some (53, true)), []⟩, ⟨(some 61), .ixS 8 (.t 59) (.t 60), (some (53, true)), []⟩, ⟨(some 62), .ldN 8 (.t 61), (some (53, true)), []⟩, ⟨(some 63), .call (.t 54) [(.t 58), (.t 62)], (some (53, true)), []⟩, ⟨(some 64), .bin .lss (.t 63) (.c (i 0)), (some (53, true)), []⟩, o 65 (.pick (.t 53) (.t 64) (.c (.bool false)))] none
def w138_1 : AC := .loop [0, 1, 4, 11, 12]
 (.seq (.seq v138_2
 (.cond (.t 65) .skip
 (.exit 4)))
 (.block 5 (g [o 66 (.mv (.t 12)), o 67 (.bin .sub (.t 66) (.c (i 1))), o 12 (.mv (.t 67))])))
def v138_3 : AC := .dreg [0, 1, 2, 3, 4, 5, 6, 7, 8, 9, 10, 11, 12, 13, 14, 15] [o 71 (.mv (.t 0)), o 72 (.mv (.t 11)), o 73 (.mv (.t 0)), o 74 (.mv (.t 12)), o 75 (.mv (.t 0)), o 76 (.mv (.t 12)), o 77 (.ixS 8 (.t 75) (.t 76)), o 78 (.ldN 8 (.t 77)), o 79 (.mv (.t 0)), o 80 (.mv (.t 11)), o 81 (.ixS 8 (.t 79) (.t 80)), o 82 (.ldN 8 (.t 81)), o 83 (.ixS 8 (.t 71) (.t 72)), e (.st 8 (.t 83) (.t 78)), o 84 (.ixS 8 (.t 73) (.t 74)), e (.st 8 (.t 84) (.t 82))] none
def w138_2 : AC := .loop [0, 1, 4, 11, 12]
 (.block 1 (.seq (.block 2 w138_0)
 (.seq (.block 4 w138_1)
 (.seq (.seq (g [o 68 (.mv (.t 11)), o 69 (.mv (.t 12)), o 70 (.bin .gtr (.t 68) (.t 69))])
 (.cond (.t 70) (.exit 0)
 .skip))
 (.seq v138_3
 (.seq (g [o 85 (.mv (.t 11)), o 86 (.bin .add (.t 85) (.c (i 1))), o 11 (.mv (.t 86))])
 (g [o 87 (.mv (.t 12)), o 88 (.bin .sub (.t 87) (.c (i 1))), o 12 (.mv (.t 88))])))))))
def c138 : AFunc := ⟨5, 90, [.tmp 10],
 (.seq (g [o 10 (.mv (.c (i 0)))])
 (.seq v138_0
 (.seq (g [o 27 (.mv (.t 1)), o 28 (.bin .add (.t 27) (.c (i 1))), o 29 (.mv (.t 2)), o 30 (.bin .sub (.t 29) (.c (i 1))), o 11 (.mv (.t 28)), o 12 (.mv (.t 30))])
 (.seq (.block 0 w138_2)
 (.seq (g [o 89 (.mv (.t 11)), o 10 (.mv (.t 89))])
 .ret)))))⟩

def v139_0 : AC := .dreg [0, 1, 2, 3, 4, 5, 6, 7, 8, 9, 10, 11, 12, 13, 14, 15] [o 14 (.mv (.t 0)), o 15 (.mv (.t 1)), o 16 (.mv (.t 0)), o 17 (.mv (.t 3)), o 18 (.mv (.t 0)), o 19 (.mv (.t 3)), o 20 (.ixS 8 (.t 18) (.t 19)), o 21 (.ldN 8 (.t 20)), o 22 (.mv (.t 0)), o 23 (.mv (.t 1)), o 24 (.ixS 8 (.t 22) (.t 23)), o 25 (.ldN 8 (.t 24)), o 26 (.ixS 8 (.t 14) (.t 15)), e (.st 8 (.t 26) (.t 21)), o 27 (.ixS 8 (.t 16) (.t 17)), e (.st 8 (.t 27) (.t 25))] none
def v139_1 : AC := .dreg [0, 1, 2, 3, 4, 5, 6, 7, 8, 9, 10, 11, 12, 13, 14, 15] [o 32 (.mv (.t 12)), o 33 (.mv (.t 13)), o 34 (.bin .leq (.t 32) (.t 33)), o 35 (.mv (.t 34)), ⟨(some 36), .mv (.t 4), (some (35, true)), []⟩, ⟨(some 37), .mv (.t 0), (some (35, true)), []⟩, ⟨(some 38), .mv (.t 12), (some (35, true)), []⟩, ⟨(some 39), .ixS 8 (.t 37) (.t 38), (some (35, true)), []⟩, ⟨(some 40), .ldN 8 (.t 39), (some (35, true)), []⟩, ⟨(some 41), .mv (.t 0), (some (35, true)), []⟩, ⟨(some 42), .mv (.t 1), (some (35, true)), []⟩, ⟨(some 43), .ixS 8 (.t 41) (.t 42), (some (35, true)), []⟩, ⟨(some 44), .ldN 8 (.t 43), (some (35, true)), []⟩, ⟨(some 45), .call (.t 36) [(.t 40), (.t 44)], (some (35, true)), []⟩, ⟨(some 46), .bin .lss (.t 45) (.c (i 0)), (some (35, true)), []⟩, o 47 (.pick (.t 35) (.t 46) (.c (.bool false)))] none
def w139_0 : AC := .loop [0, 1, 4, 12, 13]
 (.seq (.seq v139_1
 (.cond (.t 47) .skip
 (.exit 0)))
 (.block 1 (g [o 48 (.mv (.t 12)), o 49 (.bin .add (.t 48) (.c (i 1))), o 12 (.mv (.t 49))])))
def v139_2 : AC := .dreg [0, 1, 2, 3, 4, 5, 6, 7, 8, 9, 10, 11, 12, 13, 14, 15, 16] [o 50 (.mv (.t 12)), o 51 (.mv (.t 13)), o 52 (.bin .leq (.t 50) (.t 51)), o 53 (.mv (.t 52)), ⟨(some 54), .mv (.t 4), (some (53, true)), []⟩, ⟨(some 55), .mv (.t 0), (some (53, true)), []⟩, ⟨(some 56), .mv (.t 13), (some (53, true)), []⟩, ⟨(some 57), .ixS 8 (.t 55) (.t 56), (some (53, true)), []⟩, ⟨(some 58), .ldN 8 (.t 57), (some (53, true)), []⟩, ⟨(some 59), .mv (.t 0), (some (53, true)), []⟩, ⟨(some 60), .mv (.t 1), (some (53, true)), []⟩, ⟨(some 61), .ixS 8 (.t 59) (.t 60), (some (53, true)), []⟩, ⟨(some 62), .ldN 8 (.t 61), (some (53, true)), []⟩, ⟨(some 63), .call (.t 54) [(.t 58), (.t 62)], (some (53, true)), []⟩, ⟨(some 64), .bin .lss (.t 63) (.c (i 0)), (some (53, true)), []⟩, ⟨(some 65), .un .not (.t 64), (some (53, true)), []⟩, o 66 (.pick (.t 53) (.t 65) (.c (.bool false)))] none
def w139_1 : AC := .loop [0, 1, 4, 12, 13]
 (.seq (.seq v139_2
 (.cond (.t 66) .skip
 (.exit 2)))
 (.block 3 (g [o 67 (.mv (.t 13)), o 68 (.bin .sub (.t 67) (.c (i 1))), o 13 (.mv (.t 68))])))
def v139_3 : AC := .dreg [0, 1, 2, 3, 4, 5, 6, 7, 8, 9, 10, 11, 12, 13, 14, 15] [o 72 (.mv (.t 0)), o 73 (.mv (.t 13)), o 74 (.mv (.t 0)), o 75 (.mv (.t 1)), o 76 (.mv (.t 0)), o 77 (.mv (.t 1)), o 78 (.ixS 8 (.t 76) (.t 77)), o 79 (.ldN 8 (.t 78)), o 80 (.mv (.t 0)), o 81 (.mv (.t 13)), o 82 (.ixS 8 (.t 80) (.t 81)), o 83 (.ldN 8 (.t 82)), o 84 (.ixS 8 (.t 72) (.t 73)), e (.st 8 (.t 84) (.t 79)), o 85 (.ixS 8 (.t 74) (.t 75)), e (.st 8 (.t 85) (.t 83))] none
def v139_4 : AC := .dreg [0, 1, 2, 3, 4, 5, 6, 7, 8, 9, 10, 11, 12, 13, 14, 15] [o 87 (.mv (.t 0)), o 88 (.mv (.t 12)), o 89 (.mv (.t 0)), o 90 (.mv (.t 13)), o 91 (.mv (.t 0)), o 92 (.mv (.t 13)), o 93 (.ixS 8 (.t 91) (.t 92)), o 94 (.ldN 8 (.t 93)), o 95 (.mv (.t 0)), o 96 (.mv (.t 12)), o 97 (.ixS 8 (.t 95) (.t 96)), o 98 (.ldN 8 (.t 97)), o 99 (.ixS 8 (.t 87) (.t 88)), e (.st 8 (.t 99) (.t 94)), o 100 (.ixS 8 (.t 89) (.t 90)), e (.st 8 (.t 100) (.t 98))] none
def v139_5 : AC := .dreg [0, 1, 2, 3, 4, 5, 6, 7, 8, 9, 10, 11, 12, 13, 14, 15] [o 105 (.mv (.t 12)), o 106 (.mv (.t 13)), o 107 (.bin .leq (.t 105) (.t 106)), o 108 (.mv (.t 107)), ⟨(some 109), .mv (.t 4), (some (108, true)), []⟩, ⟨(some 110), .mv (.t 0), (some (108, true)), []⟩, ⟨(some 111), .mv (.t 12), (some (108, true)), []⟩, ⟨(some 112), .ixS 8 (.t 110) (.t 111), (some (108, true)), []⟩, ⟨(some 113), .ldN 8 (.t 112), (some (108, true)), []⟩, ⟨(some 114), .mv (.t 0), (some (108, true)), []⟩, ⟨(some 115), .mv (.t 1), (some (108, true)), []⟩, ⟨(some 116), .ixS 8 (.t 114) (.t 115), (some (108, true)), []⟩, ⟨(some 117), .ldN 8 (.t 116), (some (108, true)), []⟩, ⟨(some 118), .call (.t 109) [(.t 113), (.t 117)], (some (108, true)), []⟩, ⟨(some 119), .bin .lss (.t 118) (.c (i 0)), (some (108, true)), []⟩, o 120 (.pick (.t 108) (.t 119) (.c (.bool false)))] none
def w139_2 : AC := .loop [0, 1, 4, 12, 13]
 (.seq (.seq v139_5
 (.cond (.t 120) .skip
 (.exit 6)))
 (.block 7 (g [o 121 (.mv (.t 12)), o 122 (.bin .add (.t 121) (.c (i 1))), o 12 (.mv (.t 122))])))
def v139_6 : AC := .dreg [0, 1, 2, 3, 4, 5, 6, 7, 8, 9, 10, 11, 12, 13, 14, 15, 16] [o 123 (.mv (.t 12)), o 124 (.mv (.t 13)), o 125 (.bin .leq (.t 123) (.t 124)), o 126 (.mv (.t 125)), ⟨(some 127), .mv (.t 4), (some (126, true)), []⟩, ⟨(some 128), .mv (.t 0), (some (126, true)), []⟩, ⟨(some 129), .mv (.t 13), (some (126, true)), []⟩, ⟨(some 130), .ixS 8 (.t 128) (.t 129), (some (126, true)), []⟩, ⟨(some 131), .ldN 8 (.t 130), (some (126, true)), []⟩, ⟨(some 132), .mv (.t 0), (some (126, true)), []⟩, ⟨(some 133), .mv (.t 1), (some (126, true)), []⟩, ⟨(some 134), .ixS 8 (.t 132) (.t 133), (some (126, true)), []⟩, ⟨(some 135), .ldN 8 (.t 134), (some (126, true)), []⟩, ⟨(some 136), .call (.t 127) [(.t 131), (.t 135)], (some (126, true)), []⟩, ⟨(some 137), .bin .lss (.t 136) (.c (i 0)), (some (126, true)), []⟩, ⟨(some 138), .un .not (.t 137), (some (126, true)), []⟩, o 139 (.pick (.t 126) (.t 138) (.c (.bool false)))] none
def w139_3 : AC := .loop [0, 1, 4, 12, 13]
 (.seq (.seq v139_6
 (.cond (.t 139) .skip
 (.exit 8)))
 (.block 9 (g [o 140 (.mv (.t 13)), o 141 (.bin .sub (.t 140) (.c (i 1))), o 13 (.mv (.t 141))])))
def v139_7 : AC := .dreg [0, 1, 2, 3, 4, 5, 6, 7, 8, 9, 10, 11, 12, 13, 14, 15] [o 145 (.mv (.t 0)), o 146 (.mv (.t 12)), o 147 (.mv (.t 0)), o 148 (.mv (.t 13)), o 149 (.mv (.t 0)), o 150 (.mv (.t 13)), o 151 (.ixS 8 (.t 149) (.t 150)), o 152 (.ldN 8 (.t 151)), o 153 (.mv (.t 0)), o 154 (.mv (.t 12)), o 155 (.ixS 8 (.t 153) (.t 154)), o 156 (.ldN 8 (.t 155)), o 157 (.ixS 8 (.t 145) (.t 146)), e (.st 8 (.t 157) (.t 152)), o 158 (.ixS 8 (.t 147) (.t 148)), e (.st 8 (.t 158) (.t 156))] none
def w139_4 : AC := .loop [0, 1, 4, 12, 13]
 (.block 5 (.seq (.block 6 w139_2)
 (.seq (.block 8 w139_3)
 (.seq (.seq (g [o 142 (.mv (.t 12)), o 143 (.mv (.t 13)), o 144 (.bin .gtr (.t 142) (.t 143))])
 (.cond (.t 144) (.exit 4)
 .skip))
 (.seq v139_7
 (.seq (g [o 159 (.mv (.t 12)), o 160 (.bin .add (.t 159) (.c (i 1))), o 12 (.mv (.t 160))])
 (g [o 161 (.mv (.t 13)), o 162 (.bin .sub (.t 161) (.c (i 1))), o 13 (.mv (.t 162))])))))))
def v139_8 : AC := .dreg [0, 1, 2, 3, 4, 5, 6, 7, 8, 9, 10, 11, 12, 13, 14, 15] [o 163 (.mv (.t 0)), o 164 (.mv (.t 13)), o 165 (.mv (.t 0)), o 166 (.mv (.t 1)), o 167 (.mv (.t 0)), o 168 (.mv (.t 1)), o 169 (.ixS 8 (.t 167) (.t 168)), o 170 (.ldN 8 (.t 169)), o 171 (.mv (.t 0)), o 172 (.mv (.t 13)), o 173 (.ixS 8 (.t 171) (.t 172)), o 174 (.ldN 8 (.t 173)), o 175 (.ixS 8 (.t 163) (.t 164)), e (.st 8 (.t 175) (.t 170)), o 176 (.ixS 8 (.t 165) (.t 166)), e (.st 8 (.t 176) (.t 174))] none
def c139 : AFunc := ⟨5, 178, [.tmp 10, .tmp 11],
 (.seq (g [o 10 (.mv (.c (i 0))), o 11 (.mv (.c (.bool false)))])
 (.seq v139_0
 (.seq (g [o 28 (.mv (.t 1)), o 29 (.bin .add (.t 28) (.c (i 1))), o 30 (.mv (.t 2)), o 31 (.bin .sub (.t 30) (.c (i 1))), o 12 (.mv (.t 29)), o 13 (.mv (.t 31))])
 (.seq (.block 0 w139_0)
 (.seq (.block 2 w139_1)
 (.seq (.seq (g [o 69 (.mv (.t 12)), o 70 (.mv (.t 13)), o 71 (.bin .gtr (.t 69) (.t 70))])
 (.cond (.t 71) (.seq v139_3
 (.seq (g [o 86 (.mv (.t 13)), o 10 (.mv (.t 86)), o 11 (.mv (.c (.bool true)))])
 .ret))
 .skip))
 (.seq v139_4
 (.seq (g [o 101 (.mv (.t 12)), o 102 (.bin .add (.t 101) (.c (i 1))), o 12 (.mv (.t 102))])
 (.seq (g [o 103 (.mv (.t 13)), o 104 (.bin .sub (.t 103) (.c (i 1))), o 13 (.mv (.t 104))])
 (.seq (.block 4 w139_4)
 (.seq v139_8
 (.seq (g [o 177 (.mv (.t 13)), o 10 (.mv (.t 177)), o 11 (.mv (.c (.bool false)))])
 .ret))))))))))))⟩

def c140 : AFunc := ⟨1, 19, [.tmp 2],
 (.seq (g [o 2 (.mv (.c (i 0)))])
 (.seq (.seq (g [o 3 (.mv (.t 0)), o 4 (.bin .geq (.t 3) (.c (.int .u32 65536)))])
 (.cond (.t 4) (.seq (g [o 5 (.mv (.t 0)), o 6 (.bin .shr (.t 5) (.c (.int .u64 16))), o 0 (.mv (.t 6))])
 (g [o 2 (.mv (.c (i 16)))]))
 .skip))
 (.seq (.seq (g [o 7 (.mv (.t 0)), o 8 (.bin .geq (.t 7) (.c (.int .u32 256)))])
 (.cond (.t 8) (.seq (g [o 9 (.mv (.t 0)), o 10 (.bin .shr (.t 9) (.c (.int .u64 8))), o 0 (.mv (.t 10))])
 (g [o 11 (.mv (.t 2)), o 12 (.bin .add (.t 11) (.c (i 8))), o 2 (.mv (.t 12))]))
 .skip))
 (.seq (g [o 13 (.mv (.t 2)), o 14 (.mv (.t 0)), o 15 (.conv .u8 (.t 14)), o 16 (.idxStr (.c (.str ⟨#[0, 1, 2, 2, 3, 3, 3, 3, 4, 4, 4, 4, 4, 4, 4, 4, 5, 5, 5, 5, 5, 5, 5, 5, 5, 5, 5, 5, 5, 5, 5, 5, 6, 6, 6, 6, 6, 6, 6, 6, 6, 6, 6, 6, 6, 6, 6, 6, 6, 6, 6, 6, 6, 6, 6, 6, 6, 6, 6, 6, 6, 6, 6, 6, 7, 7, 7, 7, 7, 7, 7, 7, 7, 7, 7, 7, 7, 7, 7, 7, 7, 7, 7, 7, 7, 7, 7, 7, 7, 7, 7, 7, 7, 7, 7, 7, 7, 7, 7, 7, 7, 7, 7, 7, 7, 7, 7, 7, 7, 7, 7, 7, 7, 7, 7, 7, 7, 7, 7, 7, 7, 7, 7, 7, 7, 7, 7, 7, 8, 8, 8, 8, 8, 8, 8, 8, 8, 8, 8, 8, 8, 8, 8, 8, 8, 8, 8, 8, 8, 8, 8, 8, 8, 8, 8, 8, 8, 8, 8, 8, 8, 8, 8, 8, 8, 8, 8, 8, 8, 8, 8, 8, 8, 8, 8, 8, 8, 8, 8, 8, 8, 8, 8, 8, 8, 8, 8, 8, 8, 8, 8, 8, 8, 8, 8, 8, 8, 8, 8, 8, 8, 8, 8, 8, 8, 8, 8, 8, 8, 8, 8, 8, 8, 8, 8, 8, 8, 8, 8, 8, 8, 8, 8, 8, 8, 8, 8, 8, 8, 8, 8, 8, 8, 8, 8, 8, 8, 8, 8, 8, 8, 8, 8, 8, 8, 8, 8, 8, 8, 8, 8, 8, 8, 8, 8, 8]⟩)) (.t 15)), o 17 (.conv .i64 (.t 16)), o 18 (.bin .add (.t 13) (.t 17)), o 2 (.mv (.t 18))])
 .ret))))⟩

def c141 : AFunc := ⟨1, 25, [.tmp 2],
 (.seq (g [o 2 (.mv (.c (i 0)))])
 (.seq (.seq (g [o 3 (.mv (.t 0)), o 4 (.bin .geq (.t 3) (.c (.int .u64 4294967296)))])
 (.cond (.t 4) (.seq (g [o 5 (.mv (.t 0)), o 6 (.bin .shr (.t 5) (.c (.int .u64 32))), o 0 (.mv (.t 6))])
 (g [o 2 (.mv (.c (i 32)))]))
 .skip))
 (.seq (.seq (g [o 7 (.mv (.t 0)), o 8 (.bin .geq (.t 7) (.c (.int .u64 65536)))])
 (.cond (.t 8) (.seq (g [o 9 (.mv (.t 0)), o 10 (.bin .shr (.t 9) (.c (.int .u64 16))), o 0 (.mv (.t 10))])
 (g [o 11 (.mv (.t 2)), o 12 (.bin .add (.t 11) (.c (i 16))), o 2 (.mv (.t 12))]))
 .skip))
 (.seq (.seq (g [o 13 (.mv (.t 0)), o 14 (.bin .geq (.t 13) (.c (.int .u64 256)))])
 (.cond (.t 14) (.seq (g [o 15 (.mv (.t 0)), o 16 (.bin .shr (.t 15) (.c (.int .u64 8))), o 0 (.mv (.t 16))])
 (g [o 17 (.mv (.t 2)), o 18 (.bin .add (.t 17) (.c (i 8))), o 2 (.mv (.t 18))]))
 .skip))
 (.seq (g [o 19 (.mv (.t 2)), o 20 (.mv (.t 0)), o 21 (.conv .u8 (.t 20)), o 22 (.idxStr (.c (.str ⟨#[0, 1, 2, 2, 3, 3, 3, 3, 4, 4, 4, 4, 4, 4, 4, 4, 5, 5, 5, 5, 5, 5, 5, 5, 5, 5, 5, 5, 5, 5, 5, 5, 6, 6, 6, 6, 6, 6, 6, 6, 6, 6, 6, 6, 6, 6, 6, 6, 6, 6, 6, 6, 6, 6, 6, 6, 6, 6, 6, 6, 6, 6, 6, 6, 7, 7, 7, 7, 7, 7, 7, 7, 7, 7, 7, 7, 7, 7, 7, 7, 7, 7, 7, 7, 7, 7, 7, 7, 7, 7, 7, 7, 7, 7, 7, 7, 7, 7, 7, 7, 7, 7, 7, 7, 7, 7, 7, 7, 7, 7, 7, 7, 7, 7, 7, 7, 7, 7, 7, 7, 7, 7, 7, 7, 7, 7, 7, 7, 8, 8, 8, 8, 8, 8, 8, 8, 8, 8, 8, 8, 8, 8, 8, 8, 8, 8, 8, 8, 8, 8, 8, 8, 8, 8, 8, 8, 8, 8, 8, 8, 8, 8, 8, 8, 8, 8, 8, 8, 8, 8, 8, 8, 8, 8, 8, 8, 8, 8, 8, 8, 8, 8, 8, 8, 8, 8, 8, 8, 8, 8, 8, 8, 8, 8, 8, 8, 8, 8, 8, 8, 8, 8, 8, 8, 8, 8, 8, 8, 8, 8, 8, 8, 8, 8, 8, 8, 8, 8, 8, 8, 8, 8, 8, 8, 8, 8, 8, 8, 8, 8, 8, 8, 8, 8, 8, 8, 8, 8, 8, 8, 8, 8, 8, 8, 8, 8, 8, 8, 8, 8, 8, 8, 8, 8, 8, 8]⟩)) (.t 21)), o 23 (.conv .i64 (.t 22)), o 24 (.bin .add (.t 19) (.t 23)), o 2 (.mv (.t 24))])
 .ret)))))⟩

def w142_0 : AC := .loop [1, 3]
 (.seq (.seq (g [o 43 (.mv (.t 3)), o 44 (.fa (.t 1) 3), o 45 (.ld1 (.t 44)), o 46 (.lenS (.t 45)), o 47 (.bin .lss (.t 43) (.t 46))])
 (.cond (.t 47) .skip
 (.exit 0)))
 (.seq (.block 1 (.seq (g [o 50 (.ldN 4 (.t 1)), o 51 (.mv (.t 3)), o 52 (.call (.c (.fn 186 [])) [(.t 50), (.t 51)]), o 4 (.mv (.t 52))])
 (.seq (g [o 53 (.mv (.t 4)), o 54 (.bin .neq (.t 53) (.c (i 0)))])
 (.cond (.t 54) (.seq (g [o 55 (.mv (.t 4)), o 2 (.mv (.t 55))])
 .ret)
 .skip))))
 (g [o 48 (.mv (.t 3)), o 49 (.bin .add (.t 48) (.c (i 1))), o 3 (.mv (.t 49))])))
def c142 : AFunc := ⟨1, 56, [.tmp 2],
 (.seq (g [o 1 (.box (.t 0)), o 2 (.mv (.c (i 0)))])
 (.seq (.seq (g [o 5 (.fa (.t 1) 0), o 6 (.ld1 (.t 5)), o 7 (.bin .lss (.t 6) (.c (i 1))), o 8 (.mv (.t 7)), ⟨(some 9), .fa (.t 1) 0, (some (8, false)), []⟩, ⟨(some 10), .ld1 (.t 9), (some (8, false)), []⟩, ⟨(some 11), .bin .gtr (.t 10) (.c (i 5)), (some (8, false)), []⟩, o 12 (.pick (.t 8) (.c (.bool true)) (.t 11)), o 13 (.mv (.t 12)), ⟨(some 14), .fa (.t 1) 1, (some (13, false)), []⟩, ⟨(some 15), .ld1 (.t 14), (some (13, false)), []⟩, ⟨(some 16), .bin .lss (.t 15) (.c (i 1)), (some (13, false)), []⟩, o 17 (.pick (.t 13) (.c (.bool true)) (.t 16)), o 18 (.mv (.t 17)), ⟨(some 19), .fa (.t 1) 1, (some (18, false)), []⟩, ⟨(some 20), .ld1 (.t 19), (some (18, false)), []⟩, ⟨(some 21), .bin .gtr (.t 20) (.c (i 8)), (some (18, false)), []⟩, o 22 (.pick (.t 18) (.c (.bool true)) (.t 21)), o 23 (.mv (.t 22)), ⟨(some 24), .fa (.t 1) 2, (some (23, false)), []⟩, ⟨(some 25), .ld1 (.t 24), (some (23, false)), []⟩, ⟨(some 26), .bin .lss (.t 25) (.c (i 1)), (some (23, false)), []⟩, o 27 (.pick (.t 23) (.c (.bool true)) (.t 26)), o 28 (.mv (.t 27)), ⟨(some 29), .fa (.t 1) 2, (some (28, false)), []⟩, ⟨(some 30), .ld1 (.t 29), (some (28, false)), []⟩, ⟨(some 31), .bin .gtr (.t 30) (.c (i 8)), (some (28, false)), []⟩, o 32 (.pick (.t 28) (.c (.bool true)) (.t 31))])
 (.cond (.t 32) (.seq (g [o 2 (.mv (.c (i 2)))])
 .ret)
 .skip))
 (.seq (.seq (g [o 33 (.fa (.t 1) 3), o 34 (.ld1 (.t 33)), o 35 (.lenS (.t 34)), o 36 (.bin .lss (.t 35) (.c (i 1))), o 37 (.mv (.t 36)), ⟨(some 38), .fa (.t 1) 3, (some (37, false)), []⟩, ⟨(some 39), .ld1 (.t 38), (some (37, false)), []⟩, ⟨(some 40), .lenS (.t 39), (some (37, false)), []⟩, ⟨(some 41), .bin .gtr (.t 40) (.c (i 1024)), (some (37, false)), []⟩, o 42 (.pick (.t 37) (.c (.bool true)) (.t 41))])
 (.cond (.t 42) (.seq (g [o 2 (.mv (.c (i 5)))])
 .ret)
 .skip))
 (.seq (.seq (g [o 3 (.mv (.c (i 0)))])
 (.block 0 w142_0))
 (.seq (g [o 2 (.mv (.c (i 0)))])
 .ret)))))⟩

def v143_0 : AC := .dreg [0, 1, 2, 3, 4, 5, 6, 7, 8] [o 53 (.ldN 2 (.t 1)), o 54 (.fa (.t 1) 1), o 55 (.ld1 (.t 54)), o 56 (.mv (.t 3)), o 57 (.ixS 1 (.t 55) (.t 56)), o 58 (.ld1 (.t 57)), o 59 (.mv (.t 4)), o 60 (.call (.c (.fn 188 [])) [(.t 53), (.t 58), (.t 59)]), o 5 (.mv (.t 60))] none
def w143_0 : AC := .loop [1, 3, 4]
 (.seq (.seq (g [o 43 (.mv (.t 4)), o 44 (.fa (.t 1) 1), o 45 (.ld1 (.t 44)), o 46 (.mv (.t 3)), o 47 (.ixS 1 (.t 45) (.t 46)), o 48 (.ld1 (.t 47)), o 49 (.lenS (.t 48)), o 50 (.bin .lss (.t 43) (.t 49))])
 (.cond (.t 50) .skip
 (.exit 2)))
 (.seq (.block 3 (.seq v143_0
 (.seq (g [o 61 (.mv (.t 5)), o 62 (.bin .neq (.t 61) (.c (i 0)))])
 (.cond (.t 62) (.seq (g [o 63 (.mv (.t 5)), o 2 (.mv (.t 63))])
 .ret)
 .skip))))
 (g [o 51 (.mv (.t 4)), o 52 (.bin .add (.t 51) (.c (i 1))), o 4 (.mv (.t 52))])))
def w143_1 : AC := .loop [1, 3]
 (.seq (.seq (g [o 29 (.mv (.t 3)), o 30 (.fa (.t 1) 1), o 31 (.ld1 (.t 30)), o 32 (.lenS (.t 31)), o 33 (.bin .lss (.t 29) (.t 32))])
 (.cond (.t 33) .skip
 (.exit 0)))
 (.seq (.block 1 (.seq (.seq (g [o 36 (.fa (.t 1) 1), o 37 (.ld1 (.t 36)), o 38 (.mv (.t 3)), o 39 (.ixS 1 (.t 37) (.t 38)), o 40 (.ld1 (.t 39)), o 41 (.lenS (.t 40)), o 42 (.bin .eql (.t 41) (.c (i 0)))])
 (.cond (.t 42) (.seq (g [o 2 (.mv (.c (i 19)))])
 .ret)
 .skip))
 (.seq (g [o 4 (.mv (.c (i 0)))])
 (.block 2 w143_0))))
 (g [o 34 (.mv (.t 3)), o 35 (.bin .add (.t 34) (.c (i 1))), o 3 (.mv (.t 35))])))
def c143 : AFunc := ⟨1, 67, [.tmp 2],
 (.seq (g [o 1 (.box (.t 0)), o 2 (.mv (.c (i 0)))])
 (.seq (.seq (g [o 6 (.fa (.t 1) 0), o 7 (.ld1 (.t 6)), o 8 (.bin .lss (.t 7) (.c (i 1))), o 9 (.mv (.t 8)), ⟨(some 10), .fa (.t 1) 0, (some (9, false)), []⟩, ⟨(some 11), .ld1 (.t 10), (some (9, false)), []⟩, ⟨(some 12), .bin .gtr (.t 11) (.c (i 5)), (some (9, false)), []⟩, o 13 (.pick (.t 9) (.c (.bool true)) (.t 12))])
 (.cond (.t 13) (.seq (g [o 2 (.mv (.c (i 2)))])
 .ret)
 .skip))
 (.seq (.seq (g [o 14 (.fa (.t 1) 1), o 15 (.ld1 (.t 14)), o 16 (.lenS (.t 15)), o 17 (.bin .lss (.t 16) (.c (i 1))), o 18 (.mv (.t 17)), ⟨(some 19), .fa (.t 1) 1, (some (18, false)), []⟩, ⟨(some 20), .ld1 (.t 19), (some (18, false)), []⟩, ⟨(some 21), .lenS (.t 20), (some (18, false)), []⟩, ⟨(some 22), .bin .gtr (.t 21) (.c (i 256)), (some (18, false)), []⟩, o 23 (.pick (.t 18) (.c (.bool true)) (.t 22)), o 24 (.mv (.t 23)), ⟨(some 25), .ldN 2 (.t 1), (some (24, false)), []⟩, ⟨(some 26), .call (.c (.fn 187 [])) [(.t 25)], (some (24, false)), []⟩, ⟨(some 27), .bin .gtr (.t 26) (.c (i 4096)), (some (24, false)), []⟩, o 28 (.pick (.t 24) (.c (.bool true)) (.t 27))])
 (.cond (.t 28) (.seq (g [o 2 (.mv (.c (i 5)))])
 .ret)
 .skip))
 (.seq (.seq (g [o 3 (.mv (.c (i 0)))])
 (.block 0 w143_1))
 (.seq (.seq (g [o 64 (.ldN 2 (.t 1)), o 65 (.call (.c (.fn 189 [])) [(.t 64)]), o 66 (.un .not (.t 65))])
 (.cond (.t 66) (.seq (g [o 2 (.mv (.c (i 21)))])
 .ret)
 .skip))
 (.seq (g [o 2 (.mv (.c (i 0)))])
 .ret))))))⟩

def w144_0 : AC := .loop [1, 2, 3, 7, 8]
 (.seq (.seq (g [o 14 (.mv (.t 8)), o 15 (.fa (.t 3) 1), o 16 (.ld1 (.t 15)), o 17 (.lenS (.t 16)), o 18 (.bin .lss (.t 14) (.t 17))])
 (.cond (.t 18) .skip
 (.exit 0)))
 (.seq (.block 1 (g [o 21 (.mv (.t 7)), o 22 (.bslice 1 [i 0] [(0, 1, (.c (i 1)))]), o 23 (.app 1 8 (.t 21) (.t 22)), o 7 (.mv (.t 23))]))
 (g [o 19 (.mv (.t 8)), o 20 (.bin .add (.t 19) (.c (i 1))), o 8 (.mv (.t 20))])))
def w144_1 : AC := .loop [1, 2, 3, 7, 9, 10, 11, 12, 13]
 (.seq (.seq (g [o 36 (.mv (.t 13)), o 37 (.fa (.t 3) 1), o 38 (.ld1 (.t 37)), o 39 (.mv (.t 11)), o 40 (.ixS 1 (.t 38) (.t 39)), o 41 (.ld1 (.t 40)), o 42 (.lenS (.t 41)), o 43 (.bin .lss (.t 36) (.t 42))])
 (.cond (.t 43) .skip
 (.exit 6)))
 (.seq (.block 7 (g [o 46 (.mv (.t 12)), o 47 (.mv (.t 7)), o 48 (.fa (.t 3) 1), o 49 (.ld1 (.t 48)), o 50 (.mv (.t 11)), o 51 (.ixS 1 (.t 49) (.t 50)), o 52 (.ld1 (.t 51)), o 53 (.mv (.t 13)), o 54 (.ixS 8 (.t 52) (.t 53)), o 55 (.fa (.t 54) 7), o 56 (.ld1 (.t 55)), o 57 (.ixS 1 (.t 47) (.t 56)), o 58 (.ld1 (.t 57)), o 59 (.bin .add (.t 46) (.t 58)), o 60 (.mv (.t 2)), o 61 (.bin .add (.t 60) (.c (i 1))), o 62 (.minmax false (.t 59) (.t 61)), o 12 (.mv (.t 62))]))
 (g [o 44 (.mv (.t 13)), o 45 (.bin .add (.t 44) (.c (i 1))), o 13 (.mv (.t 45))])))
def w144_2 : AC := .loop [1, 2, 3, 7, 9, 10, 11]
 (.seq (.seq (g [o 29 (.mv (.t 11)), o 30 (.fa (.t 3) 1), o 31 (.ld1 (.t 30)), o 32 (.lenS (.t 31)), o 33 (.bin .lss (.t 29) (.t 32))])
 (.cond (.t 33) .skip
 (.exit 4)))
 (.seq (.block 5 (.seq (g [o 12 (.mv (.c (i 0)))])
 (.seq (.seq (g [o 13 (.mv (.c (i 0)))])
 (.block 6 w144_1))
 (g [o 63 (.mv (.t 10)), o 64 (.mv (.t 12)), o 65 (.bslice 1 [i 0] [(0, 1, (.t 64))]), o 66 (.app 1 8 (.t 63) (.t 65)), o 10 (.mv (.t 66))]))))
 (g [o 34 (.mv (.t 11)), o 35 (.bin .add (.t 34) (.c (i 1))), o 11 (.mv (.t 35))])))
def w144_3 : AC := .loop [1, 2, 3, 7, 9]
 (.seq (.seq (g [o 24 (.mv (.t 9)), o 25 (.mv (.t 1)), o 26 (.bin .lss (.t 24) (.t 25))])
 (.cond (.t 26) .skip
 (.exit 2)))
 (.seq (.block 3 (.seq (g [o 10 (.mv (.c .nils))])
 (.seq (.seq (g [o 11 (.mv (.c (i 0)))])
 (.block 4 w144_2))
 (g [o 67 (.mv (.t 10)), o 7 (.mv (.t 67))]))))
 (g [o 27 (.mv (.t 9)), o 28 (.bin .add (.t 27) (.c (i 1))), o 9 (.mv (.t 28))])))
def c144 : AFunc := ⟨3, 71, [.tmp 6],
 (.seq (g [o 3 (.box (.t 0)), o 6 (.mv (.c (i 0)))])
 (.seq (g [o 7 (.mv (.c .nils))])
 (.seq (.seq (g [o 8 (.mv (.c (i 0)))])
 (.block 0 w144_0))
 (.seq (.seq (g [o 9 (.mv (.c (i 0)))])
 (.block 2 w144_3))
 (.seq (g [o 68 (.mv (.t 7)), o 69 (.ixS 1 (.t 68) (.c (i 0))), o 70 (.ld1 (.t 69)), o 6 (.mv (.t 70))])
 .ret)))))⟩

def w145_0 : AC := .loop [1, 2, 3, 7, 8, 9, 10, 11]
 (.seq (.seq (g [o 40 (.mv (.t 11)), o 41 (.mv (.t 10)), o 42 (.lenS (.t 41)), o 43 (.bin .lss (.t 40) (.t 42))])
 (.cond (.t 43) .skip
 (.exit 2)))
 (.seq (.block 3 (.seq (g [o 46 (.fa (.t 9) 0), o 47 (.ldN 7 (.t 46)), o 48 (.bslice 1 [i 0, i 0, i 0, i 0, i 0, i 0, i 0] [(0, 7, (.t 47))]), o 12 (.mv (.t 48))])
 (g [o 49 (.mv (.t 7)), o 50 (.mv (.t 12)), o 51 (.mv (.t 10)), o 52 (.mv (.t 11)), o 53 (.ixS 1 (.t 51) (.t 52)), o 54 (.ld1 (.t 53)), o 55 (.app 7 56 (.t 50) (.t 54)), o 56 (.bslice 1 [.nils] [(0, 1, (.t 55))]), o 57 (.app 1 24 (.t 49) (.t 56)), o 7 (.mv (.t 57))])))
 (g [o 44 (.mv (.t 11)), o 45 (.bin .add (.t 44) (.c (i 1))), o 11 (.mv (.t 45))])))
def w145_1 : AC := .loop [1, 2, 3, 7, 8]
 (.seq (.seq (g [o 16 (.mv (.t 8)), o 17 (.fa (.t 3) 1), o 18 (.ld1 (.t 17)), o 19 (.mv (.t 1)), o 20 (.ixS 1 (.t 18) (.t 19)), o 21 (.ld1 (.t 20)), o 22 (.lenS (.t 21)), o 23 (.bin .lss (.t 16) (.t 22))])
 (.cond (.t 23) .skip
 (.exit 0)))
 (.seq (.block 1 (.seq (g [o 26 (.fa (.t 3) 1), o 27 (.ld1 (.t 26)), o 28 (.mv (.t 1)), o 29 (.ixS 1 (.t 27) (.t 28)), o 30 (.ld1 (.t 29)), o 31 (.mv (.t 8)), o 32 (.ixS 8 (.t 30) (.t 31)), o 33 (.ldN 8 (.t 32)), o 9 (.alloc [i 0, i 0, i 0, i 0, i 0, i 0, i 0, i 0]), e (.st 8 (.t 9) (.t 33))])
 (.seq (g [o 34 (.ldN 2 (.t 3)), o 35 (.fa (.t 9) 7), o 36 (.ld1 (.t 35)), o 37 (.mv (.t 2)), o 38 (.bin .sub (.t 37) (.c (i 1))), o 39 (.call (.c (.fn 145 [])) [(.t 34), (.t 36), (.t 38)]), o 10 (.mv (.t 39))])
 (.seq (g [o 11 (.mv (.c (i 0)))])
 (.block 2 w145_0)))))
 (g [o 24 (.mv (.t 8)), o 25 (.bin .add (.t 24) (.c (i 1))), o 8 (.mv (.t 25))])))
def c145 : AFunc := ⟨3, 59, [.tmp 6],
 (.seq (g [o 3 (.box (.t 0)), o 6 (.mv (.c .nils))])
 (.seq (.seq (g [o 13 (.mv (.t 2)), o 14 (.bin .eql (.t 13) (.c (i 0)))])
 (.cond (.t 14) (.seq (g [o 15 (.bslice 1 [.nils] [(0, 1, (.c .nils))]), o 6 (.mv (.t 15))])
 .ret)
 .skip))
 (.seq (g [o 7 (.mv (.c .nils))])
 (.seq (.seq (g [o 8 (.mv (.c (i 0)))])
 (.block 0 w145_1))
 (.seq (g [o 58 (.mv (.t 7)), o 6 (.mv (.t 58))])
 .ret)))))⟩

def w146_0 : AC := .loop [4, 5, 6]
 (.seq (.seq (g [o 10 (.mv (.t 6)), o 11 (.bin .lss (.t 10) (.c (i 5)))])
 (.cond (.t 11) .skip
 (.exit 0)))
 (.seq (.block 1 (g [o 14 (.mv (.t 6)), o 15 (.fa (.t 5) 3), o 16 (.ixA 5 1 (.t 15) (.t 14)), e (.st 1 (.t 16) (.c (j 0)))]))
 (g [o 12 (.mv (.t 6)), o 13 (.bin .add (.t 12) (.c (i 1))), o 6 (.mv (.t 13))])))
def c146 : AFunc := ⟨2, 18, [.cellN 4 8],
 (.seq (g [o 4 (.alloc [i 0, i 0, i 0, i 0, i 0, i 0, i 0, i 0])])
 (.seq (g [o 7 (.mv (.t 0)), o 8 (.mv (.t 1)), o 9 (.build [i 0, i 0, i 0, i 0, i 0, i 0, i 0, i 0] [(0, 1, (.t 7)), (2, 1, (.t 8))]), o 5 (.alloc [i 0, i 0, i 0, i 0, i 0, i 0, i 0, i 0]), e (.st 8 (.t 5) (.t 9))])
 (.seq (.seq (g [o 6 (.mv (.c (i 0)))])
 (.block 0 w146_0))
 (.seq (g [o 17 (.ldN 8 (.t 5)), e (.st 8 (.t 4) (.t 17))])
 .ret))))⟩

def w147_0 : AC := .loop [2, 3, 4, 8, 9, 10]
 (.seq (.seq (g [o 14 (.mv (.t 10)), o 15 (.bin .lss (.t 14) (.c (i 5)))])
 (.cond (.t 15) .skip
 (.exit 0)))
 (.seq (.block 1 (.seq (g [o 18 (.mv (.t 10)), o 19 (.fa (.t 9) 3), o 20 (.ixA 5 1 (.t 19) (.t 18)), e (.st 1 (.t 20) (.c (j 0)))])
 (.seq (g [o 21 (.mv (.t 10)), o 22 (.fa (.t 4) 0), o 23 (.ld1 (.t 22)), o 24 (.bin .lss (.t 21) (.t 23)), o 25 (.mv (.t 24)), ⟨(some 26), .mv (.t 2), (some (25, true)), []⟩, ⟨(some 27), .fa (.t 4) 1, (some (25, true)), []⟩, ⟨(some 28), .ixA 5 1 (.t 27) (.t 26), (some (25, true)), []⟩, ⟨(some 29), .ld1 (.t 28), (some (25, true)), []⟩, ⟨(some 30), .mv (.t 10), (some (25, true)), []⟩, ⟨(some 31), .call (.c (.fn 161 [])) [(.t 29), (.t 30)], (some (25, true)), []⟩, o 32 (.pick (.t 25) (.t 31) (.c (.bool false)))])
 (.cond (.t 32) (g [o 33 (.mv (.t 10)), o 34 (.mv (.t 3)), o 35 (.mv (.t 10)), o 36 (.ixS 1 (.t 34) (.t 35)), o 37 (.ld1 (.t 36)), o 38 (.fa (.t 9) 3), o 39 (.ixA 5 1 (.t 38) (.t 33)), e (.st 1 (.t 39) (.t 37))])
 .skip))))
 (g [o 16 (.mv (.t 10)), o 17 (.bin .add (.t 16) (.c (i 1))), o 10 (.mv (.t 17))])))
def c147 : AFunc := ⟨4, 41, [.cellN 8 8],
 (.seq (g [o 4 (.box (.t 0)), o 8 (.alloc [i 0, i 0, i 0, i 0, i 0, i 0, i 0, i 0])])
 (.seq (g [o 11 (.mv (.t 2)), o 12 (.mv (.t 1)), o 13 (.build [i 0, i 0, i 0, i 0, i 0, i 0, i 0, i 0] [(0, 1, (.t 11)), (1, 1, (.t 12))]), o 9 (.alloc [i 0, i 0, i 0, i 0, i 0, i 0, i 0, i 0]), e (.st 8 (.t 9) (.t 13))])
 (.seq (.seq (g [o 10 (.mv (.c (i 0)))])
 (.block 0 w147_0))
 (.seq (g [o 40 (.ldN 8 (.t 9)), e (.st 8 (.t 8) (.t 40))])
 .ret))))⟩

def v148_0 : AC := .dreg [0, 1, 2, 3, 5, 4, 6, 7, 8, 9] [o 18 (.fa (.t 7) 1), o 19 (.ld1 (.t 18)), o 20 (.fa (.t 2) 1), o 21 (.ld1 (.t 20)), o 23 (.ldN 8 (.t 3)), ⟨(some 22), .app 8 64 (.t 19) (.t 21), none, [4]⟩, o 24 (.bslice 1 [i 0, i 0, i 0, i 0, i 0, i 0, i 0, i 0] [(0, 8, (.t 23))]), o 25 (.app 8 64 (.t 22) (.t 24)), o 26 (.fa (.t 7) 1), e (.st 1 (.t 26) (.t 25))] none
def v148_1 : AC := .dreg [0, 1, 2, 3, 4, 5] [o 27 (.ldN 2 (.t 7)), o 28 (.fa (.t 2) 1), o 29 (.ld1 (.t 28)), o 30 (.lenS (.t 29)), ⟨none, .st 2 (.t 4) (.t 27), none, [2]⟩, o 5 (.mv (.t 30))] none
def c148 : AFunc := ⟨2, 31, [.cellN 4 2, .tmp 5],
 (.seq (g [o 2 (.box (.t 0)), o 3 (.box (.t 1)), o 4 (.alloc [i 0, .nils]), o 5 (.mv (.c (i 0)))])
 (.seq (.seq (g [o 8 (.ldN 2 (.t 2)), o 9 (.ldN 8 (.t 3)), o 10 (.call (.c (.fn 190 [])) [(.t 8), (.t 9)]), o 6 (.mv (.t 10))])
 (.seq (g [o 11 (.mv (.t 6)), o 12 (.bin .geq (.t 11) (.c (i 0)))])
 (.cond (.t 12) (.seq (g [o 13 (.ldN 2 (.t 2)), o 14 (.mv (.t 6)), e (.st 2 (.t 4) (.t 13)), o 5 (.mv (.t 14))])
 .ret)
 .skip)))
 (.seq (g [o 15 (.fa (.t 2) 0), o 16 (.ld1 (.t 15)), o 17 (.build [i 0, .nils] [(0, 1, (.t 16))]), o 7 (.alloc [i 0, .nils]), e (.st 2 (.t 7) (.t 17))])
 (.seq v148_0
 (.seq v148_1
 .ret)))))⟩

def u149_0 : AC := .block 1 (g [o 8 (.ld1 (.t 2)), o 9 (.mv (.t 5)), o 10 (.bslice 1 [i 0] [(0, 1, (.t 9))]), o 11 (.app 1 8 (.t 8) (.t 10)), e (.st 1 (.t 2) (.t 11))])
def c149 : AFunc := ⟨2, 13, [.tmp 4],
 (.seq (g [o 2 (.box (.t 0)), o 4 (.mv (.c .nils))])
 (.seq (.seq (g [o 6 (.mv (.t 1))])
 (.block 0 (.rangeF (.t 6) [7] (g [o 5 (.mv (.t 7))])
 u149_0)))
 (.seq (g [o 12 (.ld1 (.t 2)), o 4 (.mv (.t 12))])
 .ret)))⟩

def v150_0 : AC := .dreg [0, 1, 2, 3, 4, 5, 6, 7, 8, 9, 10, 11, 12, 13, 14] [o 73 (.mv (.t 1)), o 74 (.bin .gtr (.t 73) (.c (i 0))), o 75 (.mv (.t 74)), ⟨(some 76), .mv (.t 0), (some (75, true)), []⟩, ⟨(some 77), .mv (.t 1), (some (75, true)), []⟩, ⟨(some 78), .bin .sub (.t 77) (.c (i 1)), (some (75, true)), []⟩, ⟨(some 79), .ixS 1 (.t 76) (.t 78), (some (75, true)), []⟩, ⟨(some 80), .ld1 (.t 79), (some (75, true)), []⟩, ⟨(some 81), .mv (.t 0), (some (75, true)), []⟩, ⟨(some 82), .mv (.t 11), (some (75, true)), []⟩, ⟨(some 83), .ixS 1 (.t 81) (.t 82), (some (75, true)), []⟩, ⟨(some 84), .ld1 (.t 83), (some (75, true)), []⟩, ⟨(some 85), .call (.c (.fn 168 [])) [(.t 80), (.t 84)], (some (75, true)), []⟩, ⟨(some 86), .un .not (.t 85), (some (75, true)), []⟩, o 87 (.pick (.t 75) (.t 86) (.c (.bool false)))] none
def w150_0 : AC := .loop [0, 1, 2, 3, 8, 9]
 (.block 1 (.seq (g [o 19 (.mv (.t 2)), o 20 (.mv (.t 1)), o 21 (.bin .sub (.t 19) (.t 20)), o 10 (.mv (.t 21))])
 (.seq (.seq (g [o 22 (.mv (.t 10)), o 23 (.bin .leq (.t 22) (.c (i 12)))])
 (.cond (.t 23) (.seq (g [o 24 (.mv (.t 0)), o 25 (.mv (.t 1)), o 26 (.mv (.t 2)), o 27 (.call (.c (.fn 191 [])) [(.t 24), (.t 25), (.t 26)])])
 .ret)
 .skip))
 (.seq (.seq (g [o 28 (.mv (.t 3)), o 29 (.bin .eql (.t 28) (.c (i 0)))])
 (.cond (.t 29) (.seq (g [o 30 (.mv (.t 0)), o 31 (.mv (.t 1)), o 32 (.mv (.t 2)), o 33 (.call (.c (.fn 192 [])) [(.t 30), (.t 31), (.t 32)])])
 .ret)
 .skip))
 (.seq (.seq (g [o 34 (.mv (.t 8)), o 35 (.un .not (.t 34))])
 (.cond (.t 35) (.seq (g [o 36 (.mv (.t 0)), o 37 (.mv (.t 1)), o 38 (.mv (.t 2)), o 39 (.call (.c (.fn 193 [])) [(.t 36), (.t 37), (.t 38)])])
 (g [o 40 (.mv (.t 3)), o 41 (.bin .sub (.t 40) (.c (i 1))), o 3 (.mv (.t 41))]))
 .skip))
 (.seq (g [o 43 (.mv (.t 0)), o 44 (.mv (.t 1)), o 45 (.mv (.t 2)), o 46 (.call (.c (.fn 194 [])) [(.t 43), (.t 44), (.t 45)]), o 42 (.mv (.t 46)), o 47 (.ext (.t 42) 0), o 48 (.ext (.t 42) 1), o 11 (.mv (.t 47)), o 12 (.mv (.t 48))])
 (.seq (.seq (g [o 49 (.mv (.t 12)), o 50 (.bin .eql (.t 49) (.c (i 2)))])
 (.cond (.t 50) (.seq (g [o 51 (.mv (.t 0)), o 52 (.mv (.t 1)), o 53 (.mv (.t 2)), o 54 (.call (.c (.fn 195 [])) [(.t 51), (.t 52), (.t 53)])])
 (.seq (g [o 55 (.mv (.t 2)), o 56 (.bin .sub (.t 55) (.c (i 1))), o 57 (.mv (.t 11)), o 58 (.mv (.t 1)), o 59 (.bin .sub (.t 57) (.t 58)), o 60 (.bin .sub (.t 56) (.t 59)), o 11 (.mv (.t 60))])
 (g [o 12 (.mv (.c (i 1)))])))
 .skip))
 (.seq (.seq (g [o 61 (.mv (.t 8)), o 62 (.mv (.t 61)), ⟨(some 63), .mv (.t 9), (some (62, true)), []⟩, o 64 (.pick (.t 62) (.t 63) (.c (.bool false))), o 65 (.mv (.t 64)), ⟨(some 66), .mv (.t 12), (some (65, true)), []⟩, ⟨(some 67), .bin .eql (.t 66) (.c (i 1)), (some (65, true)), []⟩, o 68 (.pick (.t 65) (.t 67) (.c (.bool false)))])
 (.cond (.t 68) (.seq (g [o 69 (.mv (.t 0)), o 70 (.mv (.t 1)), o 71 (.mv (.t 2)), o 72 (.call (.c (.fn 196 [])) [(.t 69), (.t 70), (.t 71)])])
 (.cond (.t 72) .ret
 .skip))
 .skip))
 (.seq (.seq v150_0
 (.cond (.t 87) (.seq (g [o 88 (.mv (.t 0)), o 89 (.mv (.t 1)), o 90 (.mv (.t 2)), o 91 (.mv (.t 11)), o 92 (.call (.c (.fn 197 [])) [(.t 88), (.t 89), (.t 90), (.t 91)]), o 13 (.mv (.t 92))])
 (.seq (g [o 93 (.mv (.t 13)), o 1 (.mv (.t 93))])
 (.exit 1)))
 .skip))
 (.seq (g [o 95 (.mv (.t 0)), o 96 (.mv (.t 1)), o 97 (.mv (.t 2)), o 98 (.mv (.t 11)), o 99 (.call (.c (.fn 198 [])) [(.t 95), (.t 96), (.t 97), (.t 98)]), o 94 (.mv (.t 99)), o 100 (.ext (.t 94) 0), o 101 (.ext (.t 94) 1), o 14 (.mv (.t 100)), o 15 (.mv (.t 101))])
 (.seq (g [o 102 (.mv (.t 15)), o 9 (.mv (.t 102))])
 (.seq (g [o 103 (.mv (.t 14)), o 104 (.mv (.t 1)), o 105 (.bin .sub (.t 103) (.t 104)), o 106 (.mv (.t 2)), o 107 (.mv (.t 14)), o 108 (.bin .sub (.t 106) (.t 107)), o 16 (.mv (.t 105)), o 17 (.mv (.t 108))])
 (.seq (g [o 109 (.mv (.t 10)), o 110 (.bin .quo (.t 109) (.c (i 8))), o 18 (.mv (.t 110))])
 (.seq (g [o 111 (.mv (.t 16)), o 112 (.mv (.t 17)), o 113 (.bin .lss (.t 111) (.t 112))])
 (.cond (.t 113) (.seq (g [o 114 (.mv (.t 16)), o 115 (.mv (.t 18)), o 116 (.bin .geq (.t 114) (.t 115)), o 8 (.mv (.t 116))])
 (.seq (g [o 117 (.mv (.t 0)), o 118 (.mv (.t 1)), o 119 (.mv (.t 14)), o 120 (.mv (.t 3)), o 121 (.call (.c (.fn 150 [])) [(.t 117), (.t 118), (.t 119), (.t 120)])])
 (g [o 122 (.mv (.t 14)), o 123 (.bin .add (.t 122) (.c (i 1))), o 1 (.mv (.t 123))])))
 (.seq (g [o 124 (.mv (.t 17)), o 125 (.mv (.t 18)), o 126 (.bin .geq (.t 124) (.t 125)), o 8 (.mv (.t 126))])
 (.seq (g [o 127 (.mv (.t 0)), o 128 (.mv (.t 14)), o 129 (.bin .add (.t 128) (.c (i 1))), o 130 (.mv (.t 2)), o 131 (.mv (.t 3)), o 132 (.call (.c (.fn 150 [])) [(.t 127), (.t 129), (.t 130), (.t 131)])])
 (g [o 133 (.mv (.t 14)), o 2 (.mv (.t 133))]))))))))))))))))))
def c150 : AFunc := ⟨4, 134, [],
 (.seq (g [o 8 (.mv (.c (.bool true)))])
 (.seq (g [o 9 (.mv (.c (.bool true)))])
 (.block 0 w150_0)))⟩

def w151_0 : AC := .loop [0, 1, 7, 8]
 (.seq (g [o 9 (.bin .lss (.t 8) (.t 7))])
 (.seq (.cond (.t 9) .skip
 (.exit 0))
 (.seq (.block 1 (.seq (g [o 10 (.mv (.t 8)), o 5 (.mv (.t 10))])
 (.seq (g [o 11 (.mv (.t 1)), o 12 (.mv (.t 0)), o 13 (.mv (.t 5)), o 14 (.ixS 1 (.t 12) (.t 13)), o 15 (.ld1 (.t 14)), o 16 (.call (.t 11) [(.t 15)])])
 (.cond (.t 16) (.seq (g [o 17 (.mv (.t 5)), o 4 (.mv (.t 17))])
 .ret)
 .skip))))
 (g [o 18 (.bin .add (.t 8) (.c (i 1))), o 8 (.mv (.t 18))]))))
def c151 : AFunc := ⟨2, 19, [.tmp 4],
 (.seq (g [o 4 (.mv (.c (i 0)))])
 (.seq (.seq (g [o 6 (.mv (.t 0)), o 7 (.lenS (.t 6)), o 8 (.mv (.c (i 0)))])
 (.block 0 w151_0))
 (.seq (g [o 4 (.mv (.c (j 0)))])
 .ret)))⟩

def c152 : AFunc := ⟨1, 6, [.tmp 2],
 (.seq (g [o 2 (.mv (.c (.bool false)))])
 (.seq (g [o 3 (.mv (.t 0)), o 4 (.mv (.t 0)), o 5 (.bin .neq (.t 3) (.t 4)), o 2 (.mv (.t 5))])
 .ret))⟩

def w153_0 : AC := .loop [1, 2, 15, 16, 17]
 (.seq (g [o 18 (.bin .lss (.t 17) (.t 16))])
 (.seq (.cond (.t 18) .skip
 (.exit 0))
 (.seq (.block 1 (.seq (g [o 19 (.mv (.t 17)), o 20 (.ixS 1 (.t 15) (.t 17)), o 21 (.ld1 (.t 20)), o 7 (.mv (.t 19)), o 8 (.mv (.t 21))])
 (.seq (g [o 22 (.mv (.t 1)), o 23 (.mv (.t 7)), o 24 (.ixS 1 (.t 22) (.t 23)), o 25 (.ld1 (.t 24)), o 9 (.mv (.t 25))])
 (.seq (g [o 26 (.mv (.t 2)), o 27 (.mv (.t 8)), o 28 (.mv (.t 9)), o 29 (.call (.t 26) [(.t 27), (.t 28)]), o 30 (.un .not (.t 29))])
 (.cond (.t 30) (.seq (g [o 6 (.mv (.c (.bool false)))])
 .ret)
 .skip)))))
 (g [o 31 (.bin .add (.t 17) (.c (i 1))), o 17 (.mv (.t 31))]))))
def c153 : AFunc := ⟨3, 32, [.tmp 6],
 (.seq (g [o 6 (.mv (.c (.bool false)))])
 (.seq (.seq (g [o 10 (.mv (.t 0)), o 11 (.lenS (.t 10)), o 12 (.mv (.t 1)), o 13 (.lenS (.t 12)), o 14 (.bin .neq (.t 11) (.t 13))])
 (.cond (.t 14) (.seq (g [o 6 (.mv (.c (.bool false)))])
 .ret)
 .skip))
 (.seq (.seq (g [o 15 (.mv (.t 0)), o 16 (.lenS (.t 15)), o 17 (.mv (.c (i 0)))])
 (.block 0 w153_0))
 (.seq (g [o 6 (.mv (.c (.bool true)))])
 .ret))))⟩

def w154_0 : AC := .loop [0, 1, 7, 8]
 (.seq (g [o 9 (.bin .lss (.t 8) (.t 7))])
 (.seq (.cond (.t 9) .skip
 (.exit 0))
 (.seq (.block 1 (.seq (g [o 10 (.mv (.t 8)), o 5 (.mv (.t 10))])
 (.seq (g [o 11 (.mv (.t 1)), o 12 (.mv (.t 0)), o 13 (.mv (.t 5)), o 14 (.ixS 1 (.t 12) (.t 13)), o 15 (.ld1 (.t 14)), o 16 (.call (.t 11) [(.t 15)])])
 (.cond (.t 16) (.seq (g [o 17 (.mv (.t 5)), o 4 (.mv (.t 17))])
 .ret)
 .skip))))
 (g [o 18 (.bin .add (.t 8) (.c (i 1))), o 8 (.mv (.t 18))]))))
def c154 : AFunc := ⟨2, 19, [.tmp 4],
 (.seq (g [o 4 (.mv (.c (i 0)))])
 (.seq (.seq (g [o 6 (.mv (.t 0)), o 7 (.lenS (.t 6)), o 8 (.mv (.c (i 0)))])
 (.block 0 w154_0))
 (.seq (g [o 4 (.mv (.c (j 0)))])
 .ret)))⟩

def w155_0 : AC := .loop [0, 3, 6, 7, 8]
 (.seq (g [o 9 (.bin .lss (.t 8) (.t 7))])
 (.seq (.cond (.t 9) .skip
 (.exit 0))
 (.seq (.block 1 (.seq (g [o 10 (.ixS 7 (.t 6) (.t 8)), o 11 (.ldN 7 (.t 10)), o 5 (.alloc [i 0, i 0, i 0, i 0, i 0, i 0, i 0]), e (.st 7 (.t 5) (.t 11))])
 (.seq (.seq (g [o 12 (.mv (.t 0)), o 13 (.mv (.t 3)), o 14 (.ldN 7 (.t 5)), o 15 (.call (.t 12) [(.t 13), (.t 14)]), o 16 (.un .not (.t 15))])
 (.cond (.t 16) .ret
 .skip))
 (g [o 17 (.fa (.t 5) 6), o 18 (.ld1 (.t 17)), o 3 (.mv (.t 18))]))))
 (g [o 19 (.bin .add (.t 8) (.c (i 1))), o 8 (.mv (.t 19))]))))
def c155 : AFunc := ⟨2, 20, [],
 (.seq (g [o 3 (.mv (.c (i 0)))])
 (.seq (g [o 6 (.ld1 (.t 1)), o 7 (.lenS (.t 6)), o 8 (.mv (.c (i 0)))])
 (.block 0 w155_0)))⟩

def w156_0 : AC := .loop [1, 14, 15]
 (.seq (g [o 16 (.bin .lss (.t 15) (.c (i 5)))])
 (.seq (.cond (.t 16) .skip
 (.exit 0))
 (.seq (.block 1 (.seq (g [o 17 (.mv (.t 15)), o 18 (.idx 5 1 false (.t 14) (.t 15)), o 3 (.mv (.t 17)), o 4 (.mv (.t 18))])
 (.block 2 (.seq (g [o 20 (.mv (.t 3)), o 21 (.fa (.t 1) 0), o 22 (.ld1 (.t 21)), o 23 (.bin .geq (.t 20) (.t 22)), o 24 (.mv (.t 23)), ⟨(some 25), .mv (.t 4), (some (24, true)), []⟩, ⟨(some 26), .bin .neq (.t 25) (.c (i 0)), (some (24, true)), []⟩, o 27 (.pick (.t 24) (.t 26) (.c (.bool false))), o 19 (.mv (.t 27))])
 (.cond (.t 19) (.seq (g [o 2 (.mv (.c (i 3)))])
 .ret)
 (.seq (g [o 29 (.mv (.t 3)), o 30 (.fa (.t 1) 0), o 31 (.ld1 (.t 30)), o 32 (.bin .geq (.t 29) (.t 31)), o 28 (.mv (.t 32))])
 (.cond (.t 28) .skip
 (.seq (g [o 34 (.mv (.t 4)), o 35 (.bin .lss (.t 34) (.c (i 0))), o 36 (.mv (.t 35)), ⟨(some 37), .mv (.t 4), (some (36, false)), []⟩, ⟨(some 38), .fa (.t 1) 0, (some (36, false)), []⟩, ⟨(some 39), .ld1 (.t 38), (some (36, false)), []⟩, ⟨(some 40), .call (.c (.fn 199 [])) [(.t 39)], (some (36, false)), []⟩, ⟨(some 41), .bin .gtr (.t 37) (.t 40), (some (36, false)), []⟩, o 42 (.pick (.t 36) (.c (.bool true)) (.t 41)), o 33 (.mv (.t 42))])
 (.cond (.t 33) (.seq (g [o 2 (.mv (.c (i 2)))])
 .ret)
 (.seq (g [o 44 (.mv (.t 4)), o 45 (.mv (.t 3)), o 46 (.bin .shr (.t 44) (.t 45)), o 47 (.bin .and (.t 46) (.c (i 1))), o 48 (.bin .eql (.t 47) (.c (i 0))), o 43 (.mv (.t 48))])
 (.cond (.t 43) (.seq (g [o 2 (.mv (.c (i 3)))])
 .ret)
 .skip)))))))))))
 (g [o 49 (.bin .add (.t 15) (.c (i 1))), o 15 (.mv (.t 49))]))))
def c156 : AFunc := ⟨1, 50, [.tmp 2],
 (.seq (g [o 1 (.box (.t 0)), o 2 (.mv (.c (i 0)))])
 (.seq (.seq (g [o 5 (.fa (.t 1) 0), o 6 (.ld1 (.t 5)), o 7 (.bin .lss (.t 6) (.c (i 1))), o 8 (.mv (.t 7)), ⟨(some 9), .fa (.t 1) 0, (some (8, false)), []⟩, ⟨(some 10), .ld1 (.t 9), (some (8, false)), []⟩, ⟨(some 11), .bin .gtr (.t 10) (.c (i 5)), (some (8, false)), []⟩, o 12 (.pick (.t 8) (.c (.bool true)) (.t 11))])
 (.cond (.t 12) (.seq (g [o 2 (.mv (.c (i 2)))])
 .ret)
 .skip))
 (.seq (.seq (g [o 13 (.fa (.t 1) 1), o 14 (.ldN 5 (.t 13)), o 15 (.mv (.c (i 0)))])
 (.block 0 w156_0))
 (.seq (g [o 2 (.mv (.c (i 0)))])
 .ret))))⟩

def c157 : AFunc := ⟨2, 19, [.tmp 4],
 (.seq (g [o 4 (.mv (.c (i 0)))])
 (.seq (.seq (g [o 6 (.mv (.t 0)), o 7 (.call (.c (.fn 200 [])) [(.t 6)]), o 5 (.mv (.t 7))])
 (.seq (g [o 8 (.mv (.t 5)), o 9 (.bin .neq (.t 8) (.c (i 0)))])
 (.cond (.t 9) (.seq (g [o 10 (.mv (.t 5)), o 4 (.mv (.t 10))])
 .ret)
 .skip)))
 (.seq (.seq (g [o 11 (.mv (.t 1)), o 12 (.bin .lss (.t 11) (.c (i 0))), o 13 (.mv (.t 12)), ⟨(some 14), .mv (.t 1), (some (13, false)), []⟩, ⟨(some 15), .mv (.t 0), (some (13, false)), []⟩, ⟨(some 16), .bin .shr (.t 14) (.t 15), (some (13, false)), []⟩, ⟨(some 17), .bin .neq (.t 16) (.c (i 0)), (some (13, false)), []⟩, o 18 (.pick (.t 13) (.c (.bool true)) (.t 17))])
 (.cond (.t 18) (.seq (g [o 4 (.mv (.c (i 2)))])
 .ret)
 .skip))
 (.seq (g [o 4 (.mv (.c (i 0)))])
 .ret))))⟩

def w158_0 : AC := .loop [0, 1, 7, 8]
 (.seq (g [o 9 (.bin .lss (.t 8) (.t 7))])
 (.seq (.cond (.t 9) .skip
 (.exit 0))
 (.seq (.block 1 (.seq (g [o 10 (.mv (.t 8)), o 5 (.mv (.t 10))])
 (.seq (g [o 11 (.mv (.t 1)), o 12 (.mv (.t 0)), o 13 (.mv (.t 5)), o 14 (.ixS 1 (.t 12) (.t 13)), o 15 (.ld1 (.t 14)), o 16 (.bin .eql (.t 11) (.t 15))])
 (.cond (.t 16) (.seq (g [o 17 (.mv (.t 5)), o 4 (.mv (.t 17))])
 .ret)
 .skip))))
 (g [o 18 (.bin .add (.t 8) (.c (i 1))), o 8 (.mv (.t 18))]))))
def c158 : AFunc := ⟨2, 19, [.tmp 4],
 (.seq (g [o 4 (.mv (.c (i 0)))])
 (.seq (.seq (g [o 6 (.mv (.t 0)), o 7 (.lenS (.t 6)), o 8 (.mv (.c (i 0)))])
 (.block 0 w158_0))
 (.seq (g [o 4 (.mv (.c (j 0)))])
 .ret)))⟩

def w159_0 : AC := .loop [1, 3]
 (.seq (.seq (g [o 13 (.mv (.t 3)), o 14 (.bin .lss (.t 13) (.c (i 5)))])
 (.cond (.t 14) .skip
 (.exit 0)))
 (.seq (.block 1 (.seq (g [o 17 (.mv (.t 3)), o 18 (.fa (.t 1) 1), o 19 (.ixA 5 1 (.t 18) (.t 17)), o 20 (.ld1 (.t 19)), o 4 (.mv (.t 20))])
 (.seq (.seq (g [o 21 (.mv (.t 3)), o 22 (.fa (.t 1) 0), o 23 (.ld1 (.t 22)), o 24 (.bin .geq (.t 21) (.t 23))])
 (.cond (.t 24) (.seq (.seq (g [o 25 (.mv (.t 4)), o 26 (.bin .neq (.t 25) (.c (i 0)))])
 (.cond (.t 26) (.seq (g [o 2 (.mv (.c (i 3)))])
 .ret)
 .skip))
 (.exit 1))
 .skip))
 (.seq (.seq (g [o 27 (.mv (.t 4)), o 28 (.bin .lss (.t 27) (.c (i 0))), o 29 (.mv (.t 28)), ⟨(some 30), .mv (.t 4), (some (29, false)), []⟩, ⟨(some 31), .fa (.t 1) 0, (some (29, false)), []⟩, ⟨(some 32), .ld1 (.t 31), (some (29, false)), []⟩, ⟨(some 33), .call (.c (.fn 201 [])) [(.t 32)], (some (29, false)), []⟩, ⟨(some 34), .bin .gtr (.t 30) (.t 33), (some (29, false)), []⟩, o 35 (.pick (.t 29) (.c (.bool true)) (.t 34))])
 (.cond (.t 35) (.seq (g [o 2 (.mv (.c (i 2)))])
 .ret)
 .skip))
 (.seq (g [o 36 (.mv (.t 4)), o 37 (.mv (.t 3)), o 38 (.call (.c (.fn 161 [])) [(.t 36), (.t 37)]), o 39 (.un .not (.t 38))])
 (.cond (.t 39) (.seq (g [o 2 (.mv (.c (i 3)))])
 .ret)
 .skip))))))
 (g [o 15 (.mv (.t 3)), o 16 (.bin .add (.t 15) (.c (i 1))), o 3 (.mv (.t 16))])))
def c159 : AFunc := ⟨1, 40, [.tmp 2],
 (.seq (g [o 1 (.box (.t 0)), o 2 (.mv (.c (i 0)))])
 (.seq (.seq (g [o 5 (.fa (.t 1) 0), o 6 (.ld1 (.t 5)), o 7 (.bin .lss (.t 6) (.c (i 1))), o 8 (.mv (.t 7)), ⟨(some 9), .fa (.t 1) 0, (some (8, false)), []⟩, ⟨(some 10), .ld1 (.t 9), (some (8, false)), []⟩, ⟨(some 11), .bin .gtr (.t 10) (.c (i 5)), (some (8, false)), []⟩, o 12 (.pick (.t 8) (.c (.bool true)) (.t 11))])
 (.cond (.t 12) (.seq (g [o 2 (.mv (.c (i 2)))])
 .ret)
 .skip))
 (.seq (.seq (g [o 3 (.mv (.c (i 0)))])
 (.block 0 w159_0))
 (.seq (g [o 2 (.mv (.c (i 0)))])
 .ret))))⟩

def c160 : AFunc := ⟨2, 19, [.tmp 4],
 (.seq (g [o 4 (.mv (.c (i 0)))])
 (.seq (.seq (g [o 6 (.mv (.t 0)), o 7 (.call (.c (.fn 113 [])) [(.t 6)]), o 5 (.mv (.t 7))])
 (.seq (g [o 8 (.mv (.t 5)), o 9 (.bin .neq (.t 8) (.c (i 0)))])
 (.cond (.t 9) (.seq (g [o 10 (.mv (.t 5)), o 4 (.mv (.t 10))])
 .ret)
 .skip)))
 (.seq (.seq (g [o 11 (.mv (.t 1)), o 12 (.bin .lss (.t 11) (.c (i 0))), o 13 (.mv (.t 12)), ⟨(some 14), .mv (.t 1), (some (13, false)), []⟩, ⟨(some 15), .mv (.t 0), (some (13, false)), []⟩, ⟨(some 16), .call (.c (.fn 202 [])) [(.t 15)], (some (13, false)), []⟩, ⟨(some 17), .bin .geq (.t 14) (.t 16), (some (13, false)), []⟩, o 18 (.pick (.t 13) (.c (.bool true)) (.t 17))])
 (.cond (.t 18) (.seq (g [o 4 (.mv (.c (i 2)))])
 .ret)
 .skip))
 (.seq (g [o 4 (.mv (.c (i 0)))])
 .ret))))⟩

def c161 : AFunc := ⟨2, 11, [.tmp 4],
 (.seq (g [o 4 (.mv (.c (.bool false)))])
 (.seq (g [o 5 (.mv (.t 0)), o 6 (.mv (.t 1)), o 7 (.call (.c (.fn 202 [])) [(.t 6)]), o 8 (.bin .quo (.t 5) (.t 7)), o 9 (.bin .rem (.t 8) (.c (i 2))), o 10 (.bin .eql (.t 9) (.c (i 1))), o 4 (.mv (.t 10))])
 .ret))⟩

def w162_0 : AC := .loop [1, 3]
 (.seq (.seq (g [o 9 (.mv (.t 3)), o 10 (.fa (.t 1) 3), o 11 (.ld1 (.t 10)), o 12 (.lenS (.t 11)), o 13 (.bin .lss (.t 9) (.t 12))])
 (.cond (.t 13) .skip
 (.exit 0)))
 (.seq (.block 1 (.seq (g [o 16 (.fa (.t 1) 3), o 17 (.ld1 (.t 16)), o 18 (.mv (.t 3)), o 19 (.ixS 3 (.t 17) (.t 18)), o 20 (.ldN 3 (.t 19)), o 4 (.alloc [.nils, .nils, .nils]), e (.st 3 (.t 4) (.t 20))])
 (.seq (g [o 21 (.fa (.t 4) 0), o 22 (.ld1 (.t 21)), o 23 (.lenS (.t 22)), o 24 (.bin .gtr (.t 23) (.c (i 10))), o 25 (.mv (.t 24)), ⟨(some 26), .fa (.t 4) 1, (some (25, false)), []⟩, ⟨(some 27), .ld1 (.t 26), (some (25, false)), []⟩, ⟨(some 28), .call (.c (.fn 203 [])) [(.t 27), (.c (i 30))], (some (25, false)), []⟩, ⟨(some 29), .un .not (.t 28), (some (25, false)), []⟩, o 30 (.pick (.t 25) (.c (.bool true)) (.t 29)), o 31 (.mv (.t 30)), ⟨(some 32), .fa (.t 4) 2, (some (31, false)), []⟩, ⟨(some 33), .ld1 (.t 32), (some (31, false)), []⟩, ⟨(some 34), .call (.c (.fn 203 [])) [(.t 33), (.c (i 30))], (some (31, false)), []⟩, ⟨(some 35), .un .not (.t 34), (some (31, false)), []⟩, o 36 (.pick (.t 31) (.c (.bool true)) (.t 35))])
 (.cond (.t 36) (.seq (g [o 2 (.mv (.c (.bool false)))])
 .ret)
 .skip))))
 (g [o 14 (.mv (.t 3)), o 15 (.bin .add (.t 14) (.c (i 1))), o 3 (.mv (.t 15))])))
def c162 : AFunc := ⟨1, 37, [.tmp 2],
 (.seq (g [o 1 (.box (.t 0)), o 2 (.mv (.c (.bool false)))])
 (.seq (.seq (g [o 5 (.fa (.t 1) 3), o 6 (.ld1 (.t 5)), o 7 (.lenS (.t 6)), o 8 (.bin .gtr (.t 7) (.c (i 30)))])
 (.cond (.t 8) (.seq (g [o 2 (.mv (.c (.bool false)))])
 .ret)
 .skip))
 (.seq (.seq (g [o 3 (.mv (.c (i 0)))])
 (.block 0 w162_0))
 (.seq (g [o 2 (.mv (.c (.bool true)))])
 .ret))))⟩

def c163 : AFunc := ⟨1, 12, [.tmp 2],
 (.seq (g [o 1 (.box (.t 0)), o 2 (.mv (.c (.bool false)))])
 (.seq (g [o 3 (.fa (.t 1) 1), o 4 (.ld1 (.t 3)), o 5 (.lenS (.t 4)), o 6 (.bin .leq (.t 5) (.c (i 8))), o 7 (.mv (.t 6)), ⟨(some 8), .ldN 2 (.t 1), (some (7, true)), []⟩, ⟨(some 9), .call (.c (.fn 187 [])) [(.t 8)], (some (7, true)), []⟩, ⟨(some 10), .bin .leq (.t 9) (.c (i 40)), (some (7, true)), []⟩, o 11 (.pick (.t 7) (.t 10) (.c (.bool false))), o 2 (.mv (.t 11))])
 .ret))⟩

def w164_0 : AC := .loop [3, 4, 13, 14, 15]
 (.seq (g [o 16 (.bin .lss (.t 15) (.t 14))])
 (.seq (.cond (.t 16) .skip
 (.exit 0))
 (.seq (.block 1 (.seq (g [o 17 (.mv (.t 15)), o 18 (.ixS 1 (.t 13) (.t 15)), o 19 (.ld1 (.t 18)), o 5 (.mv (.t 17)), o 6 (.mv (.t 19))])
 (.seq (g [o 21 (.mv (.t 3)), o 22 (.mv (.t 6)), o 23 (.look 0 (i 0) (.t 21) (.t 22)), o 20 (.mv (.t 23)), o 24 (.ext (.t 20) 0), o 25 (.ext (.t 20) 1), o 7 (.mv (.t 24)), o 8 (.mv (.t 25))])
 (.seq (.seq (g [o 26 (.mv (.t 8)), o 27 (.un .not (.t 26))])
 (.cond (.t 27) (.seq (g [o 28 (.mv (.t 3)), o 29 (.mlen (.t 28)), o 7 (.mv (.t 29))])
 (g [o 30 (.mv (.t 3)), o 31 (.mv (.t 6)), o 32 (.mv (.t 7)), e (.mput 0 (.t 30) (.t 31) (.t 32))]))
 .skip))
 (g [o 33 (.mv (.t 4)), o 34 (.mv (.t 5)), o 35 (.mv (.t 7)), o 36 (.ixS 1 (.t 33) (.t 34)), e (.st 1 (.t 36) (.t 35))])))))
 (g [o 37 (.bin .add (.t 15) (.c (i 1))), o 15 (.mv (.t 37))]))))
def c164 : AFunc := ⟨1, 39, [.tmp 2],
 (.seq (g [o 2 (.mv (.c .nils))])
 (.seq (g [o 9 .mkmap, o 3 (.mv (.t 9))])
 (.seq (g [o 10 (.mv (.t 0)), o 11 (.lenS (.t 10)), o 12 (.mkslice 8 [i 0] (.t 11) (.t 11)), o 4 (.mv (.t 12))])
 (.seq (.seq (g [o 13 (.mv (.t 0)), o 14 (.lenS (.t 13)), o 15 (.mv (.c (i 0)))])
 (.block 0 w164_0))
 (.seq (g [o 38 (.mv (.t 4)), o 2 (.mv (.t 38))])
 .ret)))))⟩

def v165_0 : AC := .dreg [0, 1, 2, 3, 4, 5, 6, 7, 8, 9, 10, 11, 12, 13, 14, 15, 16, 17, 18, 19, 20, 21, 22, 23, 24, 25, 26, 27, 28, 29, 30, 31, 32, 33, 34, 35, 36, 37] [o 9 (.mv (.t 0)), o 10 (.mv (.t 2)), o 11 (.mv (.t 3)), o 12 (.call (.c (.fn 204 [])) [(.t 9), (.t 10), (.t 11)]), o 13 (.mv (.t 12)), ⟨(some 14), .mv (.t 0), (some (13, true)), []⟩, ⟨(some 15), .nilck (.t 14), (some (13, true)), []⟩, ⟨(some 16), .fa (.t 15) 10, (some (13, true)), []⟩, ⟨(some 17), .fa (.t 16) 0, (some (13, true)), []⟩, ⟨(some 18), .ld1 (.t 17), (some (13, true)), []⟩, ⟨(some 19), .mv (.t 2), (some (13, true)), []⟩, ⟨(some 20), .ixS 1 (.t 18) (.t 19), (some (13, true)), []⟩, ⟨(some 21), .ld1 (.t 20), (some (13, true)), []⟩, ⟨(some 22), .mv (.t 0), (some (13, true)), []⟩, ⟨(some 23), .nilck (.t 22), (some (13, true)), []⟩, ⟨(some 24), .fa (.t 23) 10, (some (13, true)), []⟩, ⟨(some 25), .fa (.t 24) 0, (some (13, true)), []⟩, ⟨(some 26), .ld1 (.t 25), (some (13, true)), []⟩, ⟨(some 27), .mv (.t 3), (some (13, true)), []⟩, ⟨(some 28), .ixS 1 (.t 26) (.t 27), (some (13, true)), []⟩, ⟨(some 29), .ld1 (.t 28), (some (13, true)), []⟩, ⟨(some 30), .bin .eql (.t 21) (.t 29), (some (13, true)), []⟩, o 31 (.pick (.t 13) (.t 30) (.c (.bool false))), o 32 (.mv (.t 31)), ⟨(some 33), .mv (.t 0), (some (32, true)), []⟩, ⟨(some 34), .mv (.t 1), (some (32, true)), []⟩, ⟨(some 35), .mv (.t 2), (some (32, true)), []⟩, ⟨(some 36), .mv (.t 3), (some (32, true)), []⟩, ⟨(some 37), .call (.c (.fn 205 [])) [(.t 33), (.t 34), (.t 35), (.t 36)], (some (32, true)), []⟩, o 38 (.pick (.t 32) (.t 37) (.c (.bool false))), o 39 (.mv (.t 38)), ⟨(some 40), .mv (.t 0), (some (39, true)), []⟩, ⟨(some 41), .mv (.t 1), (some (39, true)), []⟩, ⟨(some 42), .mv (.t 3), (some (39, true)), []⟩, ⟨(some 43), .mv (.t 2), (some (39, true)), []⟩, ⟨(some 44), .call (.c (.fn 205 [])) [(.t 40), (.t 41), (.t 42), (.t 43)], (some (39, true)), []⟩, o 45 (.pick (.t 39) (.t 44) (.c (.bool false))), o 8 (.mv (.t 45))] none
def c165 : AFunc := ⟨4, 46, [.tmp 8],
 (.seq (g [o 8 (.mv (.c (.bool false)))])
 (.seq v165_0
 .ret))⟩

def c166 : AFunc := ⟨3, 29, [.tmp 6, .tmp 7],
 (.seq (g [o 3 (.box (.t 0)), o 5 (.box (.t 2)), o 6 (.mv (.c .nils)), o 7 (.mv (.c (i 0)))])
 (.seq (g [o 13 (.ldN 10 (.t 3)), o 14 (.mv (.t 1)), o 15 (.ldN 3 (.t 5)), o 16 (.call (.c (.fn 206 [])) [(.t 13), (.t 14), (.t 15)]), o 12 (.mv (.t 16)), o 17 (.ext (.t 12) 0), o 18 (.ext (.t 12) 1), o 8 (.mv (.t 17)), o 9 (.mv (.t 18))])
 (.seq (.seq (g [o 19 (.mv (.t 9)), o 20 (.bin .neq (.t 19) (.c (i 0)))])
 (.cond (.t 20) (.seq (g [o 21 (.mv (.t 9)), o 6 (.mv (.c .nils)), o 7 (.mv (.t 21))])
 .ret)
 .skip))
 (.seq (g [o 23 (.mv (.t 8)), o 24 (.ldN 3 (.t 5)), o 25 (.call (.c (.fn 207 [])) [(.t 23), (.t 24)]), o 22 (.mv (.t 25)), o 26 (.ext (.t 22) 0), o 27 (.ext (.t 22) 1), o 10 (.mv (.t 26)), o 11 (.mv (.t 27))])
 (.seq (g [o 28 (.mv (.t 10)), o 6 (.mv (.t 28)), o 7 (.mv (.c (i 0)))])
 .ret)))))⟩

def c167 : AFunc := ⟨2, 30, [.tmp 4, .tmp 5],
 (.seq (g [o 4 (.mv (.c (.int .u64 0))), o 5 (.mv (.c (.int .u64 0)))])
 (.seq (.cond (.c (.bool false)) (.seq (g [o 11 (.mv (.t 0)), o 12 (.conv .u32 (.t 11)), o 13 (.mv (.t 1)), o 14 (.conv .u32 (.t 13)), o 15 (.call (.c (.fn 208 [])) [(.t 12), (.t 14)]), o 10 (.mv (.t 15)), o 16 (.ext (.t 10) 0), o 17 (.ext (.t 10) 1), o 6 (.mv (.t 16)), o 7 (.mv (.t 17))])
 (.seq (g [o 18 (.mv (.t 6)), o 19 (.conv .u64 (.t 18)), o 20 (.mv (.t 7)), o 21 (.conv .u64 (.t 20)), o 4 (.mv (.t 19)), o 5 (.mv (.t 21))])
 .ret))
 .skip)
 (.seq (g [o 23 (.mv (.t 0)), o 24 (.mv (.t 1)), o 25 (.call (.c (.fn 209 [])) [(.t 23), (.t 24)]), o 22 (.mv (.t 25)), o 26 (.ext (.t 22) 0), o 27 (.ext (.t 22) 1), o 8 (.mv (.t 26)), o 9 (.mv (.t 27))])
 (.seq (g [o 28 (.mv (.t 8)), o 29 (.mv (.t 9)), o 4 (.mv (.t 28)), o 5 (.mv (.t 29))])
 .ret))))⟩

def c168 : AFunc := ⟨2, 17, [.tmp 4],
 (.seq (g [o 4 (.mv (.c (.bool false)))])
 (.seq (g [o 5 (.mv (.t 0)), o 6 (.call (.c (.fn 152 [])) [(.t 5)]), o 7 (.mv (.t 6)), ⟨(some 8), .mv (.t 1), (some (7, true)), []⟩, ⟨(some 9), .call (.c (.fn 152 [])) [(.t 8)], (some (7, true)), []⟩, ⟨(some 10), .un .not (.t 9), (some (7, true)), []⟩, o 11 (.pick (.t 7) (.t 10) (.c (.bool false))), o 12 (.mv (.t 11)), ⟨(some 13), .mv (.t 0), (some (12, false)), []⟩, ⟨(some 14), .mv (.t 1), (some (12, false)), []⟩, ⟨(some 15), .bin .lss (.t 13) (.t 14), (some (12, false)), []⟩, o 16 (.pick (.t 12) (.c (.bool true)) (.t 15)), o 4 (.mv (.t 16))])
 .ret))⟩

def c169 : AFunc := ⟨1, 6, [.tmp 2],
 (.seq (g [o 2 (.mv (.c (.bool false)))])
 (.seq (g [o 3 (.mv (.t 0)), o 4 (.mv (.t 0)), o 5 (.bin .neq (.t 3) (.t 4)), o 2 (.mv (.t 5))])
 .ret))⟩

def v170_0 : AC := .dreg [0, 1, 2, 3, 4, 5, 6, 7, 8, 9, 10, 11] [o 36 (.fa (.t 2) 9), o 37 (.ld1 (.t 36)), o 38 (.mv (.t 5)), o 39 (.ixS 3 (.t 37) (.t 38)), o 40 (.ldN 3 (.t 39)), o 41 (.fa (.t 3) 9), o 42 (.ld1 (.t 41)), o 43 (.mv (.t 5)), o 44 (.ixS 3 (.t 42) (.t 43)), o 45 (.ldN 3 (.t 44)), o 46 (.call (.c (.fn 212 [])) [(.t 40), (.t 45)]), o 47 (.un .not (.t 46))] none
def w170_0 : AC := .loop [2, 3, 5]
 (.seq (.seq (g [o 29 (.mv (.t 5)), o 30 (.fa (.t 2) 9), o 31 (.ld1 (.t 30)), o 32 (.lenS (.t 31)), o 33 (.bin .lss (.t 29) (.t 32))])
 (.cond (.t 33) .skip
 (.exit 0)))
 (.seq (.block 1 (.seq v170_0
 (.cond (.t 47) (.seq (g [o 4 (.mv (.c (.bool false)))])
 .ret)
 .skip)))
 (g [o 34 (.mv (.t 5)), o 35 (.bin .add (.t 34) (.c (i 1))), o 5 (.mv (.t 35))])))
def c170 : AFunc := ⟨2, 48, [.tmp 4],
 (.seq (g [o 2 (.box (.t 0)), o 3 (.box (.t 1)), o 4 (.mv (.c (.bool false)))])
 (.seq (.seq (g [o 6 (.fa (.t 2) 0), o 7 (.ldN 7 (.t 6)), o 8 (.fa (.t 3) 0), o 9 (.ldN 7 (.t 8)), o 10 (.call (.c (.fn 210 [])) [(.t 7), (.t 9)]), o 11 (.un .not (.t 10)), o 12 (.mv (.t 11)), ⟨(some 13), .fa (.t 2) 7, (some (12, false)), []⟩, ⟨(some 14), .ldN 2 (.t 13), (some (12, false)), []⟩, ⟨(some 15), .fa (.t 3) 7, (some (12, false)), []⟩, ⟨(some 16), .ldN 2 (.t 15), (some (12, false)), []⟩, ⟨(some 17), .call (.c (.fn 211 [])) [(.t 14), (.t 16)], (some (12, false)), []⟩, ⟨(some 18), .un .not (.t 17), (some (12, false)), []⟩, o 19 (.pick (.t 12) (.c (.bool true)) (.t 18)), o 20 (.mv (.t 19)), ⟨(some 21), .fa (.t 2) 9, (some (20, false)), []⟩, ⟨(some 22), .ld1 (.t 21), (some (20, false)), []⟩, ⟨(some 23), .lenS (.t 22), (some (20, false)), []⟩, ⟨(some 24), .fa (.t 3) 9, (some (20, false)), []⟩, ⟨(some 25), .ld1 (.t 24), (some (20, false)), []⟩, ⟨(some 26), .lenS (.t 25), (some (20, false)), []⟩, ⟨(some 27), .bin .neq (.t 23) (.t 26), (some (20, false)), []⟩, o 28 (.pick (.t 20) (.c (.bool true)) (.t 27))])
 (.cond (.t 28) (.seq (g [o 4 (.mv (.c (.bool false)))])
 .ret)
 .skip))
 (.seq (.seq (g [o 5 (.mv (.c (i 0)))])
 (.block 0 w170_0))
 (.seq (g [o 4 (.mv (.c (.bool true)))])
 .ret))))⟩

def c171 : AFunc := ⟨2, 19, [.tmp 4],
 (.seq (g [o 2 (.box (.t 0)), o 4 (.mv (.c (i 0)))])
 (.seq (g [o 6 (.fa (.t 2) 1), o 7 (.ld1 (.t 6)), o 8 (.mv (.t 1)), o 9 (.ixS 8 (.t 7) (.t 8)), o 10 (.ldN 8 (.t 9)), o 5 (.alloc [i 0, i 0, i 0, i 0, i 0, i 0, i 0, i 0]), e (.st 8 (.t 5) (.t 10))])
 (.seq (.seq (g [o 11 (.fa (.t 5) 1), o 12 (.ld1 (.t 11)), o 13 (.bin .eql (.t 12) (.c (i 0)))])
 (.cond (.t 13) (.seq (g [o 4 (.mv (.c (j 0)))])
 .ret)
 .skip))
 (.seq (g [o 14 (.fa (.t 5) 0), o 15 (.ld1 (.t 14)), o 16 (.fa (.t 5) 3), o 17 (.ixA 5 1 (.t 16) (.t 15)), o 18 (.ld1 (.t 17)), o 4 (.mv (.t 18))])
 .ret))))⟩

def w172_0 : AC := .loop [2, 3, 5, 6, 7, 8, 9]
 (.seq (.seq (g [o 43 (.mv (.t 9)), o 44 (.bin .geq (.t 43) (.c (i 0)))])
 (.cond (.t 44) .skip
 (.exit 4)))
 (.seq (.block 5 (.seq (g [o 47 (.ldN 10 (.t 2)), o 48 (.ldN 1 (.t 3)), o 49 (.mv (.t 8)), o 50 (.mv (.t 9)), o 51 (.call (.c (.fn 213 [])) [(.t 47), (.t 48), (.t 49), (.t 50)]), o 52 (.mv (.t 51)), ⟨(some 53), .ldN 10 (.t 2), (some (52, true)), []⟩, ⟨(some 54), .mv (.t 6), (some (52, true)), []⟩, ⟨(some 55), .mv (.t 8), (some (52, true)), []⟩, ⟨(some 56), .mv (.t 9), (some (52, true)), []⟩, ⟨(some 57), .call (.c (.fn 214 [])) [(.t 53), (.t 54), (.t 55), (.t 56)], (some (52, true)), []⟩, o 58 (.pick (.t 52) (.t 57) (.c (.bool false))), o 59 (.mv (.t 58)), ⟨(some 60), .ldN 10 (.t 2), (some (59, true)), []⟩, ⟨(some 61), .mv (.t 6), (some (59, true)), []⟩, ⟨(some 62), .mv (.t 9), (some (59, true)), []⟩, ⟨(some 63), .mv (.t 8), (some (59, true)), []⟩, ⟨(some 64), .call (.c (.fn 214 [])) [(.t 60), (.t 61), (.t 62), (.t 63)], (some (59, true)), []⟩, o 65 (.pick (.t 59) (.t 64) (.c (.bool false)))])
 (.cond (.t 65) (g [o 66 (.mv (.t 6)), o 67 (.mv (.t 8)), o 68 (.mv (.t 9)), o 69 (.ixS 1 (.t 66) (.t 67)), e (.st 1 (.t 69) (.t 68))])
 .skip)))
 (g [o 45 (.mv (.t 9)), o 46 (.bin .sub (.t 45) (.c (i 1))), o 9 (.mv (.t 46))])))
def w172_1 : AC := .loop [2, 3, 5, 6, 7, 8]
 (.seq (.seq (g [o 23 (.mv (.t 8)), o 24 (.mv (.t 5)), o 25 (.bin .lss (.t 23) (.t 24))])
 (.cond (.t 25) .skip
 (.exit 2)))
 (.seq (.block 3 (.seq (.seq (g [o 28 (.fa (.t 2) 7), o 29 (.fa (.t 28) 1), o 30 (.ld1 (.t 29)), o 31 (.mv (.t 8)), o 32 (.ixS 8 (.t 30) (.t 31)), o 33 (.fa (.t 32) 1), o 34 (.ld1 (.t 33)), o 35 (.mv (.t 7)), o 36 (.bin .neq (.t 34) (.t 35))])
 (.cond (.t 36) (.exit 3)
 .skip))
 (.seq (g [o 37 (.mv (.t 6)), o 38 (.mv (.t 8)), o 39 (.mv (.t 8)), o 40 (.ixS 1 (.t 37) (.t 38)), e (.st 1 (.t 40) (.t 39))])
 (.seq (g [o 41 (.mv (.t 8)), o 42 (.bin .sub (.t 41) (.c (i 1))), o 9 (.mv (.t 42))])
 (.block 4 w172_0)))))
 (g [o 26 (.mv (.t 8)), o 27 (.bin .add (.t 26) (.c (i 1))), o 8 (.mv (.t 27))])))
def w172_2 : AC := .loop [2, 3, 5, 6, 7]
 (.seq (.seq (g [o 19 (.mv (.t 7)), o 20 (.bin .geq (.t 19) (.c (i 0)))])
 (.cond (.t 20) .skip
 (.exit 0)))
 (.seq (.block 1 (.seq (g [o 8 (.mv (.c (i 0)))])
 (.block 2 w172_1)))
 (g [o 21 (.mv (.t 7)), o 22 (.bin .sub (.t 21) (.c (i 1))), o 7 (.mv (.t 22))])))
def c172 : AFunc := ⟨2, 72, [.tmp 4],
 (.seq (g [o 2 (.box (.t 0)), o 3 (.box (.t 1)), o 4 (.mv (.c .nils))])
 (.seq (g [o 10 (.fa (.t 2) 7), o 11 (.fa (.t 10) 1), o 12 (.ld1 (.t 11)), o 13 (.lenS (.t 12)), o 5 (.mv (.t 13))])
 (.seq (g [o 14 (.mv (.t 5)), o 15 (.mkslice 8 [i 0] (.t 14) (.t 14)), o 6 (.mv (.t 15))])
 (.seq (.seq (g [o 16 (.fa (.t 2) 0), o 17 (.fa (.t 16) 6), o 18 (.ld1 (.t 17)), o 7 (.mv (.t 18))])
 (.block 0 w172_2))
 (.seq (g [o 70 (.mv (.t 6)), o 71 (.call (.c (.fn 215 [])) [(.t 70)]), o 4 (.mv (.t 71))])
 .ret)))))⟩

def w173_0 : AC := .loop [1, 2, 3, 4, 9, 10, 11]
 (.seq (.seq (g [o 13 (.mv (.t 11)), o 14 (.mv (.t 1)), o 15 (.lenS (.t 14)), o 16 (.bin .lss (.t 13) (.t 15))])
 (.cond (.t 16) .skip
 (.exit 0)))
 (.seq (.block 1 (.seq (g [o 19 (.fa (.t 4) 7), o 20 (.fa (.t 19) 1), o 21 (.ld1 (.t 20)), o 22 (.mv (.t 11)), o 23 (.ixS 8 (.t 21) (.t 22)), o 24 (.fa (.t 23) 0), o 25 (.ld1 (.t 24)), o 26 (.mv (.t 3)), o 27 (.bin .eql (.t 25) (.t 26)), o 28 (.mv (.t 27)), ⟨(some 29), .fa (.t 4) 7, (some (28, true)), []⟩, ⟨(some 30), .fa (.t 29) 1, (some (28, true)), []⟩, ⟨(some 31), .ld1 (.t 30), (some (28, true)), []⟩, ⟨(some 32), .mv (.t 11), (some (28, true)), []⟩, ⟨(some 33), .ixS 8 (.t 31) (.t 32), (some (28, true)), []⟩, ⟨(some 34), .fa (.t 33) 1, (some (28, true)), []⟩, ⟨(some 35), .ld1 (.t 34), (some (28, true)), []⟩, ⟨(some 36), .mv (.t 2), (some (28, true)), []⟩, ⟨(some 37), .bin .eql (.t 35) (.t 36), (some (28, true)), []⟩, o 38 (.pick (.t 28) (.t 37) (.c (.bool false)))])
 (.cond (.t 38) (g [o 39 (.mv (.t 9)), o 40 (.mv (.t 1)), o 41 (.mv (.t 11)), o 42 (.ixS 1 (.t 40) (.t 41)), o 43 (.ld1 (.t 42)), o 44 (.bslice 1 [i 0] [(0, 1, (.t 43))]), o 45 (.app 1 8 (.t 39) (.t 44)), o 9 (.mv (.t 45))])
 .skip)))
 (g [o 17 (.mv (.t 11)), o 18 (.bin .add (.t 17) (.c (i 1))), o 11 (.mv (.t 18))])))
def w173_1 : AC := .loop [1, 9, 10, 12]
 (.seq (.seq (g [o 46 (.mv (.t 12)), o 47 (.mv (.t 1)), o 48 (.lenS (.t 47)), o 49 (.bin .lss (.t 46) (.t 48))])
 (.cond (.t 49) .skip
 (.exit 2)))
 (.seq (.block 3 (.seq (g [o 52 (.mv (.t 9)), o 53 (.mv (.t 12)), o 54 (.call (.c (.fn 216 [])) [(.t 52), (.t 53)])])
 (.cond (.t 54) (g [o 55 (.mv (.t 10)), o 56 (.mv (.t 12)), o 57 (.bslice 1 [i 0] [(0, 1, (.t 56))]), o 58 (.app 1 8 (.t 55) (.t 57)), o 10 (.mv (.t 58))])
 .skip)))
 (g [o 50 (.mv (.t 12)), o 51 (.bin .add (.t 50) (.c (i 1))), o 12 (.mv (.t 51))])))
def c173 : AFunc := ⟨4, 60, [.tmp 8],
 (.seq (g [o 4 (.box (.t 0)), o 8 (.mv (.c .nils))])
 (.seq (g [o 9 (.mv (.c .nils)), o 10 (.mv (.c .nils))])
 (.seq (.seq (g [o 11 (.mv (.c (i 0)))])
 (.block 0 w173_0))
 (.seq (.seq (g [o 12 (.mv (.c (i 0)))])
 (.block 2 w173_1))
 (.seq (g [o 59 (.mv (.t 10)), o 8 (.mv (.t 59))])
 .ret)))))⟩

def w174_0 : AC := .loop [1, 3, 5, 7, 8, 9, 10, 11]
 (.seq (.seq (g [o 23 (.mv (.t 11)), o 24 (.mv (.t 9)), o 25 (.bin .lss (.t 23) (.t 24)), o 26 (.mv (.t 25)), ⟨(some 27), .mv (.t 10), (some (26, true)), []⟩, ⟨(some 28), .bin .lss (.t 27) (.c (i 0)), (some (26, true)), []⟩, o 29 (.pick (.t 26) (.t 28) (.c (.bool false)))])
 (.cond (.t 29) .skip
 (.exit 2)))
 (.seq (.block 3 (.seq (g [o 32 (.mv (.t 7)), o 33 (.mv (.t 11)), o 34 (.ixS 1 (.t 32) (.t 33)), o 35 (.ld1 (.t 34)), o 36 (.bin .geq (.t 35) (.c (i 0))), o 37 (.mv (.t 36)), ⟨(some 38), .ldN 10 (.t 3), (some (37, true)), []⟩, ⟨(some 39), .mv (.t 1), (some (37, true)), []⟩, ⟨(some 40), .ldN 3 (.t 5), (some (37, true)), []⟩, ⟨(some 41), .mv (.t 9), (some (37, true)), []⟩, ⟨(some 42), .mv (.t 11), (some (37, true)), []⟩, ⟨(some 43), .call (.c (.fn 219 [])) [(.t 38), (.t 39), (.t 40), (.t 41), (.t 42)], (some (37, true)), []⟩, o 44 (.pick (.t 37) (.t 43) (.c (.bool false)))])
 (.cond (.t 44) (g [o 45 (.mv (.t 7)), o 46 (.mv (.t 11)), o 47 (.ixS 1 (.t 45) (.t 46)), o 48 (.ld1 (.t 47)), o 10 (.mv (.t 48))])
 .skip)))
 (g [o 30 (.mv (.t 11)), o 31 (.bin .add (.t 30) (.c (i 1))), o 11 (.mv (.t 31))])))
def w174_1 : AC := .loop [1, 3, 5, 7, 8, 9]
 (.seq (.seq (g [o 12 (.mv (.t 9)), o 13 (.mv (.t 1)), o 14 (.call (.c (.fn 217 [])) [(.t 13)]), o 15 (.bin .lss (.t 12) (.t 14))])
 (.cond (.t 15) .skip
 (.exit 0)))
 (.seq (.block 1 (.seq (g [o 10 (.mv (.c (j 0)))])
 (.seq (.seq (g [o 18 (.ldN 10 (.t 3)), o 19 (.mv (.t 1)), o 20 (.ldN 3 (.t 5)), o 21 (.mv (.t 9)), o 22 (.call (.c (.fn 218 [])) [(.t 18), (.t 19), (.t 20), (.t 21)])])
 (.cond (.t 22) (.seq (.seq (g [o 11 (.mv (.c (i 0)))])
 (.block 2 w174_0))
 (.seq (g [o 49 (.mv (.t 10)), o 50 (.bin .lss (.t 49) (.c (i 0)))])
 (.cond (.t 50) (.seq (g [o 51 (.mv (.t 8)), o 10 (.mv (.t 51))])
 (g [o 52 (.mv (.t 8)), o 53 (.bin .add (.t 52) (.c (i 1))), o 8 (.mv (.t 53))]))
 .skip)))
 .skip))
 (g [o 54 (.mv (.t 7)), o 55 (.mv (.t 10)), o 56 (.bslice 1 [i 0] [(0, 1, (.t 55))]), o 57 (.app 1 8 (.t 54) (.t 56)), o 7 (.mv (.t 57))]))))
 (g [o 16 (.mv (.t 9)), o 17 (.bin .add (.t 16) (.c (i 1))), o 9 (.mv (.t 17))])))
def c174 : AFunc := ⟨3, 59, [.tmp 6],
 (.seq (g [o 3 (.box (.t 0)), o 5 (.box (.t 2)), o 6 (.mv (.c .nils))])
 (.seq (g [o 7 (.mv (.c .nils))])
 (.seq (g [o 8 (.mv (.c (i 0)))])
 (.seq (.seq (g [o 9 (.mv (.c (i 0)))])
 (.block 0 w174_1))
 (.seq (g [o 58 (.mv (.t 7)), o 6 (.mv (.t 58))])
 .ret)))))⟩

def w175_0 : AC := .loop [0, 1, 5]
 (.seq (.seq (g [o 6 (.mv (.t 5)), o 7 (.mv (.t 0)), o 8 (.lenS (.t 7)), o 9 (.bin .lss (.t 6) (.t 8))])
 (.cond (.t 9) .skip
 (.exit 0)))
 (.seq (.block 1 (.seq (g [o 12 (.mv (.t 0)), o 13 (.mv (.t 5)), o 14 (.ixS 1 (.t 12) (.t 13)), o 15 (.ld1 (.t 14)), o 16 (.mv (.t 1)), o 17 (.bin .eql (.t 15) (.t 16))])
 (.cond (.t 17) (.seq (g [o 18 (.mv (.t 5)), o 4 (.mv (.t 18))])
 .ret)
 .skip)))
 (g [o 10 (.mv (.t 5)), o 11 (.bin .add (.t 10) (.c (i 1))), o 5 (.mv (.t 11))])))
def c175 : AFunc := ⟨2, 19, [.tmp 4],
 (.seq (g [o 4 (.mv (.c (i 0)))])
 (.seq (.seq (g [o 5 (.mv (.c (i 0)))])
 (.block 0 w175_0))
 (.seq (g [o 4 (.mv (.c (j 0)))])
 .ret)))⟩

def v176_0 : AC := .dreg [0, 1, 2, 3, 5, 6, 7, 8, 9, 10, 11, 12, 13, 4, 14, 15, 16, 17, 18, 19] [o 49 (.fa (.t 7) 9), o 50 (.ld1 (.t 49)), o 51 (.mv (.t 9)), o 52 (.mv (.t 10)), o 54 (.ld1 (.t 8)), o 55 (.fa (.t 1) 0), o 56 (.fa (.t 55) 3), o 57 (.ld1 (.t 56)), o 58 (.mv (.t 9)), o 59 (.ixS 3 (.t 57) (.t 58)), o 60 (.fa (.t 59) 0), o 61 (.ld1 (.t 60)), o 62 (.mv (.t 10)), ⟨(some 53), .call (.c (.fn 224 [])) [(.t 52)], none, [1, 4, 7, 11]⟩, ⟨(some 63), .call (.c (.fn 225 [])) [(.t 54), (.t 61), (.t 62)], none, [1]⟩, o 64 (.build [i 0, .nils, .nils] [(0, 1, (.t 51)), (1, 1, (.t 53)), (2, 1, (.t 63))]), o 65 (.bslice 1 [i 0, .nils, .nils] [(0, 3, (.t 64))]), o 66 (.app 3 56 (.t 50) (.t 65)), o 67 (.fa (.t 7) 9), e (.st 1 (.t 67) (.t 66))] none
def u176_0 : AC := .block 1 (.seq v176_0
 (.seq (g [o 68 (.ld1 (.t 8)), o 69 (.nilck (.t 68)), o 70 (.fa (.t 69) 1), o 71 (.ld1 (.t 70)), o 72 (.lenS (.t 71)), o 73 (.bin .gtr (.t 72) (.c (i 8192)))])
 (.cond (.t 73) (.seq (g [o 74 (.build [i 0, i 0, i 0, .nils, i 0, .nils, i 0, i 0, .nils, .nils] []), e (.st 10 (.t 2) (.t 74)), e (.st 1 (.t 3) (.c (i 17)))])
 .ret)
 .skip)))
def v176_1 : AC := .dreg [0, 1, 2, 3, 4, 5, 6, 7, 8, 9, 10] [o 75 (.ld1 (.t 8)), o 76 (.nilck (.t 75)), o 77 (.fa (.t 76) 0), o 78 (.ld1 (.t 77)), o 79 (.ld1 (.t 8)), o 80 (.nilck (.t 79)), o 81 (.fa (.t 80) 1), o 82 (.ld1 (.t 81)), o 83 (.build [i 0, .nils] [(0, 1, (.t 78)), (1, 1, (.t 82))]), o 84 (.fa (.t 7) 7), e (.st 2 (.t 84) (.t 83))] none
def c176 : AFunc := ⟨1, 86, [.cellN 2 10, .cell1 3],
 (.seq (g [o 1 (.box (.t 0)), o 2 (.alloc [i 0, i 0, i 0, .nils, i 0, .nils, i 0, i 0, .nils, .nils]), o 3 (.alloc [i 0])])
 (.seq (g [o 12 (.ldN 7 (.t 1)), o 13 (.call (.c (.fn 220 [])) [(.t 12)]), o 11 (.mv (.t 13)), o 14 (.ext (.t 11) 0), o 15 (.ext (.t 11) 1), o 4 (.mv (.t 14)), o 5 (.mv (.t 15))])
 (.seq (.seq (g [o 16 (.mv (.t 5)), o 17 (.bin .neq (.t 16) (.c (i 0)))])
 (.cond (.t 17) (.seq (g [o 18 (.build [i 0, i 0, i 0, .nils, i 0, .nils, i 0, i 0, .nils, .nils] []), o 19 (.mv (.t 5)), e (.st 10 (.t 2) (.t 18)), e (.st 1 (.t 3) (.t 19))])
 .ret)
 .skip))
 (.seq (.seq (g [o 20 (.mv (.t 4)), o 21 (.bin .gtr (.t 20) (.c (i 4096)))])
 (.cond (.t 21) (.seq (g [o 22 (.build [i 0, i 0, i 0, .nils, i 0, .nils, i 0, i 0, .nils, .nils] []), e (.st 10 (.t 2) (.t 22)), e (.st 1 (.t 3) (.c (i 17)))])
 .ret)
 .skip))
 (.seq (g [o 24 (.fa (.t 1) 4), o 25 (.ldN 2 (.t 24)), o 26 (.fa (.t 1) 6), o 27 (.ld1 (.t 26)), o 28 (.call (.c (.fn 221 [])) [(.t 25), (.t 27)]), o 23 (.mv (.t 28)), o 29 (.ext (.t 23) 0), o 30 (.ext (.t 23) 1), o 6 (.mv (.t 29)), o 5 (.mv (.t 30))])
 (.seq (.seq (g [o 31 (.mv (.t 5)), o 32 (.bin .neq (.t 31) (.c (i 0)))])
 (.cond (.t 32) (.seq (g [o 33 (.build [i 0, i 0, i 0, .nils, i 0, .nils, i 0, i 0, .nils, .nils] []), o 34 (.mv (.t 5)), e (.st 10 (.t 2) (.t 33)), e (.st 1 (.t 3) (.t 34))])
 .ret)
 .skip))
 (.seq (g [o 35 (.ldN 7 (.t 1)), o 36 (.call (.c (.fn 222 [])) [(.t 35)]), o 37 (.build [i 0, i 0, i 0, .nils, i 0, .nils, i 0, i 0, .nils, .nils] [(0, 7, (.t 36))]), o 7 (.alloc [i 0, i 0, i 0, .nils, i 0, .nils, i 0, i 0, .nils, .nils]), e (.st 10 (.t 7) (.t 37))])
 (.seq (g [o 38 (.fa (.t 1) 0), o 39 (.fa (.t 38) 0), o 40 (.ld1 (.t 39)), o 41 .mkmap, o 42 (.build [i 0, .nils, .nilm] [(0, 1, (.t 40)), (2, 1, (.t 41))]), o 43 (.box (.t 42)), o 8 (.alloc [.nilp]), e (.st 1 (.t 8) (.t 43))])
 (.seq (.seq (g [o 44 (.ldN 7 (.t 1)), o 45 (.mv (.t 6)), o 46 (.call (.c (.fn 223 [])) [(.t 44), (.t 45)])])
 (.block 0 (.rangeF (.t 46) [47, 48] (.seq (g [o 9 (.mv (.t 47))])
 (g [o 10 (.mv (.t 48))]))
 u176_0)))
 (.seq v176_1
 (.seq (g [o 85 (.ldN 10 (.t 7)), e (.st 10 (.t 2) (.t 85)), e (.st 1 (.t 3) (.c (i 0)))])
 .ret)))))))))))⟩

def v177_0 : AC := .dreg [0, 1, 2, 3, 4, 5, 6, 7, 8] [o 16 (.mv (.t 0)), o 17 (.mv (.t 5)), o 18 (.ixS 8 (.t 16) (.t 17)), o 19 (.ldN 8 (.t 18)), o 20 (.mv (.t 1)), o 21 (.mv (.t 5)), o 22 (.ixS 8 (.t 20) (.t 21)), o 23 (.ldN 8 (.t 22)), o 24 (.eqf true 8 (.t 19) (.t 23))] none
def w177_0 : AC := .loop [0, 1, 12, 13]
 (.seq (g [o 14 (.bin .lss (.t 13) (.t 12))])
 (.seq (.cond (.t 14) .skip
 (.exit 0))
 (.seq (.block 1 (.seq (g [o 15 (.mv (.t 13)), o 5 (.mv (.t 15))])
 (.seq v177_0
 (.cond (.t 24) (.seq (g [o 4 (.mv (.c (.bool false)))])
 .ret)
 .skip))))
 (g [o 25 (.bin .add (.t 13) (.c (i 1))), o 13 (.mv (.t 25))]))))
def c177 : AFunc := ⟨2, 26, [.tmp 4],
 (.seq (g [o 4 (.mv (.c (.bool false)))])
 (.seq (.seq (g [o 6 (.mv (.t 0)), o 7 (.lenS (.t 6)), o 8 (.mv (.t 1)), o 9 (.lenS (.t 8)), o 10 (.bin .neq (.t 7) (.t 9))])
 (.cond (.t 10) (.seq (g [o 4 (.mv (.c (.bool false)))])
 .ret)
 .skip))
 (.seq (.seq (g [o 11 (.mv (.t 0)), o 12 (.lenS (.t 11)), o 13 (.mv (.c (i 0)))])
 (.block 0 w177_0))
 (.seq (g [o 4 (.mv (.c (.bool true)))])
 .ret))))⟩

def w178_0 : AC := .loop [1, 2, 15, 16, 17]
 (.seq (g [o 18 (.bin .lss (.t 17) (.t 16))])
 (.seq (.cond (.t 18) .skip
 (.exit 0))
 (.seq (.block 1 (.seq (g [o 19 (.mv (.t 17)), o 20 (.ixS 3 (.t 15) (.t 17)), o 21 (.ldN 3 (.t 20)), o 8 (.alloc [i 0, .nils, .nils]), o 7 (.mv (.t 19)), e (.st 3 (.t 8) (.t 21))])
 (.seq (g [o 22 (.mv (.t 1)), o 23 (.mv (.t 7)), o 24 (.ixS 3 (.t 22) (.t 23)), o 25 (.ldN 3 (.t 24)), o 9 (.alloc [i 0, .nils, .nils]), e (.st 3 (.t 9) (.t 25))])
 (.seq (g [o 26 (.mv (.t 2)), o 27 (.ldN 3 (.t 8)), o 28 (.ldN 3 (.t 9)), o 29 (.call (.t 26) [(.t 27), (.t 28)]), o 30 (.un .not (.t 29))])
 (.cond (.t 30) (.seq (g [o 6 (.mv (.c (.bool false)))])
 .ret)
 .skip)))))
 (g [o 31 (.bin .add (.t 17) (.c (i 1))), o 17 (.mv (.t 31))]))))
def c178 : AFunc := ⟨3, 32, [.tmp 6],
 (.seq (g [o 6 (.mv (.c (.bool false)))])
 (.seq (.seq (g [o 10 (.mv (.t 0)), o 11 (.lenS (.t 10)), o 12 (.mv (.t 1)), o 13 (.lenS (.t 12)), o 14 (.bin .neq (.t 11) (.t 13))])
 (.cond (.t 14) (.seq (g [o 6 (.mv (.c (.bool false)))])
 .ret)
 .skip))
 (.seq (.seq (g [o 15 (.mv (.t 0)), o 16 (.lenS (.t 15)), o 17 (.mv (.c (i 0)))])
 (.block 0 w178_0))
 (.seq (g [o 6 (.mv (.c (.bool true)))])
 .ret))))⟩

def c179 : AFunc := ⟨2, 24, [.tmp 4],
 (.seq (g [o 2 (.box (.t 0)), o 3 (.box (.t 1)), o 4 (.mv (.c (.bool false)))])
 (.seq (g [o 5 (.fa (.t 2) 0), o 6 (.ld1 (.t 5)), o 7 (.fa (.t 3) 0), o 8 (.ld1 (.t 7)), o 9 (.bin .eql (.t 6) (.t 8)), o 10 (.mv (.t 9)), ⟨(some 11), .fa (.t 2) 1, (some (10, true)), []⟩, ⟨(some 12), .ld1 (.t 11), (some (10, true)), []⟩, ⟨(some 13), .fa (.t 3) 1, (some (10, true)), []⟩, ⟨(some 14), .ld1 (.t 13), (some (10, true)), []⟩, ⟨(some 15), .call (.c (.fn 226 [])) [(.t 12), (.t 14)], (some (10, true)), []⟩, o 16 (.pick (.t 10) (.t 15) (.c (.bool false))), o 17 (.mv (.t 16)), ⟨(some 18), .fa (.t 2) 2, (some (17, true)), []⟩, ⟨(some 19), .ld1 (.t 18), (some (17, true)), []⟩, ⟨(some 20), .fa (.t 3) 2, (some (17, true)), []⟩, ⟨(some 21), .ld1 (.t 20), (some (17, true)), []⟩, ⟨(some 22), .call (.c (.fn 71 [])) [(.t 19), (.t 21), (.c (.fn 41 []))], (some (17, true)), []⟩, o 23 (.pick (.t 17) (.t 22) (.c (.bool false))), o 4 (.mv (.t 23))])
 .ret))⟩

def c180 : AFunc := ⟨2, 19, [.tmp 4],
 (.seq (g [o 2 (.box (.t 0)), o 4 (.mv (.c (i 0)))])
 (.seq (g [o 6 (.fa (.t 2) 1), o 7 (.ld1 (.t 6)), o 8 (.mv (.t 1)), o 9 (.ixS 8 (.t 7) (.t 8)), o 10 (.ldN 8 (.t 9)), o 5 (.alloc [i 0, i 0, i 0, i 0, i 0, i 0, i 0, i 0]), e (.st 8 (.t 5) (.t 10))])
 (.seq (.seq (g [o 11 (.fa (.t 5) 1), o 12 (.ld1 (.t 11)), o 13 (.bin .eql (.t 12) (.c (i 0)))])
 (.cond (.t 13) (.seq (g [o 4 (.mv (.c (j 0)))])
 .ret)
 .skip))
 (.seq (g [o 14 (.fa (.t 5) 0), o 15 (.ld1 (.t 14)), o 16 (.fa (.t 5) 3), o 17 (.ixA 5 1 (.t 16) (.t 15)), o 18 (.ld1 (.t 17)), o 4 (.mv (.t 18))])
 .ret))))⟩

def v181_0 : AC := .dreg [0, 1, 2, 3, 4, 5, 6, 7, 8, 9, 10, 11, 12, 13, 14, 15, 16, 17, 18, 19, 20, 21] [o 19 (.mv (.t 11)), o 20 (.bin .add (.t 19) (.c (i 1))), o 21 (.mv (.t 2)), o 22 (.bin .lss (.t 20) (.t 21)), o 23 (.mv (.t 22)), ⟨(some 24), .mv (.t 4), (some (23, true)), []⟩, ⟨(some 25), .mv (.t 0), (some (23, true)), []⟩, ⟨(some 26), .mv (.t 3), (some (23, true)), []⟩, ⟨(some 27), .mv (.t 11), (some (23, true)), []⟩, ⟨(some 28), .bin .add (.t 26) (.t 27), (some (23, true)), []⟩, ⟨(some 29), .ixS 8 (.t 25) (.t 28), (some (23, true)), []⟩, ⟨(some 30), .ldN 8 (.t 29), (some (23, true)), []⟩, ⟨(some 31), .mv (.t 0), (some (23, true)), []⟩, ⟨(some 32), .mv (.t 3), (some (23, true)), []⟩, ⟨(some 33), .mv (.t 11), (some (23, true)), []⟩, ⟨(some 34), .bin .add (.t 32) (.t 33), (some (23, true)), []⟩, ⟨(some 35), .bin .add (.t 34) (.c (i 1)), (some (23, true)), []⟩, ⟨(some 36), .ixS 8 (.t 31) (.t 35), (some (23, true)), []⟩, ⟨(some 37), .ldN 8 (.t 36), (some (23, true)), []⟩, ⟨(some 38), .call (.t 24) [(.t 30), (.t 37)], (some (23, true)), []⟩, ⟨(some 39), .bin .lss (.t 38) (.c (i 0)), (some (23, true)), []⟩, o 40 (.pick (.t 23) (.t 39) (.c (.bool false)))] none
def v181_1 : AC := .dreg [0, 1, 2, 3, 4, 5, 6, 7, 8, 9, 10, 11, 12, 13, 14, 15] [o 43 (.mv (.t 4)), o 44 (.mv (.t 0)), o 45 (.mv (.t 3)), o 46 (.mv (.t 10)), o 47 (.bin .add (.t 45) (.t 46)), o 48 (.ixS 8 (.t 44) (.t 47)), o 49 (.ldN 8 (.t 48)), o 50 (.mv (.t 0)), o 51 (.mv (.t 3)), o 52 (.mv (.t 11)), o 53 (.bin .add (.t 51) (.t 52)), o 54 (.ixS 8 (.t 50) (.t 53)), o 55 (.ldN 8 (.t 54)), o 56 (.call (.t 43) [(.t 49), (.t 55)]), o 57 (.bin .lss (.t 56) (.c (i 0))), o 58 (.un .not (.t 57))] none
def v181_2 : AC := .dreg [0, 1, 2, 3, 4, 5, 6, 7, 8, 9, 10, 11, 12, 13, 14, 15, 16, 17, 18, 19, 20, 21, 22, 23] [o 59 (.mv (.t 0)), o 60 (.mv (.t 3)), o 61 (.mv (.t 10)), o 62 (.bin .add (.t 60) (.t 61)), o 63 (.mv (.t 0)), o 64 (.mv (.t 3)), o 65 (.mv (.t 11)), o 66 (.bin .add (.t 64) (.t 65)), o 67 (.mv (.t 0)), o 68 (.mv (.t 3)), o 69 (.mv (.t 11)), o 70 (.bin .add (.t 68) (.t 69)), o 71 (.ixS 8 (.t 67) (.t 70)), o 72 (.ldN 8 (.t 71)), o 73 (.mv (.t 0)), o 74 (.mv (.t 3)), o 75 (.mv (.t 10)), o 76 (.bin .add (.t 74) (.t 75)), o 77 (.ixS 8 (.t 73) (.t 76)), o 78 (.ldN 8 (.t 77)), o 79 (.ixS 8 (.t 59) (.t 62)), e (.st 8 (.t 79) (.t 72)), o 80 (.ixS 8 (.t 63) (.t 66)), e (.st 8 (.t 80) (.t 78))] none
def w181_0 : AC := .loop [0, 2, 3, 4, 10]
 (.block 1 (.seq (g [o 13 (.mv (.t 10)), o 14 (.bin .mul (.c (i 2)) (.t 13)), o 15 (.bin .add (.t 14) (.c (i 1))), o 11 (.mv (.t 15))])
 (.seq (.seq (g [o 16 (.mv (.t 11)), o 17 (.mv (.t 2)), o 18 (.bin .geq (.t 16) (.t 17))])
 (.cond (.t 18) (.exit 0)
 .skip))
 (.seq (.seq v181_0
 (.cond (.t 40) (g [o 41 (.mv (.t 11)), o 42 (.bin .add (.t 41) (.c (i 1))), o 11 (.mv (.t 42))])
 .skip))
 (.seq (.seq v181_1
 (.cond (.t 58) .ret
 .skip))
 (.seq v181_2
 (g [o 81 (.mv (.t 11)), o 10 (.mv (.t 81))])))))))
def c181 : AFunc := ⟨5, 82, [],
 (.seq (g [o 12 (.mv (.t 1)), o 10 (.mv (.t 12))])
 (.block 0 w181_0))⟩

def c182 : AFunc := ⟨1, 7, [.tmp 2],
 (.seq (g [o 2 (.mv (.c (.int .u64 0)))])
 (.seq (g [o 3 (.mv (.t 0)), o 4 (.conv .u64 (.t 3)), o 5 (.call (.c (.fn 88 [])) [(.t 4)]), o 6 (.bin .shl (.c (.int .u64 1)) (.t 5)), o 2 (.mv (.t 6))])
 .ret))⟩

def v183_0 : AC := .dreg [0, 1, 2, 3, 4, 5, 6, 7, 8, 9] [o 3 (.mv (.t 0)), o 4 (.nilck (.t 3)), o 5 (.ld1 (.t 4)), o 6 (.mv (.t 0)), o 7 (.nilck (.t 6)), o 8 (.ld1 (.t 7)), o 9 (.bin .shl (.t 8) (.c (.int .u64 13))), o 10 (.bin .xor (.t 5) (.t 9)), o 11 (.nilck (.t 3)), e (.st 1 (.t 11) (.t 10))] none
def v183_1 : AC := .dreg [0, 1, 2, 3, 4, 5, 6, 7, 8, 9] [o 12 (.mv (.t 0)), o 13 (.nilck (.t 12)), o 14 (.ld1 (.t 13)), o 15 (.mv (.t 0)), o 16 (.nilck (.t 15)), o 17 (.ld1 (.t 16)), o 18 (.bin .shr (.t 17) (.c (.int .u64 7))), o 19 (.bin .xor (.t 14) (.t 18)), o 20 (.nilck (.t 12)), e (.st 1 (.t 20) (.t 19))] none
def v183_2 : AC := .dreg [0, 1, 2, 3, 4, 5, 6, 7, 8, 9] [o 21 (.mv (.t 0)), o 22 (.nilck (.t 21)), o 23 (.ld1 (.t 22)), o 24 (.mv (.t 0)), o 25 (.nilck (.t 24)), o 26 (.ld1 (.t 25)), o 27 (.bin .shl (.t 26) (.c (.int .u64 17))), o 28 (.bin .xor (.t 23) (.t 27)), o 29 (.nilck (.t 21)), e (.st 1 (.t 29) (.t 28))] none
def c183 : AFunc := ⟨1, 33, [.tmp 2],
 (.seq (g [o 2 (.mv (.c (.int .u64 0)))])
 (.seq v183_0
 (.seq v183_1
 (.seq v183_2
 (.seq (g [o 30 (.mv (.t 0)), o 31 (.nilck (.t 30)), o 32 (.ld1 (.t 31)), o 2 (.mv (.t 32))])
 .ret)))))⟩

def c184 : AFunc := ⟨4, 18, [.tmp 8],
 (.seq (g [o 8 (.mv (.c (i 0)))])
 (.seq (g [o 9 (.mv (.t 0)), o 10 (.mv (.t 1)), o 11 (.bin .sub (.t 10) (.c (i 1))), o 12 (.mv (.t 1)), o 13 (.mv (.t 1)), o 14 (.bin .add (.t 13) (.c (i 1))), o 15 (.mv (.t 2)), o 16 (.mv (.t 3)), o 17 (.call (.c (.fn 185 [])) [(.t 9), (.t 11), (.t 12), (.t 14), (.t 15), (.t 16)]), o 8 (.mv (.t 17))])
 .ret))⟩

def c185 : AFunc := ⟨6, 41, [.tmp 12],
 (.seq (g [o 12 (.mv (.c (i 0)))])
 (.seq (g [o 14 (.mv (.t 0)), o 15 (.mv (.t 1)), o 16 (.mv (.t 2)), o 17 (.mv (.t 4)), o 18 (.mv (.t 5)), o 19 (.call (.c (.fn 227 [])) [(.t 14), (.t 15), (.t 16), (.t 17), (.t 18)]), o 13 (.mv (.t 19)), o 20 (.ext (.t 13) 0), o 21 (.ext (.t 13) 1), o 1 (.mv (.t 20)), o 2 (.mv (.t 21))])
 (.seq (g [o 23 (.mv (.t 0)), o 24 (.mv (.t 2)), o 25 (.mv (.t 3)), o 26 (.mv (.t 4)), o 27 (.mv (.t 5)), o 28 (.call (.c (.fn 227 [])) [(.t 23), (.t 24), (.t 25), (.t 26), (.t 27)]), o 22 (.mv (.t 28)), o 29 (.ext (.t 22) 0), o 30 (.ext (.t 22) 1), o 2 (.mv (.t 29)), o 3 (.mv (.t 30))])
 (.seq (g [o 32 (.mv (.t 0)), o 33 (.mv (.t 1)), o 34 (.mv (.t 2)), o 35 (.mv (.t 4)), o 36 (.mv (.t 5)), o 37 (.call (.c (.fn 227 [])) [(.t 32), (.t 33), (.t 34), (.t 35), (.t 36)]), o 31 (.mv (.t 37)), o 38 (.ext (.t 31) 0), o 39 (.ext (.t 31) 1), o 1 (.mv (.t 38)), o 2 (.mv (.t 39))])
 (.seq (g [o 40 (.mv (.t 2)), o 12 (.mv (.t 40))])
 .ret)))))⟩

def v186_0 : AC := .dreg [0, 1, 2, 3, 4, 5, 6, 7, 8, 9, 10, 11, 12, 13, 14] [o 25 (.mv (.t 1)), o 26 (.bin .gtr (.t 25) (.c (i 0))), o 27 (.mv (.t 26)), ⟨(some 28), .fa (.t 2) 3, (some (27, true)), []⟩, ⟨(some 29), .ld1 (.t 28), (some (27, true)), []⟩, ⟨(some 30), .mv (.t 1), (some (27, true)), []⟩, ⟨(some 31), .bin .sub (.t 30) (.c (i 1)), (some (27, true)), []⟩, ⟨(some 32), .ixS 3 (.t 29) (.t 31), (some (27, true)), []⟩, ⟨(some 33), .fa (.t 32) 0, (some (27, true)), []⟩, ⟨(some 34), .ld1 (.t 33), (some (27, true)), []⟩, ⟨(some 35), .fa (.t 5) 0, (some (27, true)), []⟩, ⟨(some 36), .ld1 (.t 35), (some (27, true)), []⟩, ⟨(some 37), .call (.c (.fn 229 [])) [(.t 34), (.t 36)], (some (27, true)), []⟩, ⟨(some 38), .bin .geq (.t 37) (.c (i 0)), (some (27, true)), []⟩, o 39 (.pick (.t 27) (.t 38) (.c (.bool false)))] none
def v186_1 : AC := .dreg [0, 1, 2, 3, 4, 5, 6, 7, 8, 9, 10] [o 57 (.fa (.t 5) 1), o 58 (.ld1 (.t 57)), o 59 (.mv (.t 7)), o 60 (.ixS 1 (.t 58) (.t 59)), o 61 (.ld1 (.t 60)), o 62 (.fa (.t 2) 0), o 63 (.ld1 (.t 62)), o 64 (.fa (.t 2) 2), o 65 (.ld1 (.t 64)), o 66 (.call (.c (.fn 228 [])) [(.t 61), (.t 63), (.t 65)]), o 8 (.mv (.t 66))] none
def v186_2 : AC := .dreg [0, 1, 2, 3, 4, 5, 6, 7, 8, 9, 10, 11, 12, 13, 14, 15, 16] [o 70 (.mv (.t 7)), o 71 (.bin .gtr (.t 70) (.c (i 0))), o 72 (.mv (.t 71)), ⟨(some 73), .fa (.t 5) 1, (some (72, true)), []⟩, ⟨(some 74), .ld1 (.t 73), (some (72, true)), []⟩, ⟨(some 75), .mv (.t 7), (some (72, true)), []⟩, ⟨(some 76), .bin .sub (.t 75) (.c (i 1)), (some (72, true)), []⟩, ⟨(some 77), .ixS 1 (.t 74) (.t 76), (some (72, true)), []⟩, ⟨(some 78), .ld1 (.t 77), (some (72, true)), []⟩, ⟨(some 79), .fa (.t 5) 1, (some (72, true)), []⟩, ⟨(some 80), .ld1 (.t 79), (some (72, true)), []⟩, ⟨(some 81), .mv (.t 7), (some (72, true)), []⟩, ⟨(some 82), .ixS 1 (.t 80) (.t 81), (some (72, true)), []⟩, ⟨(some 83), .ld1 (.t 82), (some (72, true)), []⟩, ⟨(some 84), .call (.c (.fn 229 [])) [(.t 78), (.t 83)], (some (72, true)), []⟩, ⟨(some 85), .bin .geq (.t 84) (.c (i 0)), (some (72, true)), []⟩, o 86 (.pick (.t 72) (.t 85) (.c (.bool false)))] none
def w186_0 : AC := .loop [2, 5, 7]
 (.seq (.seq (g [o 50 (.mv (.t 7)), o 51 (.fa (.t 5) 1), o 52 (.ld1 (.t 51)), o 53 (.lenS (.t 52)), o 54 (.bin .lss (.t 50) (.t 53))])
 (.cond (.t 54) .skip
 (.exit 0)))
 (.seq (.block 1 (.seq (.seq v186_1
 (.seq (g [o 67 (.mv (.t 8)), o 68 (.bin .neq (.t 67) (.c (i 0)))])
 (.cond (.t 68) (.seq (g [o 69 (.mv (.t 8)), o 4 (.mv (.t 69))])
 .ret)
 .skip)))
 (.seq v186_2
 (.cond (.t 86) (.seq (g [o 4 (.mv (.c (i 14)))])
 .ret)
 .skip))))
 (g [o 55 (.mv (.t 7)), o 56 (.bin .add (.t 55) (.c (i 1))), o 7 (.mv (.t 56))])))
def v186_3 : AC := .dreg [0, 1, 2, 3, 4, 5, 6, 7, 8] [o 94 (.fa (.t 5) 1), o 95 (.ld1 (.t 94)), o 96 (.fa (.t 5) 2), o 97 (.ld1 (.t 96)), o 98 (.mv (.t 9)), o 99 (.ixS 1 (.t 97) (.t 98)), o 100 (.ld1 (.t 99)), o 101 (.call (.c (.fn 230 [])) [(.t 95), (.t 100)]), o 102 (.un .not (.t 101))] none
def v186_4 : AC := .dreg [0, 1, 2, 3, 4, 5, 6, 7, 8, 9, 10, 11, 12, 13, 14, 15, 16] [o 103 (.mv (.t 9)), o 104 (.bin .gtr (.t 103) (.c (i 0))), o 105 (.mv (.t 104)), ⟨(some 106), .fa (.t 5) 2, (some (105, true)), []⟩, ⟨(some 107), .ld1 (.t 106), (some (105, true)), []⟩, ⟨(some 108), .mv (.t 9), (some (105, true)), []⟩, ⟨(some 109), .bin .sub (.t 108) (.c (i 1)), (some (105, true)), []⟩, ⟨(some 110), .ixS 1 (.t 107) (.t 109), (some (105, true)), []⟩, ⟨(some 111), .ld1 (.t 110), (some (105, true)), []⟩, ⟨(some 112), .fa (.t 5) 2, (some (105, true)), []⟩, ⟨(some 113), .ld1 (.t 112), (some (105, true)), []⟩, ⟨(some 114), .mv (.t 9), (some (105, true)), []⟩, ⟨(some 115), .ixS 1 (.t 113) (.t 114), (some (105, true)), []⟩, ⟨(some 116), .ld1 (.t 115), (some (105, true)), []⟩, ⟨(some 117), .call (.c (.fn 229 [])) [(.t 111), (.t 116)], (some (105, true)), []⟩, ⟨(some 118), .bin .geq (.t 117) (.c (i 0)), (some (105, true)), []⟩, o 119 (.pick (.t 105) (.t 118) (.c (.bool false)))] none
def w186_1 : AC := .loop [5, 9]
 (.seq (.seq (g [o 87 (.mv (.t 9)), o 88 (.fa (.t 5) 2), o 89 (.ld1 (.t 88)), o 90 (.lenS (.t 89)), o 91 (.bin .lss (.t 87) (.t 90))])
 (.cond (.t 91) .skip
 (.exit 2)))
 (.seq (.block 3 (.seq (.seq v186_3
 (.cond (.t 102) (.seq (g [o 4 (.mv (.c (i 6)))])
 .ret)
 .skip))
 (.seq v186_4
 (.cond (.t 119) (.seq (g [o 4 (.mv (.c (i 14)))])
 .ret)
 .skip))))
 (g [o 92 (.mv (.t 9)), o 93 (.bin .add (.t 92) (.c (i 1))), o 9 (.mv (.t 93))])))
def c186 : AFunc := ⟨2, 120, [.tmp 4],
 (.seq (g [o 2 (.box (.t 0)), o 4 (.mv (.c (i 0)))])
 (.seq (g [o 10 (.fa (.t 2) 3), o 11 (.ld1 (.t 10)), o 12 (.mv (.t 1)), o 13 (.ixS 3 (.t 11) (.t 12)), o 14 (.ldN 3 (.t 13)), o 5 (.alloc [.nils, .nils, .nils]), e (.st 3 (.t 5) (.t 14))])
 (.seq (.seq (g [o 15 (.fa (.t 5) 0), o 16 (.ld1 (.t 15)), o 17 (.fa (.t 2) 0), o 18 (.ld1 (.t 17)), o 19 (.fa (.t 2) 1), o 20 (.ld1 (.t 19)), o 21 (.call (.c (.fn 228 [])) [(.t 16), (.t 18), (.t 20)]), o 6 (.mv (.t 21))])
 (.seq (g [o 22 (.mv (.t 6)), o 23 (.bin .neq (.t 22) (.c (i 0)))])
 (.cond (.t 23) (.seq (g [o 24 (.mv (.t 6)), o 4 (.mv (.t 24))])
 .ret)
 .skip)))
 (.seq (.seq v186_0
 (.cond (.t 39) (.seq (g [o 4 (.mv (.c (i 14)))])
 .ret)
 .skip))
 (.seq (.seq (g [o 40 (.fa (.t 5) 1), o 41 (.ld1 (.t 40)), o 42 (.lenS (.t 41)), o 43 (.bin .lss (.t 42) (.c (i 1))), o 44 (.mv (.t 43)), ⟨(some 45), .fa (.t 5) 1, (some (44, false)), []⟩, ⟨(some 46), .ld1 (.t 45), (some (44, false)), []⟩, ⟨(some 47), .lenS (.t 46), (some (44, false)), []⟩, ⟨(some 48), .bin .gtr (.t 47) (.c (i 1024)), (some (44, false)), []⟩, o 49 (.pick (.t 44) (.c (.bool true)) (.t 48))])
 (.cond (.t 49) (.seq (g [o 4 (.mv (.c (i 5)))])
 .ret)
 .skip))
 (.seq (.seq (g [o 7 (.mv (.c (i 0)))])
 (.block 0 w186_0))
 (.seq (.seq (g [o 9 (.mv (.c (i 0)))])
 (.block 2 w186_1))
 (.seq (g [o 4 (.mv (.c (i 0)))])
 .ret))))))))⟩

def w187_0 : AC := .loop [1, 3, 4]
 (.seq (.seq (g [o 5 (.mv (.t 4)), o 6 (.fa (.t 1) 1), o 7 (.ld1 (.t 6)), o 8 (.lenS (.t 7)), o 9 (.bin .lss (.t 5) (.t 8))])
 (.cond (.t 9) .skip
 (.exit 0)))
 (.seq (.block 1 (g [o 12 (.mv (.t 3)), o 13 (.fa (.t 1) 1), o 14 (.ld1 (.t 13)), o 15 (.mv (.t 4)), o 16 (.ixS 1 (.t 14) (.t 15)), o 17 (.ld1 (.t 16)), o 18 (.lenS (.t 17)), o 19 (.bin .add (.t 12) (.t 18)), o 3 (.mv (.t 19))]))
 (g [o 10 (.mv (.t 4)), o 11 (.bin .add (.t 10) (.c (i 1))), o 4 (.mv (.t 11))])))
def c187 : AFunc := ⟨1, 21, [.tmp 2],
 (.seq (g [o 1 (.box (.t 0)), o 2 (.mv (.c (i 0)))])
 (.seq (g [o 3 (.mv (.c (i 0)))])
 (.seq (.seq (g [o 4 (.mv (.c (i 0)))])
 (.block 0 w187_0))
 (.seq (g [o 20 (.mv (.t 3)), o 2 (.mv (.t 20))])
 .ret))))⟩

def v188_0 : AC := .dreg [0, 1, 2, 3, 4, 5, 6, 7, 8, 9, 10, 11, 12] [o 25 (.mv (.t 2)), o 26 (.bin .gtr (.t 25) (.c (i 0))), o 27 (.mv (.t 26)), ⟨(some 28), .mv (.t 1), (some (27, true)), []⟩, ⟨(some 29), .mv (.t 2), (some (27, true)), []⟩, ⟨(some 30), .bin .sub (.t 29) (.c (i 1)), (some (27, true)), []⟩, ⟨(some 31), .ixS 8 (.t 28) (.t 30), (some (27, true)), []⟩, ⟨(some 32), .fa (.t 31) 0, (some (27, true)), []⟩, ⟨(some 33), .ldN 7 (.t 32), (some (27, true)), []⟩, ⟨(some 34), .ldN 7 (.t 7), (some (27, true)), []⟩, ⟨(some 35), .call (.c (.fn 231 [])) [(.t 33), (.t 34)], (some (27, true)), []⟩, ⟨(some 36), .bin .geq (.t 35) (.c (i 0)), (some (27, true)), []⟩, o 37 (.pick (.t 27) (.t 36) (.c (.bool false)))] none
def v188_1 : AC := .dreg [0, 1, 2, 3, 4, 5, 6, 7, 8, 9, 10, 11, 12, 13, 14, 15, 16] [o 38 (.mv (.t 1)), o 39 (.mv (.t 2)), o 40 (.ixS 8 (.t 38) (.t 39)), o 41 (.fa (.t 40) 7), o 42 (.ld1 (.t 41)), o 43 (.bin .lss (.t 42) (.c (i 0))), o 44 (.mv (.t 43)), ⟨(some 45), .mv (.t 1), (some (44, false)), []⟩, ⟨(some 46), .mv (.t 2), (some (44, false)), []⟩, ⟨(some 47), .ixS 8 (.t 45) (.t 46), (some (44, false)), []⟩, ⟨(some 48), .fa (.t 47) 7, (some (44, false)), []⟩, ⟨(some 49), .ld1 (.t 48), (some (44, false)), []⟩, ⟨(some 50), .fa (.t 3) 1, (some (44, false)), []⟩, ⟨(some 51), .ld1 (.t 50), (some (44, false)), []⟩, ⟨(some 52), .lenS (.t 51), (some (44, false)), []⟩, ⟨(some 53), .bin .geq (.t 49) (.t 52), (some (44, false)), []⟩, o 54 (.pick (.t 44) (.c (.bool true)) (.t 53))] none
def c188 : AFunc := ⟨3, 55, [.tmp 6],
 (.seq (g [o 3 (.box (.t 0)), o 6 (.mv (.c (i 0)))])
 (.seq (g [o 9 (.mv (.t 1)), o 10 (.mv (.t 2)), o 11 (.ixS 8 (.t 9) (.t 10)), o 12 (.fa (.t 11) 0), o 13 (.ldN 7 (.t 12)), o 7 (.alloc [i 0, i 0, i 0, i 0, i 0, i 0, i 0]), e (.st 7 (.t 7) (.t 13))])
 (.seq (.seq (g [o 14 (.ldN 7 (.t 7)), o 15 (.call (.c (.fn 114 [])) [(.t 14)]), o 8 (.mv (.t 15))])
 (.seq (g [o 16 (.mv (.t 8)), o 17 (.bin .neq (.t 16) (.c (i 0)))])
 (.cond (.t 17) (.seq (g [o 18 (.mv (.t 8)), o 6 (.mv (.t 18))])
 .ret)
 .skip)))
 (.seq (.seq (g [o 19 (.fa (.t 7) 0), o 20 (.fa (.t 19) 0), o 21 (.ld1 (.t 20)), o 22 (.fa (.t 3) 0), o 23 (.ld1 (.t 22)), o 24 (.bin .neq (.t 21) (.t 23))])
 (.cond (.t 24) (.seq (g [o 6 (.mv (.c (i 22)))])
 .ret)
 .skip))
 (.seq (.seq v188_0
 (.cond (.t 37) (.seq (g [o 6 (.mv (.c (i 14)))])
 .ret)
 .skip))
 (.seq (.seq v188_1
 (.cond (.t 54) (.seq (g [o 6 (.mv (.c (i 2)))])
 .ret)
 .skip))
 (.seq (g [o 6 (.mv (.c (i 0)))])
 .ret)))))))⟩

def v189_0 : AC := .dreg [0, 1, 2, 3, 4, 5, 6, 7, 8, 9, 10, 11, 12, 13, 14, 15] [o 43 (.fa (.t 5) 0), o 44 (.fa (.t 43) 6), o 45 (.ld1 (.t 44)), o 46 (.fa (.t 1) 1), o 47 (.ld1 (.t 46)), o 48 (.fa (.t 5) 7), o 49 (.ld1 (.t 48)), o 50 (.ixS 1 (.t 47) (.t 49)), o 51 (.ld1 (.t 50)), o 52 (.mv (.t 6)), o 53 (.ixS 8 (.t 51) (.t 52)), o 54 (.fa (.t 53) 0), o 55 (.fa (.t 54) 6), o 56 (.ld1 (.t 55)), o 57 (.call (.c (.fn 115 [])) [(.t 45), (.t 56)]), o 58 (.un .not (.t 57))] none
def w189_0 : AC := .loop [1, 3, 4, 5, 6]
 (.seq (.seq (g [o 32 (.mv (.t 6)), o 33 (.fa (.t 1) 1), o 34 (.ld1 (.t 33)), o 35 (.fa (.t 5) 7), o 36 (.ld1 (.t 35)), o 37 (.ixS 1 (.t 34) (.t 36)), o 38 (.ld1 (.t 37)), o 39 (.lenS (.t 38)), o 40 (.bin .lss (.t 32) (.t 39))])
 (.cond (.t 40) .skip
 (.exit 4)))
 (.seq (.block 5 (.seq v189_0
 (.cond (.t 58) (.seq (g [o 2 (.mv (.c (.bool false)))])
 .ret)
 .skip)))
 (g [o 41 (.mv (.t 6)), o 42 (.bin .add (.t 41) (.c (i 1))), o 6 (.mv (.t 42))])))
def w189_1 : AC := .loop [1, 3, 4]
 (.seq (.seq (g [o 14 (.mv (.t 4)), o 15 (.fa (.t 1) 1), o 16 (.ld1 (.t 15)), o 17 (.mv (.t 3)), o 18 (.ixS 1 (.t 16) (.t 17)), o 19 (.ld1 (.t 18)), o 20 (.lenS (.t 19)), o 21 (.bin .lss (.t 14) (.t 20))])
 (.cond (.t 21) .skip
 (.exit 2)))
 (.seq (.block 3 (.seq (g [o 24 (.fa (.t 1) 1), o 25 (.ld1 (.t 24)), o 26 (.mv (.t 3)), o 27 (.ixS 1 (.t 25) (.t 26)), o 28 (.ld1 (.t 27)), o 29 (.mv (.t 4)), o 30 (.ixS 8 (.t 28) (.t 29)), o 31 (.ldN 8 (.t 30)), o 5 (.alloc [i 0, i 0, i 0, i 0, i 0, i 0, i 0, i 0]), e (.st 8 (.t 5) (.t 31))])
 (.seq (g [o 6 (.mv (.c (i 0)))])
 (.block 4 w189_0))))
 (g [o 22 (.mv (.t 4)), o 23 (.bin .add (.t 22) (.c (i 1))), o 4 (.mv (.t 23))])))
def w189_2 : AC := .loop [1, 3]
 (.seq (.seq (g [o 7 (.mv (.t 3)), o 8 (.fa (.t 1) 1), o 9 (.ld1 (.t 8)), o 10 (.lenS (.t 9)), o 11 (.bin .lss (.t 7) (.t 10))])
 (.cond (.t 11) .skip
 (.exit 0)))
 (.seq (.block 1 (.seq (g [o 4 (.mv (.c (i 0)))])
 (.block 2 w189_1)))
 (g [o 12 (.mv (.t 3)), o 13 (.bin .add (.t 12) (.c (i 1))), o 3 (.mv (.t 13))])))
def c189 : AFunc := ⟨1, 59, [.tmp 2],
 (.seq (g [o 1 (.box (.t 0)), o 2 (.mv (.c (.bool false)))])
 (.seq (.seq (g [o 3 (.mv (.c (i 0)))])
 (.block 0 w189_2))
 (.seq (g [o 2 (.mv (.c (.bool true)))])
 .ret)))⟩

def v190_0 : AC := .dreg [0, 1, 2, 3, 4, 5, 6] [o 13 (.fa (.t 2) 1), o 14 (.ld1 (.t 13)), o 15 (.mv (.t 5)), o 16 (.ixS 8 (.t 14) (.t 15)), o 17 (.ldN 8 (.t 16)), o 18 (.ldN 8 (.t 3)), o 19 (.eqf false 8 (.t 17) (.t 18))] none
def w190_0 : AC := .loop [2, 3, 5]
 (.seq (.seq (g [o 6 (.mv (.t 5)), o 7 (.fa (.t 2) 1), o 8 (.ld1 (.t 7)), o 9 (.lenS (.t 8)), o 10 (.bin .lss (.t 6) (.t 9))])
 (.cond (.t 10) .skip
 (.exit 0)))
 (.seq (.block 1 (.seq v190_0
 (.cond (.t 19) (.seq (g [o 20 (.mv (.t 5)), o 4 (.mv (.t 20))])
 .ret)
 .skip)))
 (g [o 11 (.mv (.t 5)), o 12 (.bin .add (.t 11) (.c (i 1))), o 5 (.mv (.t 12))])))
def c190 : AFunc := ⟨2, 21, [.tmp 4],
 (.seq (g [o 2 (.box (.t 0)), o 3 (.box (.t 1)), o 4 (.mv (.c (i 0)))])
 (.seq (.seq (g [o 5 (.mv (.c (i 0)))])
 (.block 0 w190_0))
 (.seq (g [o 4 (.mv (.c (j 0)))])
 .ret)))⟩

def v191_0 : AC := .dreg [0, 1, 2, 3, 4, 5, 6, 7, 8, 9, 10, 11, 12, 13, 14] [o 16 (.mv (.t 7)), o 17 (.mv (.t 1)), o 18 (.bin .gtr (.t 16) (.t 17)), o 19 (.mv (.t 18)), ⟨(some 20), .mv (.t 0), (some (19, true)), []⟩, ⟨(some 21), .mv (.t 7), (some (19, true)), []⟩, ⟨(some 22), .ixS 1 (.t 20) (.t 21), (some (19, true)), []⟩, ⟨(some 23), .ld1 (.t 22), (some (19, true)), []⟩, ⟨(some 24), .mv (.t 0), (some (19, true)), []⟩, ⟨(some 25), .mv (.t 7), (some (19, true)), []⟩, ⟨(some 26), .bin .sub (.t 25) (.c (i 1)), (some (19, true)), []⟩, ⟨(some 27), .ixS 1 (.t 24) (.t 26), (some (19, true)), []⟩, ⟨(some 28), .ld1 (.t 27), (some (19, true)), []⟩, ⟨(some 29), .call (.c (.fn 168 [])) [(.t 23), (.t 28)], (some (19, true)), []⟩, o 30 (.pick (.t 19) (.t 29) (.c (.bool false)))] none
def v191_1 : AC := .dreg [0, 1, 2, 3, 4, 5, 6, 7, 8, 9, 10, 11, 12, 13, 14, 15, 16, 17] [o 33 (.mv (.t 0)), o 34 (.mv (.t 7)), o 35 (.mv (.t 0)), o 36 (.mv (.t 7)), o 37 (.bin .sub (.t 36) (.c (i 1))), o 38 (.mv (.t 0)), o 39 (.mv (.t 7)), o 40 (.bin .sub (.t 39) (.c (i 1))), o 41 (.ixS 1 (.t 38) (.t 40)), o 42 (.ld1 (.t 41)), o 43 (.mv (.t 0)), o 44 (.mv (.t 7)), o 45 (.ixS 1 (.t 43) (.t 44)), o 46 (.ld1 (.t 45)), o 47 (.ixS 1 (.t 33) (.t 34)), e (.st 1 (.t 47) (.t 42)), o 48 (.ixS 1 (.t 35) (.t 37)), e (.st 1 (.t 48) (.t 46))] none
def w191_0 : AC := .loop [0, 1, 2, 6, 7]
 (.seq (.seq v191_0
 (.cond (.t 30) .skip
 (.exit 2)))
 (.seq (.block 3 v191_1)
 (g [o 31 (.mv (.t 7)), o 32 (.bin .sub (.t 31) (.c (i 1))), o 7 (.mv (.t 32))])))
def w191_1 : AC := .loop [0, 1, 2, 6]
 (.seq (.seq (g [o 10 (.mv (.t 6)), o 11 (.mv (.t 2)), o 12 (.bin .lss (.t 10) (.t 11))])
 (.cond (.t 12) .skip
 (.exit 0)))
 (.seq (.block 1 (.seq (g [o 15 (.mv (.t 6)), o 7 (.mv (.t 15))])
 (.block 2 w191_0)))
 (g [o 13 (.mv (.t 6)), o 14 (.bin .add (.t 13) (.c (i 1))), o 6 (.mv (.t 14))])))
def c191 : AFunc := ⟨3, 49, [],
 (.seq (g [o 8 (.mv (.t 1)), o 9 (.bin .add (.t 8) (.c (i 1))), o 6 (.mv (.t 9))])
 (.block 0 w191_1))⟩

def w192_0 : AC := .loop [0, 6, 7, 8, 9]
 (.seq (.seq (g [o 18 (.mv (.t 9)), o 19 (.bin .geq (.t 18) (.c (i 0)))])
 (.cond (.t 19) .skip
 (.exit 0)))
 (.seq (.block 1 (g [o 22 (.mv (.t 0)), o 23 (.mv (.t 9)), o 24 (.mv (.t 8)), o 25 (.mv (.t 6)), o 26 (.call (.c (.fn 232 [])) [(.t 22), (.t 23), (.t 24), (.t 25)])]))
 (g [o 20 (.mv (.t 9)), o 21 (.bin .sub (.t 20) (.c (i 1))), o 9 (.mv (.t 21))])))
def v192_0 : AC := .dreg [0, 1, 2, 3, 4, 5, 6, 7, 8, 9, 10, 11, 12, 13, 14, 15, 16, 17, 18, 19] [o 33 (.mv (.t 0)), o 34 (.mv (.t 6)), o 35 (.mv (.t 0)), o 36 (.mv (.t 6)), o 37 (.mv (.t 10)), o 38 (.bin .add (.t 36) (.t 37)), o 39 (.mv (.t 0)), o 40 (.mv (.t 6)), o 41 (.mv (.t 10)), o 42 (.bin .add (.t 40) (.t 41)), o 43 (.ixS 1 (.t 39) (.t 42)), o 44 (.ld1 (.t 43)), o 45 (.mv (.t 0)), o 46 (.mv (.t 6)), o 47 (.ixS 1 (.t 45) (.t 46)), o 48 (.ld1 (.t 47)), o 49 (.ixS 1 (.t 33) (.t 34)), e (.st 1 (.t 49) (.t 44)), o 50 (.ixS 1 (.t 35) (.t 38)), e (.st 1 (.t 50) (.t 48))] none
def w192_1 : AC := .loop [0, 6, 7, 10]
 (.seq (.seq (g [o 29 (.mv (.t 10)), o 30 (.bin .geq (.t 29) (.c (i 0)))])
 (.cond (.t 30) .skip
 (.exit 2)))
 (.seq (.block 3 (.seq v192_0
 (g [o 51 (.mv (.t 0)), o 52 (.mv (.t 7)), o 53 (.mv (.t 10)), o 54 (.mv (.t 6)), o 55 (.call (.c (.fn 232 [])) [(.t 51), (.t 52), (.t 53), (.t 54)])])))
 (g [o 31 (.mv (.t 10)), o 32 (.bin .sub (.t 31) (.c (i 1))), o 10 (.mv (.t 32))])))
def c192 : AFunc := ⟨3, 56, [],
 (.seq (g [o 11 (.mv (.t 1)), o 6 (.mv (.t 11))])
 (.seq (g [o 7 (.mv (.c (i 0)))])
 (.seq (g [o 12 (.mv (.t 2)), o 13 (.mv (.t 1)), o 14 (.bin .sub (.t 12) (.t 13)), o 8 (.mv (.t 14))])
 (.seq (.seq (g [o 15 (.mv (.t 8)), o 16 (.bin .sub (.t 15) (.c (i 1))), o 17 (.bin .quo (.t 16) (.c (i 2))), o 9 (.mv (.t 17))])
 (.block 0 w192_0))
 (.seq (g [o 27 (.mv (.t 8)), o 28 (.bin .sub (.t 27) (.c (i 1))), o 10 (.mv (.t 28))])
 (.block 2 w192_1))))))⟩

def v193_0 : AC := .dreg [0, 1, 2, 3, 4, 5, 6, 7, 8, 9, 10, 11, 12, 13, 14, 15, 16, 17, 18, 19] [o 47 (.mv (.t 0)), o 48 (.mv (.t 9)), o 49 (.mv (.t 0)), o 50 (.mv (.t 1)), o 51 (.mv (.t 10)), o 52 (.bin .add (.t 50) (.t 51)), o 53 (.mv (.t 0)), o 54 (.mv (.t 1)), o 55 (.mv (.t 10)), o 56 (.bin .add (.t 54) (.t 55)), o 57 (.ixS 1 (.t 53) (.t 56)), o 58 (.ld1 (.t 57)), o 59 (.mv (.t 0)), o 60 (.mv (.t 9)), o 61 (.ixS 1 (.t 59) (.t 60)), o 62 (.ld1 (.t 61)), o 63 (.ixS 1 (.t 47) (.t 48)), e (.st 1 (.t 63) (.t 58)), o 64 (.ixS 1 (.t 49) (.t 52)), e (.st 1 (.t 64) (.t 62))] none
def w193_0 : AC := .loop [0, 1, 6, 7, 8, 9]
 (.seq (.seq (g [o 26 (.mv (.t 9)), o 27 (.mv (.t 1)), o 28 (.mv (.t 6)), o 29 (.bin .quo (.t 28) (.c (i 4))), o 30 (.bin .mul (.t 29) (.c (i 2))), o 31 (.bin .add (.t 27) (.t 30)), o 32 (.bin .add (.t 31) (.c (i 1))), o 33 (.bin .leq (.t 26) (.t 32))])
 (.cond (.t 33) .skip
 (.exit 0)))
 (.seq (.block 1 (.seq (g [o 36 (.call (.c (.fn 183 [])) [(.t 7)]), o 37 (.mv (.t 8)), o 38 (.bin .sub (.t 37) (.c (.int .u64 1))), o 39 (.bin .and (.t 36) (.t 38)), o 40 (.conv .i64 (.t 39)), o 10 (.mv (.t 40))])
 (.seq (.seq (g [o 41 (.mv (.t 10)), o 42 (.mv (.t 6)), o 43 (.bin .geq (.t 41) (.t 42))])
 (.cond (.t 43) (g [o 44 (.mv (.t 10)), o 45 (.mv (.t 6)), o 46 (.bin .sub (.t 44) (.t 45)), o 10 (.mv (.t 46))])
 .skip))
 v193_0)))
 (g [o 34 (.mv (.t 9)), o 35 (.bin .add (.t 34) (.c (i 1))), o 9 (.mv (.t 35))])))
def c193 : AFunc := ⟨3, 65, [],
 (.seq (g [o 11 (.mv (.t 2)), o 12 (.mv (.t 1)), o 13 (.bin .sub (.t 11) (.t 12)), o 6 (.mv (.t 13))])
 (.seq (g [o 14 (.mv (.t 6)), o 15 (.bin .geq (.t 14) (.c (i 8)))])
 (.cond (.t 15) (.seq (g [o 16 (.mv (.t 6)), o 17 (.conv .u64 (.t 16)), o 7 (.alloc [.int .u64 0]), e (.st 1 (.t 7) (.t 17))])
 (.seq (g [o 18 (.mv (.t 6)), o 19 (.call (.c (.fn 182 [])) [(.t 18)]), o 8 (.mv (.t 19))])
 (.seq (g [o 20 (.mv (.t 1)), o 21 (.mv (.t 6)), o 22 (.bin .quo (.t 21) (.c (i 4))), o 23 (.bin .mul (.t 22) (.c (i 2))), o 24 (.bin .add (.t 20) (.t 23)), o 25 (.bin .sub (.t 24) (.c (i 1))), o 9 (.mv (.t 25))])
 (.block 0 w193_0))))
 .skip)))⟩

def c194 : AFunc := ⟨3, 57, [.tmp 6, .tmp 7],
 (.seq (g [o 6 (.mv (.c (i 0))), o 7 (.mv (.c (i 0)))])
 (.seq (g [o 13 (.mv (.t 2)), o 14 (.mv (.t 1)), o 15 (.bin .sub (.t 13) (.t 14)), o 8 (.mv (.t 15))])
 (.seq (g [o 9 (.alloc [i 0])])
 (.seq (g [o 16 (.mv (.t 1)), o 17 (.mv (.t 8)), o 18 (.bin .quo (.t 17) (.c (i 4))), o 19 (.bin .mul (.t 18) (.c (i 1))), o 20 (.bin .add (.t 16) (.t 19)), o 10 (.mv (.t 20))])
 (.seq (g [o 21 (.mv (.t 1)), o 22 (.mv (.t 8)), o 23 (.bin .quo (.t 22) (.c (i 4))), o 24 (.bin .mul (.t 23) (.c (i 2))), o 25 (.bin .add (.t 21) (.t 24)), o 11 (.mv (.t 25))])
 (.seq (g [o 26 (.mv (.t 1)), o 27 (.mv (.t 8)), o 28 (.bin .quo (.t 27) (.c (i 4))), o 29 (.bin .mul (.t 28) (.c (i 3))), o 30 (.bin .add (.t 26) (.t 29)), o 12 (.mv (.t 30))])
 (.seq (.seq (g [o 31 (.mv (.t 8)), o 32 (.bin .geq (.t 31) (.c (i 8)))])
 (.cond (.t 32) (.seq (.seq (g [o 33 (.mv (.t 8)), o 34 (.bin .geq (.t 33) (.c (i 50)))])
 (.cond (.t 34) (.seq (g [o 35 (.mv (.t 0)), o 36 (.mv (.t 10)), o 37 (.call (.c (.fn 233 [])) [(.t 35), (.t 36), (.t 9)]), o 10 (.mv (.t 37))])
 (.seq (g [o 38 (.mv (.t 0)), o 39 (.mv (.t 11)), o 40 (.call (.c (.fn 233 [])) [(.t 38), (.t 39), (.t 9)]), o 11 (.mv (.t 40))])
 (g [o 41 (.mv (.t 0)), o 42 (.mv (.t 12)), o 43 (.call (.c (.fn 233 [])) [(.t 41), (.t 42), (.t 9)]), o 12 (.mv (.t 43))])))
 .skip))
 (g [o 44 (.mv (.t 0)), o 45 (.mv (.t 10)), o 46 (.mv (.t 11)), o 47 (.mv (.t 12)), o 48 (.call (.c (.fn 234 [])) [(.t 44), (.t 45), (.t 46), (.t 47), (.t 9)]), o 11 (.mv (.t 48))]))
 .skip))
 (.seq (g [o 49 (.ld1 (.t 9))])
 (.block 0 (.seq (g [o 52 (.bin .eql (.t 49) (.c (i 0))), o 51 (.mv (.t 52))])
 (.cond (.t 51) (.seq (g [o 53 (.mv (.t 11)), o 6 (.mv (.t 53)), o 7 (.mv (.c (i 1)))])
 .ret)
 (.seq (g [o 55 (.bin .eql (.t 49) (.c (i 12))), o 54 (.mv (.t 55))])
 (.cond (.t 54) (.seq (g [o 56 (.mv (.t 11)), o 6 (.mv (.t 56)), o 7 (.mv (.c (i 2)))])
 .ret)
 (.seq (g [o 50 (.mv (.t 11)), o 6 (.mv (.t 50)), o 7 (.mv (.c (i 0)))])
 .ret))))))))))))))⟩

def v195_0 : AC := .dreg [0, 1, 2, 3, 4, 5, 6, 7, 8, 9, 10, 11, 12, 13, 14, 15] [o 14 (.mv (.t 0)), o 15 (.mv (.t 6)), o 16 (.mv (.t 0)), o 17 (.mv (.t 7)), o 18 (.mv (.t 0)), o 19 (.mv (.t 7)), o 20 (.ixS 1 (.t 18) (.t 19)), o 21 (.ld1 (.t 20)), o 22 (.mv (.t 0)), o 23 (.mv (.t 6)), o 24 (.ixS 1 (.t 22) (.t 23)), o 25 (.ld1 (.t 24)), o 26 (.ixS 1 (.t 14) (.t 15)), e (.st 1 (.t 26) (.t 21)), o 27 (.ixS 1 (.t 16) (.t 17)), e (.st 1 (.t 27) (.t 25))] none
def w195_0 : AC := .loop [0, 6, 7]
 (.seq (.seq (g [o 11 (.mv (.t 6)), o 12 (.mv (.t 7)), o 13 (.bin .lss (.t 11) (.t 12))])
 (.cond (.t 13) .skip
 (.exit 0)))
 (.block 1 (.seq v195_0
 (.seq (g [o 28 (.mv (.t 6)), o 29 (.bin .add (.t 28) (.c (i 1))), o 6 (.mv (.t 29))])
 (g [o 30 (.mv (.t 7)), o 31 (.bin .sub (.t 30) (.c (i 1))), o 7 (.mv (.t 31))])))))
def c195 : AFunc := ⟨3, 32, [],
 (.seq (g [o 8 (.mv (.t 1)), o 6 (.mv (.t 8))])
 (.seq (g [o 9 (.mv (.t 2)), o 10 (.bin .sub (.t 9) (.c (i 1))), o 7 (.mv (.t 10))])
 (.block 0 w195_0)))⟩

def v196_0 : AC := .dreg [0, 1, 2, 3, 4, 5, 6, 7, 8, 9, 10, 11, 12, 13, 14, 15] [o 17 (.mv (.t 7)), o 18 (.mv (.t 2)), o 19 (.bin .lss (.t 17) (.t 18)), o 20 (.mv (.t 19)), ⟨(some 21), .mv (.t 0), (some (20, true)), []⟩, ⟨(some 22), .mv (.t 7), (some (20, true)), []⟩, ⟨(some 23), .ixS 1 (.t 21) (.t 22), (some (20, true)), []⟩, ⟨(some 24), .ld1 (.t 23), (some (20, true)), []⟩, ⟨(some 25), .mv (.t 0), (some (20, true)), []⟩, ⟨(some 26), .mv (.t 7), (some (20, true)), []⟩, ⟨(some 27), .bin .sub (.t 26) (.c (i 1)), (some (20, true)), []⟩, ⟨(some 28), .ixS 1 (.t 25) (.t 27), (some (20, true)), []⟩, ⟨(some 29), .ld1 (.t 28), (some (20, true)), []⟩, ⟨(some 30), .call (.c (.fn 168 [])) [(.t 24), (.t 29)], (some (20, true)), []⟩, ⟨(some 31), .un .not (.t 30), (some (20, true)), []⟩, o 32 (.pick (.t 20) (.t 31) (.c (.bool false)))] none
def w196_0 : AC := .loop [0, 1, 2, 7, 8]
 (.seq (.seq v196_0
 (.cond (.t 32) .skip
 (.exit 2)))
 (.block 3 (g [o 33 (.mv (.t 7)), o 34 (.bin .add (.t 33) (.c (i 1))), o 7 (.mv (.t 34))])))
def v196_1 : AC := .dreg [0, 1, 2, 3, 4, 5, 6, 7, 8, 9, 10, 11, 12, 13, 14, 15, 16, 17] [o 42 (.mv (.t 0)), o 43 (.mv (.t 7)), o 44 (.mv (.t 0)), o 45 (.mv (.t 7)), o 46 (.bin .sub (.t 45) (.c (i 1))), o 47 (.mv (.t 0)), o 48 (.mv (.t 7)), o 49 (.bin .sub (.t 48) (.c (i 1))), o 50 (.ixS 1 (.t 47) (.t 49)), o 51 (.ld1 (.t 50)), o 52 (.mv (.t 0)), o 53 (.mv (.t 7)), o 54 (.ixS 1 (.t 52) (.t 53)), o 55 (.ld1 (.t 54)), o 56 (.ixS 1 (.t 42) (.t 43)), e (.st 1 (.t 56) (.t 51)), o 57 (.ixS 1 (.t 44) (.t 46)), e (.st 1 (.t 57) (.t 55))] none
def v196_2 : AC := .dreg [0, 1, 2, 3, 4, 5, 6, 7, 8, 9, 10] [o 68 (.mv (.t 0)), o 69 (.mv (.t 9)), o 70 (.ixS 1 (.t 68) (.t 69)), o 71 (.ld1 (.t 70)), o 72 (.mv (.t 0)), o 73 (.mv (.t 9)), o 74 (.bin .sub (.t 73) (.c (i 1))), o 75 (.ixS 1 (.t 72) (.t 74)), o 76 (.ld1 (.t 75)), o 77 (.call (.c (.fn 168 [])) [(.t 71), (.t 76)]), o 78 (.un .not (.t 77))] none
def v196_3 : AC := .dreg [0, 1, 2, 3, 4, 5, 6, 7, 8, 9, 10, 11, 12, 13, 14, 15, 16, 17] [o 79 (.mv (.t 0)), o 80 (.mv (.t 9)), o 81 (.mv (.t 0)), o 82 (.mv (.t 9)), o 83 (.bin .sub (.t 82) (.c (i 1))), o 84 (.mv (.t 0)), o 85 (.mv (.t 9)), o 86 (.bin .sub (.t 85) (.c (i 1))), o 87 (.ixS 1 (.t 84) (.t 86)), o 88 (.ld1 (.t 87)), o 89 (.mv (.t 0)), o 90 (.mv (.t 9)), o 91 (.ixS 1 (.t 89) (.t 90)), o 92 (.ld1 (.t 91)), o 93 (.ixS 1 (.t 79) (.t 80)), e (.st 1 (.t 93) (.t 88)), o 94 (.ixS 1 (.t 81) (.t 83)), e (.st 1 (.t 94) (.t 92))] none
def w196_1 : AC := .loop [0, 1, 2, 7, 8, 9]
 (.seq (.seq (g [o 64 (.mv (.t 9)), o 65 (.bin .geq (.t 64) (.c (i 1)))])
 (.cond (.t 65) .skip
 (.exit 4)))
 (.seq (.block 5 (.seq (.seq v196_2
 (.cond (.t 78) (.exit 4)
 .skip))
 v196_3))
 (g [o 66 (.mv (.t 9)), o 67 (.bin .sub (.t 66) (.c (i 1))), o 9 (.mv (.t 67))])))
def v196_4 : AC := .dreg [0, 1, 2, 3, 4, 5, 6, 7, 8, 9, 10] [o 106 (.mv (.t 0)), o 107 (.mv (.t 10)), o 108 (.ixS 1 (.t 106) (.t 107)), o 109 (.ld1 (.t 108)), o 110 (.mv (.t 0)), o 111 (.mv (.t 10)), o 112 (.bin .sub (.t 111) (.c (i 1))), o 113 (.ixS 1 (.t 110) (.t 112)), o 114 (.ld1 (.t 113)), o 115 (.call (.c (.fn 168 [])) [(.t 109), (.t 114)]), o 116 (.un .not (.t 115))] none
def v196_5 : AC := .dreg [0, 1, 2, 3, 4, 5, 6, 7, 8, 9, 10, 11, 12, 13, 14, 15, 16, 17] [o 117 (.mv (.t 0)), o 118 (.mv (.t 10)), o 119 (.mv (.t 0)), o 120 (.mv (.t 10)), o 121 (.bin .sub (.t 120) (.c (i 1))), o 122 (.mv (.t 0)), o 123 (.mv (.t 10)), o 124 (.bin .sub (.t 123) (.c (i 1))), o 125 (.ixS 1 (.t 122) (.t 124)), o 126 (.ld1 (.t 125)), o 127 (.mv (.t 0)), o 128 (.mv (.t 10)), o 129 (.ixS 1 (.t 127) (.t 128)), o 130 (.ld1 (.t 129)), o 131 (.ixS 1 (.t 117) (.t 118)), e (.st 1 (.t 131) (.t 126)), o 132 (.ixS 1 (.t 119) (.t 121)), e (.st 1 (.t 132) (.t 130))] none
def w196_2 : AC := .loop [0, 1, 2, 7, 8, 10]
 (.seq (.seq (g [o 101 (.mv (.t 10)), o 102 (.mv (.t 2)), o 103 (.bin .lss (.t 101) (.t 102))])
 (.cond (.t 103) .skip
 (.exit 6)))
 (.seq (.block 7 (.seq (.seq v196_4
 (.cond (.t 116) (.exit 6)
 .skip))
 v196_5))
 (g [o 104 (.mv (.t 10)), o 105 (.bin .add (.t 104) (.c (i 1))), o 10 (.mv (.t 105))])))
def w196_3 : AC := .loop [0, 1, 2, 7, 8]
 (.seq (.seq (g [o 13 (.mv (.t 8)), o 14 (.bin .lss (.t 13) (.c (i 5)))])
 (.cond (.t 14) .skip
 (.exit 0)))
 (.seq (.block 1 (.seq (.block 2 w196_0)
 (.seq (.seq (g [o 35 (.mv (.t 7)), o 36 (.mv (.t 2)), o 37 (.bin .eql (.t 35) (.t 36))])
 (.cond (.t 37) (.seq (g [o 6 (.mv (.c (.bool true)))])
 .ret)
 .skip))
 (.seq (.seq (g [o 38 (.mv (.t 2)), o 39 (.mv (.t 1)), o 40 (.bin .sub (.t 38) (.t 39)), o 41 (.bin .lss (.t 40) (.c (i 50)))])
 (.cond (.t 41) (.seq (g [o 6 (.mv (.c (.bool false)))])
 .ret)
 .skip))
 (.seq v196_1
 (.seq (.seq (g [o 58 (.mv (.t 7)), o 59 (.mv (.t 1)), o 60 (.bin .sub (.t 58) (.t 59)), o 61 (.bin .geq (.t 60) (.c (i 2)))])
 (.cond (.t 61) (.seq (g [o 62 (.mv (.t 7)), o 63 (.bin .sub (.t 62) (.c (i 1))), o 9 (.mv (.t 63))])
 (.block 4 w196_1))
 .skip))
 (.seq (g [o 95 (.mv (.t 2)), o 96 (.mv (.t 7)), o 97 (.bin .sub (.t 95) (.t 96)), o 98 (.bin .geq (.t 97) (.c (i 2)))])
 (.cond (.t 98) (.seq (g [o 99 (.mv (.t 7)), o 100 (.bin .add (.t 99) (.c (i 1))), o 10 (.mv (.t 100))])
 (.block 6 w196_2))
 .skip))))))))
 (g [o 15 (.mv (.t 8)), o 16 (.bin .add (.t 15) (.c (i 1))), o 8 (.mv (.t 16))])))
def c196 : AFunc := ⟨3, 133, [.tmp 6],
 (.seq (g [o 6 (.mv (.c (.bool false)))])
 (.seq (g [o 11 (.mv (.t 1)), o 12 (.bin .add (.t 11) (.c (i 1))), o 7 (.mv (.t 12))])
 (.seq (.seq (g [o 8 (.mv (.c (i 0)))])
 (.block 0 w196_3))
 (.seq (g [o 6 (.mv (.c (.bool false)))])
 .ret))))⟩

def v197_0 : AC := .dreg [0, 1, 2, 3, 4, 5, 6, 7, 8, 9, 10, 11, 12, 13, 14, 15] [o 11 (.mv (.t 0)), o 12 (.mv (.t 1)), o 13 (.mv (.t 0)), o 14 (.mv (.t 3)), o 15 (.mv (.t 0)), o 16 (.mv (.t 3)), o 17 (.ixS 1 (.t 15) (.t 16)), o 18 (.ld1 (.t 17)), o 19 (.mv (.t 0)), o 20 (.mv (.t 1)), o 21 (.ixS 1 (.t 19) (.t 20)), o 22 (.ld1 (.t 21)), o 23 (.ixS 1 (.t 11) (.t 12)), e (.st 1 (.t 23) (.t 18)), o 24 (.ixS 1 (.t 13) (.t 14)), e (.st 1 (.t 24) (.t 22))] none
def v197_1 : AC := .dreg [0, 1, 2, 3, 4, 5, 6, 7, 8, 9, 10, 11, 12, 13, 14] [o 29 (.mv (.t 9)), o 30 (.mv (.t 10)), o 31 (.bin .leq (.t 29) (.t 30)), o 32 (.mv (.t 31)), ⟨(some 33), .mv (.t 0), (some (32, true)), []⟩, ⟨(some 34), .mv (.t 1), (some (32, true)), []⟩, ⟨(some 35), .ixS 1 (.t 33) (.t 34), (some (32, true)), []⟩, ⟨(some 36), .ld1 (.t 35), (some (32, true)), []⟩, ⟨(some 37), .mv (.t 0), (some (32, true)), []⟩, ⟨(some 38), .mv (.t 9), (some (32, true)), []⟩, ⟨(some 39), .ixS 1 (.t 37) (.t 38), (some (32, true)), []⟩, ⟨(some 40), .ld1 (.t 39), (some (32, true)), []⟩, ⟨(some 41), .call (.c (.fn 168 [])) [(.t 36), (.t 40)], (some (32, true)), []⟩, ⟨(some 42), .un .not (.t 41), (some (32, true)), []⟩, o 43 (.pick (.t 32) (.t 42) (.c (.bool false)))] none
def w197_0 : AC := .loop [0, 1, 9, 10]
 (.seq (.seq v197_1
 (.cond (.t 43) .skip
 (.exit 2)))
 (.block 3 (g [o 44 (.mv (.t 9)), o 45 (.bin .add (.t 44) (.c (i 1))), o 9 (.mv (.t 45))])))
def v197_2 : AC := .dreg [0, 1, 2, 3, 4, 5, 6, 7, 8, 9, 10, 11, 12, 13] [o 46 (.mv (.t 9)), o 47 (.mv (.t 10)), o 48 (.bin .leq (.t 46) (.t 47)), o 49 (.mv (.t 48)), ⟨(some 50), .mv (.t 0), (some (49, true)), []⟩, ⟨(some 51), .mv (.t 1), (some (49, true)), []⟩, ⟨(some 52), .ixS 1 (.t 50) (.t 51), (some (49, true)), []⟩, ⟨(some 53), .ld1 (.t 52), (some (49, true)), []⟩, ⟨(some 54), .mv (.t 0), (some (49, true)), []⟩, ⟨(some 55), .mv (.t 10), (some (49, true)), []⟩, ⟨(some 56), .ixS 1 (.t 54) (.t 55), (some (49, true)), []⟩, ⟨(some 57), .ld1 (.t 56), (some (49, true)), []⟩, ⟨(some 58), .call (.c (.fn 168 [])) [(.t 53), (.t 57)], (some (49, true)), []⟩, o 59 (.pick (.t 49) (.t 58) (.c (.bool false)))] none
def w197_1 : AC := .loop [0, 1, 9, 10]
 (.seq (.seq v197_2
 (.cond (.t 59) .skip
 (.exit 4)))
 (.block 5 (g [o 60 (.mv (.t 10)), o 61 (.bin .sub (.t 60) (.c (i 1))), o 10 (.mv (.t 61))])))
def v197_3 : AC := .dreg [0, 1, 2, 3, 4, 5, 6, 7, 8, 9, 10, 11, 12, 13, 14, 15] [o 65 (.mv (.t 0)), o 66 (.mv (.t 9)), o 67 (.mv (.t 0)), o 68 (.mv (.t 10)), o 69 (.mv (.t 0)), o 70 (.mv (.t 10)), o 71 (.ixS 1 (.t 69) (.t 70)), o 72 (.ld1 (.t 71)), o 73 (.mv (.t 0)), o 74 (.mv (.t 9)), o 75 (.ixS 1 (.t 73) (.t 74)), o 76 (.ld1 (.t 75)), o 77 (.ixS 1 (.t 65) (.t 66)), e (.st 1 (.t 77) (.t 72)), o 78 (.ixS 1 (.t 67) (.t 68)), e (.st 1 (.t 78) (.t 76))] none
def w197_2 : AC := .loop [0, 1, 9, 10]
 (.block 1 (.seq (.block 2 w197_0)
 (.seq (.block 4 w197_1)
 (.seq (.seq (g [o 62 (.mv (.t 9)), o 63 (.mv (.t 10)), o 64 (.bin .gtr (.t 62) (.t 63))])
 (.cond (.t 64) (.exit 0)
 .skip))
 (.seq v197_3
 (.seq (g [o 79 (.mv (.t 9)), o 80 (.bin .add (.t 79) (.c (i 1))), o 9 (.mv (.t 80))])
 (g [o 81 (.mv (.t 10)), o 82 (.bin .sub (.t 81) (.c (i 1))), o 10 (.mv (.t 82))])))))))
def c197 : AFunc := ⟨4, 84, [.tmp 8],
 (.seq (g [o 8 (.mv (.c (i 0)))])
 (.seq v197_0
 (.seq (g [o 25 (.mv (.t 1)), o 26 (.bin .add (.t 25) (.c (i 1))), o 27 (.mv (.t 2)), o 28 (.bin .sub (.t 27) (.c (i 1))), o 9 (.mv (.t 26)), o 10 (.mv (.t 28))])
 (.seq (.block 0 w197_2)
 (.seq (g [o 83 (.mv (.t 9)), o 8 (.mv (.t 83))])
 .ret)))))⟩

def v198_0 : AC := .dreg [0, 1, 2, 3, 4, 5, 6, 7, 8, 9, 10, 11, 12, 13, 14, 15] [o 12 (.mv (.t 0)), o 13 (.mv (.t 1)), o 14 (.mv (.t 0)), o 15 (.mv (.t 3)), o 16 (.mv (.t 0)), o 17 (.mv (.t 3)), o 18 (.ixS 1 (.t 16) (.t 17)), o 19 (.ld1 (.t 18)), o 20 (.mv (.t 0)), o 21 (.mv (.t 1)), o 22 (.ixS 1 (.t 20) (.t 21)), o 23 (.ld1 (.t 22)), o 24 (.ixS 1 (.t 12) (.t 13)), e (.st 1 (.t 24) (.t 19)), o 25 (.ixS 1 (.t 14) (.t 15)), e (.st 1 (.t 25) (.t 23))] none
def v198_1 : AC := .dreg [0, 1, 2, 3, 4, 5, 6, 7, 8, 9, 10, 11, 12, 13] [o 30 (.mv (.t 10)), o 31 (.mv (.t 11)), o 32 (.bin .leq (.t 30) (.t 31)), o 33 (.mv (.t 32)), ⟨(some 34), .mv (.t 0), (some (33, true)), []⟩, ⟨(some 35), .mv (.t 10), (some (33, true)), []⟩, ⟨(some 36), .ixS 1 (.t 34) (.t 35), (some (33, true)), []⟩, ⟨(some 37), .ld1 (.t 36), (some (33, true)), []⟩, ⟨(some 38), .mv (.t 0), (some (33, true)), []⟩, ⟨(some 39), .mv (.t 1), (some (33, true)), []⟩, ⟨(some 40), .ixS 1 (.t 38) (.t 39), (some (33, true)), []⟩, ⟨(some 41), .ld1 (.t 40), (some (33, true)), []⟩, ⟨(some 42), .call (.c (.fn 168 [])) [(.t 37), (.t 41)], (some (33, true)), []⟩, o 43 (.pick (.t 33) (.t 42) (.c (.bool false)))] none
def w198_0 : AC := .loop [0, 1, 10, 11]
 (.seq (.seq v198_1
 (.cond (.t 43) .skip
 (.exit 0)))
 (.block 1 (g [o 44 (.mv (.t 10)), o 45 (.bin .add (.t 44) (.c (i 1))), o 10 (.mv (.t 45))])))
def v198_2 : AC := .dreg [0, 1, 2, 3, 4, 5, 6, 7, 8, 9, 10, 11, 12, 13, 14] [o 46 (.mv (.t 10)), o 47 (.mv (.t 11)), o 48 (.bin .leq (.t 46) (.t 47)), o 49 (.mv (.t 48)), ⟨(some 50), .mv (.t 0), (some (49, true)), []⟩, ⟨(some 51), .mv (.t 11), (some (49, true)), []⟩, ⟨(some 52), .ixS 1 (.t 50) (.t 51), (some (49, true)), []⟩, ⟨(some 53), .ld1 (.t 52), (some (49, true)), []⟩, ⟨(some 54), .mv (.t 0), (some (49, true)), []⟩, ⟨(some 55), .mv (.t 1), (some (49, true)), []⟩, ⟨(some 56), .ixS 1 (.t 54) (.t 55), (some (49, true)), []⟩, ⟨(some 57), .ld1 (.t 56), (some (49, true)), []⟩, ⟨(some 58), .call (.c (.fn 168 [])) [(.t 53), (.t 57)], (some (49, true)), []⟩, ⟨(some 59), .un .not (.t 58), (some (49, true)), []⟩, o 60 (.pick (.t 49) (.t 59) (.c (.bool false)))] none
def w198_1 : AC := .loop [0, 1, 10, 11]
 (.seq (.seq v198_2
 (.cond (.t 60) .skip
 (.exit 2)))
 (.block 3 (g [o 61 (.mv (.t 11)), o 62 (.bin .sub (.t 61) (.c (i 1))), o 11 (.mv (.t 62))])))
def v198_3 : AC := .dreg [0, 1, 2, 3, 4, 5, 6, 7, 8, 9, 10, 11, 12, 13, 14, 15] [o 66 (.mv (.t 0)), o 67 (.mv (.t 11)), o 68 (.mv (.t 0)), o 69 (.mv (.t 1)), o 70 (.mv (.t 0)), o 71 (.mv (.t 1)), o 72 (.ixS 1 (.t 70) (.t 71)), o 73 (.ld1 (.t 72)), o 74 (.mv (.t 0)), o 75 (.mv (.t 11)), o 76 (.ixS 1 (.t 74) (.t 75)), o 77 (.ld1 (.t 76)), o 78 (.ixS 1 (.t 66) (.t 67)), e (.st 1 (.t 78) (.t 73)), o 79 (.ixS 1 (.t 68) (.t 69)), e (.st 1 (.t 79) (.t 77))] none
def v198_4 : AC := .dreg [0, 1, 2, 3, 4, 5, 6, 7, 8, 9, 10, 11, 12, 13, 14, 15] [o 81 (.mv (.t 0)), o 82 (.mv (.t 10)), o 83 (.mv (.t 0)), o 84 (.mv (.t 11)), o 85 (.mv (.t 0)), o 86 (.mv (.t 11)), o 87 (.ixS 1 (.t 85) (.t 86)), o 88 (.ld1 (.t 87)), o 89 (.mv (.t 0)), o 90 (.mv (.t 10)), o 91 (.ixS 1 (.t 89) (.t 90)), o 92 (.ld1 (.t 91)), o 93 (.ixS 1 (.t 81) (.t 82)), e (.st 1 (.t 93) (.t 88)), o 94 (.ixS 1 (.t 83) (.t 84)), e (.st 1 (.t 94) (.t 92))] none
def v198_5 : AC := .dreg [0, 1, 2, 3, 4, 5, 6, 7, 8, 9, 10, 11, 12, 13] [o 99 (.mv (.t 10)), o 100 (.mv (.t 11)), o 101 (.bin .leq (.t 99) (.t 100)), o 102 (.mv (.t 101)), ⟨(some 103), .mv (.t 0), (some (102, true)), []⟩, ⟨(some 104), .mv (.t 10), (some (102, true)), []⟩, ⟨(some 105), .ixS 1 (.t 103) (.t 104), (some (102, true)), []⟩, ⟨(some 106), .ld1 (.t 105), (some (102, true)), []⟩, ⟨(some 107), .mv (.t 0), (some (102, true)), []⟩, ⟨(some 108), .mv (.t 1), (some (102, true)), []⟩, ⟨(some 109), .ixS 1 (.t 107) (.t 108), (some (102, true)), []⟩, ⟨(some 110), .ld1 (.t 109), (some (102, true)), []⟩, ⟨(some 111), .call (.c (.fn 168 [])) [(.t 106), (.t 110)], (some (102, true)), []⟩, o 112 (.pick (.t 102) (.t 111) (.c (.bool false)))] none
def w198_2 : AC := .loop [0, 1, 10, 11]
 (.seq (.seq v198_5
 (.cond (.t 112) .skip
 (.exit 6)))
 (.block 7 (g [o 113 (.mv (.t 10)), o 114 (.bin .add (.t 113) (.c (i 1))), o 10 (.mv (.t 114))])))
def v198_6 : AC := .dreg [0, 1, 2, 3, 4, 5, 6, 7, 8, 9, 10, 11, 12, 13, 14] [o 115 (.mv (.t 10)), o 116 (.mv (.t 11)), o 117 (.bin .leq (.t 115) (.t 116)), o 118 (.mv (.t 117)), ⟨(some 119), .mv (.t 0), (some (118, true)), []⟩, ⟨(some 120), .mv (.t 11), (some (118, true)), []⟩, ⟨(some 121), .ixS 1 (.t 119) (.t 120), (some (118, true)), []⟩, ⟨(some 122), .ld1 (.t 121), (some (118, true)), []⟩, ⟨(some 123), .mv (.t 0), (some (118, true)), []⟩, ⟨(some 124), .mv (.t 1), (some (118, true)), []⟩, ⟨(some 125), .ixS 1 (.t 123) (.t 124), (some (118, true)), []⟩, ⟨(some 126), .ld1 (.t 125), (some (118, true)), []⟩, ⟨(some 127), .call (.c (.fn 168 [])) [(.t 122), (.t 126)], (some (118, true)), []⟩, ⟨(some 128), .un .not (.t 127), (some (118, true)), []⟩, o 129 (.pick (.t 118) (.t 128) (.c (.bool false)))] none
def w198_3 : AC := .loop [0, 1, 10, 11]
 (.seq (.seq v198_6
 (.cond (.t 129) .skip
 (.exit 8)))
 (.block 9 (g [o 130 (.mv (.t 11)), o 131 (.bin .sub (.t 130) (.c (i 1))), o 11 (.mv (.t 131))])))
def v198_7 : AC := .dreg [0, 1, 2, 3, 4, 5, 6, 7, 8, 9, 10, 11, 12, 13, 14, 15] [o 135 (.mv (.t 0)), o 136 (.mv (.t 10)), o 137 (.mv (.t 0)), o 138 (.mv (.t 11)), o 139 (.mv (.t 0)), o 140 (.mv (.t 11)), o 141 (.ixS 1 (.t 139) (.t 140)), o 142 (.ld1 (.t 141)), o 143 (.mv (.t 0)), o 144 (.mv (.t 10)), o 145 (.ixS 1 (.t 143) (.t 144)), o 146 (.ld1 (.t 145)), o 147 (.ixS 1 (.t 135) (.t 136)), e (.st 1 (.t 147) (.t 142)), o 148 (.ixS 1 (.t 137) (.t 138)), e (.st 1 (.t 148) (.t 146))] none
def w198_4 : AC := .loop [0, 1, 10, 11]
 (.block 5 (.seq (.block 6 w198_2)
 (.seq (.block 8 w198_3)
 (.seq (.seq (g [o 132 (.mv (.t 10)), o 133 (.mv (.t 11)), o 134 (.bin .gtr (.t 132) (.t 133))])
 (.cond (.t 134) (.exit 4)
 .skip))
 (.seq v198_7
 (.seq (g [o 149 (.mv (.t 10)), o 150 (.bin .add (.t 149) (.c (i 1))), o 10 (.mv (.t 150))])
 (g [o 151 (.mv (.t 11)), o 152 (.bin .sub (.t 151) (.c (i 1))), o 11 (.mv (.t 152))])))))))
def v198_8 : AC := .dreg [0, 1, 2, 3, 4, 5, 6, 7, 8, 9, 10, 11, 12, 13, 14, 15] [o 153 (.mv (.t 0)), o 154 (.mv (.t 11)), o 155 (.mv (.t 0)), o 156 (.mv (.t 1)), o 157 (.mv (.t 0)), o 158 (.mv (.t 1)), o 159 (.ixS 1 (.t 157) (.t 158)), o 160 (.ld1 (.t 159)), o 161 (.mv (.t 0)), o 162 (.mv (.t 11)), o 163 (.ixS 1 (.t 161) (.t 162)), o 164 (.ld1 (.t 163)), o 165 (.ixS 1 (.t 153) (.t 154)), e (.st 1 (.t 165) (.t 160)), o 166 (.ixS 1 (.t 155) (.t 156)), e (.st 1 (.t 166) (.t 164))] none
def c198 : AFunc := ⟨4, 168, [.tmp 8, .tmp 9],
 (.seq (g [o 8 (.mv (.c (i 0))), o 9 (.mv (.c (.bool false)))])
 (.seq v198_0
 (.seq (g [o 26 (.mv (.t 1)), o 27 (.bin .add (.t 26) (.c (i 1))), o 28 (.mv (.t 2)), o 29 (.bin .sub (.t 28) (.c (i 1))), o 10 (.mv (.t 27)), o 11 (.mv (.t 29))])
 (.seq (.block 0 w198_0)
 (.seq (.block 2 w198_1)
 (.seq (.seq (g [o 63 (.mv (.t 10)), o 64 (.mv (.t 11)), o 65 (.bin .gtr (.t 63) (.t 64))])
 (.cond (.t 65) (.seq v198_3
 (.seq (g [o 80 (.mv (.t 11)), o 8 (.mv (.t 80)), o 9 (.mv (.c (.bool true)))])
 .ret))
 .skip))
 (.seq v198_4
 (.seq (g [o 95 (.mv (.t 10)), o 96 (.bin .add (.t 95) (.c (i 1))), o 10 (.mv (.t 96))])
 (.seq (g [o 97 (.mv (.t 11)), o 98 (.bin .sub (.t 97) (.c (i 1))), o 11 (.mv (.t 98))])
 (.seq (.block 4 w198_4)
 (.seq v198_8
 (.seq (g [o 167 (.mv (.t 11)), o 8 (.mv (.t 167)), o 9 (.mv (.c (.bool false)))])
 .ret))))))))))))⟩

def c199 : AFunc := ⟨1, 6, [.tmp 2],
 (.seq (g [o 2 (.mv (.c (i 0)))])
 (.seq (g [o 3 (.mv (.t 0)), o 4 (.bin .shl (.c (i 1)) (.t 3)), o 5 (.bin .sub (.t 4) (.c (i 1))), o 2 (.mv (.t 5))])
 .ret))⟩

def c200 : AFunc := ⟨1, 9, [.tmp 2],
 (.seq (g [o 2 (.mv (.c (i 0)))])
 (.seq (.seq (g [o 3 (.mv (.t 0)), o 4 (.bin .lss (.t 3) (.c (i 1))), o 5 (.mv (.t 4)), ⟨(some 6), .mv (.t 0), (some (5, false)), []⟩, ⟨(some 7), .bin .gtr (.t 6) (.c (i 5)), (some (5, false)), []⟩, o 8 (.pick (.t 5) (.c (.bool true)) (.t 7))])
 (.cond (.t 8) (.seq (g [o 2 (.mv (.c (i 1)))])
 .ret)
 .skip))
 (.seq (g [o 2 (.mv (.c (i 0)))])
 .ret)))⟩

def c201 : AFunc := ⟨1, 6, [.tmp 2],
 (.seq (g [o 2 (.mv (.c (i 0)))])
 (.seq (g [o 3 (.mv (.t 0)), o 4 (.call (.c (.fn 202 [])) [(.t 3)]), o 5 (.bin .sub (.t 4) (.c (i 1))), o 2 (.mv (.t 5))])
 .ret))⟩

def w202_0 : AC := .loop [0, 3, 4]
 (.seq (.seq (g [o 5 (.mv (.t 4)), o 6 (.mv (.t 0)), o 7 (.bin .lss (.t 5) (.t 6))])
 (.cond (.t 7) .skip
 (.exit 0)))
 (.seq (.block 1 (g [o 10 (.mv (.t 3)), o 11 (.bin .mul (.t 10) (.c (i 2))), o 3 (.mv (.t 11))]))
 (g [o 8 (.mv (.t 4)), o 9 (.bin .add (.t 8) (.c (i 1))), o 4 (.mv (.t 9))])))
def c202 : AFunc := ⟨1, 13, [.tmp 2],
 (.seq (g [o 2 (.mv (.c (i 0)))])
 (.seq (g [o 3 (.mv (.c (i 1)))])
 (.seq (.seq (g [o 4 (.mv (.c (i 0)))])
 (.block 0 w202_0))
 (.seq (g [o 12 (.mv (.t 3)), o 2 (.mv (.t 12))])
 .ret))))⟩

def w203_0 : AC := .loop [0, 5]
 (.seq (.seq (g [o 10 (.mv (.t 5)), o 11 (.mv (.t 0)), o 12 (.lenS (.t 11)), o 13 (.bin .lss (.t 10) (.t 12))])
 (.cond (.t 13) .skip
 (.exit 0)))
 (.seq (.block 1 (.seq (g [o 16 (.mv (.t 0)), o 17 (.mv (.t 5)), o 18 (.ixS 1 (.t 16) (.t 17)), o 19 (.ld1 (.t 18)), o 20 (.lenS (.t 19)), o 21 (.bin .gtr (.t 20) (.c (i 10)))])
 (.cond (.t 21) (.seq (g [o 4 (.mv (.c (.bool false)))])
 .ret)
 .skip)))
 (g [o 14 (.mv (.t 5)), o 15 (.bin .add (.t 14) (.c (i 1))), o 5 (.mv (.t 15))])))
def c203 : AFunc := ⟨2, 22, [.tmp 4],
 (.seq (g [o 4 (.mv (.c (.bool false)))])
 (.seq (.seq (g [o 6 (.mv (.t 0)), o 7 (.lenS (.t 6)), o 8 (.mv (.t 1)), o 9 (.bin .gtr (.t 7) (.t 8))])
 (.cond (.t 9) (.seq (g [o 4 (.mv (.c (.bool false)))])
 .ret)
 .skip))
 (.seq (.seq (g [o 5 (.mv (.c (i 0)))])
 (.block 0 w203_0))
 (.seq (g [o 4 (.mv (.c (.bool true)))])
 .ret))))⟩

def v204_0 : AC := .dreg [0, 1, 2, 3, 4, 5, 6, 7, 8, 9, 10, 11, 12, 13, 14, 15, 16, 17, 18, 19, 20, 21] [o 9 (.mv (.t 0)), o 10 (.nilck (.t 9)), o 11 (.fa (.t 10) 0), o 12 (.fa (.t 11) 7), o 13 (.fa (.t 12) 1), o 14 (.ld1 (.t 13)), o 15 (.mv (.t 1)), o 16 (.ixS 8 (.t 14) (.t 15)), o 17 (.ldN 8 (.t 16)), o 18 (.mv (.t 0)), o 19 (.nilck (.t 18)), o 20 (.fa (.t 19) 0), o 21 (.fa (.t 20) 7), o 22 (.fa (.t 21) 1), o 23 (.ld1 (.t 22)), o 24 (.mv (.t 2)), o 25 (.ixS 8 (.t 23) (.t 24)), o 26 (.ldN 8 (.t 25)), o 7 (.alloc [i 0, i 0, i 0, i 0, i 0, i 0, i 0, i 0]), o 8 (.alloc [i 0, i 0, i 0, i 0, i 0, i 0, i 0, i 0]), ⟨none, .st 8 (.t 7) (.t 17), none, [14, 17]⟩, e (.st 8 (.t 8) (.t 26))] none
def c204 : AFunc := ⟨3, 39, [.tmp 6],
 (.seq (g [o 6 (.mv (.c (.bool false)))])
 (.seq v204_0
 (.seq (g [o 27 (.fa (.t 7) 0), o 28 (.ld1 (.t 27)), o 29 (.fa (.t 8) 0), o 30 (.ld1 (.t 29)), o 31 (.bin .eql (.t 28) (.t 30)), o 32 (.mv (.t 31)), ⟨(some 33), .fa (.t 7) 1, (some (32, true)), []⟩, ⟨(some 34), .ld1 (.t 33), (some (32, true)), []⟩, ⟨(some 35), .fa (.t 8) 1, (some (32, true)), []⟩, ⟨(some 36), .ld1 (.t 35), (some (32, true)), []⟩, ⟨(some 37), .bin .eql (.t 34) (.t 36), (some (32, true)), []⟩, o 38 (.pick (.t 32) (.t 37) (.c (.bool false))), o 6 (.mv (.t 38))])
 .ret)))⟩

def v205_0 : AC := .dreg [0, 1, 2, 3, 4, 5, 6, 7, 8, 9, 10, 11, 12] [o 17 (.mv (.t 10)), o 18 (.bin .lss (.t 17) (.c (i 0))), o 19 (.mv (.t 18)), ⟨(some 20), .ld1 (.t 5), (some (19, false)), []⟩, ⟨(some 21), .mv (.t 10), (some (19, false)), []⟩, ⟨(some 22), .ixS 1 (.t 20) (.t 21), (some (19, false)), []⟩, ⟨(some 23), .ld1 (.t 22), (some (19, false)), []⟩, ⟨(some 24), .ld1 (.t 5), (some (19, false)), []⟩, ⟨(some 25), .mv (.t 9), (some (19, false)), []⟩, ⟨(some 26), .ixS 1 (.t 24) (.t 25), (some (19, false)), []⟩, ⟨(some 27), .ld1 (.t 26), (some (19, false)), []⟩, ⟨(some 28), .bin .neq (.t 23) (.t 27), (some (19, false)), []⟩, o 29 (.pick (.t 19) (.c (.bool true)) (.t 28))] none
def u205_0 : AC := .block 1 (.seq v205_0
 (.cond (.t 29) (.seq (g [e (.st 1 (.t 8) (.c (.bool false)))])
 .ret)
 .skip))
def c205 : AFunc := ⟨4, 30, [.cell1 8],
 (.seq (g [o 5 (.box (.t 1)), o 8 (.alloc [.bool false])])
 (.seq (.seq (g [o 11 (.mv (.t 0)), o 12 (.mv (.t 2)), o 13 (.mv (.t 3)), o 14 (.call (.c (.fn 235 [])) [(.t 11), (.t 12), (.t 13)])])
 (.block 0 (.rangeF (.t 14) [15, 16] (.seq (g [o 9 (.mv (.t 15))])
 (g [o 10 (.mv (.t 16))]))
 u205_0)))
 (.seq (g [e (.st 1 (.t 8) (.c (.bool true)))])
 .ret)))⟩

def c206 : AFunc := ⟨3, 23, [.tmp 6, .tmp 7],
 (.seq (g [o 3 (.box (.t 0)), o 5 (.box (.t 2)), o 6 (.mv (.c .nilp)), o 7 (.mv (.c (i 0)))])
 (.seq (g [o 11 (.ldN 10 (.t 3)), o 12 (.mv (.t 1)), o 13 (.call (.c (.fn 236 [])) [(.t 11), (.t 12)]), o 10 (.mv (.t 13)), o 14 (.ext (.t 10) 0), o 15 (.ext (.t 10) 1), o 8 (.mv (.t 14)), o 9 (.mv (.t 15))])
 (.seq (.seq (g [o 16 (.mv (.t 9)), o 17 (.bin .neq (.t 16) (.c (i 0)))])
 (.cond (.t 17) (.seq (g [o 18 (.mv (.t 9)), o 6 (.mv (.c .nilp)), o 7 (.mv (.t 18))])
 .ret)
 .skip))
 (.seq (g [o 19 (.mv (.t 8)), o 20 (.mv (.t 8)), o 21 (.ldN 3 (.t 5)), o 22 (.call (.c (.fn 237 [])) [(.t 20), (.t 21)]), o 6 (.mv (.t 19)), o 7 (.mv (.t 22))])
 .ret))))⟩

def w207_0 : AC := .loop [2, 3, 6, 7, 21, 22]
 (.seq (g [o 23 (.bin .lss (.t 22) (.t 21))])
 (.seq (.cond (.t 23) .skip
 (.exit 0))
 (.seq (.block 1 (.seq (g [o 24 (.mv (.t 22)), o 8 (.alloc [i 0]), e (.st 1 (.t 8) (.t 24))])
 (.seq (.seq (g [o 25 (.ld1 (.t 2)), o 26 (.ldN 3 (.t 3)), o 27 (.ld1 (.t 8)), o 28 (.call (.c (.fn 238 [])) [(.t 25), (.t 26), (.t 27)]), o 29 (.un .not (.t 28))])
 (.cond (.t 29) (.exit 1)
 .skip))
 (.seq (g [o 30 (.mv (.t 7)), o 31 (.mkfn 239 [(.t 2), (.t 3), (.t 8)]), o 32 (.call (.c (.fn 154 [])) [(.t 30), (.t 31)]), o 9 (.mv (.t 32))])
 (.seq (.seq (g [o 33 (.mv (.t 9)), o 34 (.bin .lss (.t 33) (.c (i 0)))])
 (.cond (.t 34) (.seq (g [o 35 (.mv (.t 7)), o 36 (.lenS (.t 35)), o 9 (.mv (.t 36))])
 (g [o 37 (.mv (.t 7)), o 38 (.ld1 (.t 8)), o 39 (.bslice 1 [i 0] [(0, 1, (.t 38))]), o 40 (.app 1 8 (.t 37) (.t 39)), o 7 (.mv (.t 40))]))
 .skip))
 (g [o 41 (.mv (.t 6)), o 42 (.ld1 (.t 8)), o 43 (.mv (.t 9)), o 44 (.ixS 1 (.t 41) (.t 42)), e (.st 1 (.t 44) (.t 43))]))))))
 (g [o 45 (.bin .add (.t 22) (.c (i 1))), o 22 (.mv (.t 45))]))))
def c207 : AFunc := ⟨2, 49, [.tmp 4, .tmp 5],
 (.seq (g [o 2 (.box (.t 0)), o 3 (.box (.t 1)), o 4 (.mv (.c .nils)), o 5 (.mv (.c (i 0)))])
 (.seq (g [o 10 (.bslice 1 [i 0] [(0, 1, (.c (j 0)))]), o 11 (.ld1 (.t 2)), o 12 (.nilck (.t 11)), o 13 (.fa (.t 12) 11), o 14 (.ld1 (.t 13)), o 15 (.lenS (.t 14)), o 16 (.call (.c (.fn 122 [])) [(.t 10), (.t 15)]), o 6 (.mv (.t 16))])
 (.seq (g [o 7 (.mv (.c .nils))])
 (.seq (.seq (g [o 17 (.ld1 (.t 2)), o 18 (.nilck (.t 17)), o 19 (.fa (.t 18) 11), o 20 (.ld1 (.t 19)), o 21 (.lenS (.t 20)), o 22 (.mv (.c (i 0)))])
 (.block 0 w207_0))
 (.seq (g [o 46 (.mv (.t 6)), o 47 (.mv (.t 7)), o 48 (.lenS (.t 47)), o 4 (.mv (.t 46)), o 5 (.mv (.t 48))])
 .ret)))))⟩

def c208 : AFunc := ⟨2, 17, [.tmp 4, .tmp 5],
 (.seq (g [o 4 (.mv (.c (.int .u32 0))), o 5 (.mv (.c (.int .u32 0)))])
 (.seq (g [o 7 (.mv (.t 0)), o 8 (.conv .u64 (.t 7)), o 9 (.mv (.t 1)), o 10 (.conv .u64 (.t 9)), o 11 (.bin .mul (.t 8) (.t 10)), o 6 (.mv (.t 11))])
 (.seq (g [o 12 (.mv (.t 6)), o 13 (.bin .shr (.t 12) (.c (.int .u64 32))), o 14 (.conv .u32 (.t 13)), o 15 (.mv (.t 6)), o 16 (.conv .u32 (.t 15)), o 4 (.mv (.t 14)), o 5 (.mv (.t 16))])
 .ret)))⟩

def c209 : AFunc := ⟨2, 51, [.tmp 4, .tmp 5],
 (.seq (g [o 4 (.mv (.c (.int .u64 0))), o 5 (.mv (.c (.int .u64 0)))])
 (.seq (g [o 14 (.mv (.t 0)), o 15 (.bin .and (.t 14) (.c (.int .u64 4294967295))), o 6 (.mv (.t 15))])
 (.seq (g [o 16 (.mv (.t 0)), o 17 (.bin .shr (.t 16) (.c (.int .u64 32))), o 7 (.mv (.t 17))])
 (.seq (g [o 18 (.mv (.t 1)), o 19 (.bin .and (.t 18) (.c (.int .u64 4294967295))), o 8 (.mv (.t 19))])
 (.seq (g [o 20 (.mv (.t 1)), o 21 (.bin .shr (.t 20) (.c (.int .u64 32))), o 9 (.mv (.t 21))])
 (.seq (g [o 22 (.mv (.t 6)), o 23 (.mv (.t 8)), o 24 (.bin .mul (.t 22) (.t 23)), o 10 (.mv (.t 24))])
 (.seq (g [o 25 (.mv (.t 7)), o 26 (.mv (.t 8)), o 27 (.bin .mul (.t 25) (.t 26)), o 28 (.mv (.t 10)), o 29 (.bin .shr (.t 28) (.c (.int .u64 32))), o 30 (.bin .add (.t 27) (.t 29)), o 11 (.mv (.t 30))])
 (.seq (g [o 31 (.mv (.t 11)), o 32 (.bin .and (.t 31) (.c (.int .u64 4294967295))), o 12 (.mv (.t 32))])
 (.seq (g [o 33 (.mv (.t 11)), o 34 (.bin .shr (.t 33) (.c (.int .u64 32))), o 13 (.mv (.t 34))])
 (.seq (g [o 35 (.mv (.t 12)), o 36 (.mv (.t 6)), o 37 (.mv (.t 9)), o 38 (.bin .mul (.t 36) (.t 37)), o 39 (.bin .add (.t 35) (.t 38)), o 12 (.mv (.t 39))])
 (.seq (g [o 40 (.mv (.t 7)), o 41 (.mv (.t 9)), o 42 (.bin .mul (.t 40) (.t 41)), o 43 (.mv (.t 13)), o 44 (.bin .add (.t 42) (.t 43)), o 45 (.mv (.t 12)), o 46 (.bin .shr (.t 45) (.c (.int .u64 32))), o 47 (.bin .add (.t 44) (.t 46)), o 4 (.mv (.t 47))])
 (.seq (g [o 48 (.mv (.t 0)), o 49 (.mv (.t 1)), o 50 (.bin .mul (.t 48) (.t 49)), o 5 (.mv (.t 50))])
 .ret))))))))))))⟩

def c210 : AFunc := ⟨2, 24, [.tmp 4],
 (.seq (g [o 2 (.box (.t 0)), o 3 (.box (.t 1)), o 4 (.mv (.c (.bool false)))])
 (.seq (g [o 5 (.fa (.t 2) 6), o 6 (.ld1 (.t 5)), o 7 (.fa (.t 3) 6), o 8 (.ld1 (.t 7)), o 9 (.bin .eql (.t 6) (.t 8)), o 10 (.mv (.t 9)), ⟨(some 11), .fa (.t 2) 0, (some (10, true)), []⟩, ⟨(some 12), .ldN 4 (.t 11), (some (10, true)), []⟩, ⟨(some 13), .fa (.t 3) 0, (some (10, true)), []⟩, ⟨(some 14), .ldN 4 (.t 13), (some (10, true)), []⟩, ⟨(some 15), .call (.c (.fn 241 [])) [(.t 12), (.t 14)], (some (10, true)), []⟩, o 16 (.pick (.t 10) (.t 15) (.c (.bool false))), o 17 (.mv (.t 16)), ⟨(some 18), .fa (.t 2) 4, (some (17, true)), []⟩, ⟨(some 19), .ldN 2 (.t 18), (some (17, true)), []⟩, ⟨(some 20), .fa (.t 3) 4, (some (17, true)), []⟩, ⟨(some 21), .ldN 2 (.t 20), (some (17, true)), []⟩, ⟨(some 22), .call (.c (.fn 242 [])) [(.t 19), (.t 21)], (some (17, true)), []⟩, o 23 (.pick (.t 17) (.t 22) (.c (.bool false))), o 4 (.mv (.t 23))])
 .ret))⟩

def v211_0 : AC := .dreg [0, 1, 2, 3, 4, 5, 6, 7, 8, 9, 10] [o 27 (.fa (.t 2) 1), o 28 (.ld1 (.t 27)), o 29 (.mv (.t 5)), o 30 (.ixS 8 (.t 28) (.t 29)), o 31 (.ldN 8 (.t 30)), o 32 (.fa (.t 3) 1), o 33 (.ld1 (.t 32)), o 34 (.mv (.t 5)), o 35 (.ixS 8 (.t 33) (.t 34)), o 36 (.ldN 8 (.t 35)), o 37 (.eqf true 8 (.t 31) (.t 36))] none
def w211_0 : AC := .loop [2, 3, 5]
 (.seq (.seq (g [o 20 (.mv (.t 5)), o 21 (.fa (.t 2) 1), o 22 (.ld1 (.t 21)), o 23 (.lenS (.t 22)), o 24 (.bin .lss (.t 20) (.t 23))])
 (.cond (.t 24) .skip
 (.exit 0)))
 (.seq (.block 1 (.seq v211_0
 (.cond (.t 37) (.seq (g [o 4 (.mv (.c (.bool false)))])
 .ret)
 .skip)))
 (g [o 25 (.mv (.t 5)), o 26 (.bin .add (.t 25) (.c (i 1))), o 5 (.mv (.t 26))])))
def c211 : AFunc := ⟨2, 38, [.tmp 4],
 (.seq (g [o 2 (.box (.t 0)), o 3 (.box (.t 1)), o 4 (.mv (.c (.bool false)))])
 (.seq (.seq (g [o 6 (.fa (.t 2) 0), o 7 (.ld1 (.t 6)), o 8 (.fa (.t 3) 0), o 9 (.ld1 (.t 8)), o 10 (.bin .neq (.t 7) (.t 9)), o 11 (.mv (.t 10)), ⟨(some 12), .fa (.t 2) 1, (some (11, false)), []⟩, ⟨(some 13), .ld1 (.t 12), (some (11, false)), []⟩, ⟨(some 14), .lenS (.t 13), (some (11, false)), []⟩, ⟨(some 15), .fa (.t 3) 1, (some (11, false)), []⟩, ⟨(some 16), .ld1 (.t 15), (some (11, false)), []⟩, ⟨(some 17), .lenS (.t 16), (some (11, false)), []⟩, ⟨(some 18), .bin .neq (.t 14) (.t 17), (some (11, false)), []⟩, o 19 (.pick (.t 11) (.c (.bool true)) (.t 18))])
 (.cond (.t 19) (.seq (g [o 4 (.mv (.c (.bool false)))])
 .ret)
 .skip))
 (.seq (.seq (g [o 5 (.mv (.c (i 0)))])
 (.block 0 w211_0))
 (.seq (g [o 4 (.mv (.c (.bool true)))])
 .ret))))⟩

def v212_0 : AC := .dreg [0, 1, 2, 3, 4, 5, 6, 7, 8, 9, 10, 11] [o 35 (.fa (.t 2) 2), o 36 (.ld1 (.t 35)), o 37 (.mv (.t 5)), o 38 (.ixS 1 (.t 36) (.t 37)), o 39 (.ld1 (.t 38)), o 40 (.fa (.t 3) 2), o 41 (.ld1 (.t 40)), o 42 (.mv (.t 5)), o 43 (.ixS 1 (.t 41) (.t 42)), o 44 (.ld1 (.t 43)), o 45 (.call (.c (.fn 244 [])) [(.t 39), (.t 44)]), o 46 (.un .not (.t 45))] none
def w212_0 : AC := .loop [2, 3, 5]
 (.seq (.seq (g [o 28 (.mv (.t 5)), o 29 (.fa (.t 2) 2), o 30 (.ld1 (.t 29)), o 31 (.lenS (.t 30)), o 32 (.bin .lss (.t 28) (.t 31))])
 (.cond (.t 32) .skip
 (.exit 0)))
 (.seq (.block 1 (.seq v212_0
 (.cond (.t 46) (.seq (g [o 4 (.mv (.c (.bool false)))])
 .ret)
 .skip)))
 (g [o 33 (.mv (.t 5)), o 34 (.bin .add (.t 33) (.c (i 1))), o 5 (.mv (.t 34))])))
def c212 : AFunc := ⟨2, 47, [.tmp 4],
 (.seq (g [o 2 (.box (.t 0)), o 3 (.box (.t 1)), o 4 (.mv (.c (.bool false)))])
 (.seq (.seq (g [o 6 (.fa (.t 2) 0), o 7 (.ld1 (.t 6)), o 8 (.fa (.t 3) 0), o 9 (.ld1 (.t 8)), o 10 (.bin .neq (.t 7) (.t 9)), o 11 (.mv (.t 10)), ⟨(some 12), .fa (.t 2) 1, (some (11, false)), []⟩, ⟨(some 13), .ld1 (.t 12), (some (11, false)), []⟩, ⟨(some 14), .fa (.t 3) 1, (some (11, false)), []⟩, ⟨(some 15), .ld1 (.t 14), (some (11, false)), []⟩, ⟨(some 16), .call (.c (.fn 243 [])) [(.t 13), (.t 15)], (some (11, false)), []⟩, ⟨(some 17), .un .not (.t 16), (some (11, false)), []⟩, o 18 (.pick (.t 11) (.c (.bool true)) (.t 17)), o 19 (.mv (.t 18)), ⟨(some 20), .fa (.t 2) 2, (some (19, false)), []⟩, ⟨(some 21), .ld1 (.t 20), (some (19, false)), []⟩, ⟨(some 22), .lenS (.t 21), (some (19, false)), []⟩, ⟨(some 23), .fa (.t 3) 2, (some (19, false)), []⟩, ⟨(some 24), .ld1 (.t 23), (some (19, false)), []⟩, ⟨(some 25), .lenS (.t 24), (some (19, false)), []⟩, ⟨(some 26), .bin .neq (.t 22) (.t 25), (some (19, false)), []⟩, o 27 (.pick (.t 19) (.c (.bool true)) (.t 26))])
 (.cond (.t 27) (.seq (g [o 4 (.mv (.c (.bool false)))])
 .ret)
 .skip))
 (.seq (.seq (g [o 5 (.mv (.c (i 0)))])
 (.block 0 w212_0))
 (.seq (g [o 4 (.mv (.c (.bool true)))])
 .ret))))⟩

def v213_0 : AC := .dreg [0, 1, 2, 3, 4, 5, 6, 7, 8, 9, 10, 11, 12, 13, 14, 15] [o 11 (.fa (.t 4) 7), o 12 (.fa (.t 11) 1), o 13 (.ld1 (.t 12)), o 14 (.mv (.t 2)), o 15 (.ixS 8 (.t 13) (.t 14)), o 16 (.ldN 8 (.t 15)), o 17 (.fa (.t 4) 7), o 18 (.fa (.t 17) 1), o 19 (.ld1 (.t 18)), o 20 (.mv (.t 3)), o 21 (.ixS 8 (.t 19) (.t 20)), o 22 (.ldN 8 (.t 21)), o 9 (.alloc [i 0, i 0, i 0, i 0, i 0, i 0, i 0, i 0]), o 10 (.alloc [i 0, i 0, i 0, i 0, i 0, i 0, i 0, i 0]), ⟨none, .st 8 (.t 9) (.t 16), none, [8, 11]⟩, e (.st 8 (.t 10) (.t 22))] none
def v213_1 : AC := .dreg [0, 1, 2, 3, 4, 5, 6, 7, 8, 9, 10, 11, 12, 13, 14, 15, 16, 17, 18, 19, 20, 21, 22, 23, 24, 25] [o 23 (.fa (.t 9) 0), o 24 (.ld1 (.t 23)), o 25 (.fa (.t 10) 0), o 26 (.ld1 (.t 25)), o 27 (.bin .eql (.t 24) (.t 26)), o 28 (.mv (.t 27)), ⟨(some 29), .fa (.t 9) 1, (some (28, true)), []⟩, ⟨(some 30), .ld1 (.t 29), (some (28, true)), []⟩, ⟨(some 31), .fa (.t 10) 1, (some (28, true)), []⟩, ⟨(some 32), .ld1 (.t 31), (some (28, true)), []⟩, ⟨(some 33), .bin .eql (.t 30) (.t 32), (some (28, true)), []⟩, o 34 (.pick (.t 28) (.t 33) (.c (.bool false))), o 35 (.mv (.t 34)), ⟨(some 36), .fa (.t 5) 0, (some (35, true)), []⟩, ⟨(some 37), .ld1 (.t 36), (some (35, true)), []⟩, ⟨(some 38), .mv (.t 2), (some (35, true)), []⟩, ⟨(some 39), .ixS 1 (.t 37) (.t 38), (some (35, true)), []⟩, ⟨(some 40), .ld1 (.t 39), (some (35, true)), []⟩, ⟨(some 41), .fa (.t 5) 0, (some (35, true)), []⟩, ⟨(some 42), .ld1 (.t 41), (some (35, true)), []⟩, ⟨(some 43), .mv (.t 3), (some (35, true)), []⟩, ⟨(some 44), .ixS 1 (.t 42) (.t 43), (some (35, true)), []⟩, ⟨(some 45), .ld1 (.t 44), (some (35, true)), []⟩, ⟨(some 46), .bin .eql (.t 40) (.t 45), (some (35, true)), []⟩, o 47 (.pick (.t 35) (.t 46) (.c (.bool false))), o 8 (.mv (.t 47))] none
def c213 : AFunc := ⟨4, 48, [.tmp 8],
 (.seq (g [o 4 (.box (.t 0)), o 5 (.box (.t 1)), o 8 (.mv (.c (.bool false)))])
 (.seq v213_0
 (.seq v213_1
 .ret)))⟩

def v214_0 : AC := .dreg [0, 1, 2, 3, 4, 5, 6, 7, 8, 9, 10, 11, 12] [o 27 (.mv (.t 10)), o 28 (.bin .lss (.t 27) (.c (i 0))), o 29 (.mv (.t 28)), ⟨(some 30), .mv (.t 1), (some (29, false)), []⟩, ⟨(some 31), .mv (.t 10), (some (29, false)), []⟩, ⟨(some 32), .ixS 1 (.t 30) (.t 31), (some (29, false)), []⟩, ⟨(some 33), .ld1 (.t 32), (some (29, false)), []⟩, ⟨(some 34), .mv (.t 1), (some (29, false)), []⟩, ⟨(some 35), .mv (.t 9), (some (29, false)), []⟩, ⟨(some 36), .ixS 1 (.t 34) (.t 35), (some (29, false)), []⟩, ⟨(some 37), .ld1 (.t 36), (some (29, false)), []⟩, ⟨(some 38), .bin .neq (.t 33) (.t 37), (some (29, false)), []⟩, o 39 (.pick (.t 29) (.c (.bool true)) (.t 38))] none
def w214_0 : AC := .loop [1, 2, 3, 4, 9]
 (.seq (.seq (g [o 11 (.mv (.t 9)), o 12 (.mv (.t 1)), o 13 (.lenS (.t 12)), o 14 (.bin .lss (.t 11) (.t 13))])
 (.cond (.t 14) .skip
 (.exit 0)))
 (.seq (.block 1 (.seq (.seq (g [o 17 (.ldN 10 (.t 4)), o 18 (.mv (.t 9)), o 19 (.mv (.t 2)), o 20 (.call (.c (.fn 245 [])) [(.t 17), (.t 18), (.t 19)]), o 21 (.un .not (.t 20))])
 (.cond (.t 21) (.exit 1)
 .skip))
 (.seq (g [o 22 (.ldN 10 (.t 4)), o 23 (.mv (.t 9)), o 24 (.mv (.t 2)), o 25 (.mv (.t 3)), o 26 (.call (.c (.fn 246 [])) [(.t 22), (.t 23), (.t 24), (.t 25)]), o 10 (.mv (.t 26))])
 (.seq v214_0
 (.cond (.t 39) (.seq (g [o 8 (.mv (.c (.bool false)))])
 .ret)
 .skip)))))
 (g [o 15 (.mv (.t 9)), o 16 (.bin .add (.t 15) (.c (i 1))), o 9 (.mv (.t 16))])))
def c214 : AFunc := ⟨4, 40, [.tmp 8],
 (.seq (g [o 4 (.box (.t 0)), o 8 (.mv (.c (.bool false)))])
 (.seq (.seq (g [o 9 (.mv (.c (i 0)))])
 (.block 0 w214_0))
 (.seq (g [o 8 (.mv (.c (.bool true)))])
 .ret)))⟩

def v215_0 : AC := .dreg [0, 1, 2, 3, 4, 5, 6, 7, 8] [o 23 (.mv (.t 0)), o 24 (.mv (.t 7)), o 25 (.ixS 1 (.t 23) (.t 24)), o 26 (.ld1 (.t 25)), o 27 (.mv (.t 0)), o 28 (.mv (.t 5)), o 29 (.ixS 1 (.t 27) (.t 28)), o 30 (.ld1 (.t 29)), o 31 (.bin .eql (.t 26) (.t 30))] none
def w215_0 : AC := .loop [0, 3, 4, 5, 6, 7]
 (.seq (.seq (g [o 14 (.mv (.t 7)), o 15 (.mv (.t 5)), o 16 (.bin .lss (.t 14) (.t 15)), o 17 (.mv (.t 16)), ⟨(some 18), .mv (.t 6), (some (17, true)), []⟩, ⟨(some 19), .bin .lss (.t 18) (.c (i 0)), (some (17, true)), []⟩, o 20 (.pick (.t 17) (.t 19) (.c (.bool false)))])
 (.cond (.t 20) .skip
 (.exit 2)))
 (.seq (.block 3 (.seq v215_0
 (.cond (.t 31) (g [o 32 (.mv (.t 3)), o 33 (.mv (.t 7)), o 34 (.ixS 1 (.t 32) (.t 33)), o 35 (.ld1 (.t 34)), o 6 (.mv (.t 35))])
 .skip)))
 (g [o 21 (.mv (.t 7)), o 22 (.bin .add (.t 21) (.c (i 1))), o 7 (.mv (.t 22))])))
def w215_1 : AC := .loop [0, 3, 4, 5]
 (.seq (.seq (g [o 8 (.mv (.t 5)), o 9 (.mv (.t 0)), o 10 (.lenS (.t 9)), o 11 (.bin .lss (.t 8) (.t 10))])
 (.cond (.t 11) .skip
 (.exit 0)))
 (.seq (.block 1 (.seq (g [o 6 (.mv (.c (j 0)))])
 (.seq (.seq (g [o 7 (.mv (.c (i 0)))])
 (.block 2 w215_0))
 (.seq (.seq (g [o 36 (.mv (.t 6)), o 37 (.bin .lss (.t 36) (.c (i 0)))])
 (.cond (.t 37) (.seq (g [o 38 (.mv (.t 4)), o 6 (.mv (.t 38))])
 (g [o 39 (.mv (.t 4)), o 40 (.bin .add (.t 39) (.c (i 1))), o 4 (.mv (.t 40))]))
 .skip))
 (g [o 41 (.mv (.t 3)), o 42 (.mv (.t 6)), o 43 (.bslice 1 [i 0] [(0, 1, (.t 42))]), o 44 (.app 1 8 (.t 41) (.t 43)), o 3 (.mv (.t 44))])))))
 (g [o 12 (.mv (.t 5)), o 13 (.bin .add (.t 12) (.c (i 1))), o 5 (.mv (.t 13))])))
def c215 : AFunc := ⟨1, 46, [.tmp 2],
 (.seq (g [o 2 (.mv (.c .nils))])
 (.seq (g [o 3 (.mv (.c .nils))])
 (.seq (g [o 4 (.mv (.c (i 0)))])
 (.seq (.seq (g [o 5 (.mv (.c (i 0)))])
 (.block 0 w215_1))
 (.seq (g [o 45 (.mv (.t 3)), o 2 (.mv (.t 45))])
 .ret)))))⟩

def w216_0 : AC := .loop [0, 1, 5]
 (.seq (.seq (g [o 6 (.mv (.t 5)), o 7 (.mv (.t 0)), o 8 (.lenS (.t 7)), o 9 (.bin .lss (.t 6) (.t 8))])
 (.cond (.t 9) .skip
 (.exit 0)))
 (.seq (.block 1 (.seq (g [o 12 (.mv (.t 0)), o 13 (.mv (.t 5)), o 14 (.ixS 1 (.t 12) (.t 13)), o 15 (.ld1 (.t 14)), o 16 (.mv (.t 1)), o 17 (.bin .eql (.t 15) (.t 16))])
 (.cond (.t 17) (.seq (g [o 4 (.mv (.c (.bool true)))])
 .ret)
 .skip)))
 (g [o 10 (.mv (.t 5)), o 11 (.bin .add (.t 10) (.c (i 1))), o 5 (.mv (.t 11))])))
def c216 : AFunc := ⟨2, 18, [.tmp 4],
 (.seq (g [o 4 (.mv (.c (.bool false)))])
 (.seq (.seq (g [o 5 (.mv (.c (i 0)))])
 (.block 0 w216_0))
 (.seq (g [o 4 (.mv (.c (.bool false)))])
 .ret)))⟩

def w217_0 : AC := .loop [0, 3, 4]
 (.seq (.seq (g [o 5 (.mv (.t 4)), o 6 (.mv (.t 0)), o 7 (.lenS (.t 6)), o 8 (.bin .lss (.t 5) (.t 7))])
 (.cond (.t 8) .skip
 (.exit 0)))
 (.seq (.block 1 (g [o 11 (.mv (.t 3)), o 12 (.mv (.t 0)), o 13 (.mv (.t 4)), o 14 (.ixS 1 (.t 12) (.t 13)), o 15 (.ld1 (.t 14)), o 16 (.bin .add (.t 15) (.c (i 1))), o 17 (.minmax true (.t 11) (.t 16)), o 3 (.mv (.t 17))]))
 (g [o 9 (.mv (.t 4)), o 10 (.bin .add (.t 9) (.c (i 1))), o 4 (.mv (.t 10))])))
def c217 : AFunc := ⟨1, 19, [.tmp 2],
 (.seq (g [o 2 (.mv (.c (i 0)))])
 (.seq (g [o 3 (.mv (.c (i 0)))])
 (.seq (.seq (g [o 4 (.mv (.c (i 0)))])
 (.block 0 w217_0))
 (.seq (g [o 18 (.mv (.t 3)), o 2 (.mv (.t 18))])
 .ret))))⟩

def v218_0 : AC := .dreg [0, 1, 2, 3, 4, 5, 6, 7, 8, 9] [o 10 (.fa (.t 4) 7), o 11 (.fa (.t 10) 1), o 12 (.ld1 (.t 11)), o 13 (.mv (.t 1)), o 14 (.mv (.t 3)), ⟨(some 15), .call (.c (.fn 247 [])) [(.t 13), (.t 14)], none, [2]⟩, o 16 (.ixS 8 (.t 12) (.t 15)), o 17 (.ldN 8 (.t 16)), o 9 (.alloc [i 0, i 0, i 0, i 0, i 0, i 0, i 0, i 0]), e (.st 8 (.t 9) (.t 17))] none
def c218 : AFunc := ⟨4, 30, [.tmp 8],
 (.seq (g [o 4 (.box (.t 0)), o 6 (.box (.t 2)), o 8 (.mv (.c (.bool false)))])
 (.seq v218_0
 (.seq (g [o 18 (.fa (.t 9) 0), o 19 (.ld1 (.t 18)), o 20 (.fa (.t 6) 1), o 21 (.ld1 (.t 20)), o 22 (.bin .eql (.t 19) (.t 21)), o 23 (.mv (.t 22)), ⟨(some 24), .fa (.t 9) 1, (some (23, true)), []⟩, ⟨(some 25), .ld1 (.t 24), (some (23, true)), []⟩, ⟨(some 26), .fa (.t 6) 0, (some (23, true)), []⟩, ⟨(some 27), .ld1 (.t 26), (some (23, true)), []⟩, ⟨(some 28), .bin .eql (.t 25) (.t 27), (some (23, true)), []⟩, o 29 (.pick (.t 23) (.t 28) (.c (.bool false))), o 8 (.mv (.t 29))])
 .ret)))⟩

def c219 : AFunc := ⟨5, 35, [.tmp 10],
 (.seq (g [o 5 (.box (.t 0)), o 7 (.box (.t 2)), o 10 (.mv (.c (.bool false)))])
 (.seq (g [o 13 (.mv (.t 1)), o 14 (.mv (.t 3)), o 15 (.call (.c (.fn 247 [])) [(.t 13), (.t 14)]), o 16 (.mv (.t 1)), o 17 (.mv (.t 4)), o 18 (.call (.c (.fn 247 [])) [(.t 16), (.t 17)]), o 11 (.mv (.t 15)), o 12 (.mv (.t 18))])
 (.seq (g [o 19 (.ldN 10 (.t 5)), o 20 (.mv (.t 1)), o 21 (.fa (.t 7) 2), o 22 (.ld1 (.t 21)), o 23 (.mv (.t 11)), o 24 (.mv (.t 12)), o 25 (.call (.c (.fn 248 [])) [(.t 19), (.t 20), (.t 22), (.t 23), (.t 24)]), o 26 (.mv (.t 25)), ⟨(some 27), .ldN 10 (.t 5), (some (26, true)), []⟩, ⟨(some 28), .mv (.t 1), (some (26, true)), []⟩, ⟨(some 29), .fa (.t 7) 2, (some (26, true)), []⟩, ⟨(some 30), .ld1 (.t 29), (some (26, true)), []⟩, ⟨(some 31), .mv (.t 12), (some (26, true)), []⟩, ⟨(some 32), .mv (.t 11), (some (26, true)), []⟩, ⟨(some 33), .call (.c (.fn 248 [])) [(.t 27), (.t 28), (.t 30), (.t 31), (.t 32)], (some (26, true)), []⟩, o 34 (.pick (.t 26) (.t 33) (.c (.bool false))), o 10 (.mv (.t 34))])
 .ret)))⟩

def c220 : AFunc := ⟨1, 33, [.tmp 2, .tmp 3],
 (.seq (g [o 1 (.box (.t 0)), o 2 (.mv (.c (i 0))), o 3 (.mv (.c (i 0)))])
 (.seq (.seq (g [o 8 (.ldN 7 (.t 1)), o 9 (.call (.c (.fn 249 [])) [(.t 8)]), o 4 (.mv (.t 9))])
 (.seq (g [o 10 (.mv (.t 4)), o 11 (.bin .neq (.t 10) (.c (i 0)))])
 (.cond (.t 11) (.seq (g [o 12 (.mv (.t 4)), o 2 (.mv (.c (i 0))), o 3 (.mv (.t 12))])
 .ret)
 .skip)))
 (.seq (g [o 14 (.fa (.t 1) 4), o 15 (.ldN 2 (.t 14)), o 16 (.fa (.t 1) 6), o 17 (.ld1 (.t 16)), o 18 (.call (.c (.fn 250 [])) [(.t 15), (.t 17)]), o 13 (.mv (.t 18)), o 19 (.ext (.t 13) 0), o 20 (.ext (.t 13) 1), o 5 (.mv (.t 19)), o 6 (.mv (.t 20))])
 (.seq (.seq (g [o 21 (.mv (.t 6)), o 22 (.bin .neq (.t 21) (.c (i 0)))])
 (.cond (.t 22) (.seq (g [o 23 (.mv (.t 6)), o 2 (.mv (.c (i 0))), o 3 (.mv (.t 23))])
 .ret)
 .skip))
 (.seq (g [o 24 (.mv (.t 5)), o 25 (.fa (.t 1) 0), o 26 (.fa (.t 25) 3), o 27 (.ld1 (.t 26)), o 28 (.lenS (.t 27)), o 29 (.bin .mul (.t 24) (.t 28)), o 7 (.mv (.t 29))])
 (.seq (.seq (g [o 30 (.mv (.t 7)), o 31 (.bin .gtr (.t 30) (.c (i 1048576)))])
 (.cond (.t 31) (.seq (g [o 2 (.mv (.c (i 0))), o 3 (.mv (.c (i 17)))])
 .ret)
 .skip))
 (.seq (g [o 32 (.mv (.t 7)), o 2 (.mv (.t 32)), o 3 (.mv (.c (i 0)))])
 .ret)))))))⟩

def v221_0 : AC := .dreg [0, 1, 2, 3] [o 22 (.ld1 (.t 9)), o 23 (.ld1 (.t 3)), o 24 (.mkslice 56 [i 0, i 0, i 0, i 0, i 0, i 0, i 0] (.c (i 0)) (.t 23)), o 25 (.call (.t 22) [(.c (i 0)), (.t 24)])] none
def c221 : AFunc := ⟨2, 27, [.tmp 4, .tmp 5],
 (.seq (g [o 2 (.box (.t 0)), o 3 (.box (.t 1)), o 4 (.mv (.c .nils)), o 5 (.mv (.c (i 0)))])
 (.seq (g [o 11 (.ldN 2 (.t 2)), o 12 (.ld1 (.t 3)), o 13 (.call (.c (.fn 251 [])) [(.t 11), (.t 12), (.c (i 4096))]), o 10 (.mv (.t 13)), o 14 (.ext (.t 10) 0), o 15 (.ext (.t 10) 1), o 6 (.mv (.t 14)), o 7 (.mv (.t 15))])
 (.seq (.seq (g [o 16 (.mv (.t 7)), o 17 (.bin .neq (.t 16) (.c (i 0)))])
 (.cond (.t 17) (.seq (g [o 18 (.mv (.t 7)), o 4 (.mv (.c .nils)), o 5 (.mv (.t 18))])
 .ret)
 .skip))
 (.seq (g [o 19 (.mv (.t 6)), o 20 (.mkslice 24 [.nils] (.c (i 0)) (.t 19)), o 8 (.alloc [.nils]), e (.st 1 (.t 8) (.t 20))])
 (.seq (g [o 9 (.alloc [.nilf])])
 (.seq (g [o 21 (.mkfn 252 [(.t 3), (.t 8), (.t 2), (.t 9)]), e (.st 1 (.t 9) (.t 21))])
 (.seq v221_0
 (.seq (g [o 26 (.ld1 (.t 8)), o 4 (.mv (.t 26)), o 5 (.mv (.c (i 0)))])
 .ret))))))))⟩

def v222_0 : AC := .dreg [0, 1, 2, 3, 4, 5, 7, 8, 10, 11, 6, 9, 12, 13, 14, 15] [o 22 (.fa (.t 1) 0), o 23 (.fa (.t 22) 3), o 24 (.ld1 (.t 23)), o 25 (.mv (.t 3)), o 26 (.fa (.t 4) 0), o 27 (.ld1 (.t 26)), o 29 (.fa (.t 4) 1), o 30 (.ld1 (.t 29)), o 32 (.fa (.t 4) 2), o 33 (.ld1 (.t 32)), ⟨(some 28), .call (.c (.fn 32 [])) [(.t 27)], none, [2, 7, 9]⟩, ⟨(some 31), .call (.c (.fn 254 [])) [(.t 30)], none, [2, 9]⟩, ⟨(some 34), .call (.c (.fn 254 [])) [(.t 33)], none, [2]⟩, o 35 (.build [.nils, .nils, .nils] [(0, 1, (.t 28)), (1, 1, (.t 31)), (2, 1, (.t 34))]), o 36 (.ixS 3 (.t 24) (.t 25)), e (.st 3 (.t 36) (.t 35))] none
def w222_0 : AC := .loop [1, 2, 15, 16, 17]
 (.seq (g [o 18 (.bin .lss (.t 17) (.t 16))])
 (.seq (.cond (.t 18) .skip
 (.exit 0))
 (.seq (.block 1 (.seq (g [o 19 (.mv (.t 17)), o 20 (.ixS 3 (.t 15) (.t 17)), o 21 (.ldN 3 (.t 20)), o 4 (.alloc [.nils, .nils, .nils]), o 3 (.mv (.t 19)), e (.st 3 (.t 4) (.t 21))])
 v222_0))
 (g [o 37 (.bin .add (.t 17) (.c (i 1))), o 17 (.mv (.t 37))]))))
def v222_1 : AC := .dreg [0, 1, 2, 3, 4, 5, 6, 7] [o 53 (.fa (.t 1) 4), o 54 (.fa (.t 53) 1), o 55 (.ld1 (.t 54)), o 56 (.mv (.t 5)), o 57 (.mv (.t 6)), ⟨(some 58), .call (.c (.fn 256 [])) [(.t 57)], none, [2]⟩, o 59 (.ixS 1 (.t 55) (.t 56)), e (.st 1 (.t 59) (.t 58))] none
def w222_1 : AC := .loop [1, 2, 46, 47, 48]
 (.seq (g [o 49 (.bin .lss (.t 48) (.t 47))])
 (.seq (.cond (.t 49) .skip
 (.exit 2))
 (.seq (.block 3 (.seq (g [o 50 (.mv (.t 48)), o 51 (.ixS 1 (.t 46) (.t 48)), o 52 (.ld1 (.t 51)), o 5 (.mv (.t 50)), o 6 (.mv (.t 52))])
 v222_1))
 (g [o 60 (.bin .add (.t 48) (.c (i 1))), o 48 (.mv (.t 60))]))))
def c222 : AFunc := ⟨1, 62, [.cellN 2 7],
 (.seq (g [o 1 (.box (.t 0)), o 2 (.alloc [i 0, i 0, i 0, .nils, i 0, .nils, i 0])])
 (.seq (g [o 7 (.fa (.t 1) 0), o 8 (.fa (.t 7) 3), o 9 (.ld1 (.t 8)), o 10 (.call (.c (.fn 253 [])) [(.t 9)]), o 11 (.fa (.t 1) 0), o 12 (.fa (.t 11) 3), e (.st 1 (.t 12) (.t 10))])
 (.seq (.seq (g [o 13 (.fa (.t 1) 0), o 14 (.fa (.t 13) 3), o 15 (.ld1 (.t 14)), o 16 (.lenS (.t 15)), o 17 (.mv (.c (i 0)))])
 (.block 0 w222_0))
 (.seq (g [o 38 (.fa (.t 1) 4), o 39 (.fa (.t 38) 1), o 40 (.ld1 (.t 39)), o 41 (.call (.c (.fn 255 [])) [(.t 40)]), o 42 (.fa (.t 1) 4), o 43 (.fa (.t 42) 1), e (.st 1 (.t 43) (.t 41))])
 (.seq (.seq (g [o 44 (.fa (.t 1) 4), o 45 (.fa (.t 44) 1), o 46 (.ld1 (.t 45)), o 47 (.lenS (.t 46)), o 48 (.mv (.c (i 0)))])
 (.block 2 w222_1))
 (.seq (g [o 61 (.ldN 7 (.t 1)), e (.st 7 (.t 2) (.t 61))])
 .ret))))))⟩

def c223 : AFunc := ⟨2, 6, [.tmp 4],
 (.seq (g [o 2 (.box (.t 0)), o 3 (.box (.t 1)), o 4 (.mv (.c .nilf))])
 (.seq (g [o 5 (.mkfn 257 [(.t 2), (.t 3)]), o 4 (.mv (.t 5))])
 .ret))⟩

def c224 : AFunc := ⟨1, 8, [.tmp 2],
 (.seq (g [o 2 (.mv (.c .nils))])
 (.seq (.seq (g [o 3 (.mv (.t 0)), o 4 (.isnil false (.t 3))])
 (.cond (.t 4) (.seq (g [o 2 (.mv (.c .nils))])
 .ret)
 .skip))
 (.seq (g [o 5 (.bslice 0 [] []), o 6 (.mv (.t 0)), o 7 (.app 7 56 (.t 5) (.t 6)), o 2 (.mv (.t 7))])
 .ret)))⟩

def v225_0 : AC := .dreg [0, 1, 2, 3, 4, 5, 6, 7, 8, 9, 10, 11, 12] [o 27 (.mv (.t 7)), o 28 (.mv (.t 8)), o 29 (.mv (.t 0)), o 30 (.mv (.t 8)), o 31 (.mv (.t 1)), o 32 (.mv (.t 8)), o 33 (.ixS 1 (.t 31) (.t 32)), o 34 (.ld1 (.t 33)), ⟨(some 35), .call (.c (.fn 259 [])) [], none, [7]⟩, o 36 (.build [i 0, i 0, i 0, i 0, i 0, i 0, i 0, i 0] [(0, 1, (.t 30)), (2, 1, (.t 34)), (3, 5, (.t 35))]), o 37 (.call (.c (.fn 258 [])) [(.t 29), (.t 36)]), o 38 (.ixS 1 (.t 27) (.t 28)), e (.st 1 (.t 38) (.t 37))] none
def w225_0 : AC := .loop [0, 1, 2, 7, 23, 24]
 (.seq (g [o 25 (.bin .lss (.t 24) (.t 23))])
 (.seq (.cond (.t 25) .skip
 (.exit 0))
 (.seq (.block 1 (.seq (g [o 26 (.mv (.t 24)), o 8 (.mv (.t 26))])
 v225_0))
 (g [o 39 (.bin .add (.t 24) (.c (i 1))), o 24 (.mv (.t 39))]))))
def w225_1 : AC := .loop [0, 7, 9, 10, 11, 12, 13, 14, 42, 43, 44, 55, 56, 64, 65, 66]
 (.seq (g [o 67 (.bin .lss (.t 66) (.t 65))])
 (.seq (.cond (.t 67) .skip
 (.exit 6))
 (.seq (.block 7 (.seq (g [o 68 (.mv (.t 66)), o 69 (.ixS 1 (.t 64) (.t 66)), o 70 (.ld1 (.t 69)), o 15 (.mv (.t 68)), o 16 (.mv (.t 70))])
 (.seq (g [o 71 (.mv (.t 13)), o 72 (.fa (.t 11) 0), o 73 (.fa (.t 72) 1), o 74 (.ixA 5 1 (.t 73) (.t 71)), o 75 (.ld1 (.t 74)), o 76 (.mv (.t 15)), o 77 (.bin .shr (.t 75) (.t 76)), o 78 (.bin .and (.t 77) (.c (i 1))), o 79 (.bin .eql (.t 78) (.c (i 1)))])
 (.cond (.t 79) (g [o 80 (.mv (.t 15)), o 81 (.mv (.t 16)), o 82 (.fa (.t 14) 3), o 83 (.ixA 5 1 (.t 82) (.t 80)), e (.st 1 (.t 83) (.t 81))])
 .skip))))
 (g [o 84 (.bin .add (.t 66) (.c (i 1))), o 66 (.mv (.t 84))]))))
def w225_2 : AC := .loop [0, 7, 9, 10, 11, 12, 42, 43, 44, 55, 56]
 (.seq (g [o 57 (.bin .lss (.t 56) (.t 55))])
 (.seq (.cond (.t 57) .skip
 (.exit 4))
 (.seq (.block 5 (.seq (g [o 58 (.mv (.t 56)), o 13 (.mv (.t 58))])
 (.seq (g [o 59 (.mv (.t 13)), o 60 (.mv (.t 10)), o 61 (.bin .add (.t 60) (.c (i 1))), o 62 (.call (.c (.fn 259 [])) []), o 63 (.build [i 0, i 0, i 0, i 0, i 0, i 0, i 0, i 0] [(0, 1, (.t 59)), (1, 1, (.t 61)), (3, 5, (.t 62))]), o 14 (.alloc [i 0, i 0, i 0, i 0, i 0, i 0, i 0, i 0]), e (.st 8 (.t 14) (.t 63))])
 (.seq (.seq (g [o 64 (.mv (.t 7)), o 65 (.lenS (.t 64)), o 66 (.mv (.c (i 0)))])
 (.block 6 w225_1))
 (g [o 85 (.mv (.t 12)), o 86 (.mv (.t 13)), o 87 (.mv (.t 0)), o 88 (.ldN 8 (.t 14)), o 89 (.call (.c (.fn 258 [])) [(.t 87), (.t 88)]), o 90 (.ixS 1 (.t 85) (.t 86)), e (.st 1 (.t 90) (.t 89))])))))
 (g [o 91 (.bin .add (.t 56) (.c (i 1))), o 56 (.mv (.t 91))]))))
def w225_3 : AC := .loop [0, 7, 9, 42, 43, 44]
 (.seq (g [o 45 (.bin .lss (.t 44) (.t 43))])
 (.seq (.cond (.t 45) .skip
 (.exit 2))
 (.seq (.block 3 (.seq (g [o 46 (.mv (.t 44)), o 47 (.ixS 7 (.t 42) (.t 44)), o 48 (.ldN 7 (.t 47)), o 11 (.alloc [i 0, i 0, i 0, i 0, i 0, i 0, i 0]), o 10 (.mv (.t 46)), e (.st 7 (.t 11) (.t 48))])
 (.seq (g [o 49 (.mv (.t 0)), o 50 (.nilck (.t 49)), o 51 (.fa (.t 50) 0), o 52 (.ld1 (.t 51)), o 53 (.mkslice 8 [i 0] (.t 52) (.t 52)), o 12 (.mv (.t 53))])
 (.seq (.seq (g [o 54 (.mv (.t 12)), o 55 (.lenS (.t 54)), o 56 (.mv (.c (i 0)))])
 (.block 4 w225_2))
 (g [o 92 (.mv (.t 9)), o 93 (.mv (.t 12)), o 94 (.bslice 1 [.nils] [(0, 1, (.t 93))]), o 95 (.app 1 24 (.t 92) (.t 94)), o 96 (.mv (.t 12)), o 9 (.mv (.t 95)), o 7 (.mv (.t 96))])))))
 (g [o 97 (.bin .add (.t 44) (.c (i 1))), o 44 (.mv (.t 97))]))))
def c225 : AFunc := ⟨3, 99, [.tmp 6],
 (.seq (g [o 6 (.mv (.c .nils))])
 (.seq (g [o 17 (.mv (.t 0)), o 18 (.nilck (.t 17)), o 19 (.fa (.t 18) 0), o 20 (.ld1 (.t 19)), o 21 (.mkslice 8 [i 0] (.t 20) (.t 20)), o 7 (.mv (.t 21))])
 (.seq (.seq (g [o 22 (.mv (.t 7)), o 23 (.lenS (.t 22)), o 24 (.mv (.c (i 0)))])
 (.block 0 w225_0))
 (.seq (g [o 40 (.mv (.t 7)), o 41 (.bslice 1 [.nils] [(0, 1, (.t 40))]), o 9 (.mv (.t 41))])
 (.seq (.seq (g [o 42 (.mv (.t 2)), o 43 (.lenS (.t 42)), o 44 (.mv (.c (i 0)))])
 (.block 2 w225_3))
 (.seq (g [o 98 (.mv (.t 9)), o 6 (.mv (.t 98))])
 .ret))))))⟩

def v226_0 : AC := .dreg [0, 1, 2, 3, 4, 5, 6, 7, 8] [o 16 (.mv (.t 0)), o 17 (.mv (.t 5)), o 18 (.ixS 7 (.t 16) (.t 17)), o 19 (.ldN 7 (.t 18)), o 20 (.mv (.t 1)), o 21 (.mv (.t 5)), o 22 (.ixS 7 (.t 20) (.t 21)), o 23 (.ldN 7 (.t 22)), o 24 (.eqf true 7 (.t 19) (.t 23))] none
def w226_0 : AC := .loop [0, 1, 12, 13]
 (.seq (g [o 14 (.bin .lss (.t 13) (.t 12))])
 (.seq (.cond (.t 14) .skip
 (.exit 0))
 (.seq (.block 1 (.seq (g [o 15 (.mv (.t 13)), o 5 (.mv (.t 15))])
 (.seq v226_0
 (.cond (.t 24) (.seq (g [o 4 (.mv (.c (.bool false)))])
 .ret)
 .skip))))
 (g [o 25 (.bin .add (.t 13) (.c (i 1))), o 13 (.mv (.t 25))]))))
def c226 : AFunc := ⟨2, 26, [.tmp 4],
 (.seq (g [o 4 (.mv (.c (.bool false)))])
 (.seq (.seq (g [o 6 (.mv (.t 0)), o 7 (.lenS (.t 6)), o 8 (.mv (.t 1)), o 9 (.lenS (.t 8)), o 10 (.bin .neq (.t 7) (.t 9))])
 (.cond (.t 10) (.seq (g [o 4 (.mv (.c (.bool false)))])
 .ret)
 .skip))
 (.seq (.seq (g [o 11 (.mv (.t 0)), o 12 (.lenS (.t 11)), o 13 (.mv (.c (i 0)))])
 (.block 0 w226_0))
 (.seq (g [o 4 (.mv (.c (.bool true)))])
 .ret))))⟩

def v227_0 : AC := .dreg [0, 1, 2, 3, 4, 5, 6, 7, 8, 9, 10] [o 12 (.mv (.t 4)), o 13 (.mv (.t 0)), o 14 (.mv (.t 2)), o 15 (.ixS 8 (.t 13) (.t 14)), o 16 (.ldN 8 (.t 15)), o 17 (.mv (.t 0)), o 18 (.mv (.t 1)), o 19 (.ixS 8 (.t 17) (.t 18)), o 20 (.ldN 8 (.t 19)), o 21 (.call (.t 12) [(.t 16), (.t 20)]), o 22 (.bin .lss (.t 21) (.c (i 0)))] none
def c227 : AFunc := ⟨5, 32, [.tmp 10, .tmp 11],
 (.seq (g [o 10 (.mv (.c (i 0))), o 11 (.mv (.c (i 0)))])
 (.seq (.seq v227_0
 (.cond (.t 22) (.seq (g [o 23 (.mv (.t 3)), o 24 (.nilck (.t 23)), o 25 (.ld1 (.t 24)), o 26 (.bin .add (.t 25) (.c (i 1))), o 27 (.nilck (.t 23)), e (.st 1 (.t 27) (.t 26))])
 (.seq (g [o 28 (.mv (.t 2)), o 29 (.mv (.t 1)), o 10 (.mv (.t 28)), o 11 (.mv (.t 29))])
 .ret))
 .skip))
 (.seq (g [o 30 (.mv (.t 1)), o 31 (.mv (.t 2)), o 10 (.mv (.t 30)), o 11 (.mv (.t 31))])
 .ret)))⟩

def w228_0 : AC := .loop [0, 1, 2, 7]
 (.seq (.seq (g [o 12 (.mv (.t 7)), o 13 (.mv (.t 1)), o 14 (.bin .lss (.t 12) (.t 13))])
 (.cond (.t 14) .skip
 (.exit 0)))
 (.seq (.block 1 (.seq (g [o 17 (.mv (.t 0)), o 18 (.mv (.t 7)), o 19 (.ixS 1 (.t 17) (.t 18)), o 20 (.ld1 (.t 19)), o 21 (.bin .lss (.t 20) (.c (i 0))), o 22 (.mv (.t 21)), ⟨(some 23), .mv (.t 0), (some (22, false)), []⟩, ⟨(some 24), .mv (.t 7), (some (22, false)), []⟩, ⟨(some 25), .ixS 1 (.t 23) (.t 24), (some (22, false)), []⟩, ⟨(some 26), .ld1 (.t 25), (some (22, false)), []⟩, ⟨(some 27), .mv (.t 2), (some (22, false)), []⟩, ⟨(some 28), .bin .geq (.t 26) (.t 27), (some (22, false)), []⟩, o 29 (.pick (.t 22) (.c (.bool true)) (.t 28))])
 (.cond (.t 29) (.seq (g [o 6 (.mv (.c (i 2)))])
 .ret)
 .skip)))
 (g [o 15 (.mv (.t 7)), o 16 (.bin .add (.t 15) (.c (i 1))), o 7 (.mv (.t 16))])))
def c228 : AFunc := ⟨3, 30, [.tmp 6],
 (.seq (g [o 6 (.mv (.c (i 0)))])
 (.seq (.seq (g [o 8 (.mv (.t 0)), o 9 (.lenS (.t 8)), o 10 (.mv (.t 1)), o 11 (.bin .neq (.t 9) (.t 10))])
 (.cond (.t 11) (.seq (g [o 6 (.mv (.c (i 15)))])
 .ret)
 .skip))
 (.seq (.seq (g [o 7 (.mv (.c (i 0)))])
 (.block 0 w228_0))
 (.seq (g [o 6 (.mv (.c (i 0)))])
 .ret))))⟩

def v229_0 : AC := .dreg [0, 1, 2, 3, 4, 5, 6, 7, 8] [o 18 (.mv (.t 0)), o 19 (.mv (.t 5)), o 20 (.ixS 1 (.t 18) (.t 19)), o 21 (.ld1 (.t 20)), o 22 (.mv (.t 1)), o 23 (.mv (.t 5)), o 24 (.ixS 1 (.t 22) (.t 23)), o 25 (.ld1 (.t 24)), o 26 (.bin .lss (.t 21) (.t 25))] none
def v229_1 : AC := .dreg [0, 1, 2, 3, 4, 5, 6, 7, 8] [o 27 (.mv (.t 0)), o 28 (.mv (.t 5)), o 29 (.ixS 1 (.t 27) (.t 28)), o 30 (.ld1 (.t 29)), o 31 (.mv (.t 1)), o 32 (.mv (.t 5)), o 33 (.ixS 1 (.t 31) (.t 32)), o 34 (.ld1 (.t 33)), o 35 (.bin .gtr (.t 30) (.t 34))] none
def w229_0 : AC := .loop [0, 1, 5]
 (.seq (.seq (g [o 6 (.mv (.t 5)), o 7 (.mv (.t 0)), o 8 (.lenS (.t 7)), o 9 (.bin .lss (.t 6) (.t 8)), o 10 (.mv (.t 9)), ⟨(some 11), .mv (.t 5), (some (10, true)), []⟩, ⟨(some 12), .mv (.t 1), (some (10, true)), []⟩, ⟨(some 13), .lenS (.t 12), (some (10, true)), []⟩, ⟨(some 14), .bin .lss (.t 11) (.t 13), (some (10, true)), []⟩, o 15 (.pick (.t 10) (.t 14) (.c (.bool false)))])
 (.cond (.t 15) .skip
 (.exit 0)))
 (.seq (.block 1 (.seq (.seq v229_0
 (.cond (.t 26) (.seq (g [o 4 (.mv (.c (j 0)))])
 .ret)
 .skip))
 (.seq v229_1
 (.cond (.t 35) (.seq (g [o 4 (.mv (.c (i 1)))])
 .ret)
 .skip))))
 (g [o 16 (.mv (.t 5)), o 17 (.bin .add (.t 16) (.c (i 1))), o 5 (.mv (.t 17))])))
def c229 : AFunc := ⟨2, 46, [.tmp 4],
 (.seq (g [o 4 (.mv (.c (i 0)))])
 (.seq (.seq (g [o 5 (.mv (.c (i 0)))])
 (.block 0 w229_0))
 (.seq (.seq (g [o 36 (.mv (.t 0)), o 37 (.lenS (.t 36)), o 38 (.mv (.t 1)), o 39 (.lenS (.t 38)), o 40 (.bin .lss (.t 37) (.t 39))])
 (.cond (.t 40) (.seq (g [o 4 (.mv (.c (j 0)))])
 .ret)
 .skip))
 (.seq (.seq (g [o 41 (.mv (.t 0)), o 42 (.lenS (.t 41)), o 43 (.mv (.t 1)), o 44 (.lenS (.t 43)), o 45 (.bin .gtr (.t 42) (.t 44))])
 (.cond (.t 45) (.seq (g [o 4 (.mv (.c (i 1)))])
 .ret)
 .skip))
 (.seq (g [o 4 (.mv (.c (i 0)))])
 .ret)))))⟩

def w230_0 : AC := .loop [0, 1, 5]
 (.seq (.seq (g [o 6 (.mv (.t 5)), o 7 (.mv (.t 0)), o 8 (.lenS (.t 7)), o 9 (.bin .lss (.t 6) (.t 8))])
 (.cond (.t 9) .skip
 (.exit 0)))
 (.seq (.block 1 (.seq (g [o 12 (.mv (.t 0)), o 13 (.mv (.t 5)), o 14 (.ixS 1 (.t 12) (.t 13)), o 15 (.ld1 (.t 14)), o 16 (.mv (.t 1)), o 17 (.call (.c (.fn 229 [])) [(.t 15), (.t 16)]), o 18 (.bin .eql (.t 17) (.c (i 0)))])
 (.cond (.t 18) (.seq (g [o 4 (.mv (.c (.bool true)))])
 .ret)
 .skip)))
 (g [o 10 (.mv (.t 5)), o 11 (.bin .add (.t 10) (.c (i 1))), o 5 (.mv (.t 11))])))
def c230 : AFunc := ⟨2, 19, [.tmp 4],
 (.seq (g [o 4 (.mv (.c (.bool false)))])
 (.seq (.seq (g [o 5 (.mv (.c (i 0)))])
 (.block 0 w230_0))
 (.seq (g [o 4 (.mv (.c (.bool false)))])
 .ret)))⟩

def c231 : AFunc := ⟨2, 24, [.tmp 4],
 (.seq (g [o 2 (.box (.t 0)), o 3 (.box (.t 1)), o 4 (.mv (.c (i 0)))])
 (.seq (.seq (g [o 6 (.fa (.t 2) 0), o 7 (.ldN 6 (.t 6)), o 8 (.fa (.t 3) 0), o 9 (.ldN 6 (.t 8)), o 10 (.call (.c (.fn 260 [])) [(.t 7), (.t 9)]), o 5 (.mv (.t 10))])
 (.seq (g [o 11 (.mv (.t 5)), o 12 (.bin .neq (.t 11) (.c (i 0)))])
 (.cond (.t 12) (.seq (g [o 13 (.mv (.t 5)), o 4 (.mv (.t 13))])
 .ret)
 .skip)))
 (.seq (.seq (g [o 14 (.fa (.t 2) 6), o 15 (.ld1 (.t 14)), o 16 (.fa (.t 3) 6), o 17 (.ld1 (.t 16)), o 18 (.bin .lss (.t 15) (.t 17))])
 (.cond (.t 18) (.seq (g [o 4 (.mv (.c (j 0)))])
 .ret)
 .skip))
 (.seq (.seq (g [o 19 (.fa (.t 2) 6), o 20 (.ld1 (.t 19)), o 21 (.fa (.t 3) 6), o 22 (.ld1 (.t 21)), o 23 (.bin .gtr (.t 20) (.t 22))])
 (.cond (.t 23) (.seq (g [o 4 (.mv (.c (i 1)))])
 .ret)
 .skip))
 (.seq (g [o 4 (.mv (.c (i 0)))])
 .ret)))))⟩

def v232_0 : AC := .dreg [0, 1, 2, 3, 4, 5, 6, 7, 8, 9, 10, 11, 12, 13, 14, 15, 16, 17, 18, 19] [o 17 (.mv (.t 9)), o 18 (.bin .add (.t 17) (.c (i 1))), o 19 (.mv (.t 2)), o 20 (.bin .lss (.t 18) (.t 19)), o 21 (.mv (.t 20)), ⟨(some 22), .mv (.t 0), (some (21, true)), []⟩, ⟨(some 23), .mv (.t 3), (some (21, true)), []⟩, ⟨(some 24), .mv (.t 9), (some (21, true)), []⟩, ⟨(some 25), .bin .add (.t 23) (.t 24), (some (21, true)), []⟩, ⟨(some 26), .ixS 1 (.t 22) (.t 25), (some (21, true)), []⟩, ⟨(some 27), .ld1 (.t 26), (some (21, true)), []⟩, ⟨(some 28), .mv (.t 0), (some (21, true)), []⟩, ⟨(some 29), .mv (.t 3), (some (21, true)), []⟩, ⟨(some 30), .mv (.t 9), (some (21, true)), []⟩, ⟨(some 31), .bin .add (.t 29) (.t 30), (some (21, true)), []⟩, ⟨(some 32), .bin .add (.t 31) (.c (i 1)), (some (21, true)), []⟩, ⟨(some 33), .ixS 1 (.t 28) (.t 32), (some (21, true)), []⟩, ⟨(some 34), .ld1 (.t 33), (some (21, true)), []⟩, ⟨(some 35), .call (.c (.fn 168 [])) [(.t 27), (.t 34)], (some (21, true)), []⟩, o 36 (.pick (.t 21) (.t 35) (.c (.bool false)))] none
def v232_1 : AC := .dreg [0, 1, 2, 3, 4, 5, 6, 7, 8, 9, 10, 11, 12, 13] [o 39 (.mv (.t 0)), o 40 (.mv (.t 3)), o 41 (.mv (.t 8)), o 42 (.bin .add (.t 40) (.t 41)), o 43 (.ixS 1 (.t 39) (.t 42)), o 44 (.ld1 (.t 43)), o 45 (.mv (.t 0)), o 46 (.mv (.t 3)), o 47 (.mv (.t 9)), o 48 (.bin .add (.t 46) (.t 47)), o 49 (.ixS 1 (.t 45) (.t 48)), o 50 (.ld1 (.t 49)), o 51 (.call (.c (.fn 168 [])) [(.t 44), (.t 50)]), o 52 (.un .not (.t 51))] none
def v232_2 : AC := .dreg [0, 1, 2, 3, 4, 5, 6, 7, 8, 9, 10, 11, 12, 13, 14, 15, 16, 17, 18, 19, 20, 21, 22, 23] [o 53 (.mv (.t 0)), o 54 (.mv (.t 3)), o 55 (.mv (.t 8)), o 56 (.bin .add (.t 54) (.t 55)), o 57 (.mv (.t 0)), o 58 (.mv (.t 3)), o 59 (.mv (.t 9)), o 60 (.bin .add (.t 58) (.t 59)), o 61 (.mv (.t 0)), o 62 (.mv (.t 3)), o 63 (.mv (.t 9)), o 64 (.bin .add (.t 62) (.t 63)), o 65 (.ixS 1 (.t 61) (.t 64)), o 66 (.ld1 (.t 65)), o 67 (.mv (.t 0)), o 68 (.mv (.t 3)), o 69 (.mv (.t 8)), o 70 (.bin .add (.t 68) (.t 69)), o 71 (.ixS 1 (.t 67) (.t 70)), o 72 (.ld1 (.t 71)), o 73 (.ixS 1 (.t 53) (.t 56)), e (.st 1 (.t 73) (.t 66)), o 74 (.ixS 1 (.t 57) (.t 60)), e (.st 1 (.t 74) (.t 72))] none
def w232_0 : AC := .loop [0, 2, 3, 8]
 (.block 1 (.seq (g [o 11 (.mv (.t 8)), o 12 (.bin .mul (.c (i 2)) (.t 11)), o 13 (.bin .add (.t 12) (.c (i 1))), o 9 (.mv (.t 13))])
 (.seq (.seq (g [o 14 (.mv (.t 9)), o 15 (.mv (.t 2)), o 16 (.bin .geq (.t 14) (.t 15))])
 (.cond (.t 16) (.exit 0)
 .skip))
 (.seq (.seq v232_0
 (.cond (.t 36) (g [o 37 (.mv (.t 9)), o 38 (.bin .add (.t 37) (.c (i 1))), o 9 (.mv (.t 38))])
 .skip))
 (.seq (.seq v232_1
 (.cond (.t 52) .ret
 .skip))
 (.seq v232_2
 (g [o 75 (.mv (.t 9)), o 8 (.mv (.t 75))])))))))
def c232 : AFunc := ⟨4, 76, [],
 (.seq (g [o 10 (.mv (.t 1)), o 8 (.mv (.t 10))])
 (.block 0 w232_0))⟩

def c233 : AFunc := ⟨3, 15, [.tmp 6],
 (.seq (g [o 6 (.mv (.c (i 0)))])
 (.seq (g [o 7 (.mv (.t 0)), o 8 (.mv (.t 1)), o 9 (.bin .sub (.t 8) (.c (i 1))), o 10 (.mv (.t 1)), o 11 (.mv (.t 1)), o 12 (.bin .add (.t 11) (.c (i 1))), o 13 (.mv (.t 2)), o 14 (.call (.c (.fn 234 [])) [(.t 7), (.t 9), (.t 10), (.t 12), (.t 13)]), o 6 (.mv (.t 14))])
 .ret))⟩

def c234 : AFunc := ⟨5, 36, [.tmp 10],
 (.seq (g [o 10 (.mv (.c (i 0)))])
 (.seq (g [o 12 (.mv (.t 0)), o 13 (.mv (.t 1)), o 14 (.mv (.t 2)), o 15 (.mv (.t 4)), o 16 (.call (.c (.fn 261 [])) [(.t 12), (.t 13), (.t 14), (.t 15)]), o 11 (.mv (.t 16)), o 17 (.ext (.t 11) 0), o 18 (.ext (.t 11) 1), o 1 (.mv (.t 17)), o 2 (.mv (.t 18))])
 (.seq (g [o 20 (.mv (.t 0)), o 21 (.mv (.t 2)), o 22 (.mv (.t 3)), o 23 (.mv (.t 4)), o 24 (.call (.c (.fn 261 [])) [(.t 20), (.t 21), (.t 22), (.t 23)]), o 19 (.mv (.t 24)), o 25 (.ext (.t 19) 0), o 26 (.ext (.t 19) 1), o 2 (.mv (.t 25)), o 3 (.mv (.t 26))])
 (.seq (g [o 28 (.mv (.t 0)), o 29 (.mv (.t 1)), o 30 (.mv (.t 2)), o 31 (.mv (.t 4)), o 32 (.call (.c (.fn 261 [])) [(.t 28), (.t 29), (.t 30), (.t 31)]), o 27 (.mv (.t 32)), o 33 (.ext (.t 27) 0), o 34 (.ext (.t 27) 1), o 1 (.mv (.t 33)), o 2 (.mv (.t 34))])
 (.seq (g [o 35 (.mv (.t 2)), o 10 (.mv (.t 35))])
 .ret)))))⟩

def c235 : AFunc := ⟨3, 8, [.tmp 6],
 (.seq (g [o 3 (.box (.t 0)), o 4 (.box (.t 1)), o 5 (.box (.t 2)), o 6 (.mv (.c .nilf))])
 (.seq (g [o 7 (.mkfn 262 [(.t 3), (.t 4), (.t 5)]), o 6 (.mv (.t 7))])
 .ret))⟩

def v236_0 : AC := .dreg [0, 1, 2, 3, 4, 5, 6] [o 39 (.mv (.t 8)), o 40 (.nilck (.t 39)), o 41 (.fa (.t 40) 12), o 42 (.ld1 (.t 41)), o 43 (.ldN 8 (.t 10)), o 44 (.mv (.t 9)), e (.mput 8 (.t 42) (.t 43) (.t 44))] none
def v236_1 : AC := .dreg [0, 1, 2, 3, 4, 5, 6, 7, 8, 9] [o 45 (.mv (.t 1)), o 46 (.mv (.t 9)), o 47 (.ixS 1 (.t 45) (.t 46)), o 48 (.ld1 (.t 47)), o 49 (.mv (.t 8)), o 50 (.nilck (.t 49)), o 51 (.fa (.t 50) 11), o 52 (.ld1 (.t 51)), o 53 (.lenS (.t 52)), o 54 (.bin .eql (.t 48) (.t 53))] none
def w236_0 : AC := .loop [1, 8, 32, 33, 34]
 (.seq (g [o 35 (.bin .lss (.t 34) (.t 33))])
 (.seq (.cond (.t 35) .skip
 (.exit 0))
 (.seq (.block 1 (.seq (g [o 36 (.mv (.t 34)), o 37 (.ixS 8 (.t 32) (.t 34)), o 38 (.ldN 8 (.t 37)), o 10 (.alloc [i 0, i 0, i 0, i 0, i 0, i 0, i 0, i 0]), o 9 (.mv (.t 36)), e (.st 8 (.t 10) (.t 38))])
 (.seq v236_0
 (.seq v236_1
 (.cond (.t 54) (g [o 55 (.mv (.t 8)), o 56 (.mv (.t 8)), o 57 (.nilck (.t 56)), o 58 (.fa (.t 57) 11), o 59 (.ld1 (.t 58)), o 60 (.mv (.t 9)), o 61 (.bslice 1 [i 0] [(0, 1, (.t 60))]), o 62 (.app 1 8 (.t 59) (.t 61)), o 63 (.nilck (.t 55)), o 64 (.fa (.t 63) 11), e (.st 1 (.t 64) (.t 62))])
 .skip)))))
 (g [o 65 (.bin .add (.t 34) (.c (i 1))), o 34 (.mv (.t 65))]))))
def c236 : AFunc := ⟨2, 67, [.tmp 4, .tmp 5],
 (.seq (g [o 2 (.box (.t 0)), o 4 (.mv (.c .nilp)), o 5 (.mv (.c (i 0)))])
 (.seq (g [o 11 (.bslice 1 [i 0] [(0, 1, (.c (j 0)))]), o 12 (.fa (.t 2) 7), o 13 (.fa (.t 12) 1), o 14 (.ld1 (.t 13)), o 15 (.lenS (.t 14)), o 16 (.call (.c (.fn 122 [])) [(.t 11), (.t 15)]), o 17 (.build [.nils] [(0, 1, (.t 16))]), o 6 (.alloc [.nils]), e (.st 1 (.t 6) (.t 17))])
 (.seq (.seq (g [o 18 (.ldN 10 (.t 2)), o 19 (.ldN 1 (.t 6)), o 20 (.mv (.t 1)), o 21 (.call (.c (.fn 264 [])) [(.t 18), (.t 19), (.t 20)]), o 7 (.mv (.t 21))])
 (.seq (g [o 22 (.mv (.t 7)), o 23 (.bin .neq (.t 22) (.c (i 0)))])
 (.cond (.t 23) (.seq (g [o 24 (.mv (.t 7)), o 4 (.mv (.c .nilp)), o 5 (.mv (.t 24))])
 .ret)
 .skip)))
 (.seq (g [o 25 (.ldN 10 (.t 2)), o 26 (.mv (.t 1)), o 27 .mkmap, o 28 (.build [i 0, i 0, i 0, .nils, i 0, .nils, i 0, i 0, .nils, .nils, .nils, .nils, .nilm] [(0, 10, (.t 25)), (10, 1, (.t 26)), (12, 1, (.t 27))]), o 29 (.box (.t 28)), o 8 (.mv (.t 29))])
 (.seq (.seq (g [o 30 (.fa (.t 2) 7), o 31 (.fa (.t 30) 1), o 32 (.ld1 (.t 31)), o 33 (.lenS (.t 32)), o 34 (.mv (.c (i 0)))])
 (.block 0 w236_0))
 (.seq (g [o 66 (.mv (.t 8)), o 4 (.mv (.t 66)), o 5 (.mv (.c (i 0)))])
 .ret))))))⟩

def v237_0 : AC := .dreg [0, 1, 2, 3, 4, 5, 6, 7, 8, 9, 10, 11, 12, 13, 14] [o 8 (.fa (.t 3) 0), o 9 (.ld1 (.t 8)), o 10 (.bin .lss (.t 9) (.c (i 0))), o 11 (.mv (.t 10)), ⟨(some 12), .fa (.t 3) 0, (some (11, false)), []⟩, ⟨(some 13), .ld1 (.t 12), (some (11, false)), []⟩, ⟨(some 14), .ld1 (.t 2), (some (11, false)), []⟩, ⟨(some 15), .nilck (.t 14), (some (11, false)), []⟩, ⟨(some 16), .fa (.t 15) 0, (some (11, false)), []⟩, ⟨(some 17), .fa (.t 16) 0, (some (11, false)), []⟩, ⟨(some 18), .fa (.t 17) 6, (some (11, false)), []⟩, ⟨(some 19), .ld1 (.t 18), (some (11, false)), []⟩, ⟨(some 20), .bin .geq (.t 13) (.t 19), (some (11, false)), []⟩, o 21 (.pick (.t 11) (.c (.bool true)) (.t 20)), o 7 (.mv (.t 21))] none
def c237 : AFunc := ⟨2, 39, [.tmp 4],
 (.seq (g [o 2 (.box (.t 0)), o 3 (.box (.t 1)), o 4 (.mv (.c (i 0)))])
 (.seq (g [o 6 (.mkfn 265 [(.t 2)]), o 5 (.mv (.t 6))])
 (.seq (.block 0 (.seq v237_0
 (.cond (.t 7) (.seq (g [o 4 (.mv (.c (i 2)))])
 .ret)
 (.seq (g [o 23 (.mv (.t 5)), o 24 (.fa (.t 3) 1), o 25 (.ld1 (.t 24)), o 26 (.call (.t 23) [(.t 25)]), o 27 (.mv (.t 26)), ⟨(some 28), .mv (.t 5), (some (27, false)), []⟩, ⟨(some 29), .fa (.t 3) 2, (some (27, false)), []⟩, ⟨(some 30), .ld1 (.t 29), (some (27, false)), []⟩, ⟨(some 31), .call (.t 28) [(.t 30)], (some (27, false)), []⟩, o 32 (.pick (.t 27) (.c (.bool true)) (.t 31)), o 22 (.mv (.t 32))])
 (.cond (.t 22) (.seq (g [o 4 (.mv (.c (i 6)))])
 .ret)
 (.seq (g [o 34 (.fa (.t 3) 1), o 35 (.ld1 (.t 34)), o 36 (.fa (.t 3) 2), o 37 (.ld1 (.t 36)), o 38 (.bin .eql (.t 35) (.t 37)), o 33 (.mv (.t 38))])
 (.cond (.t 33) (.seq (g [o 4 (.mv (.c (i 11)))])
 .ret)
 .skip)))))))
 (.seq (g [o 4 (.mv (.c (i 0)))])
 .ret))))⟩

def v238_0 : AC := .dreg [0, 1, 2, 3, 4, 5, 6, 7, 8, 9, 10, 11, 12, 13, 14, 15, 16] [o 8 (.mv (.t 0)), o 9 (.nilck (.t 8)), o 10 (.fa (.t 9) 0), o 11 (.fa (.t 10) 7), o 12 (.fa (.t 11) 1), o 13 (.ld1 (.t 12)), o 14 (.mv (.t 0)), o 15 (.nilck (.t 14)), o 16 (.fa (.t 15) 11), o 17 (.ld1 (.t 16)), o 18 (.mv (.t 2)), o 19 (.ixS 1 (.t 17) (.t 18)), o 20 (.ld1 (.t 19)), o 21 (.ixS 8 (.t 13) (.t 20)), o 22 (.ldN 8 (.t 21)), o 7 (.alloc [i 0, i 0, i 0, i 0, i 0, i 0, i 0, i 0]), e (.st 8 (.t 7) (.t 22))] none
def c238 : AFunc := ⟨3, 35, [.tmp 6],
 (.seq (g [o 4 (.box (.t 1)), o 6 (.mv (.c (.bool false)))])
 (.seq v238_0
 (.seq (g [o 23 (.fa (.t 7) 0), o 24 (.ld1 (.t 23)), o 25 (.fa (.t 4) 1), o 26 (.ld1 (.t 25)), o 27 (.bin .eql (.t 24) (.t 26)), o 28 (.mv (.t 27)), ⟨(some 29), .fa (.t 7) 1, (some (28, true)), []⟩, ⟨(some 30), .ld1 (.t 29), (some (28, true)), []⟩, ⟨(some 31), .fa (.t 4) 0, (some (28, true)), []⟩, ⟨(some 32), .ld1 (.t 31), (some (28, true)), []⟩, ⟨(some 33), .bin .eql (.t 30) (.t 32), (some (28, true)), []⟩, o 34 (.pick (.t 28) (.t 33) (.c (.bool false))), o 6 (.mv (.t 34))])
 .ret)))⟩

def c239 : AFunc := ⟨4, 11, [.tmp 5],
 (.seq (g [o 5 (.mv (.c (.bool false)))])
 (.seq (g [o 6 (.ld1 (.t 1)), o 7 (.ldN 3 (.t 2)), o 8 (.mv (.t 0)), o 9 (.ld1 (.t 3)), o 10 (.call (.c (.fn 240 [])) [(.t 6), (.t 7), (.t 8), (.t 9)]), o 5 (.mv (.t 10))])
 .ret))⟩

def v240_0 : AC := .dreg [0, 1, 2, 3, 4, 5, 6, 7, 8, 9, 10, 11, 12, 13, 14, 15] [o 11 (.mv (.t 0)), o 12 (.nilck (.t 11)), o 13 (.fa (.t 12) 11), o 14 (.ld1 (.t 13)), o 15 (.mv (.t 2)), o 16 (.ixS 1 (.t 14) (.t 15)), o 17 (.ld1 (.t 16)), o 18 (.mv (.t 0)), o 19 (.nilck (.t 18)), o 20 (.fa (.t 19) 11), o 21 (.ld1 (.t 20)), o 22 (.mv (.t 3)), o 23 (.ixS 1 (.t 21) (.t 22)), o 24 (.ld1 (.t 23)), o 9 (.mv (.t 17)), o 10 (.mv (.t 24))] none
def c240 : AFunc := ⟨4, 37, [.tmp 8],
 (.seq (g [o 5 (.box (.t 1)), o 8 (.mv (.c (.bool false)))])
 (.seq v240_0
 (.seq (g [o 25 (.mv (.t 0)), o 26 (.ldN 3 (.t 5)), o 27 (.mv (.t 9)), o 28 (.mv (.t 10)), o 29 (.call (.c (.fn 266 [])) [(.t 25), (.t 26), (.t 27), (.t 28)]), o 30 (.mv (.t 29)), ⟨(some 31), .mv (.t 0), (some (30, true)), []⟩, ⟨(some 32), .ldN 3 (.t 5), (some (30, true)), []⟩, ⟨(some 33), .mv (.t 10), (some (30, true)), []⟩, ⟨(some 34), .mv (.t 9), (some (30, true)), []⟩, ⟨(some 35), .call (.c (.fn 266 [])) [(.t 31), (.t 32), (.t 33), (.t 34)], (some (30, true)), []⟩, o 36 (.pick (.t 30) (.t 35) (.c (.bool false))), o 8 (.mv (.t 36))])
 .ret)))⟩

def v241_0 : AC := .dreg [0, 1, 2, 3, 4, 5, 6, 7, 8, 9, 10, 11, 12, 13] [o 43 (.fa (.t 2) 3), o 44 (.ld1 (.t 43)), o 45 (.mv (.t 5)), o 46 (.ixS 3 (.t 44) (.t 45)), o 47 (.ldN 3 (.t 46)), o 48 (.fa (.t 3) 3), o 49 (.ld1 (.t 48)), o 50 (.mv (.t 5)), o 51 (.ixS 3 (.t 49) (.t 50)), o 52 (.ldN 3 (.t 51)), o 6 (.alloc [.nils, .nils, .nils]), o 7 (.alloc [.nils, .nils, .nils]), ⟨none, .st 3 (.t 6) (.t 47), none, [6, 9]⟩, e (.st 3 (.t 7) (.t 52))] none
def w241_0 : AC := .loop [2, 3, 5]
 (.seq (.seq (g [o 36 (.mv (.t 5)), o 37 (.fa (.t 2) 3), o 38 (.ld1 (.t 37)), o 39 (.lenS (.t 38)), o 40 (.bin .lss (.t 36) (.t 39))])
 (.cond (.t 40) .skip
 (.exit 0)))
 (.seq (.block 1 (.seq v241_0
 (.seq (g [o 53 (.fa (.t 6) 0), o 54 (.ld1 (.t 53)), o 55 (.fa (.t 7) 0), o 56 (.ld1 (.t 55)), o 57 (.call (.c (.fn 229 [])) [(.t 54), (.t 56)]), o 58 (.bin .neq (.t 57) (.c (i 0))), o 59 (.mv (.t 58)), ⟨(some 60), .fa (.t 6) 1, (some (59, false)), []⟩, ⟨(some 61), .ld1 (.t 60), (some (59, false)), []⟩, ⟨(some 62), .fa (.t 7) 1, (some (59, false)), []⟩, ⟨(some 63), .ld1 (.t 62), (some (59, false)), []⟩, ⟨(some 64), .call (.c (.fn 267 [])) [(.t 61), (.t 63)], (some (59, false)), []⟩, ⟨(some 65), .un .not (.t 64), (some (59, false)), []⟩, o 66 (.pick (.t 59) (.c (.bool true)) (.t 65)), o 67 (.mv (.t 66)), ⟨(some 68), .fa (.t 6) 2, (some (67, false)), []⟩, ⟨(some 69), .ld1 (.t 68), (some (67, false)), []⟩, ⟨(some 70), .fa (.t 7) 2, (some (67, false)), []⟩, ⟨(some 71), .ld1 (.t 70), (some (67, false)), []⟩, ⟨(some 72), .call (.c (.fn 267 [])) [(.t 69), (.t 71)], (some (67, false)), []⟩, ⟨(some 73), .un .not (.t 72), (some (67, false)), []⟩, o 74 (.pick (.t 67) (.c (.bool true)) (.t 73))])
 (.cond (.t 74) (.seq (g [o 4 (.mv (.c (.bool false)))])
 .ret)
 .skip))))
 (g [o 41 (.mv (.t 5)), o 42 (.bin .add (.t 41) (.c (i 1))), o 5 (.mv (.t 42))])))
def c241 : AFunc := ⟨2, 75, [.tmp 4],
 (.seq (g [o 2 (.box (.t 0)), o 3 (.box (.t 1)), o 4 (.mv (.c (.bool false)))])
 (.seq (.seq (g [o 8 (.fa (.t 2) 0), o 9 (.ld1 (.t 8)), o 10 (.fa (.t 3) 0), o 11 (.ld1 (.t 10)), o 12 (.bin .neq (.t 9) (.t 11)), o 13 (.mv (.t 12)), ⟨(some 14), .fa (.t 2) 1, (some (13, false)), []⟩, ⟨(some 15), .ld1 (.t 14), (some (13, false)), []⟩, ⟨(some 16), .fa (.t 3) 1, (some (13, false)), []⟩, ⟨(some 17), .ld1 (.t 16), (some (13, false)), []⟩, ⟨(some 18), .bin .neq (.t 15) (.t 17), (some (13, false)), []⟩, o 19 (.pick (.t 13) (.c (.bool true)) (.t 18)), o 20 (.mv (.t 19)), ⟨(some 21), .fa (.t 2) 2, (some (20, false)), []⟩, ⟨(some 22), .ld1 (.t 21), (some (20, false)), []⟩, ⟨(some 23), .fa (.t 3) 2, (some (20, false)), []⟩, ⟨(some 24), .ld1 (.t 23), (some (20, false)), []⟩, ⟨(some 25), .bin .neq (.t 22) (.t 24), (some (20, false)), []⟩, o 26 (.pick (.t 20) (.c (.bool true)) (.t 25)), o 27 (.mv (.t 26)), ⟨(some 28), .fa (.t 2) 3, (some (27, false)), []⟩, ⟨(some 29), .ld1 (.t 28), (some (27, false)), []⟩, ⟨(some 30), .lenS (.t 29), (some (27, false)), []⟩, ⟨(some 31), .fa (.t 3) 3, (some (27, false)), []⟩, ⟨(some 32), .ld1 (.t 31), (some (27, false)), []⟩, ⟨(some 33), .lenS (.t 32), (some (27, false)), []⟩, ⟨(some 34), .bin .neq (.t 30) (.t 33), (some (27, false)), []⟩, o 35 (.pick (.t 27) (.c (.bool true)) (.t 34))])
 (.cond (.t 35) (.seq (g [o 4 (.mv (.c (.bool false)))])
 .ret)
 .skip))
 (.seq (.seq (g [o 5 (.mv (.c (i 0)))])
 (.block 0 w241_0))
 (.seq (g [o 4 (.mv (.c (.bool true)))])
 .ret))))⟩

def v242_0 : AC := .dreg [0, 1, 2, 3, 4, 5, 6, 7, 8, 9, 10, 11, 12] [o 28 (.fa (.t 2) 1), o 29 (.ld1 (.t 28)), o 30 (.mv (.t 5)), o 31 (.ixS 1 (.t 29) (.t 30)), o 32 (.ld1 (.t 31)), o 33 (.lenS (.t 32)), o 34 (.fa (.t 3) 1), o 35 (.ld1 (.t 34)), o 36 (.mv (.t 5)), o 37 (.ixS 1 (.t 35) (.t 36)), o 38 (.ld1 (.t 37)), o 39 (.lenS (.t 38)), o 40 (.bin .neq (.t 33) (.t 39))] none
def v242_1 : AC := .dreg [0, 1, 2, 3, 4, 5, 6, 7, 8, 9, 10, 11, 12, 13, 14, 15, 16] [o 51 (.fa (.t 2) 1), o 52 (.ld1 (.t 51)), o 53 (.mv (.t 5)), o 54 (.ixS 1 (.t 52) (.t 53)), o 55 (.ld1 (.t 54)), o 56 (.mv (.t 6)), o 57 (.ixS 8 (.t 55) (.t 56)), o 58 (.ldN 8 (.t 57)), o 59 (.fa (.t 3) 1), o 60 (.ld1 (.t 59)), o 61 (.mv (.t 5)), o 62 (.ixS 1 (.t 60) (.t 61)), o 63 (.ld1 (.t 62)), o 64 (.mv (.t 6)), o 65 (.ixS 8 (.t 63) (.t 64)), o 66 (.ldN 8 (.t 65)), o 67 (.eqf true 8 (.t 58) (.t 66))] none
def w242_0 : AC := .loop [2, 3, 5, 6]
 (.seq (.seq (g [o 41 (.mv (.t 6)), o 42 (.fa (.t 2) 1), o 43 (.ld1 (.t 42)), o 44 (.mv (.t 5)), o 45 (.ixS 1 (.t 43) (.t 44)), o 46 (.ld1 (.t 45)), o 47 (.lenS (.t 46)), o 48 (.bin .lss (.t 41) (.t 47))])
 (.cond (.t 48) .skip
 (.exit 2)))
 (.seq (.block 3 (.seq v242_1
 (.cond (.t 67) (.seq (g [o 4 (.mv (.c (.bool false)))])
 .ret)
 .skip)))
 (g [o 49 (.mv (.t 6)), o 50 (.bin .add (.t 49) (.c (i 1))), o 6 (.mv (.t 50))])))
def w242_1 : AC := .loop [2, 3, 5]
 (.seq (.seq (g [o 21 (.mv (.t 5)), o 22 (.fa (.t 2) 1), o 23 (.ld1 (.t 22)), o 24 (.lenS (.t 23)), o 25 (.bin .lss (.t 21) (.t 24))])
 (.cond (.t 25) .skip
 (.exit 0)))
 (.seq (.block 1 (.seq (.seq v242_0
 (.cond (.t 40) (.seq (g [o 4 (.mv (.c (.bool false)))])
 .ret)
 .skip))
 (.seq (g [o 6 (.mv (.c (i 0)))])
 (.block 2 w242_0))))
 (g [o 26 (.mv (.t 5)), o 27 (.bin .add (.t 26) (.c (i 1))), o 5 (.mv (.t 27))])))
def c242 : AFunc := ⟨2, 68, [.tmp 4],
 (.seq (g [o 2 (.box (.t 0)), o 3 (.box (.t 1)), o 4 (.mv (.c (.bool false)))])
 (.seq (.seq (g [o 7 (.fa (.t 2) 0), o 8 (.ld1 (.t 7)), o 9 (.fa (.t 3) 0), o 10 (.ld1 (.t 9)), o 11 (.bin .neq (.t 8) (.t 10)), o 12 (.mv (.t 11)), ⟨(some 13), .fa (.t 2) 1, (some (12, false)), []⟩, ⟨(some 14), .ld1 (.t 13), (some (12, false)), []⟩, ⟨(some 15), .lenS (.t 14), (some (12, false)), []⟩, ⟨(some 16), .fa (.t 3) 1, (some (12, false)), []⟩, ⟨(some 17), .ld1 (.t 16), (some (12, false)), []⟩, ⟨(some 18), .lenS (.t 17), (some (12, false)), []⟩, ⟨(some 19), .bin .neq (.t 15) (.t 18), (some (12, false)), []⟩, o 20 (.pick (.t 12) (.c (.bool true)) (.t 19))])
 (.cond (.t 20) (.seq (g [o 4 (.mv (.c (.bool false)))])
 .ret)
 .skip))
 (.seq (.seq (g [o 5 (.mv (.c (i 0)))])
 (.block 0 w242_1))
 (.seq (g [o 4 (.mv (.c (.bool true)))])
 .ret))))⟩

def v243_0 : AC := .dreg [0, 1, 2, 3, 4, 5, 6, 7, 8] [o 17 (.mv (.t 0)), o 18 (.mv (.t 5)), o 19 (.ixS 7 (.t 17) (.t 18)), o 20 (.ldN 7 (.t 19)), o 21 (.mv (.t 1)), o 22 (.mv (.t 5)), o 23 (.ixS 7 (.t 21) (.t 22)), o 24 (.ldN 7 (.t 23)), o 25 (.eqf true 7 (.t 20) (.t 24))] none
def w243_0 : AC := .loop [0, 1, 5]
 (.seq (.seq (g [o 11 (.mv (.t 5)), o 12 (.mv (.t 0)), o 13 (.lenS (.t 12)), o 14 (.bin .lss (.t 11) (.t 13))])
 (.cond (.t 14) .skip
 (.exit 0)))
 (.seq (.block 1 (.seq v243_0
 (.cond (.t 25) (.seq (g [o 4 (.mv (.c (.bool false)))])
 .ret)
 .skip)))
 (g [o 15 (.mv (.t 5)), o 16 (.bin .add (.t 15) (.c (i 1))), o 5 (.mv (.t 16))])))
def c243 : AFunc := ⟨2, 26, [.tmp 4],
 (.seq (g [o 4 (.mv (.c (.bool false)))])
 (.seq (.seq (g [o 6 (.mv (.t 0)), o 7 (.lenS (.t 6)), o 8 (.mv (.t 1)), o 9 (.lenS (.t 8)), o 10 (.bin .neq (.t 7) (.t 9))])
 (.cond (.t 10) (.seq (g [o 4 (.mv (.c (.bool false)))])
 .ret)
 .skip))
 (.seq (.seq (g [o 5 (.mv (.c (i 0)))])
 (.block 0 w243_0))
 (.seq (g [o 4 (.mv (.c (.bool true)))])
 .ret))))⟩

def v244_0 : AC := .dreg [0, 1, 2, 3, 4, 5, 6, 7, 8] [o 17 (.mv (.t 0)), o 18 (.mv (.t 5)), o 19 (.ixS 1 (.t 17) (.t 18)), o 20 (.ld1 (.t 19)), o 21 (.mv (.t 1)), o 22 (.mv (.t 5)), o 23 (.ixS 1 (.t 21) (.t 22)), o 24 (.ld1 (.t 23)), o 25 (.bin .neq (.t 20) (.t 24))] none
def w244_0 : AC := .loop [0, 1, 5]
 (.seq (.seq (g [o 11 (.mv (.t 5)), o 12 (.mv (.t 0)), o 13 (.lenS (.t 12)), o 14 (.bin .lss (.t 11) (.t 13))])
 (.cond (.t 14) .skip
 (.exit 0)))
 (.seq (.block 1 (.seq v244_0
 (.cond (.t 25) (.seq (g [o 4 (.mv (.c (.bool false)))])
 .ret)
 .skip)))
 (g [o 15 (.mv (.t 5)), o 16 (.bin .add (.t 15) (.c (i 1))), o 5 (.mv (.t 16))])))
def c244 : AFunc := ⟨2, 26, [.tmp 4],
 (.seq (g [o 4 (.mv (.c (.bool false)))])
 (.seq (.seq (g [o 6 (.mv (.t 0)), o 7 (.lenS (.t 6)), o 8 (.mv (.t 1)), o 9 (.lenS (.t 8)), o 10 (.bin .neq (.t 7) (.t 9))])
 (.cond (.t 10) (.seq (g [o 4 (.mv (.c (.bool false)))])
 .ret)
 .skip))
 (.seq (.seq (g [o 5 (.mv (.c (i 0)))])
 (.block 0 w244_0))
 (.seq (g [o 4 (.mv (.c (.bool true)))])
 .ret))))⟩

def v245_0 : AC := .dreg [0, 1, 2, 3, 4, 5, 6, 7, 8, 9, 10, 11, 12, 13, 14, 15, 16, 17, 18, 19, 20, 21, 22, 23, 24, 25] [o 14 (.fa (.t 7) 1), o 15 (.ld1 (.t 14)), o 16 (.fa (.t 3) 7), o 17 (.fa (.t 16) 1), o 18 (.ld1 (.t 17)), o 19 (.mv (.t 2)), o 20 (.ixS 8 (.t 18) (.t 19)), o 21 (.fa (.t 20) 1), o 22 (.ld1 (.t 21)), o 23 (.bin .add (.t 22) (.c (i 1))), o 24 (.bin .eql (.t 15) (.t 23)), o 25 (.mv (.t 24)), ⟨(some 26), .fa (.t 3) 7, (some (25, true)), []⟩, ⟨(some 27), .fa (.t 26) 1, (some (25, true)), []⟩, ⟨(some 28), .ld1 (.t 27), (some (25, true)), []⟩, ⟨(some 29), .mv (.t 2), (some (25, true)), []⟩, ⟨(some 30), .ixS 8 (.t 28) (.t 29), (some (25, true)), []⟩, ⟨(some 31), .fa (.t 30) 0, (some (25, true)), []⟩, ⟨(some 32), .ld1 (.t 31), (some (25, true)), []⟩, ⟨(some 33), .fa (.t 7) 3, (some (25, true)), []⟩, ⟨(some 34), .ixA 5 1 (.t 33) (.t 32), (some (25, true)), []⟩, ⟨(some 35), .ld1 (.t 34), (some (25, true)), []⟩, ⟨(some 36), .mv (.t 2), (some (25, true)), []⟩, ⟨(some 37), .bin .eql (.t 35) (.t 36), (some (25, true)), []⟩, o 38 (.pick (.t 25) (.t 37) (.c (.bool false))), o 6 (.mv (.t 38))] none
def c245 : AFunc := ⟨3, 39, [.tmp 6],
 (.seq (g [o 3 (.box (.t 0)), o 6 (.mv (.c (.bool false)))])
 (.seq (g [o 8 (.fa (.t 3) 7), o 9 (.fa (.t 8) 1), o 10 (.ld1 (.t 9)), o 11 (.mv (.t 1)), o 12 (.ixS 8 (.t 10) (.t 11)), o 13 (.ldN 8 (.t 12)), o 7 (.alloc [i 0, i 0, i 0, i 0, i 0, i 0, i 0, i 0]), e (.st 8 (.t 7) (.t 13))])
 (.seq v245_0
 .ret)))⟩

def c246 : AFunc := ⟨4, 30, [.tmp 8],
 (.seq (g [o 4 (.box (.t 0)), o 8 (.mv (.c (i 0)))])
 (.seq (g [o 10 (.fa (.t 4) 7), o 11 (.fa (.t 10) 1), o 12 (.ld1 (.t 11)), o 13 (.mv (.t 1)), o 14 (.ixS 8 (.t 12) (.t 13)), o 15 (.ldN 8 (.t 14)), o 9 (.alloc [i 0, i 0, i 0, i 0, i 0, i 0, i 0, i 0]), e (.st 8 (.t 9) (.t 15))])
 (.seq (g [o 16 (.fa (.t 4) 7), o 17 (.fa (.t 16) 1), o 18 (.ld1 (.t 17)), o 19 (.mv (.t 2)), o 20 (.ixS 8 (.t 18) (.t 19)), o 21 (.fa (.t 20) 0), o 22 (.ld1 (.t 21)), o 23 (.mv (.t 3)), o 24 (.fa (.t 9) 3), o 25 (.ixA 5 1 (.t 24) (.t 22)), e (.st 1 (.t 25) (.t 23))])
 (.seq (g [o 26 (.fa (.t 4) 7), o 27 (.ldN 2 (.t 26)), o 28 (.ldN 8 (.t 9)), o 29 (.call (.c (.fn 190 [])) [(.t 27), (.t 28)]), o 8 (.mv (.t 29))])
 .ret))))⟩

def w247_0 : AC := .loop [0, 1, 5]
 (.seq (.seq (g [o 6 (.mv (.t 0)), o 7 (.mv (.t 5)), o 8 (.ixS 1 (.t 6) (.t 7)), o 9 (.ld1 (.t 8)), o 10 (.mv (.t 1)), o 11 (.bin .neq (.t 9) (.t 10))])
 (.cond (.t 11) .skip
 (.exit 0)))
 (.block 1 (g [o 12 (.mv (.t 5)), o 13 (.bin .add (.t 12) (.c (i 1))), o 5 (.mv (.t 13))])))
def c247 : AFunc := ⟨2, 15, [.tmp 4],
 (.seq (g [o 4 (.mv (.c (i 0)))])
 (.seq (g [o 5 (.mv (.c (i 0)))])
 (.seq (.block 0 w247_0)
 (.seq (g [o 14 (.mv (.t 5)), o 4 (.mv (.t 14))])
 .ret))))⟩

def v248_0 : AC := .dreg [0, 1, 2, 3, 4, 5, 6, 7, 8, 9, 10, 11, 12] [o 40 (.mv (.t 12)), o 41 (.bin .lss (.t 40) (.c (i 0))), o 42 (.mv (.t 41)), ⟨(some 43), .mv (.t 1), (some (42, false)), []⟩, ⟨(some 44), .mv (.t 12), (some (42, false)), []⟩, ⟨(some 45), .ixS 1 (.t 43) (.t 44), (some (42, false)), []⟩, ⟨(some 46), .ld1 (.t 45), (some (42, false)), []⟩, ⟨(some 47), .mv (.t 1), (some (42, false)), []⟩, ⟨(some 48), .mv (.t 11), (some (42, false)), []⟩, ⟨(some 49), .ixS 1 (.t 47) (.t 48), (some (42, false)), []⟩, ⟨(some 50), .ld1 (.t 49), (some (42, false)), []⟩, ⟨(some 51), .bin .neq (.t 46) (.t 50), (some (42, false)), []⟩, o 52 (.pick (.t 42) (.c (.bool true)) (.t 51))] none
def w248_0 : AC := .loop [1, 2, 3, 4, 5, 11]
 (.seq (.seq (g [o 13 (.mv (.t 11)), o 14 (.mv (.t 1)), o 15 (.lenS (.t 14)), o 16 (.bin .lss (.t 13) (.t 15))])
 (.cond (.t 16) .skip
 (.exit 0)))
 (.seq (.block 1 (.seq (.seq (g [o 19 (.fa (.t 5) 7), o 20 (.fa (.t 19) 1), o 21 (.ld1 (.t 20)), o 22 (.mv (.t 11)), o 23 (.ixS 8 (.t 21) (.t 22)), o 24 (.fa (.t 23) 0), o 25 (.ld1 (.t 24)), o 26 (.mv (.t 2)), o 27 (.bin .neq (.t 25) (.t 26)), o 28 (.mv (.t 27)), ⟨(some 29), .ldN 10 (.t 5), (some (28, false)), []⟩, ⟨(some 30), .mv (.t 11), (some (28, false)), []⟩, ⟨(some 31), .mv (.t 3), (some (28, false)), []⟩, ⟨(some 32), .call (.c (.fn 245 [])) [(.t 29), (.t 30), (.t 31)], (some (28, false)), []⟩, ⟨(some 33), .un .not (.t 32), (some (28, false)), []⟩, o 34 (.pick (.t 28) (.c (.bool true)) (.t 33))])
 (.cond (.t 34) (.exit 1)
 .skip))
 (.seq (g [o 35 (.ldN 10 (.t 5)), o 36 (.mv (.t 11)), o 37 (.mv (.t 3)), o 38 (.mv (.t 4)), o 39 (.call (.c (.fn 246 [])) [(.t 35), (.t 36), (.t 37), (.t 38)]), o 12 (.mv (.t 39))])
 (.seq v248_0
 (.cond (.t 52) (.seq (g [o 10 (.mv (.c (.bool false)))])
 .ret)
 .skip)))))
 (g [o 17 (.mv (.t 11)), o 18 (.bin .add (.t 17) (.c (i 1))), o 11 (.mv (.t 18))])))
def c248 : AFunc := ⟨5, 53, [.tmp 10],
 (.seq (g [o 5 (.box (.t 0)), o 10 (.mv (.c (.bool false)))])
 (.seq (.seq (g [o 11 (.mv (.c (i 0)))])
 (.block 0 w248_0))
 (.seq (g [o 10 (.mv (.c (.bool true)))])
 .ret)))⟩

def c249 : AFunc := ⟨1, 34, [.tmp 2],
 (.seq (g [o 1 (.box (.t 0)), o 2 (.mv (.c (i 0)))])
 (.seq (.seq (g [o 5 (.fa (.t 1) 0), o 6 (.ldN 4 (.t 5)), o 7 (.call (.c (.fn 268 [])) [(.t 6)]), o 3 (.mv (.t 7))])
 (.seq (g [o 8 (.mv (.t 3)), o 9 (.bin .neq (.t 8) (.c (i 0)))])
 (.cond (.t 9) (.seq (g [o 10 (.mv (.t 3)), o 2 (.mv (.t 10))])
 .ret)
 .skip)))
 (.seq (.seq (g [o 11 (.fa (.t 1) 4), o 12 (.ldN 2 (.t 11)), o 13 (.call (.c (.fn 269 [])) [(.t 12)]), o 4 (.mv (.t 13))])
 (.seq (g [o 14 (.mv (.t 4)), o 15 (.bin .neq (.t 14) (.c (i 0)))])
 (.cond (.t 15) (.seq (g [o 16 (.mv (.t 4)), o 2 (.mv (.t 16))])
 .ret)
 .skip)))
 (.seq (.block 0 (.seq (g [o 18 (.fa (.t 1) 0), o 19 (.fa (.t 18) 0), o 20 (.ld1 (.t 19)), o 21 (.fa (.t 1) 4), o 22 (.fa (.t 21) 0), o 23 (.ld1 (.t 22)), o 24 (.bin .neq (.t 20) (.t 23)), o 17 (.mv (.t 24))])
 (.cond (.t 17) (.seq (g [o 2 (.mv (.c (i 22)))])
 .ret)
 (.seq (g [o 26 (.fa (.t 1) 6), o 27 (.ld1 (.t 26)), o 28 (.bin .lss (.t 27) (.c (i 0))), o 29 (.mv (.t 28)), ⟨(some 30), .fa (.t 1) 6, (some (29, false)), []⟩, ⟨(some 31), .ld1 (.t 30), (some (29, false)), []⟩, ⟨(some 32), .bin .gtr (.t 31) (.c (i 6)), (some (29, false)), []⟩, o 33 (.pick (.t 29) (.c (.bool true)) (.t 32)), o 25 (.mv (.t 33))])
 (.cond (.t 25) (.seq (g [o 2 (.mv (.c (i 2)))])
 .ret)
 .skip)))))
 (.seq (g [o 2 (.mv (.c (i 0)))])
 .ret)))))⟩

def c250 : AFunc := ⟨2, 11, [.tmp 4, .tmp 5],
 (.seq (g [o 2 (.box (.t 0)), o 4 (.mv (.c (i 0))), o 5 (.mv (.c (i 0)))])
 (.seq (g [o 6 (.ldN 2 (.t 2)), o 7 (.mv (.t 1)), o 8 (.call (.c (.fn 251 [])) [(.t 6), (.t 7), (.c (i 1048576))]), o 9 (.ext (.t 8) 0), o 10 (.ext (.t 8) 1), o 4 (.mv (.t 9)), o 5 (.mv (.t 10))])
 .ret))⟩

def c251 : AFunc := ⟨3, 29, [.tmp 6, .tmp 7],
 (.seq (g [o 3 (.box (.t 0)), o 6 (.mv (.c (i 0))), o 7 (.mv (.c (i 0)))])
 (.seq (.seq (g [o 10 (.ldN 2 (.t 3)), o 11 (.call (.c (.fn 269 [])) [(.t 10)]), o 8 (.mv (.t 11))])
 (.seq (g [o 12 (.mv (.t 8)), o 13 (.bin .neq (.t 12) (.c (i 0)))])
 (.cond (.t 13) (.seq (g [o 14 (.mv (.t 8)), o 6 (.mv (.c (i 0))), o 7 (.mv (.t 14))])
 .ret)
 .skip)))
 (.seq (.seq (g [o 15 (.mv (.t 1)), o 16 (.bin .lss (.t 15) (.c (i 0))), o 17 (.mv (.t 16)), ⟨(some 18), .mv (.t 1), (some (17, false)), []⟩, ⟨(some 19), .bin .gtr (.t 18) (.c (i 6)), (some (17, false)), []⟩, o 20 (.pick (.t 17) (.c (.bool true)) (.t 19))])
 (.cond (.t 20) (.seq (g [o 6 (.mv (.c (i 0))), o 7 (.mv (.c (i 2)))])
 .ret)
 .skip))
 (.seq (g [o 21 (.ldN 2 (.t 3)), o 22 (.mv (.t 1)), o 23 (.mv (.t 2)), o 24 (.call (.c (.fn 270 [])) [(.t 21), (.t 22), (.t 23)]), o 9 (.mv (.t 24))])
 (.seq (.seq (g [o 25 (.mv (.t 9)), o 26 (.mv (.t 2)), o 27 (.bin .gtr (.t 25) (.t 26))])
 (.cond (.t 27) (.seq (g [o 6 (.mv (.c (i 0))), o 7 (.mv (.c (i 17)))])
 .ret)
 .skip))
 (.seq (g [o 28 (.mv (.t 9)), o 6 (.mv (.t 28)), o 7 (.mv (.c (i 0)))])
 .ret))))))⟩

def v252_0 : AC := .dreg [0, 1, 2, 3, 4, 5] [o 14 (.ld1 (.t 3)), o 15 (.mv (.t 1)), ⟨(some 16), .call (.c (.fn 224 [])) [(.t 15)], none, [0]⟩, o 17 (.bslice 1 [.nils] [(0, 1, (.t 16))]), o 18 (.app 1 24 (.t 14) (.t 17)), e (.st 1 (.t 3) (.t 18))] none
def v252_1 : AC := .dreg [0, 1, 2, 3, 4, 5, 6, 7, 8] [o 29 (.ld1 (.t 5)), o 30 (.fa (.t 9) 7), o 31 (.ld1 (.t 30)), o 32 (.mv (.t 1)), o 33 (.fa (.t 9) 0), o 34 (.ldN 7 (.t 33)), o 35 (.bslice 1 [i 0, i 0, i 0, i 0, i 0, i 0, i 0] [(0, 7, (.t 34))]), ⟨(some 36), .app 7 56 (.t 32) (.t 35), none, [0, 2]⟩, o 37 (.call (.t 29) [(.t 31), (.t 36)])] none
def w252_0 : AC := .loop [1, 5, 23, 24, 25]
 (.seq (g [o 26 (.bin .lss (.t 25) (.t 24))])
 (.seq (.cond (.t 26) .skip
 (.exit 0))
 (.seq (.block 1 (.seq (g [o 27 (.ixS 8 (.t 23) (.t 25)), o 28 (.ldN 8 (.t 27)), o 9 (.alloc [i 0, i 0, i 0, i 0, i 0, i 0, i 0, i 0]), e (.st 8 (.t 9) (.t 28))])
 v252_1))
 (g [o 38 (.bin .add (.t 25) (.c (i 1))), o 25 (.mv (.t 38))]))))
def c252 : AFunc := ⟨6, 39, [],
 (.seq (.seq (g [o 10 (.mv (.t 1)), o 11 (.lenS (.t 10)), o 12 (.ld1 (.t 2)), o 13 (.bin .eql (.t 11) (.t 12))])
 (.cond (.t 13) (.seq v252_0
 .ret)
 .skip))
 (.seq (g [o 19 (.fa (.t 4) 1), o 20 (.ld1 (.t 19)), o 21 (.mv (.t 0)), o 22 (.ixS 1 (.t 20) (.t 21)), o 23 (.ld1 (.t 22)), o 24 (.lenS (.t 23)), o 25 (.mv (.c (i 0)))])
 (.block 0 w252_0)))⟩

def c253 : AFunc := ⟨1, 8, [.tmp 2],
 (.seq (g [o 2 (.mv (.c .nils))])
 (.seq (.seq (g [o 3 (.mv (.t 0)), o 4 (.isnil false (.t 3))])
 (.cond (.t 4) (.seq (g [o 2 (.mv (.c .nils))])
 .ret)
 .skip))
 (.seq (g [o 5 (.bslice 0 [] []), o 6 (.mv (.t 0)), o 7 (.app 3 72 (.t 5) (.t 6)), o 2 (.mv (.t 7))])
 .ret)))⟩

def w254_0 : AC := .loop [3, 6, 7, 8]
 (.seq (g [o 9 (.bin .lss (.t 8) (.t 7))])
 (.seq (.cond (.t 9) .skip
 (.exit 0))
 (.seq (.block 1 (.seq (g [o 10 (.ixS 1 (.t 6) (.t 8)), o 11 (.ld1 (.t 10)), o 5 (.mv (.t 11))])
 (g [o 12 (.mv (.t 3)), o 13 (.mv (.t 5)), o 14 (.call (.c (.fn 32 [])) [(.t 13)]), o 15 (.bslice 1 [.nils] [(0, 1, (.t 14))]), o 16 (.app 1 24 (.t 12) (.t 15)), o 3 (.mv (.t 16))])))
 (g [o 17 (.bin .add (.t 8) (.c (i 1))), o 8 (.mv (.t 17))]))))
def c254 : AFunc := ⟨1, 19, [.tmp 2],
 (.seq (g [o 2 (.mv (.c .nils))])
 (.seq (g [o 3 (.mv (.c .nils))])
 (.seq (.seq (g [o 6 (.mv (.t 0)), o 7 (.lenS (.t 6)), o 8 (.mv (.c (i 0)))])
 (.block 0 w254_0))
 (.seq (g [o 18 (.mv (.t 3)), o 2 (.mv (.t 18))])
 .ret))))⟩

def c255 : AFunc := ⟨1, 8, [.tmp 2],
 (.seq (g [o 2 (.mv (.c .nils))])
 (.seq (.seq (g [o 3 (.mv (.t 0)), o 4 (.isnil false (.t 3))])
 (.cond (.t 4) (.seq (g [o 2 (.mv (.c .nils))])
 .ret)
 .skip))
 (.seq (g [o 5 (.bslice 0 [] []), o 6 (.mv (.t 0)), o 7 (.app 1 24 (.t 5) (.t 6)), o 2 (.mv (.t 7))])
 .ret)))⟩

def c256 : AFunc := ⟨1, 8, [.tmp 2],
 (.seq (g [o 2 (.mv (.c .nils))])
 (.seq (.seq (g [o 3 (.mv (.t 0)), o 4 (.isnil false (.t 3))])
 (.cond (.t 4) (.seq (g [o 2 (.mv (.c .nils))])
 .ret)
 .skip))
 (.seq (g [o 5 (.bslice 0 [] []), o 6 (.mv (.t 0)), o 7 (.app 8 64 (.t 5) (.t 6)), o 2 (.mv (.t 7))])
 .ret)))⟩

def w257_0 : AC := .loop [0, 2, 4, 10, 11, 14, 15, 16]
 (.seq (g [o 17 (.bin .lss (.t 16) (.t 15))])
 (.seq (.cond (.t 17) .skip
 (.exit 2))
 (.seq (.block 3 (.seq (g [o 18 (.ixS 1 (.t 14) (.t 16)), o 19 (.ld1 (.t 18)), o 6 (.mv (.t 19))])
 (.seq (g [o 20 (.mv (.t 0)), o 21 (.mv (.t 4)), o 22 (.mv (.t 6)), o 23 (.call (.t 20) [(.t 21), (.t 22)]), o 24 (.un .not (.t 23))])
 (.cond (.t 24) .ret
 .skip))))
 (g [o 25 (.bin .add (.t 16) (.c (i 1))), o 16 (.mv (.t 25))]))))
def w257_1 : AC := .loop [0, 2, 10, 11]
 (.seq (g [o 12 (.bin .lss (.t 11) (.t 10))])
 (.seq (.cond (.t 12) .skip
 (.exit 0))
 (.seq (.block 1 (.seq (g [o 13 (.mv (.t 11)), o 4 (.mv (.t 13))])
 (.seq (g [o 14 (.ld1 (.t 2)), o 15 (.lenS (.t 14)), o 16 (.mv (.c (i 0)))])
 (.block 2 w257_0))))
 (g [o 26 (.bin .add (.t 11) (.c (i 1))), o 11 (.mv (.t 26))]))))
def c257 : AFunc := ⟨3, 27, [],
 (.seq (g [o 7 (.fa (.t 1) 0), o 8 (.fa (.t 7) 3), o 9 (.ld1 (.t 8)), o 10 (.lenS (.t 9)), o 11 (.mv (.c (i 0)))])
 (.block 0 w257_1))⟩

def v258_0 : AC := .dreg [0, 1, 2, 3, 4, 5, 6, 7, 8, 9, 10] [o 8 (.mv (.t 0)), o 9 (.nilck (.t 8)), o 10 (.fa (.t 9) 2), o 11 (.ld1 (.t 10)), o 12 (.ldN 8 (.t 3)), o 13 (.look 8 (i 0) (.t 11) (.t 12)), o 7 (.mv (.t 13)), o 14 (.ext (.t 7) 0), o 15 (.ext (.t 7) 1), o 5 (.mv (.t 14)), o 6 (.mv (.t 15))] none
def v258_1 : AC := .dreg [0, 1, 2, 3, 4, 5, 6] [o 23 (.mv (.t 0)), o 24 (.nilck (.t 23)), o 25 (.fa (.t 24) 2), o 26 (.ld1 (.t 25)), o 27 (.ldN 8 (.t 3)), o 28 (.mv (.t 5)), e (.mput 8 (.t 26) (.t 27) (.t 28))] none
def v258_2 : AC := .dreg [0, 1, 2, 3, 4, 5, 6, 7, 8, 9, 10] [o 29 (.mv (.t 0)), o 30 (.mv (.t 0)), o 31 (.nilck (.t 30)), o 32 (.fa (.t 31) 1), o 33 (.ld1 (.t 32)), o 34 (.ldN 8 (.t 3)), o 35 (.bslice 1 [i 0, i 0, i 0, i 0, i 0, i 0, i 0, i 0] [(0, 8, (.t 34))]), o 36 (.app 8 64 (.t 33) (.t 35)), o 37 (.nilck (.t 29)), o 38 (.fa (.t 37) 1), e (.st 1 (.t 38) (.t 36))] none
def c258 : AFunc := ⟨2, 40, [.tmp 4],
 (.seq (g [o 3 (.box (.t 1)), o 4 (.mv (.c (i 0)))])
 (.seq v258_0
 (.seq (.seq (g [o 16 (.mv (.t 6)), o 17 (.un .not (.t 16))])
 (.cond (.t 17) (.seq (g [o 18 (.mv (.t 0)), o 19 (.nilck (.t 18)), o 20 (.fa (.t 19) 1), o 21 (.ld1 (.t 20)), o 22 (.lenS (.t 21)), o 5 (.mv (.t 22))])
 (.seq v258_1
 v258_2))
 .skip))
 (.seq (g [o 39 (.mv (.t 5)), o 4 (.mv (.t 39))])
 .ret))))⟩

def w259_0 : AC := .loop [0, 1, 3]
 (.seq (g [o 4 (.bin .lss (.t 3) (.c (i 5)))])
 (.seq (.cond (.t 4) .skip
 (.exit 0))
 (.seq (.block 1 (.seq (g [o 5 (.mv (.t 3)), o 2 (.mv (.t 5))])
 (g [o 6 (.mv (.t 2)), o 7 (.ixA 5 1 (.t 1) (.t 6)), e (.st 1 (.t 7) (.c (j 0)))])))
 (g [o 8 (.bin .add (.t 3) (.c (i 1))), o 3 (.mv (.t 8))]))))
def c259 : AFunc := ⟨0, 10, [.cellN 0 5],
 (.seq (g [o 0 (.alloc [i 0, i 0, i 0, i 0, i 0])])
 (.seq (g [o 1 (.alloc [i 0, i 0, i 0, i 0, i 0])])
 (.seq (.seq (g [o 3 (.mv (.c (i 0)))])
 (.block 0 w259_0))
 (.seq (g [o 9 (.ldN 5 (.t 1)), e (.st 5 (.t 0) (.t 9))])
 .ret))))⟩

def v260_0 : AC := .dreg [0, 1, 2, 3, 4, 5, 6, 7, 8] [o 20 (.mv (.t 5)), o 21 (.fa (.t 2) 1), o 22 (.ixA 5 1 (.t 21) (.t 20)), o 23 (.ld1 (.t 22)), o 24 (.mv (.t 5)), o 25 (.fa (.t 3) 1), o 26 (.ixA 5 1 (.t 25) (.t 24)), o 27 (.ld1 (.t 26)), o 28 (.bin .lss (.t 23) (.t 27))] none
def v260_1 : AC := .dreg [0, 1, 2, 3, 4, 5, 6, 7, 8] [o 29 (.mv (.t 5)), o 30 (.fa (.t 2) 1), o 31 (.ixA 5 1 (.t 30) (.t 29)), o 32 (.ld1 (.t 31)), o 33 (.mv (.t 5)), o 34 (.fa (.t 3) 1), o 35 (.ixA 5 1 (.t 34) (.t 33)), o 36 (.ld1 (.t 35)), o 37 (.bin .gtr (.t 32) (.t 36))] none
def w260_0 : AC := .loop [2, 3, 5]
 (.seq (.seq (g [o 16 (.mv (.t 5)), o 17 (.bin .lss (.t 16) (.c (i 5)))])
 (.cond (.t 17) .skip
 (.exit 0)))
 (.seq (.block 1 (.seq (.seq v260_0
 (.cond (.t 28) (.seq (g [o 4 (.mv (.c (j 0)))])
 .ret)
 .skip))
 (.seq v260_1
 (.cond (.t 37) (.seq (g [o 4 (.mv (.c (i 1)))])
 .ret)
 .skip))))
 (g [o 18 (.mv (.t 5)), o 19 (.bin .add (.t 18) (.c (i 1))), o 5 (.mv (.t 19))])))
def c260 : AFunc := ⟨2, 38, [.tmp 4],
 (.seq (g [o 2 (.box (.t 0)), o 3 (.box (.t 1)), o 4 (.mv (.c (i 0)))])
 (.seq (.seq (g [o 6 (.fa (.t 2) 0), o 7 (.ld1 (.t 6)), o 8 (.fa (.t 3) 0), o 9 (.ld1 (.t 8)), o 10 (.bin .lss (.t 7) (.t 9))])
 (.cond (.t 10) (.seq (g [o 4 (.mv (.c (j 0)))])
 .ret)
 .skip))
 (.seq (.seq (g [o 11 (.fa (.t 2) 0), o 12 (.ld1 (.t 11)), o 13 (.fa (.t 3) 0), o 14 (.ld1 (.t 13)), o 15 (.bin .gtr (.t 12) (.t 14))])
 (.cond (.t 15) (.seq (g [o 4 (.mv (.c (i 1)))])
 .ret)
 .skip))
 (.seq (.seq (g [o 5 (.mv (.c (i 0)))])
 (.block 0 w260_0))
 (.seq (g [o 4 (.mv (.c (i 0)))])
 .ret)))))⟩

def v261_0 : AC := .dreg [0, 1, 2, 3, 4, 5, 6, 7, 8] [o 10 (.mv (.t 0)), o 11 (.mv (.t 2)), o 12 (.ixS 1 (.t 10) (.t 11)), o 13 (.ld1 (.t 12)), o 14 (.mv (.t 0)), o 15 (.mv (.t 1)), o 16 (.ixS 1 (.t 14) (.t 15)), o 17 (.ld1 (.t 16)), o 18 (.call (.c (.fn 168 [])) [(.t 13), (.t 17)])] none
def c261 : AFunc := ⟨4, 28, [.tmp 8, .tmp 9],
 (.seq (g [o 8 (.mv (.c (i 0))), o 9 (.mv (.c (i 0)))])
 (.seq (.seq v261_0
 (.cond (.t 18) (.seq (g [o 19 (.mv (.t 3)), o 20 (.nilck (.t 19)), o 21 (.ld1 (.t 20)), o 22 (.bin .add (.t 21) (.c (i 1))), o 23 (.nilck (.t 19)), e (.st 1 (.t 23) (.t 22))])
 (.seq (g [o 24 (.mv (.t 2)), o 25 (.mv (.t 1)), o 8 (.mv (.t 24)), o 9 (.mv (.t 25))])
 .ret))
 .skip))
 (.seq (g [o 26 (.mv (.t 1)), o 27 (.mv (.t 2)), o 8 (.mv (.t 26)), o 9 (.mv (.t 27))])
 .ret)))⟩

def v262_0 : AC := .dreg [0, 1, 2, 3, 4, 5, 6, 7, 8] [o 7 (.ld1 (.t 1)), o 8 (.nilck (.t 7)), o 9 (.fa (.t 8) 12), o 10 (.ld1 (.t 9)), o 11 (.ld1 (.t 2)), o 12 (.ixS 1 (.t 10) (.t 11)), o 13 (.ld1 (.t 12)), o 14 (.lenS (.t 13)), o 15 (.mv (.c (i 0)))] none
def w262_0 : AC := .loop [0, 1, 2, 3, 13, 14, 15]
 (.seq (g [o 16 (.bin .lss (.t 15) (.t 14))])
 (.seq (.cond (.t 16) .skip
 (.exit 0))
 (.seq (.block 1 (.seq (g [o 17 (.ixS 1 (.t 13) (.t 15)), o 18 (.ld1 (.t 17)), o 6 (.mv (.t 18))])
 (.seq (g [o 19 (.mv (.t 0)), o 20 (.mv (.t 6)), o 21 (.ld1 (.t 1)), o 22 (.mv (.t 6)), o 23 (.ld1 (.t 2)), o 24 (.ld1 (.t 3)), o 25 (.call (.c (.fn 263 [])) [(.t 21), (.t 22), (.t 23), (.t 24)]), o 26 (.call (.t 19) [(.t 20), (.t 25)]), o 27 (.un .not (.t 26))])
 (.cond (.t 27) .ret
 .skip))))
 (g [o 28 (.bin .add (.t 15) (.c (i 1))), o 15 (.mv (.t 28))]))))
def c262 : AFunc := ⟨4, 29, [],
 (.seq v262_0
 (.block 0 w262_0))⟩

def v263_0 : AC := .dreg [0, 1, 2, 3, 4, 5, 6, 7, 8, 9, 10] [o 35 (.mv (.t 0)), o 36 (.nilck (.t 35)), o 37 (.fa (.t 36) 11), o 38 (.ld1 (.t 37)), o 39 (.ldN 8 (.t 9)), o 40 (.look 8 (i 0) (.t 38) (.t 39)), o 34 (.mv (.t 40)), o 41 (.ext (.t 34) 0), o 42 (.ext (.t 34) 1), o 10 (.mv (.t 41)), o 11 (.mv (.t 42))] none
def c263 : AFunc := ⟨4, 45, [.tmp 8],
 (.seq (g [o 8 (.mv (.c (i 0)))])
 (.seq (g [o 12 (.mv (.t 0)), o 13 (.nilck (.t 12)), o 14 (.fa (.t 13) 0), o 15 (.fa (.t 14) 7), o 16 (.fa (.t 15) 1), o 17 (.ld1 (.t 16)), o 18 (.mv (.t 1)), o 19 (.ixS 8 (.t 17) (.t 18)), o 20 (.ldN 8 (.t 19)), o 9 (.alloc [i 0, i 0, i 0, i 0, i 0, i 0, i 0, i 0]), e (.st 8 (.t 9) (.t 20))])
 (.seq (g [o 21 (.mv (.t 0)), o 22 (.nilck (.t 21)), o 23 (.fa (.t 22) 0), o 24 (.fa (.t 23) 7), o 25 (.fa (.t 24) 1), o 26 (.ld1 (.t 25)), o 27 (.mv (.t 2)), o 28 (.ixS 8 (.t 26) (.t 27)), o 29 (.fa (.t 28) 0), o 30 (.ld1 (.t 29)), o 31 (.mv (.t 3)), o 32 (.fa (.t 9) 3), o 33 (.ixA 5 1 (.t 32) (.t 30)), e (.st 1 (.t 33) (.t 31))])
 (.seq (.seq v263_0
 (.seq (g [o 43 (.mv (.t 11))])
 (.cond (.t 43) (.seq (g [o 44 (.mv (.t 10)), o 8 (.mv (.t 44))])
 .ret)
 .skip)))
 (.seq (g [o 8 (.mv (.c (j 0)))])
 .ret)))))⟩

def w264_0 : AC := .loop [2, 7, 10, 37, 38, 39]
 (.seq (g [o 40 (.bin .lss (.t 39) (.t 38))])
 (.seq (.cond (.t 40) .skip
 (.exit 0))
 (.seq (.block 1 (.seq (g [o 41 (.mv (.t 39)), o 42 (.ixS 1 (.t 37) (.t 39)), o 43 (.ld1 (.t 42)), o 11 (.mv (.t 41)), o 12 (.mv (.t 43))])
 (.seq (g [o 45 (.mv (.t 10)), o 46 (.mv (.t 12)), o 47 (.look 0 (i 0) (.t 45) (.t 46)), o 44 (.mv (.t 47)), o 48 (.ext (.t 44) 0), o 49 (.ext (.t 44) 1), o 13 (.mv (.t 48)), o 14 (.mv (.t 49))])
 (.seq (g [o 50 (.mv (.t 14)), o 51 (.un .not (.t 50))])
 (.cond (.t 51) (g [o 52 (.mv (.t 10)), o 53 (.mv (.t 12)), o 54 (.mv (.t 11)), e (.mput 0 (.t 52) (.t 53) (.t 54))])
 (.seq (g [o 55 (.mv (.t 7)), o 56 (.mv (.t 2)), o 57 (.mv (.t 11)), o 58 (.mv (.t 13)), o 59 (.call (.c (.fn 165 [])) [(.t 55), (.t 56), (.t 57), (.t 58)]), o 60 (.un .not (.t 59))])
 (.cond (.t 60) (.seq (g [o 6 (.mv (.c (i 18)))])
 .ret)
 .skip)))))))
 (g [o 61 (.bin .add (.t 39) (.c (i 1))), o 39 (.mv (.t 61))]))))
def c264 : AFunc := ⟨3, 62, [.tmp 6],
 (.seq (g [o 3 (.box (.t 0)), o 4 (.box (.t 1)), o 6 (.mv (.c (i 0)))])
 (.seq (g [o 16 (.ldN 10 (.t 3)), o 17 (.ldN 1 (.t 4)), o 18 (.call (.c (.fn 118 [])) [(.t 16), (.t 17)]), o 15 (.mv (.t 18)), o 19 (.ext (.t 15) 0), o 20 (.ext (.t 15) 1), o 7 (.mv (.t 19)), o 8 (.mv (.t 20))])
 (.seq (.seq (g [o 21 (.mv (.t 8)), o 22 (.bin .neq (.t 21) (.c (i 0)))])
 (.cond (.t 22) (.seq (g [o 23 (.mv (.t 8)), o 6 (.mv (.t 23))])
 .ret)
 .skip))
 (.seq (.seq (g [o 24 (.mv (.t 2)), o 25 (.call (.c (.fn 271 [])) [(.t 24)]), o 9 (.mv (.t 25))])
 (.seq (g [o 26 (.mv (.t 9)), o 27 (.bin .neq (.t 26) (.c (i 0)))])
 (.cond (.t 27) (.seq (g [o 28 (.mv (.t 9)), o 6 (.mv (.t 28))])
 .ret)
 .skip)))
 (.seq (.seq (g [o 29 (.mv (.t 2)), o 30 (.lenS (.t 29)), o 31 (.fa (.t 3) 7), o 32 (.fa (.t 31) 1), o 33 (.ld1 (.t 32)), o 34 (.lenS (.t 33)), o 35 (.bin .neq (.t 30) (.t 34))])
 (.cond (.t 35) (.seq (g [o 6 (.mv (.c (i 15)))])
 .ret)
 .skip))
 (.seq (g [o 36 .mkmap, o 10 (.mv (.t 36))])
 (.seq (.seq (g [o 37 (.mv (.t 2)), o 38 (.lenS (.t 37)), o 39 (.mv (.c (i 0)))])
 (.block 0 w264_0))
 (.seq (g [o 6 (.mv (.c (i 0)))])
 .ret))))))))⟩

def c265 : AFunc := ⟨2, 16, [.tmp 3],
 (.seq (g [o 3 (.mv (.c (.bool false)))])
 (.seq (g [o 4 (.mv (.t 0)), o 5 (.bin .lss (.t 4) (.c (i 0))), o 6 (.mv (.t 5)), ⟨(some 7), .mv (.t 0), (some (6, false)), []⟩, ⟨(some 8), .ld1 (.t 1), (some (6, false)), []⟩, ⟨(some 9), .nilck (.t 8), (some (6, false)), []⟩, ⟨(some 10), .fa (.t 9) 0, (some (6, false)), []⟩, ⟨(some 11), .fa (.t 10) 7, (some (6, false)), []⟩, ⟨(some 12), .fa (.t 11) 0, (some (6, false)), []⟩, ⟨(some 13), .ld1 (.t 12), (some (6, false)), []⟩, ⟨(some 14), .bin .geq (.t 7) (.t 13), (some (6, false)), []⟩, o 15 (.pick (.t 6) (.c (.bool true)) (.t 14)), o 3 (.mv (.t 15))])
 .ret))⟩

def v266_0 : AC := .dreg [0, 1, 2, 3, 4, 5, 6, 7, 8, 9, 10] [o 53 (.mv (.t 0)), o 54 (.nilck (.t 53)), o 55 (.fa (.t 54) 12), o 56 (.ld1 (.t 55)), o 57 (.ldN 8 (.t 10)), o 58 (.look 8 (i 0) (.t 56) (.t 57)), o 52 (.mv (.t 58)), o 59 (.ext (.t 52) 0), o 60 (.ext (.t 52) 1), o 11 (.mv (.t 59)), o 12 (.mv (.t 60))] none
def v266_1 : AC := .dreg [0, 1, 2, 3, 4, 5, 6, 7, 8, 9, 10, 11, 12, 13, 14, 15, 16, 17, 18] [o 61 (.mv (.t 12)), o 62 (.un .not (.t 61)), o 63 (.mv (.t 62)), ⟨(some 64), .mv (.t 0), (some (63, false)), []⟩, ⟨(some 65), .nilck (.t 64), (some (63, false)), []⟩, ⟨(some 66), .fa (.t 65) 10, (some (63, false)), []⟩, ⟨(some 67), .ld1 (.t 66), (some (63, false)), []⟩, ⟨(some 68), .mv (.t 11), (some (63, false)), []⟩, ⟨(some 69), .ixS 1 (.t 67) (.t 68), (some (63, false)), []⟩, ⟨(some 70), .ld1 (.t 69), (some (63, false)), []⟩, ⟨(some 71), .mv (.t 0), (some (63, false)), []⟩, ⟨(some 72), .nilck (.t 71), (some (63, false)), []⟩, ⟨(some 73), .fa (.t 72) 10, (some (63, false)), []⟩, ⟨(some 74), .ld1 (.t 73), (some (63, false)), []⟩, ⟨(some 75), .mv (.t 9), (some (63, false)), []⟩, ⟨(some 76), .ixS 1 (.t 74) (.t 75), (some (63, false)), []⟩, ⟨(some 77), .ld1 (.t 76), (some (63, false)), []⟩, ⟨(some 78), .bin .neq (.t 70) (.t 77), (some (63, false)), []⟩, o 79 (.pick (.t 63) (.c (.bool true)) (.t 78))] none
def w266_0 : AC := .loop [0, 2, 3, 5, 18, 19, 20]
 (.seq (g [o 21 (.bin .lss (.t 20) (.t 19))])
 (.seq (.cond (.t 21) .skip
 (.exit 0))
 (.seq (.block 1 (.seq (g [o 22 (.mv (.t 20)), o 23 (.ixS 8 (.t 18) (.t 20)), o 24 (.ldN 8 (.t 23)), o 10 (.alloc [i 0, i 0, i 0, i 0, i 0, i 0, i 0, i 0]), o 9 (.mv (.t 22)), e (.st 8 (.t 10) (.t 24))])
 (.seq (.seq (g [o 25 (.fa (.t 10) 1), o 26 (.ld1 (.t 25)), o 27 (.fa (.t 5) 0), o 28 (.ld1 (.t 27)), o 29 (.bin .add (.t 28) (.c (i 1))), o 30 (.bin .neq (.t 26) (.t 29)), o 31 (.mv (.t 30)), ⟨(some 32), .fa (.t 10) 0, (some (31, false)), []⟩, ⟨(some 33), .ld1 (.t 32), (some (31, false)), []⟩, ⟨(some 34), .fa (.t 5) 2, (some (31, false)), []⟩, ⟨(some 35), .ld1 (.t 34), (some (31, false)), []⟩, ⟨(some 36), .bin .neq (.t 33) (.t 35), (some (31, false)), []⟩, o 37 (.pick (.t 31) (.c (.bool true)) (.t 36)), o 38 (.mv (.t 37)), ⟨(some 39), .fa (.t 5) 1, (some (38, false)), []⟩, ⟨(some 40), .ld1 (.t 39), (some (38, false)), []⟩, ⟨(some 41), .fa (.t 10) 3, (some (38, false)), []⟩, ⟨(some 42), .ixA 5 1 (.t 41) (.t 40), (some (38, false)), []⟩, ⟨(some 43), .ld1 (.t 42), (some (38, false)), []⟩, ⟨(some 44), .mv (.t 2), (some (38, false)), []⟩, ⟨(some 45), .bin .neq (.t 43) (.t 44), (some (38, false)), []⟩, o 46 (.pick (.t 38) (.c (.bool true)) (.t 45))])
 (.cond (.t 46) (.exit 1)
 .skip))
 (.seq (g [o 47 (.fa (.t 5) 1), o 48 (.ld1 (.t 47)), o 49 (.mv (.t 3)), o 50 (.fa (.t 10) 3), o 51 (.ixA 5 1 (.t 50) (.t 48)), e (.st 1 (.t 51) (.t 49))])
 (.seq v266_0
 (.seq v266_1
 (.cond (.t 79) (.seq (g [o 8 (.mv (.c (.bool false)))])
 .ret)
 .skip)))))))
 (g [o 80 (.bin .add (.t 20) (.c (i 1))), o 20 (.mv (.t 80))]))))
def c266 : AFunc := ⟨4, 81, [.tmp 8],
 (.seq (g [o 5 (.box (.t 1)), o 8 (.mv (.c (.bool false)))])
 (.seq (.seq (g [o 13 (.mv (.t 0)), o 14 (.nilck (.t 13)), o 15 (.fa (.t 14) 0), o 16 (.fa (.t 15) 7), o 17 (.fa (.t 16) 1), o 18 (.ld1 (.t 17)), o 19 (.lenS (.t 18)), o 20 (.mv (.c (i 0)))])
 (.block 0 w266_0))
 (.seq (g [o 8 (.mv (.c (.bool true)))])
 .ret)))⟩

def v267_0 : AC := .dreg [0, 1, 2, 3, 4, 5, 6, 7, 8, 9] [o 17 (.mv (.t 0)), o 18 (.mv (.t 5)), o 19 (.ixS 1 (.t 17) (.t 18)), o 20 (.ld1 (.t 19)), o 21 (.mv (.t 1)), o 22 (.mv (.t 5)), o 23 (.ixS 1 (.t 21) (.t 22)), o 24 (.ld1 (.t 23)), o 25 (.call (.c (.fn 229 [])) [(.t 20), (.t 24)]), o 26 (.bin .neq (.t 25) (.c (i 0)))] none
def w267_0 : AC := .loop [0, 1, 5]
 (.seq (.seq (g [o 11 (.mv (.t 5)), o 12 (.mv (.t 0)), o 13 (.lenS (.t 12)), o 14 (.bin .lss (.t 11) (.t 13))])
 (.cond (.t 14) .skip
 (.exit 0)))
 (.seq (.block 1 (.seq v267_0
 (.cond (.t 26) (.seq (g [o 4 (.mv (.c (.bool false)))])
 .ret)
 .skip)))
 (g [o 15 (.mv (.t 5)), o 16 (.bin .add (.t 15) (.c (i 1))), o 5 (.mv (.t 16))])))
def c267 : AFunc := ⟨2, 27, [.tmp 4],
 (.seq (g [o 4 (.mv (.c (.bool false)))])
 (.seq (.seq (g [o 6 (.mv (.t 0)), o 7 (.lenS (.t 6)), o 8 (.mv (.t 1)), o 9 (.lenS (.t 8)), o 10 (.bin .neq (.t 7) (.t 9))])
 (.cond (.t 10) (.seq (g [o 4 (.mv (.c (.bool false)))])
 .ret)
 .skip))
 (.seq (.seq (g [o 5 (.mv (.c (i 0)))])
 (.block 0 w267_0))
 (.seq (g [o 4 (.mv (.c (.bool true)))])
 .ret))))⟩

def v268_0 : AC := .dreg [0, 1, 2, 3, 4, 5, 6, 7, 8, 9, 10, 11, 12, 13, 14] [o 61 (.mv (.t 3)), o 62 (.bin .gtr (.t 61) (.c (i 0))), o 63 (.mv (.t 62)), ⟨(some 64), .fa (.t 1) 3, (some (63, true)), []⟩, ⟨(some 65), .ld1 (.t 64), (some (63, true)), []⟩, ⟨(some 66), .mv (.t 3), (some (63, true)), []⟩, ⟨(some 67), .bin .sub (.t 66) (.c (i 1)), (some (63, true)), []⟩, ⟨(some 68), .ixS 3 (.t 65) (.t 67), (some (63, true)), []⟩, ⟨(some 69), .fa (.t 68) 0, (some (63, true)), []⟩, ⟨(some 70), .ld1 (.t 69), (some (63, true)), []⟩, ⟨(some 71), .fa (.t 4) 0, (some (63, true)), []⟩, ⟨(some 72), .ld1 (.t 71), (some (63, true)), []⟩, ⟨(some 73), .call (.c (.fn 100 [])) [(.t 70), (.t 72)], (some (63, true)), []⟩, ⟨(some 74), .bin .geq (.t 73) (.c (i 0)), (some (63, true)), []⟩, o 75 (.pick (.t 63) (.t 74) (.c (.bool false)))] none
def w268_0 : AC := .loop [1, 44, 45, 46]
 (.seq (g [o 47 (.bin .lss (.t 46) (.t 45))])
 (.seq (.cond (.t 47) .skip
 (.exit 1))
 (.seq (.block 2 (.seq (g [o 48 (.mv (.t 46)), o 49 (.ixS 3 (.t 44) (.t 46)), o 50 (.ldN 3 (.t 49)), o 4 (.alloc [.nils, .nils, .nils]), o 3 (.mv (.t 48)), e (.st 3 (.t 4) (.t 50))])
 (.seq (.seq (g [o 51 (.fa (.t 4) 0), o 52 (.ld1 (.t 51)), o 53 (.fa (.t 1) 0), o 54 (.ld1 (.t 53)), o 55 (.fa (.t 1) 1), o 56 (.ld1 (.t 55)), o 57 (.call (.c (.fn 272 [])) [(.t 52), (.t 54), (.t 56)]), o 5 (.mv (.t 57))])
 (.seq (g [o 58 (.mv (.t 5)), o 59 (.bin .neq (.t 58) (.c (i 0)))])
 (.cond (.t 59) (.seq (g [o 60 (.mv (.t 5)), o 2 (.mv (.t 60))])
 .ret)
 .skip)))
 (.seq (.seq v268_0
 (.cond (.t 75) (.seq (g [o 2 (.mv (.c (i 14)))])
 .ret)
 .skip))
 (.seq (g [o 76 (.ldN 4 (.t 1)), o 77 (.ldN 3 (.t 4)), o 78 (.call (.c (.fn 273 [])) [(.t 76), (.t 77)]), o 6 (.mv (.t 78))])
 (.seq (g [o 79 (.mv (.t 6)), o 80 (.bin .neq (.t 79) (.c (i 0)))])
 (.cond (.t 80) (.seq (g [o 81 (.mv (.t 6)), o 2 (.mv (.t 81))])
 .ret)
 .skip)))))))
 (g [o 82 (.bin .add (.t 46) (.c (i 1))), o 46 (.mv (.t 82))]))))
def c268 : AFunc := ⟨1, 83, [.tmp 2],
 (.seq (g [o 1 (.box (.t 0)), o 2 (.mv (.c (i 0)))])
 (.seq (.block 0 (.seq (.seq (g [o 8 (.fa (.t 1) 0), o 9 (.ld1 (.t 8)), o 10 (.bin .lss (.t 9) (.c (i 1))), o 11 (.mv (.t 10)), ⟨(some 12), .fa (.t 1) 0, (some (11, false)), []⟩, ⟨(some 13), .ld1 (.t 12), (some (11, false)), []⟩, ⟨(some 14), .bin .gtr (.t 13) (.c (i 5)), (some (11, false)), []⟩, o 15 (.pick (.t 11) (.c (.bool true)) (.t 14)), o 7 (.mv (.t 15))])
 (.cond (.t 7) .skip
 (.seq (g [o 16 (.fa (.t 1) 1), o 17 (.ld1 (.t 16)), o 18 (.bin .lss (.t 17) (.c (i 1))), o 19 (.mv (.t 18)), ⟨(some 20), .fa (.t 1) 1, (some (19, false)), []⟩, ⟨(some 21), .ld1 (.t 20), (some (19, false)), []⟩, ⟨(some 22), .bin .gtr (.t 21) (.c (i 8)), (some (19, false)), []⟩, o 23 (.pick (.t 19) (.c (.bool true)) (.t 22)), o 7 (.mv (.t 23))])
 (.cond (.t 7) .skip
 (g [o 24 (.fa (.t 1) 2), o 25 (.ld1 (.t 24)), o 26 (.bin .lss (.t 25) (.c (i 1))), o 27 (.mv (.t 26)), ⟨(some 28), .fa (.t 1) 2, (some (27, false)), []⟩, ⟨(some 29), .ld1 (.t 28), (some (27, false)), []⟩, ⟨(some 30), .bin .gtr (.t 29) (.c (i 8)), (some (27, false)), []⟩, o 31 (.pick (.t 27) (.c (.bool true)) (.t 30)), o 7 (.mv (.t 31))])))))
 (.cond (.t 7) (.seq (g [o 2 (.mv (.c (i 2)))])
 .ret)
 (.seq (g [o 33 (.fa (.t 1) 3), o 34 (.ld1 (.t 33)), o 35 (.lenS (.t 34)), o 36 (.bin .lss (.t 35) (.c (i 1))), o 37 (.mv (.t 36)), ⟨(some 38), .fa (.t 1) 3, (some (37, false)), []⟩, ⟨(some 39), .ld1 (.t 38), (some (37, false)), []⟩, ⟨(some 40), .lenS (.t 39), (some (37, false)), []⟩, ⟨(some 41), .bin .gtr (.t 40) (.c (i 1024)), (some (37, false)), []⟩, o 42 (.pick (.t 37) (.c (.bool true)) (.t 41)), o 32 (.mv (.t 42))])
 (.cond (.t 32) (.seq (g [o 2 (.mv (.c (i 5)))])
 .ret)
 .skip)))))
 (.seq (.seq (g [o 43 (.fa (.t 1) 3), o 44 (.ld1 (.t 43)), o 45 (.lenS (.t 44)), o 46 (.mv (.c (i 0)))])
 (.block 1 w268_0))
 (.seq (g [o 2 (.mv (.c (i 0)))])
 .ret))))⟩

def w269_0 : AC := .loop [1, 2, 25, 26, 27]
 (.seq (g [o 28 (.bin .lss (.t 27) (.t 26))])
 (.seq (.cond (.t 28) .skip
 (.exit 0))
 (.seq (.block 1 (.seq (g [o 29 (.ixS 1 (.t 25) (.t 27)), o 30 (.ld1 (.t 29)), o 5 (.mv (.t 30))])
 (.seq (g [o 31 (.ldN 2 (.t 1)), o 32 (.mv (.t 5)), o 33 (.call (.c (.fn 275 [])) [(.t 31), (.t 32)]), o 6 (.mv (.t 33))])
 (.seq (g [o 34 (.mv (.t 6)), o 35 (.bin .neq (.t 34) (.c (i 0)))])
 (.cond (.t 35) (.seq (g [o 36 (.mv (.t 6)), e (.st 1 (.t 2) (.t 36))])
 .ret)
 .skip)))))
 (g [o 37 (.bin .add (.t 27) (.c (i 1))), o 27 (.mv (.t 37))]))))
def w269_1 : AC := .loop [2, 8, 47, 48, 49]
 (.seq (g [o 50 (.bin .lss (.t 49) (.t 48))])
 (.seq (.cond (.t 50) .skip
 (.exit 4))
 (.seq (.block 5 (.seq (g [o 51 (.ixS 8 (.t 47) (.t 49)), o 52 (.ldN 8 (.t 51)), o 10 (.alloc [i 0, i 0, i 0, i 0, i 0, i 0, i 0, i 0]), e (.st 8 (.t 10) (.t 52))])
 (.seq (g [o 53 (.fa (.t 8) 0), o 54 (.fa (.t 53) 6), o 55 (.ld1 (.t 54)), o 56 (.fa (.t 10) 0), o 57 (.fa (.t 56) 6), o 58 (.ld1 (.t 57)), o 59 (.bin .andNot (.t 55) (.t 58)), o 60 (.bin .neq (.t 59) (.c (i 0)))])
 (.cond (.t 60) (.seq (g [e (.st 1 (.t 2) (.c (i 21)))])
 .ret)
 .skip))))
 (g [o 61 (.bin .add (.t 49) (.c (i 1))), o 49 (.mv (.t 61))]))))
def u269_0 : AC := .block 3 (.seq (g [o 42 (.fa (.t 1) 1), o 43 (.ld1 (.t 42)), o 44 (.fa (.t 8) 7), o 45 (.ld1 (.t 44)), o 46 (.ixS 1 (.t 43) (.t 45)), o 47 (.ld1 (.t 46)), o 48 (.lenS (.t 47)), o 49 (.mv (.c (i 0)))])
 (.block 4 w269_1))
def c269 : AFunc := ⟨1, 62, [.cell1 2],
 (.seq (g [o 1 (.box (.t 0)), o 2 (.alloc [i 0])])
 (.seq (.seq (g [o 11 (.fa (.t 1) 0), o 12 (.ld1 (.t 11)), o 13 (.bin .lss (.t 12) (.c (i 1))), o 14 (.mv (.t 13)), ⟨(some 15), .fa (.t 1) 0, (some (14, false)), []⟩, ⟨(some 16), .ld1 (.t 15), (some (14, false)), []⟩, ⟨(some 17), .bin .gtr (.t 16) (.c (i 5)), (some (14, false)), []⟩, o 18 (.pick (.t 14) (.c (.bool true)) (.t 17))])
 (.cond (.t 18) (.seq (g [e (.st 1 (.t 2) (.c (i 2)))])
 .ret)
 .skip))
 (.seq (.seq (g [o 19 (.ldN 2 (.t 1)), o 20 (.call (.c (.fn 274 [])) [(.t 19)]), o 3 (.mv (.t 20))])
 (.seq (g [o 21 (.mv (.t 3)), o 22 (.bin .neq (.t 21) (.c (i 0)))])
 (.cond (.t 22) (.seq (g [o 23 (.mv (.t 3)), e (.st 1 (.t 2) (.t 23))])
 .ret)
 .skip)))
 (.seq (.seq (g [o 24 (.fa (.t 1) 1), o 25 (.ld1 (.t 24)), o 26 (.lenS (.t 25)), o 27 (.mv (.c (i 0)))])
 (.block 0 w269_0))
 (.seq (.seq (g [o 38 (.ldN 2 (.t 1)), o 39 (.call (.c (.fn 276 [])) [(.t 38)])])
 (.block 2 (.rangeF (.t 39) [40, 41] (g [o 8 (.alloc [i 0, i 0, i 0, i 0, i 0, i 0, i 0, i 0]), e (.st 8 (.t 8) (.t 41))])
 u269_0)))
 (.seq (g [e (.st 1 (.t 2) (.c (i 0)))])
 .ret))))))⟩

def v270_0 : AC := .dreg [0, 1, 2, 3, 4, 5, 6, 7, 8, 9, 10, 11, 12, 13, 14, 15, 16] [o 26 (.ld1 (.t 8)), o 27 (.mv (.t 9)), o 28 (.ld1 (.t 8)), o 29 (.mv (.t 9)), o 30 (.ixS 1 (.t 28) (.t 29)), o 31 (.ld1 (.t 30)), o 32 (.ld1 (.t 7)), o 33 (.fa (.t 10) 7), o 34 (.ld1 (.t 33)), o 35 (.ixS 1 (.t 32) (.t 34)), o 36 (.ld1 (.t 35)), o 37 (.bin .add (.t 31) (.t 36)), o 38 (.ld1 (.t 5)), o 39 (.bin .add (.t 38) (.c (i 1))), o 40 (.minmax false (.t 37) (.t 39)), o 41 (.ixS 1 (.t 26) (.t 27)), e (.st 1 (.t 41) (.t 40))] none
def u270_0 : AC := .block 3 v270_0
def w270_0 : AC := .loop [3, 5, 6, 7, 16, 17]
 (.seq (g [o 18 (.bin .lss (.t 17) (.t 16))])
 (.seq (.cond (.t 18) .skip
 (.exit 0))
 (.seq (.block 1 (.seq (g [o 19 (.ld1 (.t 7)), o 20 (.lenS (.t 19)), o 21 (.mkslice 8 [i 0] (.t 20) (.t 20)), o 8 (.alloc [.nils]), e (.st 1 (.t 8) (.t 21))])
 (.seq (.seq (g [o 22 (.ldN 2 (.t 3)), o 23 (.call (.c (.fn 276 [])) [(.t 22)])])
 (.block 2 (.rangeF (.t 23) [24, 25] (.seq (g [o 9 (.mv (.t 24))])
 (g [o 10 (.alloc [i 0, i 0, i 0, i 0, i 0, i 0, i 0, i 0]), e (.st 8 (.t 10) (.t 25))]))
 u270_0)))
 (g [o 42 (.ld1 (.t 8)), e (.st 1 (.t 7) (.t 42))]))))
 (g [o 43 (.bin .add (.t 17) (.c (i 1))), o 17 (.mv (.t 43))]))))
def c270 : AFunc := ⟨3, 47, [.tmp 6],
 (.seq (g [o 3 (.box (.t 0)), o 5 (.box (.t 2)), o 6 (.mv (.c (i 0)))])
 (.seq (g [o 11 (.bslice 1 [i 0] [(0, 1, (.c (i 1)))]), o 12 (.fa (.t 3) 1), o 13 (.ld1 (.t 12)), o 14 (.lenS (.t 13)), o 15 (.call (.c (.fn 122 [])) [(.t 11), (.t 14)]), o 7 (.alloc [.nils]), e (.st 1 (.t 7) (.t 15))])
 (.seq (.seq (g [o 16 (.mv (.t 1)), o 17 (.mv (.c (i 0)))])
 (.block 0 w270_0))
 (.seq (g [o 44 (.ld1 (.t 7)), o 45 (.ixS 1 (.t 44) (.c (i 0))), o 46 (.ld1 (.t 45)), o 6 (.mv (.t 46))])
 .ret))))⟩

def w271_0 : AC := .loop [3, 9, 10, 11]
 (.seq (g [o 12 (.bin .lss (.t 11) (.t 10))])
 (.seq (.cond (.t 12) .skip
 (.exit 0))
 (.seq (.block 1 (.seq (g [o 13 (.ixS 1 (.t 9) (.t 11)), o 14 (.ld1 (.t 13)), o 5 (.mv (.t 14))])
 (.block 2 (.seq (g [o 16 (.mv (.t 5)), o 17 (.bin .lss (.t 16) (.c (i 0))), o 15 (.mv (.t 17))])
 (.cond (.t 15) (.seq (g [o 2 (.mv (.c (i 2)))])
 .ret)
 (.seq (g [o 19 (.mv (.t 5)), o 20 (.mv (.t 3)), o 21 (.bin .gtr (.t 19) (.t 20)), o 18 (.mv (.t 21))])
 (.cond (.t 18) (.seq (g [o 2 (.mv (.c (i 14)))])
 .ret)
 (.seq (g [o 23 (.mv (.t 5)), o 24 (.mv (.t 3)), o 25 (.bin .eql (.t 23) (.t 24)), o 22 (.mv (.t 25))])
 (.cond (.t 22) (g [o 26 (.mv (.t 3)), o 27 (.bin .add (.t 26) (.c (i 1))), o 3 (.mv (.t 27))])
 .skip)))))))))
 (g [o 28 (.bin .add (.t 11) (.c (i 1))), o 11 (.mv (.t 28))]))))
def c271 : AFunc := ⟨1, 29, [.tmp 2],
 (.seq (g [o 2 (.mv (.c (i 0)))])
 (.seq (.seq (g [o 6 (.mv (.t 0)), o 7 (.lenS (.t 6)), o 8 (.bin .gtr (.t 7) (.c (i 65536)))])
 (.cond (.t 8) (.seq (g [o 2 (.mv (.c (i 5)))])
 .ret)
 .skip))
 (.seq (g [o 3 (.mv (.c (i 0)))])
 (.seq (.seq (g [o 9 (.mv (.t 0)), o 10 (.lenS (.t 9)), o 11 (.mv (.c (i 0)))])
 (.block 0 w271_0))
 (.seq (g [o 2 (.mv (.c (i 0)))])
 .ret)))))⟩

def c272 : AFunc := ⟨3, 14, [.tmp 6],
 (.seq (g [o 5 (.box (.t 2)), o 6 (.mv (.c (i 0)))])
 (.seq (.seq (g [o 7 (.mv (.t 0)), o 8 (.lenS (.t 7)), o 9 (.mv (.t 1)), o 10 (.bin .neq (.t 8) (.t 9))])
 (.cond (.t 10) (.seq (g [o 6 (.mv (.c (i 15)))])
 .ret)
 .skip))
 (.seq (.seq (g [o 11 (.mv (.t 0)), o 12 (.mkfn 277 [(.t 5)]), o 13 (.call (.c (.fn 105 [])) [(.t 11), (.t 12)])])
 (.cond (.t 13) (.seq (g [o 6 (.mv (.c (i 2)))])
 .ret)
 .skip))
 (.seq (g [o 6 (.mv (.c (i 0)))])
 .ret))))⟩

def w273_0 : AC := .loop [2, 3, 21, 22, 23]
 (.seq (g [o 24 (.bin .lss (.t 23) (.t 22))])
 (.seq (.cond (.t 24) .skip
 (.exit 0))
 (.seq (.block 1 (.seq (g [o 25 (.mv (.t 23)), o 26 (.ixS 1 (.t 21) (.t 23)), o 27 (.ld1 (.t 26)), o 5 (.mv (.t 25)), o 6 (.mv (.t 27))])
 (.seq (.seq (g [o 28 (.mv (.t 6)), o 29 (.fa (.t 2) 0), o 30 (.ld1 (.t 29)), o 31 (.fa (.t 2) 2), o 32 (.ld1 (.t 31)), o 33 (.call (.c (.fn 272 [])) [(.t 28), (.t 30), (.t 32)]), o 7 (.mv (.t 33))])
 (.seq (g [o 34 (.mv (.t 7)), o 35 (.bin .neq (.t 34) (.c (i 0)))])
 (.cond (.t 35) (.seq (g [o 36 (.mv (.t 7)), o 4 (.mv (.t 36))])
 .ret)
 .skip)))
 (.seq (g [o 37 (.fa (.t 3) 1), o 38 (.ld1 (.t 37)), o 39 (.mv (.t 5)), o 40 (.call (.c (.fn 278 [])) [(.t 38), (.t 39)])])
 (.cond (.t 40) (.seq (g [o 4 (.mv (.c (i 14)))])
 .ret)
 .skip)))))
 (g [o 41 (.bin .add (.t 23) (.c (i 1))), o 23 (.mv (.t 41))]))))
def w273_1 : AC := .loop [3, 43, 44, 45]
 (.seq (g [o 46 (.bin .lss (.t 45) (.t 44))])
 (.seq (.cond (.t 46) .skip
 (.exit 2))
 (.seq (.block 3 (.seq (g [o 47 (.mv (.t 45)), o 48 (.ixS 1 (.t 43) (.t 45)), o 49 (.ld1 (.t 48)), o 8 (.mv (.t 47)), o 9 (.mv (.t 49))])
 (.seq (.seq (g [o 50 (.fa (.t 3) 1), o 51 (.ld1 (.t 50)), o 52 (.mv (.t 9)), o 53 (.call (.c (.fn 279 [])) [(.t 51), (.t 52)]), o 54 (.un .not (.t 53))])
 (.cond (.t 54) (.seq (g [o 4 (.mv (.c (i 6)))])
 .ret)
 .skip))
 (.seq (g [o 55 (.fa (.t 3) 2), o 56 (.ld1 (.t 55)), o 57 (.mv (.t 8)), o 58 (.call (.c (.fn 278 [])) [(.t 56), (.t 57)])])
 (.cond (.t 58) (.seq (g [o 4 (.mv (.c (i 14)))])
 .ret)
 .skip)))))
 (g [o 59 (.bin .add (.t 45) (.c (i 1))), o 45 (.mv (.t 59))]))))
def c273 : AFunc := ⟨2, 60, [.tmp 4],
 (.seq (g [o 2 (.box (.t 0)), o 3 (.box (.t 1)), o 4 (.mv (.c (i 0)))])
 (.seq (.seq (g [o 10 (.fa (.t 3) 1), o 11 (.ld1 (.t 10)), o 12 (.lenS (.t 11)), o 13 (.bin .lss (.t 12) (.c (i 1))), o 14 (.mv (.t 13)), ⟨(some 15), .fa (.t 3) 1, (some (14, false)), []⟩, ⟨(some 16), .ld1 (.t 15), (some (14, false)), []⟩, ⟨(some 17), .lenS (.t 16), (some (14, false)), []⟩, ⟨(some 18), .bin .gtr (.t 17) (.c (i 1024)), (some (14, false)), []⟩, o 19 (.pick (.t 14) (.c (.bool true)) (.t 18))])
 (.cond (.t 19) (.seq (g [o 4 (.mv (.c (i 5)))])
 .ret)
 .skip))
 (.seq (.seq (g [o 20 (.fa (.t 3) 1), o 21 (.ld1 (.t 20)), o 22 (.lenS (.t 21)), o 23 (.mv (.c (i 0)))])
 (.block 0 w273_0))
 (.seq (.seq (g [o 42 (.fa (.t 3) 2), o 43 (.ld1 (.t 42)), o 44 (.lenS (.t 43)), o 45 (.mv (.c (i 0)))])
 (.block 2 w273_1))
 (.seq (g [o 4 (.mv (.c (i 0)))])
 .ret)))))⟩

def u274_0 : AC := .block 1 (g [o 8 (.ld1 (.t 3)), o 9 (.bin .add (.t 8) (.c (i 1))), e (.st 1 (.t 3) (.t 9))])
def c274 : AFunc := ⟨1, 24, [.tmp 2],
 (.seq (g [o 1 (.box (.t 0)), o 2 (.mv (.c (i 0)))])
 (.seq (g [o 3 (.alloc [i 0]), e (.st 1 (.t 3) (.c (i 0)))])
 (.seq (.seq (g [o 4 (.ldN 2 (.t 1)), o 5 (.call (.c (.fn 276 [])) [(.t 4)])])
 (.block 0 (.rangeF (.t 5) [6, 7] .skip
 u274_0)))
 (.seq (.seq (g [o 10 (.fa (.t 1) 1), o 11 (.ld1 (.t 10)), o 12 (.lenS (.t 11)), o 13 (.bin .lss (.t 12) (.c (i 1))), o 14 (.mv (.t 13)), ⟨(some 15), .fa (.t 1) 1, (some (14, false)), []⟩, ⟨(some 16), .ld1 (.t 15), (some (14, false)), []⟩, ⟨(some 17), .lenS (.t 16), (some (14, false)), []⟩, ⟨(some 18), .bin .gtr (.t 17) (.c (i 256)), (some (14, false)), []⟩, o 19 (.pick (.t 14) (.c (.bool true)) (.t 18)), o 20 (.mv (.t 19)), ⟨(some 21), .ld1 (.t 3), (some (20, false)), []⟩, ⟨(some 22), .bin .gtr (.t 21) (.c (i 4096)), (some (20, false)), []⟩, o 23 (.pick (.t 20) (.c (.bool true)) (.t 22))])
 (.cond (.t 23) (.seq (g [o 2 (.mv (.c (i 5)))])
 .ret)
 .skip))
 (.seq (g [o 2 (.mv (.c (i 0)))])
 .ret)))))⟩

def v275_0 : AC := .dreg [0, 1, 2, 3, 4, 5, 6, 7, 8, 9, 10, 11, 12, 13, 14] [o 33 (.mv (.t 5)), o 34 (.bin .gtr (.t 33) (.c (i 0))), o 35 (.mv (.t 34)), ⟨(some 36), .mv (.t 1), (some (35, true)), []⟩, ⟨(some 37), .mv (.t 5), (some (35, true)), []⟩, ⟨(some 38), .bin .sub (.t 37) (.c (i 1)), (some (35, true)), []⟩, ⟨(some 39), .ixS 8 (.t 36) (.t 38), (some (35, true)), []⟩, ⟨(some 40), .fa (.t 39) 0, (some (35, true)), []⟩, ⟨(some 41), .ldN 7 (.t 40), (some (35, true)), []⟩, ⟨(some 42), .fa (.t 6) 0, (some (35, true)), []⟩, ⟨(some 43), .ldN 7 (.t 42), (some (35, true)), []⟩, ⟨(some 44), .call (.c (.fn 280 [])) [(.t 41), (.t 43)], (some (35, true)), []⟩, ⟨(some 45), .bin .geq (.t 44) (.c (i 0)), (some (35, true)), []⟩, o 46 (.pick (.t 35) (.t 45) (.c (.bool false))), o 32 (.mv (.t 46))] none
def w275_0 : AC := .loop [1, 2, 11, 12, 13]
 (.seq (g [o 14 (.bin .lss (.t 13) (.t 12))])
 (.seq (.cond (.t 14) .skip
 (.exit 0))
 (.seq (.block 1 (.seq (g [o 15 (.mv (.t 13)), o 16 (.ixS 8 (.t 11) (.t 13)), o 17 (.ldN 8 (.t 16)), o 6 (.alloc [i 0, i 0, i 0, i 0, i 0, i 0, i 0, i 0]), o 5 (.mv (.t 15)), e (.st 8 (.t 6) (.t 17))])
 (.seq (.seq (g [o 18 (.fa (.t 6) 0), o 19 (.ldN 7 (.t 18)), o 20 (.call (.c (.fn 109 [])) [(.t 19)]), o 7 (.mv (.t 20))])
 (.seq (g [o 21 (.mv (.t 7)), o 22 (.bin .neq (.t 21) (.c (i 0)))])
 (.cond (.t 22) (.seq (g [o 23 (.mv (.t 7)), o 4 (.mv (.t 23))])
 .ret)
 .skip)))
 (.block 2 (.seq (g [o 25 (.fa (.t 6) 0), o 26 (.fa (.t 25) 0), o 27 (.fa (.t 26) 0), o 28 (.ld1 (.t 27)), o 29 (.fa (.t 2) 0), o 30 (.ld1 (.t 29)), o 31 (.bin .neq (.t 28) (.t 30)), o 24 (.mv (.t 31))])
 (.cond (.t 24) (.seq (g [o 4 (.mv (.c (i 22)))])
 .ret)
 (.seq v275_0
 (.cond (.t 32) (.seq (g [o 4 (.mv (.c (i 14)))])
 .ret)
 (.seq (g [o 48 (.fa (.t 6) 7), o 49 (.ld1 (.t 48)), o 50 (.bin .lss (.t 49) (.c (i 0))), o 51 (.mv (.t 50)), ⟨(some 52), .fa (.t 6) 7, (some (51, false)), []⟩, ⟨(some 53), .ld1 (.t 52), (some (51, false)), []⟩, ⟨(some 54), .fa (.t 2) 1, (some (51, false)), []⟩, ⟨(some 55), .ld1 (.t 54), (some (51, false)), []⟩, ⟨(some 56), .lenS (.t 55), (some (51, false)), []⟩, ⟨(some 57), .bin .geq (.t 53) (.t 56), (some (51, false)), []⟩, o 58 (.pick (.t 51) (.c (.bool true)) (.t 57)), o 47 (.mv (.t 58))])
 (.cond (.t 47) (.seq (g [o 4 (.mv (.c (i 2)))])
 .ret)
 .skip))))))))))
 (g [o 59 (.bin .add (.t 13) (.c (i 1))), o 13 (.mv (.t 59))]))))
def c275 : AFunc := ⟨2, 60, [.tmp 4],
 (.seq (g [o 2 (.box (.t 0)), o 4 (.mv (.c (i 0)))])
 (.seq (.seq (g [o 8 (.mv (.t 1)), o 9 (.lenS (.t 8)), o 10 (.bin .eql (.t 9) (.c (i 0)))])
 (.cond (.t 10) (.seq (g [o 4 (.mv (.c (i 19)))])
 .ret)
 .skip))
 (.seq (.seq (g [o 11 (.mv (.t 1)), o 12 (.lenS (.t 11)), o 13 (.mv (.c (i 0)))])
 (.block 0 w275_0))
 (.seq (g [o 4 (.mv (.c (i 0)))])
 .ret))))⟩

def c276 : AFunc := ⟨1, 4, [.tmp 2],
 (.seq (g [o 1 (.box (.t 0)), o 2 (.mv (.c .nilf))])
 (.seq (g [o 3 (.mkfn 281 [(.t 1)]), o 2 (.mv (.t 3))])
 .ret))⟩

def c277 : AFunc := ⟨2, 11, [.tmp 3],
 (.seq (g [o 3 (.mv (.c (.bool false)))])
 (.seq (g [o 4 (.mv (.t 0)), o 5 (.bin .lss (.t 4) (.c (i 0))), o 6 (.mv (.t 5)), ⟨(some 7), .mv (.t 0), (some (6, false)), []⟩, ⟨(some 8), .ld1 (.t 1), (some (6, false)), []⟩, ⟨(some 9), .bin .geq (.t 7) (.t 8), (some (6, false)), []⟩, o 10 (.pick (.t 6) (.c (.bool true)) (.t 9)), o 3 (.mv (.t 10))])
 .ret))⟩

def v278_0 : AC := .dreg [0, 1, 2, 3, 4, 5, 6, 7, 8, 9, 10, 11, 12, 13, 14, 15] [o 5 (.mv (.t 1)), o 6 (.bin .gtr (.t 5) (.c (i 0))), o 7 (.mv (.t 6)), ⟨(some 8), .mv (.t 0), (some (7, true)), []⟩, ⟨(some 9), .mv (.t 1), (some (7, true)), []⟩, ⟨(some 10), .bin .sub (.t 9) (.c (i 1)), (some (7, true)), []⟩, ⟨(some 11), .ixS 1 (.t 8) (.t 10), (some (7, true)), []⟩, ⟨(some 12), .ld1 (.t 11), (some (7, true)), []⟩, ⟨(some 13), .mv (.t 0), (some (7, true)), []⟩, ⟨(some 14), .mv (.t 1), (some (7, true)), []⟩, ⟨(some 15), .ixS 1 (.t 13) (.t 14), (some (7, true)), []⟩, ⟨(some 16), .ld1 (.t 15), (some (7, true)), []⟩, ⟨(some 17), .call (.c (.fn 100 [])) [(.t 12), (.t 16)], (some (7, true)), []⟩, ⟨(some 18), .bin .geq (.t 17) (.c (i 0)), (some (7, true)), []⟩, o 19 (.pick (.t 7) (.t 18) (.c (.bool false))), o 4 (.mv (.t 19))] none
def c278 : AFunc := ⟨2, 20, [.tmp 4],
 (.seq (g [o 4 (.mv (.c (.bool false)))])
 (.seq v278_0
 .ret))⟩

def c279 : AFunc := ⟨2, 8, [.tmp 4],
 (.seq (g [o 3 (.box (.t 1)), o 4 (.mv (.c (.bool false)))])
 (.seq (g [o 5 (.mv (.t 0)), o 6 (.mkfn 282 [(.t 3)]), o 7 (.call (.c (.fn 95 [])) [(.t 5), (.t 6)]), o 4 (.mv (.t 7))])
 .ret))⟩

def c280 : AFunc := ⟨2, 23, [.tmp 4],
 (.seq (g [o 2 (.box (.t 0)), o 3 (.box (.t 1)), o 4 (.mv (.c (i 0)))])
 (.seq (.seq (g [o 5 (.ldN 7 (.t 2)), o 6 (.ldN 7 (.t 3)), o 7 (.eqf false 7 (.t 5) (.t 6))])
 (.cond (.t 7) (.seq (g [o 4 (.mv (.c (i 0)))])
 .ret)
 .skip))
 (.seq (.seq (g [o 8 (.fa (.t 2) 0), o 9 (.ldN 6 (.t 8)), o 10 (.fa (.t 3) 0), o 11 (.ldN 6 (.t 10)), o 12 (.eqf true 6 (.t 9) (.t 11))])
 (.cond (.t 12) (.seq (g [o 13 (.fa (.t 2) 0), o 14 (.ldN 6 (.t 13)), o 15 (.fa (.t 3) 0), o 16 (.ldN 6 (.t 15)), o 17 (.call (.c (.fn 283 [])) [(.t 14), (.t 16)]), o 4 (.mv (.t 17))])
 .ret)
 .skip))
 (.seq (g [o 18 (.fa (.t 2) 6), o 19 (.ld1 (.t 18)), o 20 (.fa (.t 3) 6), o 21 (.ld1 (.t 20)), o 22 (.call (.c (.fn 99 [])) [(.t 19), (.t 21)]), o 4 (.mv (.t 22))])
 .ret))))⟩

def w281_0 : AC := .loop [0, 3, 8, 9, 10, 15, 16, 17]
 (.seq (g [o 18 (.bin .lss (.t 17) (.t 16))])
 (.seq (.cond (.t 18) .skip
 (.exit 2))
 (.seq (.block 3 (.seq (g [o 19 (.ixS 8 (.t 15) (.t 17)), o 20 (.ldN 8 (.t 19)), o 6 (.alloc [i 0, i 0, i 0, i 0, i 0, i 0, i 0, i 0]), e (.st 8 (.t 6) (.t 20))])
 (.seq (g [o 21 (.mv (.t 0)), o 22 (.mv (.t 3)), o 23 (.ldN 8 (.t 6)), o 24 (.call (.t 21) [(.t 22), (.t 23)]), o 25 (.un .not (.t 24))])
 (.cond (.t 25) .ret
 .skip))))
 (g [o 26 (.bin .add (.t 17) (.c (i 1))), o 17 (.mv (.t 26))]))))
def w281_1 : AC := .loop [0, 8, 9, 10]
 (.seq (g [o 11 (.bin .lss (.t 10) (.t 9))])
 (.seq (.cond (.t 11) .skip
 (.exit 0))
 (.seq (.block 1 (.seq (g [o 12 (.mv (.t 10)), o 13 (.ixS 1 (.t 8) (.t 10)), o 14 (.ld1 (.t 13)), o 3 (.mv (.t 12)), o 4 (.mv (.t 14))])
 (.seq (g [o 15 (.mv (.t 4)), o 16 (.lenS (.t 15)), o 17 (.mv (.c (i 0)))])
 (.block 2 w281_0))))
 (g [o 27 (.bin .add (.t 10) (.c (i 1))), o 10 (.mv (.t 27))]))))
def c281 : AFunc := ⟨2, 28, [],
 (.seq (g [o 7 (.fa (.t 1) 1), o 8 (.ld1 (.t 7)), o 9 (.lenS (.t 8)), o 10 (.mv (.c (i 0)))])
 (.block 0 w281_1))⟩

def c282 : AFunc := ⟨2, 7, [.tmp 3],
 (.seq (g [o 3 (.mv (.c (.bool false)))])
 (.seq (g [o 4 (.mv (.t 0)), o 5 (.ld1 (.t 1)), o 6 (.call (.c (.fn 41 [])) [(.t 4), (.t 5)]), o 3 (.mv (.t 6))])
 .ret))⟩

def v283_0 : AC := .dreg [0, 1, 2, 3, 4, 5, 6, 7, 8, 9] [o 23 (.mv (.t 5)), o 24 (.fa (.t 2) 1), o 25 (.ixA 5 1 (.t 24) (.t 23)), o 26 (.ld1 (.t 25)), o 27 (.mv (.t 5)), o 28 (.fa (.t 3) 1), o 29 (.ixA 5 1 (.t 28) (.t 27)), o 30 (.ld1 (.t 29)), o 31 (.call (.c (.fn 99 [])) [(.t 26), (.t 30)]), o 6 (.mv (.t 31))] none
def w283_0 : AC := .loop [2, 3, 20]
 (.seq (g [o 21 (.bin .lss (.t 20) (.c (i 5)))])
 (.seq (.cond (.t 21) .skip
 (.exit 0))
 (.seq (.block 1 (.seq (g [o 22 (.mv (.t 20)), o 5 (.mv (.t 22))])
 (.seq v283_0
 (.seq (g [o 32 (.mv (.t 6)), o 33 (.bin .neq (.t 32) (.c (i 0)))])
 (.cond (.t 33) (.seq (g [o 34 (.mv (.t 6)), o 4 (.mv (.t 34))])
 .ret)
 .skip)))))
 (g [o 35 (.bin .add (.t 20) (.c (i 1))), o 20 (.mv (.t 35))]))))
def c283 : AFunc := ⟨2, 36, [.tmp 4],
 (.seq (g [o 2 (.box (.t 0)), o 3 (.box (.t 1)), o 4 (.mv (.c (i 0)))])
 (.seq (.seq (g [o 7 (.ldN 6 (.t 2)), o 8 (.ldN 6 (.t 3)), o 9 (.eqf false 6 (.t 7) (.t 8))])
 (.cond (.t 9) (.seq (g [o 4 (.mv (.c (i 0)))])
 .ret)
 .skip))
 (.seq (.seq (g [o 10 (.fa (.t 2) 0), o 11 (.ld1 (.t 10)), o 12 (.fa (.t 3) 0), o 13 (.ld1 (.t 12)), o 14 (.bin .neq (.t 11) (.t 13))])
 (.cond (.t 14) (.seq (g [o 15 (.fa (.t 2) 0), o 16 (.ld1 (.t 15)), o 17 (.fa (.t 3) 0), o 18 (.ld1 (.t 17)), o 19 (.call (.c (.fn 99 [])) [(.t 16), (.t 18)]), o 4 (.mv (.t 19))])
 .ret)
 .skip))
 (.seq (.seq (g [o 20 (.mv (.c (i 0)))])
 (.block 0 w283_0))
 (.seq (g [o 4 (.mv (.c (i 0)))])
 .ret)))))⟩

end Go.Vm.Code
