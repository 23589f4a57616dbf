/-
  The code of the functions, first part. Conditions: none beyond those that each statement names.
-/
import Derived.Test.YtflgecobobgpcaaGreatPVA
namespace Go.Vm.Code
open Go.Vm
def o (d : Nat) (a : AOp) : AOper := ⟨some d, a, none, []⟩
def e (a : AOp) : AOper := ⟨none, a, none, []⟩
def g (l : List AOper) : AC := .reg l none
def i (n : Nat) : V := .int .i64 (.ofNat n)
def j (n : Nat) : V := .int .i64 (.negSucc n)

def v3_0 : AC := .dreg [0, 1, 2, 4, 3, 5, 6, 7, 8, 9, 10, 11, 12, 13, 14, 15, 16, 17, 18, 19, 20, 21, 22, 23, 24, 25, 26, 27, 28, 29, 30, 32, 33, 31, 34, 35, 36, 37, 38, 39, 40, 41, 42] [o 36 (.call (.c (.fn 12 [])) []), o 37 (.mv (.t 36)), ⟨(some 38), .ldN 8 (.t 2), (some (37, true)), []⟩, ⟨(some 40), .ldN 8 (.t 2), (some (37, true)), []⟩, ⟨(some 39), .call (.c (.fn 15 [])) [(.t 38)], (some (37, true)), [3]⟩, ⟨(some 41), .call (.c (.fn 16 [])) [(.t 40)], (some (37, true)), []⟩, ⟨(some 42), .bin .eql (.t 39) (.t 41), (some (37, true)), []⟩, o 43 (.pick (.t 37) (.t 42) (.c (.bool false))), o 44 (.mv (.t 43)), ⟨(some 45), .mv (.t 5), (some (44, true)), []⟩, ⟨(some 46), .mv (.t 9), (some (44, true)), []⟩, ⟨(some 47), .bin .eql (.t 45) (.t 46), (some (44, true)), []⟩, o 48 (.pick (.t 44) (.t 47) (.c (.bool false))), o 49 (.mv (.t 48)), ⟨(some 50), .mv (.t 6), (some (49, true)), []⟩, ⟨(some 51), .mv (.t 10), (some (49, true)), []⟩, ⟨(some 52), .bin .eql (.t 50) (.t 51), (some (49, true)), []⟩, o 53 (.pick (.t 49) (.t 52) (.c (.bool false))), o 54 (.mv (.t 53)), ⟨(some 55), .mv (.t 7), (some (54, true)), []⟩, ⟨(some 56), .mv (.t 11), (some (54, true)), []⟩, ⟨(some 57), .bin .eql (.t 55) (.t 56), (some (54, true)), []⟩, o 58 (.pick (.t 54) (.t 57) (.c (.bool false))), o 59 (.mv (.t 58)), ⟨(some 60), .mv (.t 8), (some (59, true)), []⟩, ⟨(some 61), .mv (.t 12), (some (59, true)), []⟩, ⟨(some 62), .bin .eql (.t 60) (.t 61), (some (59, true)), []⟩, o 63 (.pick (.t 59) (.t 62) (.c (.bool false))), o 64 (.mv (.t 63)), ⟨(some 65), .ldN 8 (.t 2), (some (64, true)), []⟩, ⟨(some 66), .ldN 8 (.t 3), (some (64, true)), []⟩, ⟨(some 68), .ldN 8 (.t 2), (some (64, true)), []⟩, ⟨(some 69), .ldN 8 (.t 3), (some (64, true)), []⟩, ⟨(some 67), .call (.c (.fn 17 [])) [(.t 65), (.t 66)], (some (64, true)), [31, 32]⟩, ⟨(some 70), .call (.c (.fn 18 [])) [(.t 68), (.t 69)], (some (64, true)), []⟩, ⟨(some 71), .eqb false (.t 67) (.t 70), (some (64, true)), []⟩, o 72 (.pick (.t 64) (.t 71) (.c (.bool false))), o 73 (.mv (.t 72)), ⟨(some 74), .ldN 8 (.t 2), (some (73, true)), []⟩, ⟨(some 75), .ldN 8 (.t 2), (some (73, true)), []⟩, ⟨(some 76), .call (.c (.fn 17 [])) [(.t 74), (.t 75)], (some (73, true)), []⟩, o 77 (.pick (.t 73) (.t 76) (.c (.bool false))), o 4 (.mv (.t 77))] none
def c3 : AFunc := ⟨2, 78, [.tmp 4],
 (.seq (g [o 2 (.box (.t 0)), o 3 (.box (.t 1)), o 4 (.mv (.c (.bool false)))])
 (.seq (.seq (g [o 13 (.ldN 8 (.t 2)), o 14 (.call (.c (.fn 11 [])) [(.t 13)]), o 15 (.un .not (.t 14)), o 16 (.mv (.t 15)), ⟨(some 17), .ldN 8 (.t 3), (some (16, false)), []⟩, ⟨(some 18), .call (.c (.fn 11 [])) [(.t 17)], (some (16, false)), []⟩, ⟨(some 19), .un .not (.t 18), (some (16, false)), []⟩, o 20 (.pick (.t 16) (.c (.bool true)) (.t 19))])
 (.cond (.t 20) (.seq (g [o 21 (.call (.c (.fn 12 [])) []), o 4 (.mv (.t 21))])
 .ret)
 .skip))
 (.seq (g [o 23 (.ldN 8 (.t 2)), o 24 (.call (.c (.fn 13 [])) [(.t 23)]), o 22 (.mv (.t 24)), o 25 (.ext (.t 22) 0), o 26 (.ext (.t 22) 1), o 27 (.ext (.t 22) 2), o 28 (.ext (.t 22) 3), o 5 (.mv (.t 25)), o 6 (.mv (.t 26)), o 7 (.mv (.t 27)), o 8 (.mv (.t 28))])
 (.seq (g [o 30 (.ldN 8 (.t 2)), o 31 (.call (.c (.fn 14 [])) [(.t 30)]), o 29 (.mv (.t 31)), o 32 (.ext (.t 29) 0), o 33 (.ext (.t 29) 1), o 34 (.ext (.t 29) 2), o 35 (.ext (.t 29) 3), o 9 (.mv (.t 32)), o 10 (.mv (.t 33)), o 11 (.mv (.t 34)), o 12 (.mv (.t 35))])
 (.seq v3_0
 .ret)))))⟩

def c4 : AFunc := ⟨2, 46, [.tmp 4],
 (.seq (g [o 2 (.box (.t 0)), o 3 (.box (.t 1)), o 4 (.mv (.c (.bool false)))])
 (.seq (.seq (g [o 9 (.ldN 8 (.t 2)), o 10 (.call (.c (.fn 11 [])) [(.t 9)]), o 11 (.un .not (.t 10))])
 (.cond (.t 11) (.seq (g [o 12 (.call (.c (.fn 12 [])) []), o 4 (.mv (.t 12))])
 .ret)
 .skip))
 (.seq (g [o 14 (.ldN 8 (.t 2)), o 15 (.fa (.t 3) 0), o 16 (.ld1 (.t 15)), o 17 (.fa (.t 3) 1), o 18 (.ld1 (.t 17)), o 19 (.fa (.t 3) 2), o 20 (.ldN 5 (.t 19)), o 21 (.call (.c (.fn 19 [])) [(.t 14), (.t 16), (.t 18), (.t 20)]), o 13 (.mv (.t 21)), o 22 (.ext (.t 13) 0), o 23 (.ext (.t 13) 1), o 5 (.mv (.t 22)), o 6 (.mv (.t 23))])
 (.seq (g [o 25 (.ldN 8 (.t 2)), o 26 (.fa (.t 3) 0), o 27 (.ld1 (.t 26)), o 28 (.fa (.t 3) 1), o 29 (.ld1 (.t 28)), o 30 (.fa (.t 3) 2), o 31 (.ldN 5 (.t 30)), o 32 (.call (.c (.fn 20 [])) [(.t 25), (.t 27), (.t 29), (.t 31)]), o 24 (.mv (.t 32)), o 33 (.ext (.t 24) 0), o 34 (.ext (.t 24) 1), o 7 (.mv (.t 33)), o 8 (.mv (.t 34))])
 (.seq (g [o 35 (.call (.c (.fn 12 [])) []), o 36 (.mv (.t 35)), ⟨(some 37), .mv (.t 5), (some (36, true)), []⟩, ⟨(some 38), .mv (.t 7), (some (36, true)), []⟩, ⟨(some 39), .bin .eql (.t 37) (.t 38), (some (36, true)), []⟩, o 40 (.pick (.t 36) (.t 39) (.c (.bool false))), o 41 (.mv (.t 40)), ⟨(some 42), .mv (.t 6), (some (41, true)), []⟩, ⟨(some 43), .mv (.t 8), (some (41, true)), []⟩, ⟨(some 44), .bin .eql (.t 42) (.t 43), (some (41, true)), []⟩, o 45 (.pick (.t 41) (.t 44) (.c (.bool false))), o 4 (.mv (.t 45))])
 .ret)))))⟩

def c5 : AFunc := ⟨3, 50, [.tmp 6],
 (.seq (g [o 3 (.box (.t 0)), o 6 (.mv (.c (.bool false)))])
 (.seq (.seq (g [o 11 (.ldN 8 (.t 3)), o 12 (.call (.c (.fn 11 [])) [(.t 11)]), o 13 (.un .not (.t 12)), o 14 (.mv (.t 13)), ⟨(some 15), .mv (.t 1), (some (14, false)), []⟩, ⟨(some 16), .lenS (.t 15), (some (14, false)), []⟩, ⟨(some 17), .bin .gtr (.t 16) (.c (i 20)), (some (14, false)), []⟩, o 18 (.pick (.t 14) (.c (.bool true)) (.t 17)), o 19 (.mv (.t 18)), ⟨(some 20), .mv (.t 2), (some (19, false)), []⟩, ⟨(some 21), .lenS (.t 20), (some (19, false)), []⟩, ⟨(some 22), .bin .gtr (.t 21) (.c (i 20)), (some (19, false)), []⟩, o 23 (.pick (.t 19) (.c (.bool true)) (.t 22))])
 (.cond (.t 23) (.seq (g [o 24 (.call (.c (.fn 12 [])) []), o 6 (.mv (.t 24))])
 .ret)
 .skip))
 (.seq (g [o 26 (.ldN 8 (.t 3)), o 27 (.mv (.t 1)), o 28 (.mv (.t 2)), o 29 (.call (.c (.fn 21 [])) [(.t 26), (.t 27), (.t 28)]), o 25 (.mv (.t 29)), o 30 (.ext (.t 25) 0), o 31 (.ext (.t 25) 1), o 7 (.mv (.t 30)), o 8 (.mv (.t 31))])
 (.seq (g [o 33 (.ldN 8 (.t 3)), o 34 (.mv (.t 1)), o 35 (.mv (.t 2)), o 36 (.call (.c (.fn 22 [])) [(.t 33), (.t 34), (.t 35)]), o 32 (.mv (.t 36)), o 37 (.ext (.t 32) 0), o 38 (.ext (.t 32) 1), o 9 (.mv (.t 37)), o 10 (.mv (.t 38))])
 (.seq (g [o 39 (.call (.c (.fn 12 [])) []), o 40 (.mv (.t 39)), ⟨(some 41), .mv (.t 7), (some (40, true)), []⟩, ⟨(some 42), .mv (.t 9), (some (40, true)), []⟩, ⟨(some 43), .call (.c (.fn 23 [])) [(.t 41), (.t 42)], (some (40, true)), []⟩, o 44 (.pick (.t 40) (.t 43) (.c (.bool false))), o 45 (.mv (.t 44)), ⟨(some 46), .mv (.t 8), (some (45, true)), []⟩, ⟨(some 47), .mv (.t 10), (some (45, true)), []⟩, ⟨(some 48), .bin .eql (.t 46) (.t 47), (some (45, true)), []⟩, o 49 (.pick (.t 45) (.t 48) (.c (.bool false))), o 6 (.mv (.t 49))])
 .ret)))))⟩

def c6 : AFunc := ⟨2, 42, [.tmp 4],
 (.seq (g [o 2 (.box (.t 0)), o 3 (.box (.t 1)), o 4 (.mv (.c (.bool false)))])
 (.seq (.seq (g [o 9 (.ldN 10 (.t 2)), o 10 (.call (.c (.fn 24 [])) [(.t 9)]), o 11 (.un .not (.t 10)), o 12 (.mv (.t 11)), ⟨(some 13), .fa (.t 3) 0, (some (12, false)), []⟩, ⟨(some 14), .ld1 (.t 13), (some (12, false)), []⟩, ⟨(some 15), .lenS (.t 14), (some (12, false)), []⟩, ⟨(some 16), .bin .gtr (.t 15) (.c (i 2000)), (some (12, false)), []⟩, o 17 (.pick (.t 12) (.c (.bool true)) (.t 16))])
 (.cond (.t 17) (.seq (g [o 18 (.call (.c (.fn 12 [])) []), o 4 (.mv (.t 18))])
 .ret)
 .skip))
 (.seq (g [o 20 (.ldN 10 (.t 2)), o 21 (.ldN 1 (.t 3)), o 22 (.call (.c (.fn 25 [])) [(.t 20), (.t 21)]), o 19 (.mv (.t 22)), o 23 (.ext (.t 19) 0), o 24 (.ext (.t 19) 1), o 5 (.alloc [i 0, i 0, i 0, i 0, .nils, .nils, .nils, .nils]), e (.st 8 (.t 5) (.t 23)), o 6 (.mv (.t 24))])
 (.seq (g [o 26 (.ldN 10 (.t 2)), o 27 (.ldN 1 (.t 3)), o 28 (.call (.c (.fn 26 [])) [(.t 26), (.t 27)]), o 25 (.mv (.t 28)), o 29 (.ext (.t 25) 0), o 30 (.ext (.t 25) 1), o 7 (.alloc [i 0, i 0, i 0, i 0, .nils, .nils, .nils, .nils]), e (.st 8 (.t 7) (.t 29)), o 8 (.mv (.t 30))])
 (.seq (g [o 31 (.call (.c (.fn 12 [])) []), o 32 (.mv (.t 31)), ⟨(some 33), .ldN 8 (.t 5), (some (32, true)), []⟩, ⟨(some 34), .ldN 8 (.t 7), (some (32, true)), []⟩, ⟨(some 35), .call (.c (.fn 18 [])) [(.t 33), (.t 34)], (some (32, true)), []⟩, o 36 (.pick (.t 32) (.t 35) (.c (.bool false))), o 37 (.mv (.t 36)), ⟨(some 38), .mv (.t 6), (some (37, true)), []⟩, ⟨(some 39), .mv (.t 8), (some (37, true)), []⟩, ⟨(some 40), .bin .eql (.t 38) (.t 39), (some (37, true)), []⟩, o 41 (.pick (.t 37) (.t 40) (.c (.bool false))), o 4 (.mv (.t 41))])
 .ret)))))⟩

def v7_0 : AC := .dreg [0, 1, 2, 3, 4, 6, 7, 8, 5, 9, 10, 11, 12] [o 22 (.call (.c (.fn 12 [])) []), o 23 (.mv (.t 22)), ⟨(some 24), .ldN 8 (.t 3), (some (23, true)), []⟩, ⟨(some 25), .ldN 10 (.t 4), (some (23, true)), []⟩, ⟨(some 26), .ldN 1 (.t 5), (some (23, true)), []⟩, ⟨(some 28), .ldN 8 (.t 3), (some (23, true)), []⟩, ⟨(some 29), .ldN 10 (.t 4), (some (23, true)), []⟩, ⟨(some 30), .ldN 1 (.t 5), (some (23, true)), []⟩, ⟨(some 27), .call (.c (.fn 27 [])) [(.t 24), (.t 25), (.t 26)], (some (23, true)), [5, 6, 7]⟩, ⟨(some 31), .call (.c (.fn 28 [])) [(.t 28), (.t 29), (.t 30)], (some (23, true)), []⟩, ⟨(some 32), .bin .eql (.t 27) (.t 31), (some (23, true)), []⟩, o 33 (.pick (.t 23) (.t 32) (.c (.bool false))), o 6 (.mv (.t 33))] none
def c7 : AFunc := ⟨3, 34, [.tmp 6],
 (.seq (g [o 3 (.box (.t 0)), o 4 (.box (.t 1)), o 5 (.box (.t 2)), o 6 (.mv (.c (.bool false)))])
 (.seq (.seq (g [o 7 (.ldN 8 (.t 3)), o 8 (.call (.c (.fn 11 [])) [(.t 7)]), o 9 (.un .not (.t 8)), o 10 (.mv (.t 9)), ⟨(some 11), .ldN 10 (.t 4), (some (10, false)), []⟩, ⟨(some 12), .call (.c (.fn 24 [])) [(.t 11)], (some (10, false)), []⟩, ⟨(some 13), .un .not (.t 12), (some (10, false)), []⟩, o 14 (.pick (.t 10) (.c (.bool true)) (.t 13)), o 15 (.mv (.t 14)), ⟨(some 16), .fa (.t 5) 0, (some (15, false)), []⟩, ⟨(some 17), .ld1 (.t 16), (some (15, false)), []⟩, ⟨(some 18), .lenS (.t 17), (some (15, false)), []⟩, ⟨(some 19), .bin .gtr (.t 18) (.c (i 2000)), (some (15, false)), []⟩, o 20 (.pick (.t 15) (.c (.bool true)) (.t 19))])
 (.cond (.t 20) (.seq (g [o 21 (.call (.c (.fn 12 [])) []), o 6 (.mv (.t 21))])
 .ret)
 .skip))
 (.seq v7_0
 .ret)))⟩

def v8_0 : AC := .dreg [0, 1, 2, 3, 4, 5, 6, 7, 8, 9, 10, 11, 12, 13, 14, 15, 16] [o 85 (.ldN 8 (.t 6)), o 86 (.fa (.t 2) 0), o 87 (.fa (.t 86) 3), o 88 (.ld1 (.t 87)), o 89 (.fa (.t 14) 0), o 90 (.ld1 (.t 89)), o 91 (.ixS 3 (.t 88) (.t 90)), o 92 (.fa (.t 91) 0), o 93 (.ld1 (.t 92)), o 94 (.fa (.t 14) 1), o 95 (.ld1 (.t 94)), o 96 (.call (.c (.fn 21 [])) [(.t 85), (.t 93), (.t 95)]), o 84 (.mv (.t 96)), o 97 (.ext (.t 84) 0), o 98 (.ext (.t 84) 1), o 15 (.mv (.t 97)), o 16 (.mv (.t 98))] none
def v8_1 : AC := .dreg [0, 1, 2, 3, 4, 5, 6, 7, 8, 9, 10, 11, 12, 13, 14, 15, 16, 17, 18, 19, 20, 21, 22, 23, 24, 25, 26, 27, 28, 29, 30, 31, 32, 33, 34, 35, 36, 37, 38, 39, 40, 41, 42, 43, 44, 45, 46, 47, 48, 49, 50, 51, 52, 53, 54, 55, 56, 57] [o 129 (.mv (.t 17)), o 130 (.fa (.t 6) 7), o 131 (.ld1 (.t 130)), o 132 (.lenS (.t 131)), o 133 (.bin .geq (.t 129) (.t 132)), o 134 (.mv (.t 133)), ⟨(some 135), .mv (.t 19), (some (134, false)), []⟩, ⟨(some 136), .fa (.t 6) 7, (some (134, false)), []⟩, ⟨(some 137), .ld1 (.t 136), (some (134, false)), []⟩, ⟨(some 138), .mv (.t 17), (some (134, false)), []⟩, ⟨(some 139), .ixS 1 (.t 137) (.t 138), (some (134, false)), []⟩, ⟨(some 140), .ld1 (.t 139), (some (134, false)), []⟩, ⟨(some 141), .lenS (.t 140), (some (134, false)), []⟩, ⟨(some 142), .bin .geq (.t 135) (.t 141), (some (134, false)), []⟩, o 143 (.pick (.t 134) (.c (.bool true)) (.t 142)), o 144 (.mv (.t 143)), ⟨(some 145), .mv (.t 20), (some (144, false)), []⟩, ⟨(some 146), .bin .lss (.t 145) (.c (i 0)), (some (144, false)), []⟩, o 147 (.pick (.t 144) (.c (.bool true)) (.t 146)), o 148 (.mv (.t 147)), ⟨(some 149), .mv (.t 20), (some (148, false)), []⟩, ⟨(some 150), .fa (.t 6) 7, (some (148, false)), []⟩, ⟨(some 151), .ld1 (.t 150), (some (148, false)), []⟩, ⟨(some 152), .mv (.t 17), (some (148, false)), []⟩, ⟨(some 153), .ixS 1 (.t 151) (.t 152), (some (148, false)), []⟩, ⟨(some 154), .ld1 (.t 153), (some (148, false)), []⟩, ⟨(some 155), .mv (.t 19), (some (148, false)), []⟩, ⟨(some 156), .ixS 1 (.t 154) (.t 155), (some (148, false)), []⟩, ⟨(some 157), .ld1 (.t 156), (some (148, false)), []⟩, ⟨(some 158), .lenS (.t 157), (some (148, false)), []⟩, ⟨(some 159), .bin .geq (.t 149) (.t 158), (some (148, false)), []⟩, o 160 (.pick (.t 148) (.c (.bool true)) (.t 159)), o 161 (.mv (.t 160)), ⟨(some 162), .fa (.t 6) 7, (some (161, false)), []⟩, ⟨(some 163), .ld1 (.t 162), (some (161, false)), []⟩, ⟨(some 164), .mv (.t 17), (some (161, false)), []⟩, ⟨(some 165), .ixS 1 (.t 163) (.t 164), (some (161, false)), []⟩, ⟨(some 166), .ld1 (.t 165), (some (161, false)), []⟩, ⟨(some 167), .mv (.t 19), (some (161, false)), []⟩, ⟨(some 168), .ixS 1 (.t 166) (.t 167), (some (161, false)), []⟩, ⟨(some 169), .ld1 (.t 168), (some (161, false)), []⟩, ⟨(some 170), .mv (.t 20), (some (161, false)), []⟩, ⟨(some 171), .ixS 1 (.t 169) (.t 170), (some (161, false)), []⟩, ⟨(some 172), .ld1 (.t 171), (some (161, false)), []⟩, ⟨(some 173), .fa (.t 3) 0, (some (161, false)), []⟩, ⟨(some 174), .ld1 (.t 173), (some (161, false)), []⟩, ⟨(some 175), .fa (.t 14) 2, (some (161, false)), []⟩, ⟨(some 176), .ld1 (.t 175), (some (161, false)), []⟩, ⟨(some 177), .mv (.t 17), (some (161, false)), []⟩, ⟨(some 178), .ixS 1 (.t 176) (.t 177), (some (161, false)), []⟩, ⟨(some 179), .ld1 (.t 178), (some (161, false)), []⟩, ⟨(some 180), .mv (.t 19), (some (161, false)), []⟩, ⟨(some 181), .ixS 1 (.t 179) (.t 180), (some (161, false)), []⟩, ⟨(some 182), .ld1 (.t 181), (some (161, false)), []⟩, ⟨(some 183), .ixS 1 (.t 174) (.t 182), (some (161, false)), []⟩, ⟨(some 184), .ld1 (.t 183), (some (161, false)), []⟩, ⟨(some 185), .bin .neq (.t 172) (.t 184), (some (161, false)), []⟩, o 186 (.pick (.t 161) (.c (.bool true)) (.t 185))] none
def w8_0 : AC := .loop [2, 3, 5, 6, 14, 17, 78, 79, 80, 109, 110, 111, 122, 123, 124]
 (.seq (g [o 125 (.bin .lss (.t 124) (.t 123))])
 (.seq (.cond (.t 125) .skip
 (.exit 4))
 (.seq (.block 5 (.seq (g [o 126 (.mv (.t 124)), o 127 (.ixS 1 (.t 122) (.t 124)), o 128 (.ld1 (.t 127)), o 19 (.mv (.t 126)), o 20 (.mv (.t 128))])
 (.seq v8_1
 (.cond (.t 186) (.seq (g [o 4 (.mv (.c (.bool false)))])
 .ret)
 .skip))))
 (g [o 187 (.bin .add (.t 124) (.c (i 1))), o 124 (.mv (.t 187))]))))
def w8_1 : AC := .loop [2, 3, 5, 6, 14, 78, 79, 80, 109, 110, 111]
 (.seq (g [o 112 (.bin .lss (.t 111) (.t 110))])
 (.seq (.cond (.t 112) .skip
 (.exit 2))
 (.seq (.block 3 (.seq (g [o 113 (.mv (.t 111)), o 114 (.ixS 1 (.t 109) (.t 111)), o 115 (.ld1 (.t 114)), o 17 (.mv (.t 113)), o 18 (.mv (.t 115))])
 (.seq (.seq (g [o 116 (.mv (.t 18)), o 117 (.lenS (.t 116)), o 118 (.fa (.t 5) 7), o 119 (.fa (.t 118) 0), o 120 (.ld1 (.t 119)), o 121 (.bin .neq (.t 117) (.t 120))])
 (.cond (.t 121) (.seq (g [o 4 (.mv (.c (.bool false)))])
 .ret)
 .skip))
 (.seq (g [o 122 (.mv (.t 18)), o 123 (.lenS (.t 122)), o 124 (.mv (.c (i 0)))])
 (.block 4 w8_0)))))
 (g [o 188 (.bin .add (.t 111) (.c (i 1))), o 111 (.mv (.t 188))]))))
def w8_2 : AC := .loop [2, 3, 5, 6, 78, 79, 80]
 (.seq (g [o 81 (.bin .lss (.t 80) (.t 79))])
 (.seq (.cond (.t 81) .skip
 (.exit 0))
 (.seq (.block 1 (.seq (g [o 82 (.ixS 3 (.t 78) (.t 80)), o 83 (.ldN 3 (.t 82)), o 14 (.alloc [i 0, .nils, .nils]), e (.st 3 (.t 14) (.t 83))])
 (.seq v8_0
 (.seq (.seq (g [o 99 (.mv (.t 16)), o 100 (.bin .neq (.t 99) (.c (i 0))), o 101 (.mv (.t 100)), ⟨(some 102), .mv (.t 15), (some (101, false)), []⟩, ⟨(some 103), .lenS (.t 102), (some (101, false)), []⟩, ⟨(some 104), .fa (.t 2) 6, (some (101, false)), []⟩, ⟨(some 105), .ld1 (.t 104), (some (101, false)), []⟩, ⟨(some 106), .bin .add (.t 105) (.c (i 1)), (some (101, false)), []⟩, ⟨(some 107), .bin .neq (.t 103) (.t 106), (some (101, false)), []⟩, o 108 (.pick (.t 101) (.c (.bool true)) (.t 107))])
 (.cond (.t 108) (.seq (g [o 4 (.mv (.c (.bool false)))])
 .ret)
 .skip))
 (.seq (g [o 109 (.mv (.t 15)), o 110 (.lenS (.t 109)), o 111 (.mv (.c (i 0)))])
 (.block 2 w8_1))))))
 (g [o 189 (.bin .add (.t 80) (.c (i 1))), o 80 (.mv (.t 189))]))))
def c8 : AFunc := ⟨2, 191, [.tmp 4],
 (.seq (g [o 2 (.box (.t 0)), o 3 (.box (.t 1)), o 4 (.mv (.c (.bool false)))])
 (.seq (g [o 22 (.ldN 7 (.t 2)), o 23 (.ldN 1 (.t 3)), o 24 (.call (.c (.fn 29 [])) [(.t 22), (.t 23)]), o 21 (.mv (.t 24)), o 25 (.ext (.t 21) 0), o 26 (.ext (.t 21) 1), o 27 (.ext (.t 21) 2), o 28 (.ext (.t 21) 3), o 5 (.alloc [i 0, i 0, i 0, .nils, i 0, .nils, i 0, i 0, .nils, .nils]), o 6 (.alloc [i 0, i 0, i 0, i 0, .nils, .nils, .nils, .nils]), e (.st 10 (.t 5) (.t 25)), e (.st 8 (.t 6) (.t 26)), o 7 (.mv (.t 27)), o 8 (.mv (.t 28))])
 (.seq (.seq (g [o 29 (.mv (.t 7)), o 30 (.un .not (.t 29)), o 31 (.mv (.t 30)), ⟨(some 32), .mv (.t 8), (some (31, false)), []⟩, ⟨(some 33), .bin .neq (.t 32) (.c (i 0)), (some (31, false)), []⟩, o 34 (.pick (.t 31) (.c (.bool true)) (.t 33))])
 (.cond (.t 34) (.seq (g [o 35 (.mv (.t 7)), o 36 (.un .not (.t 35)), o 37 (.mv (.t 36)), ⟨(some 38), .call (.c (.fn 12 [])) [], (some (37, true)), []⟩, o 39 (.pick (.t 37) (.t 38) (.c (.bool false))), o 4 (.mv (.t 39))])
 .ret)
 .skip))
 (.seq (g [o 41 (.ldN 8 (.t 6)), o 42 (.call (.c (.fn 13 [])) [(.t 41)]), o 40 (.mv (.t 42)), o 43 (.ext (.t 40) 0), o 44 (.ext (.t 40) 1), o 45 (.ext (.t 40) 2), o 46 (.ext (.t 40) 3), o 9 (.mv (.t 43)), o 10 (.mv (.t 44)), o 11 (.mv (.t 45)), o 12 (.mv (.t 46))])
 (.seq (.seq (g [o 47 (.mv (.t 12)), o 48 (.bin .neq (.t 47) (.c (i 0))), o 49 (.mv (.t 48)), ⟨(some 50), .ldN 8 (.t 6), (some (49, false)), []⟩, ⟨(some 51), .call (.c (.fn 15 [])) [(.t 50)], (some (49, false)), []⟩, ⟨(some 52), .bin .neq (.t 51) (.c (i 0)), (some (49, false)), []⟩, o 53 (.pick (.t 49) (.c (.bool true)) (.t 52)), o 54 (.mv (.t 53)), ⟨(some 55), .ldN 8 (.t 6), (some (54, false)), []⟩, ⟨(some 56), .ldN 10 (.t 5), (some (54, false)), []⟩, ⟨(some 57), .ldN 1 (.t 3), (some (54, false)), []⟩, ⟨(some 58), .call (.c (.fn 27 [])) [(.t 55), (.t 56), (.t 57)], (some (54, false)), []⟩, ⟨(some 59), .bin .neq (.t 58) (.c (i 0)), (some (54, false)), []⟩, o 60 (.pick (.t 54) (.c (.bool true)) (.t 59)), o 61 (.mv (.t 60)), ⟨(some 62), .mv (.t 9), (some (61, false)), []⟩, ⟨(some 63), .fa (.t 5) 7, (some (61, false)), []⟩, ⟨(some 64), .fa (.t 63) 1, (some (61, false)), []⟩, ⟨(some 65), .ld1 (.t 64), (some (61, false)), []⟩, ⟨(some 66), .lenS (.t 65), (some (61, false)), []⟩, ⟨(some 67), .bin .gtr (.t 62) (.t 66), (some (61, false)), []⟩, o 68 (.pick (.t 61) (.c (.bool true)) (.t 67)), o 69 (.mv (.t 68)), ⟨(some 70), .mv (.t 11), (some (69, false)), []⟩, ⟨(some 71), .fa (.t 5) 7, (some (69, false)), []⟩, ⟨(some 72), .fa (.t 71) 1, (some (69, false)), []⟩, ⟨(some 73), .ld1 (.t 72), (some (69, false)), []⟩, ⟨(some 74), .lenS (.t 73), (some (69, false)), []⟩, ⟨(some 75), .bin .gtr (.t 70) (.t 74), (some (69, false)), []⟩, o 76 (.pick (.t 69) (.c (.bool true)) (.t 75))])
 (.cond (.t 76) (.seq (g [o 4 (.mv (.c (.bool false)))])
 .ret)
 .skip))
 (.seq (.seq (g [o 77 (.fa (.t 5) 9), o 78 (.ld1 (.t 77)), o 79 (.lenS (.t 78)), o 80 (.mv (.c (i 0)))])
 (.block 0 w8_2))
 (.seq (g [o 190 (.call (.c (.fn 12 [])) []), o 4 (.mv (.t 190))])
 .ret)))))))⟩

def v9_0 : AC := .dreg [0, 1, 2, 3, 4, 5, 6, 7, 8, 9, 10, 11, 12, 13, 14, 15] [o 73 (.ixA 4 1 (.t 5) (.c (i 0))), o 74 (.ld1 (.t 73)), o 75 (.conv .i64 (.t 74)), o 76 (.fa (.t 3) 6), o 77 (.ld1 (.t 76)), o 78 (.bin .add (.t 77) (.c (i 1))), o 79 (.bin .rem (.t 75) (.t 78)), o 80 (.ixA 4 1 (.t 5) (.c (i 1))), o 81 (.ld1 (.t 80)), o 82 (.conv .i64 (.t 81)), o 83 (.fa (.t 3) 0), o 84 (.fa (.t 83) 0), o 85 (.ld1 (.t 84)), o 86 (.bin .rem (.t 82) (.t 85)), o 11 (.mv (.t 79)), o 12 (.mv (.t 86))] none
def v9_1 : AC := .dreg [0, 1, 2, 3, 4, 5, 6, 7, 8, 9, 10, 11, 12, 13] [o 98 (.ixA 4 1 (.t 5) (.c (i 2))), o 99 (.ld1 (.t 98)), o 100 (.conv .i64 (.t 99)), o 101 (.mv (.t 13)), o 102 (.bin .rem (.t 100) (.t 101)), o 103 (.ixA 4 1 (.t 5) (.c (i 3))), o 104 (.ld1 (.t 103)), o 105 (.conv .i64 (.t 104)), o 106 (.mv (.t 13)), o 107 (.bin .rem (.t 105) (.t 106)), o 14 (.alloc [i 0]), o 15 (.alloc [i 0]), ⟨none, .st 1 (.t 14) (.t 102), none, [6]⟩, e (.st 1 (.t 15) (.t 107))] none
def v9_2 : AC := .dreg [0, 1, 2, 3, 4, 5, 6, 7, 8, 9, 10, 11, 12, 13, 14, 15, 16, 17, 18, 19, 20, 21, 22, 23, 24, 25, 26, 27, 28, 29, 30, 31, 32, 33, 34, 35, 36, 37, 38, 39, 40, 41, 42, 43] [o 111 (.fa (.t 17) 7), o 112 (.ld1 (.t 111)), o 113 (.mv (.t 11)), o 114 (.ixS 1 (.t 112) (.t 113)), o 115 (.ld1 (.t 114)), o 116 (.mv (.t 12)), o 117 (.ixS 1 (.t 115) (.t 116)), o 118 (.ld1 (.t 117)), o 119 (.ld1 (.t 14)), o 120 (.fa (.t 17) 7), o 121 (.ld1 (.t 120)), o 122 (.mv (.t 11)), o 123 (.ixS 1 (.t 121) (.t 122)), o 124 (.ld1 (.t 123)), o 125 (.mv (.t 12)), o 126 (.ixS 1 (.t 124) (.t 125)), o 127 (.ld1 (.t 126)), o 128 (.ld1 (.t 15)), o 129 (.fa (.t 17) 7), o 130 (.ld1 (.t 129)), o 131 (.mv (.t 11)), o 132 (.ixS 1 (.t 130) (.t 131)), o 133 (.ld1 (.t 132)), o 134 (.mv (.t 12)), o 135 (.ixS 1 (.t 133) (.t 134)), o 136 (.ld1 (.t 135)), o 137 (.ld1 (.t 15)), o 138 (.ixS 1 (.t 136) (.t 137)), o 139 (.ld1 (.t 138)), o 140 (.fa (.t 17) 7), o 141 (.ld1 (.t 140)), o 142 (.mv (.t 11)), o 143 (.ixS 1 (.t 141) (.t 142)), o 144 (.ld1 (.t 143)), o 145 (.mv (.t 12)), o 146 (.ixS 1 (.t 144) (.t 145)), o 147 (.ld1 (.t 146)), o 148 (.ld1 (.t 14)), o 149 (.ixS 1 (.t 147) (.t 148)), o 150 (.ld1 (.t 149)), o 151 (.ixS 1 (.t 118) (.t 119)), ⟨none, .st 1 (.t 151) (.t 139), none, [17]⟩, o 152 (.ixS 1 (.t 127) (.t 128)), e (.st 1 (.t 152) (.t 150))] none
def w9_0 : AC := .loop [4, 7, 8, 11, 12, 13, 14, 15, 16, 17, 18, 19, 156, 157, 158, 166, 167]
 (.seq (g [o 168 (.bin .lss (.t 167) (.t 166))])
 (.seq (.cond (.t 168) .skip
 (.exit 2))
 (.seq (.block 3 (.seq (g [o 169 (.mv (.t 167)), o 20 (.mv (.t 169))])
 (.seq (g [o 170 (.mv (.t 11)), o 171 (.bin .eql (.t 170) (.c (i 0))), o 172 (.mv (.t 171)), ⟨(some 173), .mv (.t 18), (some (172, true)), []⟩, ⟨(some 174), .mv (.t 12), (some (172, true)), []⟩, ⟨(some 175), .bin .eql (.t 173) (.t 174), (some (172, true)), []⟩, o 176 (.pick (.t 172) (.t 175) (.c (.bool false)))])
 (.cond (.t 176) (g [o 177 (.mv (.t 19)), o 178 (.mv (.t 20)), o 179 (.mv (.t 16)), o 180 (.mv (.t 19)), o 181 (.mv (.t 20)), o 182 (.ixS 1 (.t 180) (.t 181)), o 183 (.ld1 (.t 182)), o 184 (.call (.t 179) [(.t 183)]), o 185 (.ixS 1 (.t 177) (.t 178)), e (.st 1 (.t 185) (.t 184))])
 .skip))))
 (g [o 186 (.bin .add (.t 167) (.c (i 1))), o 167 (.mv (.t 186))]))))
def w9_1 : AC := .loop [4, 7, 8, 11, 12, 13, 14, 15, 16, 17, 156, 157, 158]
 (.seq (g [o 159 (.bin .lss (.t 158) (.t 157))])
 (.seq (.cond (.t 159) .skip
 (.exit 0))
 (.seq (.block 1 (.seq (g [o 160 (.mv (.t 158)), o 161 (.ixS 1 (.t 156) (.t 158)), o 162 (.ld1 (.t 161)), o 18 (.mv (.t 160)), o 19 (.mv (.t 162))])
 (.seq (g [o 163 (.mv (.t 19)), o 164 (.call (.c (.fn 32 [])) [(.t 163)]), o 19 (.mv (.t 164))])
 (.seq (.seq (g [o 165 (.mv (.t 19)), o 166 (.lenS (.t 165)), o 167 (.mv (.c (i 0)))])
 (.block 2 w9_0))
 (g [o 187 (.fa (.t 17) 4), o 188 (.ld1 (.t 187)), o 189 (.mv (.t 19)), o 190 (.bslice 1 [.nils] [(0, 1, (.t 189))]), o 191 (.app 1 24 (.t 188) (.t 190)), o 192 (.fa (.t 17) 4), e (.st 1 (.t 192) (.t 191))])))))
 (g [o 193 (.bin .add (.t 158) (.c (i 1))), o 158 (.mv (.t 193))]))))
def v9_3 : AC := .dreg [0, 1, 2, 3, 4, 5, 6, 7, 8, 9, 10, 11, 12, 13, 14, 15] [o 231 (.mv (.t 28)), o 232 (.ld1 (.t 14)), o 233 (.mv (.t 28)), o 234 (.ld1 (.t 15)), o 235 (.mv (.t 28)), o 236 (.ld1 (.t 15)), o 237 (.ixS 1 (.t 235) (.t 236)), o 238 (.ld1 (.t 237)), o 239 (.mv (.t 28)), o 240 (.ld1 (.t 14)), o 241 (.ixS 1 (.t 239) (.t 240)), o 242 (.ld1 (.t 241)), o 243 (.ixS 1 (.t 231) (.t 232)), ⟨none, .st 1 (.t 243) (.t 238), none, [3]⟩, o 244 (.ixS 1 (.t 233) (.t 234)), e (.st 1 (.t 244) (.t 242))] none
def w9_2 : AC := .loop [4, 7, 11, 12, 13, 14, 15, 16, 17, 21, 23, 24, 26, 195, 196, 197, 202, 203, 204, 209, 210, 211]
 (.seq (g [o 212 (.bin .lss (.t 211) (.t 210))])
 (.seq (.cond (.t 212) .skip
 (.exit 8))
 (.seq (.block 9 (.seq (g [o 213 (.ixS 1 (.t 209) (.t 211)), o 214 (.ld1 (.t 213)), o 28 (.mv (.t 214))])
 (.seq (g [o 215 (.mv (.t 28)), o 216 (.call (.c (.fn 32 [])) [(.t 215)]), o 28 (.mv (.t 216))])
 (.seq (.seq (g [o 217 (.mv (.t 21)), o 218 (.mv (.t 11)), o 219 (.bin .eql (.t 217) (.t 218)), o 220 (.mv (.t 219)), ⟨(some 221), .mv (.t 24), (some (220, true)), []⟩, ⟨(some 222), .mv (.t 12), (some (220, true)), []⟩, ⟨(some 223), .bin .eql (.t 221) (.t 222), (some (220, true)), []⟩, o 224 (.pick (.t 220) (.t 223) (.c (.bool false))), o 225 (.mv (.t 224)), ⟨(some 226), .mv (.t 28), (some (225, true)), []⟩, ⟨(some 227), .lenS (.t 226), (some (225, true)), []⟩, ⟨(some 228), .mv (.t 13), (some (225, true)), []⟩, ⟨(some 229), .bin .eql (.t 227) (.t 228), (some (225, true)), []⟩, o 230 (.pick (.t 225) (.t 229) (.c (.bool false)))])
 (.cond (.t 230) v9_3
 .skip))
 (g [o 245 (.mv (.t 26)), o 246 (.mv (.t 28)), o 247 (.bslice 1 [.nils] [(0, 1, (.t 246))]), o 248 (.app 1 24 (.t 245) (.t 247)), o 26 (.mv (.t 248))])))))
 (g [o 249 (.bin .add (.t 211) (.c (i 1))), o 211 (.mv (.t 249))]))))
def w9_3 : AC := .loop [4, 7, 11, 12, 13, 14, 15, 16, 17, 21, 23, 195, 196, 197, 202, 203, 204]
 (.seq (g [o 205 (.bin .lss (.t 204) (.t 203))])
 (.seq (.cond (.t 205) .skip
 (.exit 6))
 (.seq (.block 7 (.seq (g [o 206 (.mv (.t 204)), o 207 (.ixS 1 (.t 202) (.t 204)), o 208 (.ld1 (.t 207)), o 24 (.mv (.t 206)), o 25 (.mv (.t 208))])
 (.seq (g [o 26 (.mv (.c .nils))])
 (.seq (.seq (g [o 209 (.mv (.t 25)), o 210 (.lenS (.t 209)), o 211 (.mv (.c (i 0)))])
 (.block 8 w9_2))
 (g [o 250 (.mv (.t 23)), o 251 (.mv (.t 26)), o 252 (.bslice 1 [.nils] [(0, 1, (.t 251))]), o 253 (.app 1 24 (.t 250) (.t 252)), o 23 (.mv (.t 253))])))))
 (g [o 254 (.bin .add (.t 204) (.c (i 1))), o 204 (.mv (.t 254))]))))
def w9_4 : AC := .loop [4, 7, 11, 12, 13, 14, 15, 16, 17, 195, 196, 197]
 (.seq (g [o 198 (.bin .lss (.t 197) (.t 196))])
 (.seq (.cond (.t 198) .skip
 (.exit 4))
 (.seq (.block 5 (.seq (g [o 199 (.mv (.t 197)), o 200 (.ixS 1 (.t 195) (.t 197)), o 201 (.ld1 (.t 200)), o 21 (.mv (.t 199)), o 22 (.mv (.t 201))])
 (.seq (g [o 23 (.mv (.c .nils))])
 (.seq (.seq (g [o 202 (.mv (.t 22)), o 203 (.lenS (.t 202)), o 204 (.mv (.c (i 0)))])
 (.block 6 w9_3))
 (g [o 255 (.fa (.t 17) 5), o 256 (.ld1 (.t 255)), o 257 (.mv (.t 23)), o 258 (.bslice 1 [.nils] [(0, 1, (.t 257))]), o 259 (.app 1 24 (.t 256) (.t 258)), o 260 (.fa (.t 17) 5), e (.st 1 (.t 260) (.t 259))])))))
 (g [o 261 (.bin .add (.t 197) (.c (i 1))), o 197 (.mv (.t 261))]))))
def v9_4 : AC := .dreg [0, 1, 2, 3, 4, 5, 6, 7, 8, 10, 11, 9, 12, 13] [o 278 (.fa (.t 17) 6), o 279 (.ld1 (.t 278)), o 280 (.mv (.t 29)), o 281 (.mv (.t 12)), o 282 (.mv (.t 16)), o 283 (.mv (.t 12)), o 284 (.fa (.t 30) 2), o 285 (.ixA 5 1 (.t 284) (.t 283)), o 286 (.ld1 (.t 285)), o 288 (.ixS 8 (.t 279) (.t 280)), o 289 (.fa (.t 288) 2), ⟨(some 287), .call (.t 282) [(.t 286)], none, [1]⟩, o 290 (.ixA 5 1 (.t 289) (.t 281)), e (.st 1 (.t 290) (.t 287))] none
def v9_5 : AC := .dreg [0, 1, 2, 3, 4, 5, 6, 7, 8, 9] [o 296 (.fa (.t 17) 6), o 297 (.ld1 (.t 296)), o 298 (.mv (.t 29)), o 299 (.mv (.t 16)), o 300 (.fa (.t 30) 7), o 301 (.ld1 (.t 300)), ⟨(some 302), .call (.t 299) [(.t 301)], none, [1]⟩, o 303 (.ixS 8 (.t 297) (.t 298)), o 304 (.fa (.t 303) 7), e (.st 1 (.t 304) (.t 302))] none
def w9_5 : AC := .loop [4, 7, 11, 12, 16, 17, 263, 264, 265]
 (.seq (g [o 266 (.bin .lss (.t 265) (.t 264))])
 (.seq (.cond (.t 266) .skip
 (.exit 10))
 (.seq (.block 11 (.seq (g [o 267 (.mv (.t 265)), o 268 (.ixS 8 (.t 263) (.t 265)), o 269 (.ldN 8 (.t 268)), o 30 (.alloc [i 0, i 0, i 0, i 0, i 0, i 0, i 0, i 0]), o 29 (.mv (.t 267)), e (.st 8 (.t 30) (.t 269))])
 (.seq (.seq (g [o 270 (.fa (.t 30) 1), o 271 (.ld1 (.t 270)), o 272 (.mv (.t 12)), o 273 (.bin .neq (.t 271) (.t 272))])
 (.cond (.t 273) (.exit 11)
 .skip))
 (.seq (.seq (g [o 274 (.fa (.t 30) 0), o 275 (.ld1 (.t 274)), o 276 (.mv (.t 11)), o 277 (.bin .eql (.t 275) (.t 276))])
 (.cond (.t 277) v9_4
 .skip))
 (.seq (g [o 291 (.fa (.t 30) 0), o 292 (.ld1 (.t 291)), o 293 (.mv (.t 11)), o 294 (.bin .sub (.t 293) (.c (i 1))), o 295 (.bin .eql (.t 292) (.t 294))])
 (.cond (.t 295) v9_5
 .skip))))))
 (g [o 305 (.bin .add (.t 265) (.c (i 1))), o 265 (.mv (.t 305))]))))
def c9 : AFunc := ⟨3, 317, [.tmp 6],
 (.seq (g [o 3 (.box (.t 0)), o 4 (.box (.t 1)), o 5 (.box (.t 2)), o 6 (.mv (.c (.bool false)))])
 (.seq (g [o 32 (.ldN 7 (.t 3)), o 33 (.ldN 1 (.t 4)), o 34 (.call (.c (.fn 29 [])) [(.t 32), (.t 33)]), o 31 (.mv (.t 34)), o 35 (.ext (.t 31) 0), o 36 (.ext (.t 31) 1), o 37 (.ext (.t 31) 2), o 38 (.ext (.t 31) 3), o 7 (.alloc [i 0, i 0, i 0, .nils, i 0, .nils, i 0, i 0, .nils, .nils]), o 8 (.alloc [i 0, i 0, i 0, i 0, .nils, .nils, .nils, .nils]), e (.st 10 (.t 7) (.t 35)), e (.st 8 (.t 8) (.t 36)), o 9 (.mv (.t 37)), o 10 (.mv (.t 38))])
 (.seq (.seq (g [o 39 (.mv (.t 9)), o 40 (.un .not (.t 39)), o 41 (.mv (.t 40)), ⟨(some 42), .mv (.t 10), (some (41, false)), []⟩, ⟨(some 43), .bin .neq (.t 42) (.c (i 0)), (some (41, false)), []⟩, o 44 (.pick (.t 41) (.c (.bool true)) (.t 43))])
 (.cond (.t 44) (.seq (g [o 45 (.mv (.t 9)), o 46 (.un .not (.t 45)), o 47 (.mv (.t 46)), ⟨(some 48), .call (.c (.fn 12 [])) [], (some (47, true)), []⟩, o 49 (.pick (.t 47) (.t 48) (.c (.bool false))), o 6 (.mv (.t 49))])
 .ret)
 .skip))
 (.seq (.seq (g [o 50 (.ldN 8 (.t 8)), o 51 (.call (.c (.fn 15 [])) [(.t 50)]), o 52 (.bin .neq (.t 51) (.c (i 0))), o 53 (.mv (.t 52)), ⟨(some 54), .ldN 8 (.t 8), (some (53, false)), []⟩, ⟨(some 55), .call (.c (.fn 16 [])) [(.t 54)], (some (53, false)), []⟩, ⟨(some 56), .bin .neq (.t 55) (.c (i 0)), (some (53, false)), []⟩, o 57 (.pick (.t 53) (.c (.bool true)) (.t 56)), o 58 (.mv (.t 57)), ⟨(some 59), .fa (.t 8) 1, (some (58, false)), []⟩, ⟨(some 60), .ld1 (.t 59), (some (58, false)), []⟩, ⟨(some 61), .fa (.t 3) 6, (some (58, false)), []⟩, ⟨(some 62), .ld1 (.t 61), (some (58, false)), []⟩, ⟨(some 63), .bin .neq (.t 60) (.t 62), (some (58, false)), []⟩, o 64 (.pick (.t 58) (.c (.bool true)) (.t 63)), o 65 (.mv (.t 64)), ⟨(some 66), .fa (.t 8) 0, (some (65, false)), []⟩, ⟨(some 67), .ld1 (.t 66), (some (65, false)), []⟩, ⟨(some 68), .fa (.t 3) 0, (some (65, false)), []⟩, ⟨(some 69), .fa (.t 68) 0, (some (65, false)), []⟩, ⟨(some 70), .ld1 (.t 69), (some (65, false)), []⟩, ⟨(some 71), .bin .neq (.t 67) (.t 70), (some (65, false)), []⟩, o 72 (.pick (.t 65) (.c (.bool true)) (.t 71))])
 (.cond (.t 72) (.seq (g [o 6 (.mv (.c (.bool false)))])
 .ret)
 .skip))
 (.seq v9_0
 (.seq (g [o 87 (.fa (.t 8) 7), o 88 (.ld1 (.t 87)), o 89 (.mv (.t 11)), o 90 (.ixS 1 (.t 88) (.t 89)), o 91 (.ld1 (.t 90)), o 92 (.mv (.t 12)), o 93 (.ixS 1 (.t 91) (.t 92)), o 94 (.ld1 (.t 93)), o 95 (.lenS (.t 94)), o 13 (.mv (.t 95))])
 (.seq (.seq (g [o 96 (.mv (.t 13)), o 97 (.bin .eql (.t 96) (.c (i 0)))])
 (.cond (.t 97) (.seq (g [o 6 (.mv (.c (.bool false)))])
 .ret)
 .skip))
 (.seq v9_1
 (.seq (g [o 108 (.mkfn 30 [(.t 14), (.t 15)]), o 16 (.mv (.t 108))])
 (.seq (g [o 109 (.ldN 8 (.t 8)), o 110 (.call (.c (.fn 31 [])) [(.t 109)]), o 17 (.alloc [i 0, i 0, i 0, i 0, .nils, .nils, .nils, .nils]), e (.st 8 (.t 17) (.t 110))])
 (.seq v9_2
 (.seq (g [o 153 (.fa (.t 17) 4), e (.st 1 (.t 153) (.c .nils)), o 154 (.fa (.t 17) 5), e (.st 1 (.t 154) (.c .nils))])
 (.seq (.seq (g [o 155 (.fa (.t 8) 4), o 156 (.ld1 (.t 155)), o 157 (.lenS (.t 156)), o 158 (.mv (.c (i 0)))])
 (.block 0 w9_1))
 (.seq (.seq (g [o 194 (.fa (.t 8) 5), o 195 (.ld1 (.t 194)), o 196 (.lenS (.t 195)), o 197 (.mv (.c (i 0)))])
 (.block 4 w9_4))
 (.seq (.seq (g [o 262 (.fa (.t 17) 6), o 263 (.ld1 (.t 262)), o 264 (.lenS (.t 263)), o 265 (.mv (.c (i 0)))])
 (.block 10 w9_5))
 (.seq (g [o 306 (.fa (.t 17) 6), o 307 (.ld1 (.t 306)), o 308 (.call (.c (.fn 33 [])) [(.t 307), (.c (.fn 34 []))])])
 (.seq (g [o 309 (.ldN 8 (.t 17)), o 310 (.ldN 10 (.t 7)), o 311 (.ldN 1 (.t 4)), o 312 (.call (.c (.fn 27 [])) [(.t 309), (.t 310), (.t 311)]), o 313 (.bin .eql (.t 312) (.c (i 0))), o 314 (.mv (.t 313)), ⟨(some 315), .call (.c (.fn 12 [])) [], (some (314, true)), []⟩, o 316 (.pick (.t 314) (.t 315) (.c (.bool false))), o 6 (.mv (.t 316))])
 .ret)))))))))))))))))⟩

def v10_0 : AC := .dreg [0, 1, 2, 3, 4, 5, 6, 7, 8, 9, 10, 11, 12, 13] [o 92 (.fa (.t 14) 7), o 93 (.ld1 (.t 92)), o 94 (.mv (.t 11)), o 95 (.ixS 1 (.t 93) (.t 94)), o 96 (.ld1 (.t 95)), o 97 (.mv (.t 12)), o 98 (.ixS 1 (.t 96) (.t 97)), o 99 (.ld1 (.t 98)), o 100 (.mv (.t 13)), o 101 (.ixS 1 (.t 99) (.t 100)), o 102 (.ld1 (.t 101)), o 103 (.fa (.t 8) 3), o 104 (.ld1 (.t 103)), o 105 (.bin .geq (.t 102) (.t 104))] none
def w10_0 : AC := .loop [4, 7, 8, 11, 12, 73, 74]
 (.seq (g [o 75 (.bin .lss (.t 74) (.t 73))])
 (.seq (.cond (.t 75) .skip
 (.exit 0))
 (.seq (.block 1 (.seq (g [o 76 (.mv (.t 74)), o 13 (.mv (.t 76))])
 (.seq (g [o 77 (.ldN 8 (.t 8)), o 78 (.call (.c (.fn 31 [])) [(.t 77)]), o 14 (.alloc [i 0, i 0, i 0, i 0, .nils, .nils, .nils, .nils]), e (.st 8 (.t 14) (.t 78))])
 (.seq (.seq (g [o 79 (.fa (.t 14) 7), o 80 (.ld1 (.t 79)), o 81 (.mv (.t 11)), o 82 (.ixS 1 (.t 80) (.t 81)), o 83 (.ld1 (.t 82)), o 84 (.mv (.t 12)), o 85 (.ixS 1 (.t 83) (.t 84)), o 86 (.ld1 (.t 85)), o 87 (.mv (.t 13)), o 88 (.ixS 1 (.t 86) (.t 87)), o 89 (.ld1 (.t 88)), o 90 (.bin .add (.t 89) (.c (i 1))), o 91 (.ixS 1 (.t 86) (.t 87)), e (.st 1 (.t 91) (.t 90))])
 (.seq v10_0
 (.cond (.t 105) (g [o 106 (.fa (.t 14) 7), o 107 (.ld1 (.t 106)), o 108 (.mv (.t 11)), o 109 (.ixS 1 (.t 107) (.t 108)), o 110 (.ld1 (.t 109)), o 111 (.mv (.t 12)), o 112 (.ixS 1 (.t 110) (.t 111)), o 113 (.ld1 (.t 112)), o 114 (.mv (.t 13)), o 115 (.ixS 1 (.t 113) (.t 114)), e (.st 1 (.t 115) (.c (j 0)))])
 .skip)))
 (.seq (g [o 116 (.ldN 8 (.t 14)), o 117 (.ldN 10 (.t 7)), o 118 (.ldN 1 (.t 4)), o 119 (.call (.c (.fn 27 [])) [(.t 116), (.t 117), (.t 118)]), o 120 (.bin .neq (.t 119) (.c (i 18)))])
 (.cond (.t 120) (.seq (g [o 6 (.mv (.c (.bool false)))])
 .ret)
 .skip))))))
 (g [o 121 (.bin .add (.t 74) (.c (i 1))), o 74 (.mv (.t 121))]))))
def w10_1 : AC := .loop [4, 7, 8, 125, 126]
 (.seq (g [o 127 (.bin .lss (.t 126) (.t 125))])
 (.seq (.cond (.t 127) .skip
 (.exit 2))
 (.seq (.block 3 (.seq (g [o 128 (.mv (.t 126)), o 15 (.mv (.t 128))])
 (.seq (g [o 129 (.ldN 8 (.t 8)), o 130 (.call (.c (.fn 31 [])) [(.t 129)]), o 16 (.alloc [i 0, i 0, i 0, i 0, .nils, .nils, .nils, .nils]), e (.st 8 (.t 16) (.t 130))])
 (.seq (g [o 131 (.fa (.t 16) 6), o 132 (.ld1 (.t 131)), o 133 (.mv (.t 15)), o 134 (.mv (.t 15)), o 135 (.bin .add (.t 134) (.c (i 1))), o 136 (.call (.c (.fn 35 [])) [(.t 132), (.t 133), (.t 135)]), o 137 (.fa (.t 16) 6), e (.st 1 (.t 137) (.t 136))])
 (.seq (g [o 138 (.ldN 8 (.t 16)), o 139 (.ldN 10 (.t 7)), o 140 (.ldN 1 (.t 4)), o 141 (.call (.c (.fn 27 [])) [(.t 138), (.t 139), (.t 140)]), o 142 (.bin .neq (.t 141) (.c (i 20)))])
 (.cond (.t 142) (.seq (g [o 6 (.mv (.c (.bool false)))])
 .ret)
 .skip))))))
 (g [o 143 (.bin .add (.t 126) (.c (i 1))), o 126 (.mv (.t 143))]))))
def c10 : AFunc := ⟨3, 145, [.tmp 6],
 (.seq (g [o 3 (.box (.t 0)), o 4 (.box (.t 1)), o 5 (.box (.t 2)), o 6 (.mv (.c (.bool false)))])
 (.seq (g [o 18 (.ldN 7 (.t 3)), o 19 (.ldN 1 (.t 4)), o 20 (.call (.c (.fn 29 [])) [(.t 18), (.t 19)]), o 17 (.mv (.t 20)), o 21 (.ext (.t 17) 0), o 22 (.ext (.t 17) 1), o 23 (.ext (.t 17) 2), o 24 (.ext (.t 17) 3), o 7 (.alloc [i 0, i 0, i 0, .nils, i 0, .nils, i 0, i 0, .nils, .nils]), o 8 (.alloc [i 0, i 0, i 0, i 0, .nils, .nils, .nils, .nils]), e (.st 10 (.t 7) (.t 21)), e (.st 8 (.t 8) (.t 22)), o 9 (.mv (.t 23)), o 10 (.mv (.t 24))])
 (.seq (.seq (g [o 25 (.mv (.t 9)), o 26 (.un .not (.t 25)), o 27 (.mv (.t 26)), ⟨(some 28), .mv (.t 10), (some (27, false)), []⟩, ⟨(some 29), .bin .neq (.t 28) (.c (i 0)), (some (27, false)), []⟩, o 30 (.pick (.t 27) (.c (.bool true)) (.t 29))])
 (.cond (.t 30) (.seq (g [o 31 (.mv (.t 9)), o 32 (.un .not (.t 31)), o 33 (.mv (.t 32)), ⟨(some 34), .call (.c (.fn 12 [])) [], (some (33, true)), []⟩, o 35 (.pick (.t 33) (.t 34) (.c (.bool false))), o 6 (.mv (.t 35))])
 .ret)
 .skip))
 (.seq (.seq (g [o 36 (.fa (.t 8) 7), o 37 (.ld1 (.t 36)), o 38 (.lenS (.t 37)), o 39 (.fa (.t 3) 6), o 40 (.ld1 (.t 39)), o 41 (.bin .add (.t 40) (.c (i 1))), o 42 (.bin .neq (.t 38) (.t 41))])
 (.cond (.t 42) (.seq (g [o 6 (.mv (.c (.bool false)))])
 .ret)
 .skip))
 (.seq (g [o 43 (.ixA 2 1 (.t 5) (.c (i 0))), o 44 (.ld1 (.t 43)), o 45 (.conv .i64 (.t 44)), o 46 (.fa (.t 8) 7), o 47 (.ld1 (.t 46)), o 48 (.lenS (.t 47)), o 49 (.bin .rem (.t 45) (.t 48)), o 11 (.mv (.t 49))])
 (.seq (g [o 50 (.ixA 2 1 (.t 5) (.c (i 1))), o 51 (.ld1 (.t 50)), o 52 (.conv .i64 (.t 51)), o 53 (.fa (.t 7) 7), o 54 (.fa (.t 53) 0), o 55 (.ld1 (.t 54)), o 56 (.bin .rem (.t 52) (.t 55)), o 12 (.mv (.t 56))])
 (.seq (.seq (g [o 57 (.mv (.t 12)), o 58 (.fa (.t 8) 7), o 59 (.ld1 (.t 58)), o 60 (.mv (.t 11)), o 61 (.ixS 1 (.t 59) (.t 60)), o 62 (.ld1 (.t 61)), o 63 (.lenS (.t 62)), o 64 (.bin .geq (.t 57) (.t 63))])
 (.cond (.t 64) (.seq (g [o 6 (.mv (.c (.bool false)))])
 .ret)
 .skip))
 (.seq (.seq (g [o 65 (.fa (.t 8) 7), o 66 (.ld1 (.t 65)), o 67 (.mv (.t 11)), o 68 (.ixS 1 (.t 66) (.t 67)), o 69 (.ld1 (.t 68)), o 70 (.mv (.t 12)), o 71 (.ixS 1 (.t 69) (.t 70)), o 72 (.ld1 (.t 71)), o 73 (.lenS (.t 72)), o 74 (.mv (.c (i 0)))])
 (.block 0 w10_0))
 (.seq (.seq (g [o 122 (.fa (.t 8) 6), o 123 (.ld1 (.t 122)), o 124 (.lenS (.t 123)), o 125 (.minmax false (.t 124) (.c (i 12))), o 126 (.mv (.c (i 0)))])
 (.block 2 w10_1))
 (.seq (g [o 144 (.call (.c (.fn 12 [])) []), o 6 (.mv (.t 144))])
 .ret))))))))))⟩

def w11_0 : AC := .loop [1, 3, 4]
 (.seq (.seq (g [o 46 (.mv (.t 4)), o 47 (.fa (.t 1) 5), o 48 (.ld1 (.t 47)), o 49 (.mv (.t 3)), o 50 (.ixS 1 (.t 48) (.t 49)), o 51 (.ld1 (.t 50)), o 52 (.lenS (.t 51)), o 53 (.bin .lss (.t 46) (.t 52))])
 (.cond (.t 53) .skip
 (.exit 2)))
 (.seq (.block 3 (.seq (g [o 56 (.fa (.t 1) 5), o 57 (.ld1 (.t 56)), o 58 (.mv (.t 3)), o 59 (.ixS 1 (.t 57) (.t 58)), o 60 (.ld1 (.t 59)), o 61 (.mv (.t 4)), o 62 (.ixS 1 (.t 60) (.t 61)), o 63 (.ld1 (.t 62)), o 64 (.lenS (.t 63)), o 65 (.bin .gtr (.t 64) (.c (i 20)))])
 (.cond (.t 65) (.seq (g [o 2 (.mv (.c (.bool false)))])
 .ret)
 .skip)))
 (g [o 54 (.mv (.t 4)), o 55 (.bin .add (.t 54) (.c (i 1))), o 4 (.mv (.t 55))])))
def w11_1 : AC := .loop [1, 3]
 (.seq (.seq (g [o 32 (.mv (.t 3)), o 33 (.fa (.t 1) 5), o 34 (.ld1 (.t 33)), o 35 (.lenS (.t 34)), o 36 (.bin .lss (.t 32) (.t 35))])
 (.cond (.t 36) .skip
 (.exit 0)))
 (.seq (.block 1 (.seq (.seq (g [o 39 (.fa (.t 1) 5), o 40 (.ld1 (.t 39)), o 41 (.mv (.t 3)), o 42 (.ixS 1 (.t 40) (.t 41)), o 43 (.ld1 (.t 42)), o 44 (.lenS (.t 43)), o 45 (.bin .gtr (.t 44) (.c (i 20)))])
 (.cond (.t 45) (.seq (g [o 2 (.mv (.c (.bool false)))])
 .ret)
 .skip))
 (.seq (g [o 4 (.mv (.c (i 0)))])
 (.block 2 w11_0))))
 (g [o 37 (.mv (.t 3)), o 38 (.bin .add (.t 37) (.c (i 1))), o 3 (.mv (.t 38))])))
def c11 : AFunc := ⟨1, 66, [.tmp 2],
 (.seq (g [o 1 (.box (.t 0)), o 2 (.mv (.c (.bool false)))])
 (.seq (.seq (g [o 5 (.fa (.t 1) 4), o 6 (.ld1 (.t 5)), o 7 (.lenS (.t 6)), o 8 (.bin .gtr (.t 7) (.c (i 20))), o 9 (.mv (.t 8)), ⟨(some 10), .fa (.t 1) 7, (some (9, false)), []⟩, ⟨(some 11), .ld1 (.t 10), (some (9, false)), []⟩, ⟨(some 12), .lenS (.t 11), (some (9, false)), []⟩, ⟨(some 13), .bin .gtr (.t 12) (.c (i 20)), (some (9, false)), []⟩, o 14 (.pick (.t 9) (.c (.bool true)) (.t 13)), o 15 (.mv (.t 14)), ⟨(some 16), .fa (.t 1) 5, (some (15, false)), []⟩, ⟨(some 17), .ld1 (.t 16), (some (15, false)), []⟩, ⟨(some 18), .lenS (.t 17), (some (15, false)), []⟩, ⟨(some 19), .bin .gtr (.t 18) (.c (i 20)), (some (15, false)), []⟩, o 20 (.pick (.t 15) (.c (.bool true)) (.t 19)), o 21 (.mv (.t 20)), ⟨(some 22), .fa (.t 1) 6, (some (21, false)), []⟩, ⟨(some 23), .ld1 (.t 22), (some (21, false)), []⟩, ⟨(some 24), .lenS (.t 23), (some (21, false)), []⟩, ⟨(some 25), .bin .gtr (.t 24) (.c (i 400)), (some (21, false)), []⟩, o 26 (.pick (.t 21) (.c (.bool true)) (.t 25)), o 27 (.mv (.t 26)), ⟨(some 28), .ldN 8 (.t 1), (some (27, false)), []⟩, ⟨(some 29), .call (.c (.fn 36 [])) [(.t 28)], (some (27, false)), []⟩, ⟨(some 30), .bin .gtr (.t 29) (.c (i 400)), (some (27, false)), []⟩, o 31 (.pick (.t 27) (.c (.bool true)) (.t 30))])
 (.cond (.t 31) (.seq (g [o 2 (.mv (.c (.bool false)))])
 .ret)
 .skip))
 (.seq (.seq (g [o 3 (.mv (.c (i 0)))])
 (.block 0 w11_1))
 (.seq (g [o 2 (.mv (.c (.bool true)))])
 .ret))))⟩

def v12_0 : AC := .dreg [0, 1, 2, 3, 4, 5, 6, 7, 8, 9, 10, 11, 12, 13, 14, 15, 16, 17, 18, 19, 20, 21, 22, 23, 24, 25, 26, 27, 28, 29, 30, 31, 32, 33, 34, 35, 36, 37, 38, 39, 40, 41, 42, 43, 44, 45, 46, 47, 48, 49, 50] [o 53 (.mv (.t 4)), o 54 (.mv (.t 8)), o 55 (.bin .add (.t 53) (.t 54)), o 56 (.mv (.t 10)), o 57 (.bin .add (.t 55) (.t 56)), o 58 (.mv (.t 12)), o 59 (.bin .add (.t 57) (.t 58)), o 60 (.bin .neq (.t 59) (.c (i 0))), o 61 (.mv (.t 60)), ⟨(some 62), .ldN 8 (.t 3), (some (61, false)), []⟩, ⟨(some 63), .call (.c (.fn 39 [])) [], (some (61, false)), [9]⟩, ⟨(some 64), .call (.c (.fn 18 [])) [(.t 62), (.t 63)], (some (61, false)), []⟩, ⟨(some 65), .un .not (.t 64), (some (61, false)), []⟩, o 66 (.pick (.t 61) (.c (.bool true)) (.t 65)), o 67 (.mv (.t 66)), ⟨(some 68), .mv (.t 5), (some (67, false)), []⟩, ⟨(some 69), .bin .neq (.t 68) (.c (i 6)), (some (67, false)), []⟩, o 70 (.pick (.t 67) (.c (.bool true)) (.t 69)), o 71 (.mv (.t 70)), ⟨(some 72), .mv (.t 6), (some (71, false)), []⟩, ⟨(some 73), .bin .neq (.t 72) (.c (i 2)), (some (71, false)), []⟩, o 74 (.pick (.t 71) (.c (.bool true)) (.t 73)), o 75 (.mv (.t 74)), ⟨(some 76), .mv (.t 7), (some (75, false)), []⟩, ⟨(some 77), .bin .neq (.t 76) (.c (i 4)), (some (75, false)), []⟩, o 78 (.pick (.t 75) (.c (.bool true)) (.t 77)), o 79 (.mv (.t 78)), ⟨(some 80), .mv (.t 11), (some (79, false)), []⟩, ⟨(some 81), .bin .neq (.t 80) (.c (i 1)), (some (79, false)), []⟩, o 82 (.pick (.t 79) (.c (.bool true)) (.t 81)), o 83 (.mv (.t 82)), ⟨(some 84), .mv (.t 9), (some (83, false)), []⟩, ⟨(some 85), .lenS (.t 84), (some (83, false)), []⟩, ⟨(some 86), .bin .neq (.t 85) (.c (i 2)), (some (83, false)), []⟩, o 87 (.pick (.t 83) (.c (.bool true)) (.t 86)), o 88 (.mv (.t 87)), ⟨(some 89), .mv (.t 9), (some (88, false)), []⟩, ⟨(some 90), .ixS 1 (.t 89) (.c (i 0)), (some (88, false)), []⟩, ⟨(some 91), .ld1 (.t 90), (some (88, false)), []⟩, ⟨(some 92), .bslice 2 [i 0, i 0] [(0, 1, (.c (i 0))), (1, 1, (.c (i 1)))], (some (88, false)), []⟩, ⟨(some 93), .call (.c (.fn 41 [])) [(.t 91), (.t 92)], (some (88, false)), []⟩, ⟨(some 94), .un .not (.t 93), (some (88, false)), []⟩, o 95 (.pick (.t 88) (.c (.bool true)) (.t 94)), o 96 (.mv (.t 95)), ⟨(some 97), .mv (.t 9), (some (96, false)), []⟩, ⟨(some 98), .ixS 1 (.t 97) (.c (i 1)), (some (96, false)), []⟩, ⟨(some 99), .ld1 (.t 98), (some (96, false)), []⟩, ⟨(some 100), .bslice 2 [i 0, i 0] [(0, 1, (.c (i 0))), (1, 1, (.c (i 1)))], (some (96, false)), []⟩, ⟨(some 101), .call (.c (.fn 41 [])) [(.t 99), (.t 100)], (some (96, false)), []⟩, ⟨(some 102), .un .not (.t 101), (some (96, false)), []⟩, o 103 (.pick (.t 96) (.c (.bool true)) (.t 102))] none
def c12 : AFunc := ⟨0, 128, [.tmp 0],
 (.seq (g [o 0 (.mv (.c (.bool false)))])
 (.seq (g [o 13 (.call (.c (.fn 37 [])) []), o 1 (.alloc [i 0, i 0, i 0, .nils, i 0, .nils, i 0, i 0, .nils, .nils]), e (.st 10 (.t 1) (.t 13))])
 (.seq (g [o 14 (.fa (.t 1) 0), o 15 (.ldN 7 (.t 14)), o 2 (.alloc [i 0, i 0, i 0, .nils, i 0, .nils, i 0]), e (.st 7 (.t 2) (.t 15))])
 (.seq (g [o 16 (.fa (.t 2) 0), o 17 (.fa (.t 16) 2), e (.st 1 (.t 17) (.c (i 2)))])
 (.seq (g [o 19 (.ldN 7 (.t 2)), o 20 (.call (.c (.fn 38 [])) [(.t 19)]), o 18 (.mv (.t 20)), o 21 (.ext (.t 18) 0), o 22 (.ext (.t 18) 1), e (.st 10 (.t 1) (.t 21))])
 (.seq (g [o 24 (.ldN 10 (.t 1)), o 25 (.bslice 8 [i 0, i 0, i 0, i 0, i 0, i 0, i 0, i 0] [(0, 1, (.c (j 0))), (1, 1, (.c (j 0))), (2, 1, (.c (j 0))), (3, 1, (.c (j 0))), (4, 1, (.c (j 0))), (5, 1, (.c (j 0))), (6, 1, (.c (i 1))), (7, 1, (.c (j 0)))]), o 26 (.build [.nils] [(0, 1, (.t 25))]), o 27 (.call (.c (.fn 25 [])) [(.t 24), (.t 26)]), o 23 (.mv (.t 27)), o 28 (.ext (.t 23) 0), o 29 (.ext (.t 23) 1), o 3 (.alloc [i 0, i 0, i 0, i 0, .nils, .nils, .nils, .nils]), e (.st 8 (.t 3) (.t 28)), o 4 (.mv (.t 29))])
 (.seq (g [o 31 (.call (.c (.fn 39 [])) []), o 32 (.call (.c (.fn 13 [])) [(.t 31)]), o 30 (.mv (.t 32)), o 33 (.ext (.t 30) 0), o 34 (.ext (.t 30) 1), o 35 (.ext (.t 30) 2), o 36 (.ext (.t 30) 3), o 5 (.mv (.t 33)), o 6 (.mv (.t 34)), o 7 (.mv (.t 35)), o 8 (.mv (.t 36))])
 (.seq (g [o 38 (.call (.c (.fn 39 [])) []), o 39 (.bslice 2 [i 0, i 0] [(0, 1, (.c (i 0))), (1, 1, (.c (i 1)))]), o 40 (.build [i 0, i 0, i 0, i 0, i 0] [(0, 1, (.c (i 3))), (1, 1, (.c (i 3)))]), o 41 (.build [i 0, i 0, i 0, i 0, i 0, i 0] [(0, 1, (.c (i 2))), (1, 5, (.t 40))]), o 42 (.build [i 0, i 0, i 0, i 0, i 0, i 0, i 0] [(0, 6, (.t 41))]), o 43 (.bslice 1 [i 0, i 0, i 0, i 0, i 0, i 0, i 0] [(0, 7, (.t 42))]), o 44 (.call (.c (.fn 21 [])) [(.t 38), (.t 39), (.t 43)]), o 37 (.mv (.t 44)), o 45 (.ext (.t 37) 0), o 46 (.ext (.t 37) 1), o 9 (.mv (.t 45)), o 10 (.mv (.t 46))])
 (.seq (g [o 48 (.call (.c (.fn 39 [])) []), o 49 (.call (.c (.fn 40 [])) [(.c (i 0)), (.c (i 1))]), o 50 (.call (.c (.fn 19 [])) [(.t 48), (.c (i 0)), (.c (i 1)), (.t 49)]), o 47 (.mv (.t 50)), o 51 (.ext (.t 47) 0), o 52 (.ext (.t 47) 1), o 11 (.mv (.t 51)), o 12 (.mv (.t 52))])
 (.seq (.seq v12_0
 (.cond (.t 103) (.seq (g [o 0 (.mv (.c (.bool false)))])
 .ret)
 .skip))
 (.seq (g [o 105 (.call (.c (.fn 39 [])) []), o 106 (.call (.c (.fn 40 [])) [(.c (i 1)), (.c (i 1))]), o 107 (.call (.c (.fn 19 [])) [(.t 105), (.c (i 0)), (.c (i 1)), (.t 106)]), o 104 (.mv (.t 107)), o 108 (.ext (.t 104) 0), o 109 (.ext (.t 104) 1), o 4 (.mv (.t 109))])
 (.seq (g [o 110 (.mv (.t 4)), o 111 (.bin .eql (.t 110) (.c (i 20))), o 112 (.mv (.t 111)), ⟨(some 113), .build [i 0, i 0, i 0, i 0, .nils, .nils, .nils, .nils] [], (some (112, true)), []⟩, ⟨(some 114), .call (.c (.fn 15 [])) [(.t 113)], (some (112, true)), []⟩, ⟨(some 115), .bin .eql (.t 114) (.c (i 2)), (some (112, true)), []⟩, o 116 (.pick (.t 112) (.t 115) (.c (.bool false))), o 117 (.mv (.t 116)), ⟨(some 118), .ldN 8 (.t 3), (some (117, true)), []⟩, ⟨(some 119), .ldN 8 (.t 3), (some (117, true)), []⟩, ⟨(some 120), .call (.c (.fn 17 [])) [(.t 118), (.t 119)], (some (117, true)), []⟩, o 121 (.pick (.t 117) (.t 120) (.c (.bool false))), o 122 (.mv (.t 121)), ⟨(some 123), .ldN 8 (.t 3), (some (122, true)), []⟩, ⟨(some 124), .build [i 0, i 0, i 0, i 0, .nils, .nils, .nils, .nils] [], (some (122, true)), []⟩, ⟨(some 125), .call (.c (.fn 17 [])) [(.t 123), (.t 124)], (some (122, true)), []⟩, ⟨(some 126), .un .not (.t 125), (some (122, true)), []⟩, o 127 (.pick (.t 122) (.t 126) (.c (.bool false))), o 0 (.mv (.t 127))])
 .ret))))))))))))⟩

def w13_0 : AC := .loop [1, 7, 20, 21, 22, 26, 27, 28, 32, 33, 34]
 (.seq (g [o 35 (.bin .lss (.t 34) (.t 33))])
 (.seq (.cond (.t 35) .skip
 (.exit 4))
 (.seq (.block 5 (.seq (g [o 36 (.ixS 1 (.t 32) (.t 34)), o 37 (.ld1 (.t 36)), o 13 (.mv (.t 37))])
 (.seq (g [o 38 (.mv (.t 13)), o 39 (.call (.c (.fn 43 [])) [(.t 38)]), o 40 (.call (.c (.fn 42 [])) [(.t 39)]), o 13 (.mv (.t 40))])
 (g [o 41 (.mv (.t 7)), o 42 (.mv (.t 13)), o 43 (.call (.c (.fn 44 [])) [(.t 42)]), o 44 (.lenS (.t 43)), o 45 (.bin .add (.t 41) (.t 44)), o 7 (.mv (.t 45))]))))
 (g [o 46 (.bin .add (.t 34) (.c (i 1))), o 34 (.mv (.t 46))]))))
def w13_1 : AC := .loop [1, 7, 20, 21, 22, 26, 27, 28]
 (.seq (g [o 29 (.bin .lss (.t 28) (.t 27))])
 (.seq (.cond (.t 29) .skip
 (.exit 2))
 (.seq (.block 3 (.seq (g [o 30 (.ixS 1 (.t 26) (.t 28)), o 31 (.ld1 (.t 30)), o 11 (.mv (.t 31))])
 (.seq (g [o 32 (.mv (.t 11)), o 33 (.lenS (.t 32)), o 34 (.mv (.c (i 0)))])
 (.block 4 w13_0))))
 (g [o 47 (.bin .add (.t 28) (.c (i 1))), o 28 (.mv (.t 47))]))))
def w13_2 : AC := .loop [1, 7, 20, 21, 22]
 (.seq (g [o 23 (.bin .lss (.t 22) (.t 21))])
 (.seq (.cond (.t 23) .skip
 (.exit 0))
 (.seq (.block 1 (.seq (g [o 24 (.ixS 1 (.t 20) (.t 22)), o 25 (.ld1 (.t 24)), o 9 (.mv (.t 25))])
 (.seq (g [o 26 (.mv (.t 9)), o 27 (.lenS (.t 26)), o 28 (.mv (.c (i 0)))])
 (.block 2 w13_1))))
 (g [o 48 (.bin .add (.t 22) (.c (i 1))), o 22 (.mv (.t 48))]))))
def v13_0 : AC := .dreg [0, 2, 3, 4, 5, 1, 6, 7, 8, 9] [o 49 (.ldN 8 (.t 1)), o 51 (.mv (.t 7)), o 52 (.fa (.t 1) 6), o 53 (.ld1 (.t 52)), o 54 (.lenS (.t 53)), ⟨(some 50), .call (.c (.fn 45 [])) [(.t 49)], none, [3]⟩, o 2 (.mv (.t 50)), o 3 (.mv (.t 51)), o 4 (.mv (.t 54)), o 5 (.mv (.c (i 0)))] none
def c13 : AFunc := ⟨1, 55, [.tmp 2, .tmp 3, .tmp 4, .tmp 5],
 (.seq (g [o 1 (.box (.t 0)), o 2 (.mv (.c (i 0))), o 3 (.mv (.c (i 0))), o 4 (.mv (.c (i 0))), o 5 (.mv (.c (i 0)))])
 (.seq (.seq (g [o 14 (.ldN 8 (.t 1)), o 15 (.call (.c (.fn 15 [])) [(.t 14)]), o 6 (.mv (.t 15))])
 (.seq (g [o 16 (.mv (.t 6)), o 17 (.bin .neq (.t 16) (.c (i 0)))])
 (.cond (.t 17) (.seq (g [o 18 (.mv (.t 6)), o 2 (.mv (.c (i 0))), o 3 (.mv (.c (i 0))), o 4 (.mv (.c (i 0))), o 5 (.mv (.t 18))])
 .ret)
 .skip)))
 (.seq (g [o 7 (.mv (.c (i 0)))])
 (.seq (.seq (g [o 19 (.fa (.t 1) 5), o 20 (.ld1 (.t 19)), o 21 (.lenS (.t 20)), o 22 (.mv (.c (i 0)))])
 (.block 0 w13_2))
 (.seq v13_0
 .ret)))))⟩

def w14_0 : AC := .loop [1, 7, 8, 9, 10]
 (.seq (.seq (g [o 28 (.mv (.t 10)), o 29 (.fa (.t 1) 0), o 30 (.ld1 (.t 29)), o 31 (.bin .lss (.t 28) (.t 30))])
 (.cond (.t 31) .skip
 (.exit 4)))
 (.seq (.block 5 (g [o 34 (.mv (.t 7)), o 35 (.fa (.t 1) 5), o 36 (.ld1 (.t 35)), o 37 (.mv (.t 8)), o 38 (.ixS 1 (.t 36) (.t 37)), o 39 (.ld1 (.t 38)), o 40 (.mv (.t 9)), o 41 (.ixS 1 (.t 39) (.t 40)), o 42 (.ld1 (.t 41)), o 43 (.mv (.t 10)), o 44 (.ixS 1 (.t 42) (.t 43)), o 45 (.ld1 (.t 44)), o 46 (.call (.c (.fn 46 [])) [(.t 45)]), o 47 (.bin .add (.t 34) (.t 46)), o 7 (.mv (.t 47))]))
 (g [o 32 (.mv (.t 10)), o 33 (.bin .add (.t 32) (.c (i 1))), o 10 (.mv (.t 33))])))
def w14_1 : AC := .loop [1, 7, 8, 9]
 (.seq (.seq (g [o 22 (.mv (.t 9)), o 23 (.fa (.t 1) 0), o 24 (.ld1 (.t 23)), o 25 (.bin .lss (.t 22) (.t 24))])
 (.cond (.t 25) .skip
 (.exit 2)))
 (.seq (.block 3 (.seq (g [o 10 (.mv (.c (i 0)))])
 (.block 4 w14_0)))
 (g [o 26 (.mv (.t 9)), o 27 (.bin .add (.t 26) (.c (i 1))), o 9 (.mv (.t 27))])))
def w14_2 : AC := .loop [1, 7, 8]
 (.seq (.seq (g [o 16 (.mv (.t 8)), o 17 (.fa (.t 1) 1), o 18 (.ld1 (.t 17)), o 19 (.bin .lss (.t 16) (.t 18))])
 (.cond (.t 19) .skip
 (.exit 0)))
 (.seq (.block 1 (.seq (g [o 9 (.mv (.c (i 0)))])
 (.block 2 w14_1)))
 (g [o 20 (.mv (.t 8)), o 21 (.bin .add (.t 20) (.c (i 1))), o 8 (.mv (.t 21))])))
def v14_0 : AC := .dreg [0, 2, 3, 4, 5, 1, 6, 7, 8, 9] [o 48 (.ldN 8 (.t 1)), o 50 (.mv (.t 7)), o 51 (.fa (.t 1) 6), o 52 (.ld1 (.t 51)), o 53 (.lenS (.t 52)), ⟨(some 49), .call (.c (.fn 36 [])) [(.t 48)], none, [3]⟩, o 2 (.mv (.t 49)), o 3 (.mv (.t 50)), o 4 (.mv (.t 53)), o 5 (.mv (.c (i 0)))] none
def c14 : AFunc := ⟨1, 54, [.tmp 2, .tmp 3, .tmp 4, .tmp 5],
 (.seq (g [o 1 (.box (.t 0)), o 2 (.mv (.c (i 0))), o 3 (.mv (.c (i 0))), o 4 (.mv (.c (i 0))), o 5 (.mv (.c (i 0)))])
 (.seq (.seq (g [o 11 (.ldN 8 (.t 1)), o 12 (.call (.c (.fn 16 [])) [(.t 11)]), o 6 (.mv (.t 12))])
 (.seq (g [o 13 (.mv (.t 6)), o 14 (.bin .neq (.t 13) (.c (i 0)))])
 (.cond (.t 14) (.seq (g [o 15 (.mv (.t 6)), o 2 (.mv (.c (i 0))), o 3 (.mv (.c (i 0))), o 4 (.mv (.c (i 0))), o 5 (.mv (.t 15))])
 .ret)
 .skip)))
 (.seq (g [o 7 (.mv (.c (i 0)))])
 (.seq (.seq (g [o 8 (.mv (.c (i 0)))])
 (.block 0 w14_2))
 (.seq v14_0
 .ret)))))⟩

def v15_0 : AC := .dreg [0, 1, 2, 3, 4, 5, 6, 7, 8, 9, 10, 11, 12] [o 61 (.mv (.t 3)), o 62 (.bin .gtr (.t 61) (.c (i 0))), o 63 (.mv (.t 62)), ⟨(some 64), .fa (.t 1) 6, (some (63, true)), []⟩, ⟨(some 65), .ld1 (.t 64), (some (63, true)), []⟩, ⟨(some 66), .mv (.t 3), (some (63, true)), []⟩, ⟨(some 67), .bin .sub (.t 66) (.c (i 1)), (some (63, true)), []⟩, ⟨(some 68), .ixS 8 (.t 65) (.t 67), (some (63, true)), []⟩, ⟨(some 69), .ldN 8 (.t 68), (some (63, true)), []⟩, ⟨(some 70), .ldN 8 (.t 4), (some (63, true)), []⟩, ⟨(some 71), .call (.c (.fn 51 [])) [(.t 69), (.t 70)], (some (63, true)), []⟩, ⟨(some 72), .bin .geq (.t 71) (.c (i 0)), (some (63, true)), []⟩, o 73 (.pick (.t 63) (.t 72) (.c (.bool false)))] none
def w15_0 : AC := .loop [1, 48, 49, 50]
 (.seq (g [o 51 (.bin .lss (.t 50) (.t 49))])
 (.seq (.cond (.t 51) .skip
 (.exit 1))
 (.seq (.block 2 (.seq (g [o 52 (.mv (.t 50)), o 53 (.ixS 8 (.t 48) (.t 50)), o 54 (.ldN 8 (.t 53)), o 4 (.alloc [i 0, i 0, i 0, i 0, i 0, i 0, i 0, i 0]), o 3 (.mv (.t 52)), e (.st 8 (.t 4) (.t 54))])
 (.seq (.seq (g [o 55 (.ldN 8 (.t 1)), o 56 (.ldN 8 (.t 4)), o 57 (.call (.c (.fn 50 [])) [(.t 55), (.t 56)]), o 5 (.mv (.t 57))])
 (.seq (g [o 58 (.mv (.t 5)), o 59 (.bin .neq (.t 58) (.c (i 0)))])
 (.cond (.t 59) (.seq (g [o 60 (.mv (.t 5)), o 2 (.mv (.t 60))])
 .ret)
 .skip)))
 (.seq v15_0
 (.cond (.t 73) (.seq (g [o 2 (.mv (.c (i 14)))])
 .ret)
 .skip)))))
 (g [o 74 (.bin .add (.t 50) (.c (i 1))), o 50 (.mv (.t 74))]))))
def c15 : AFunc := ⟨1, 75, [.tmp 2],
 (.seq (g [o 1 (.box (.t 0)), o 2 (.mv (.c (i 0)))])
 (.seq (.block 0 (.seq (g [o 7 (.fa (.t 1) 0), o 8 (.ld1 (.t 7)), o 9 (.call (.c (.fn 47 [])) [(.t 8), (.c (i 1)), (.c (i 5))]), o 10 (.un .not (.t 9)), o 11 (.mv (.t 10)), ⟨(some 12), .fa (.t 1) 1, (some (11, false)), []⟩, ⟨(some 13), .ld1 (.t 12), (some (11, false)), []⟩, ⟨(some 14), .call (.c (.fn 47 [])) [(.t 13), (.c (i 0)), (.c (i 6))], (some (11, false)), []⟩, ⟨(some 15), .un .not (.t 14), (some (11, false)), []⟩, o 16 (.pick (.t 11) (.c (.bool true)) (.t 15)), o 17 (.mv (.t 16)), ⟨(some 18), .fa (.t 1) 2, (some (17, false)), []⟩, ⟨(some 19), .ld1 (.t 18), (some (17, false)), []⟩, ⟨(some 20), .call (.c (.fn 47 [])) [(.t 19), (.c (i 1)), (.c (i 8))], (some (17, false)), []⟩, ⟨(some 21), .un .not (.t 20), (some (17, false)), []⟩, o 22 (.pick (.t 17) (.c (.bool true)) (.t 21)), o 23 (.mv (.t 22)), ⟨(some 24), .fa (.t 1) 3, (some (23, false)), []⟩, ⟨(some 25), .ld1 (.t 24), (some (23, false)), []⟩, ⟨(some 26), .call (.c (.fn 47 [])) [(.t 25), (.c (i 1)), (.c (i 8))], (some (23, false)), []⟩, ⟨(some 27), .un .not (.t 26), (some (23, false)), []⟩, o 28 (.pick (.t 23) (.c (.bool true)) (.t 27)), o 6 (.mv (.t 28))])
 (.cond (.t 6) (.seq (g [o 2 (.mv (.c (i 2)))])
 .ret)
 (.seq (g [o 30 (.ldN 8 (.t 1)), o 31 (.call (.c (.fn 48 [])) [(.t 30)]), o 32 (.un .not (.t 31)), o 29 (.mv (.t 32))])
 (.cond (.t 29) (.seq (g [o 2 (.mv (.c (i 15)))])
 .ret)
 (.seq (g [o 34 (.ldN 8 (.t 1)), o 35 (.call (.c (.fn 45 [])) [(.t 34)]), o 36 (.bin .gtr (.t 35) (.c (i 8192))), o 37 (.mv (.t 36)), ⟨(some 38), .fa (.t 1) 6, (some (37, false)), []⟩, ⟨(some 39), .ld1 (.t 38), (some (37, false)), []⟩, ⟨(some 40), .lenS (.t 39), (some (37, false)), []⟩, ⟨(some 41), .bin .gtr (.t 40) (.c (i 65536)), (some (37, false)), []⟩, o 42 (.pick (.t 37) (.c (.bool true)) (.t 41)), o 33 (.mv (.t 42))])
 (.cond (.t 33) (.seq (g [o 2 (.mv (.c (i 5)))])
 .ret)
 (.seq (g [o 44 (.ldN 8 (.t 1)), o 45 (.call (.c (.fn 49 [])) [(.t 44)]), o 46 (.un .not (.t 45)), o 43 (.mv (.t 46))])
 (.cond (.t 43) (.seq (g [o 2 (.mv (.c (i 2)))])
 .ret)
 .skip)))))))))
 (.seq (.seq (g [o 47 (.fa (.t 1) 6), o 48 (.ld1 (.t 47)), o 49 (.lenS (.t 48)), o 50 (.mv (.c (i 0)))])
 (.block 1 w15_0))
 (.seq (g [o 2 (.mv (.c (i 0)))])
 .ret))))⟩

def v16_0 : AC := .dreg [0, 1, 2, 3, 4, 5, 6, 7] [o 53 (.ldN 8 (.t 1)), o 54 (.fa (.t 1) 6), o 55 (.ld1 (.t 54)), o 56 (.mv (.t 3)), o 57 (.ixS 8 (.t 55) (.t 56)), o 58 (.ldN 8 (.t 57)), o 59 (.call (.c (.fn 55 [])) [(.t 53), (.t 58)]), o 4 (.mv (.t 59))] none
def v16_1 : AC := .dreg [0, 1, 2, 3, 4, 5, 6, 7, 8, 9, 10, 11, 12, 13, 14, 15, 16] [o 63 (.mv (.t 3)), o 64 (.bin .gtr (.t 63) (.c (i 0))), o 65 (.mv (.t 64)), ⟨(some 66), .fa (.t 1) 6, (some (65, true)), []⟩, ⟨(some 67), .ld1 (.t 66), (some (65, true)), []⟩, ⟨(some 68), .mv (.t 3), (some (65, true)), []⟩, ⟨(some 69), .bin .sub (.t 68) (.c (i 1)), (some (65, true)), []⟩, ⟨(some 70), .ixS 8 (.t 67) (.t 69), (some (65, true)), []⟩, ⟨(some 71), .ldN 8 (.t 70), (some (65, true)), []⟩, ⟨(some 72), .fa (.t 1) 6, (some (65, true)), []⟩, ⟨(some 73), .ld1 (.t 72), (some (65, true)), []⟩, ⟨(some 74), .mv (.t 3), (some (65, true)), []⟩, ⟨(some 75), .ixS 8 (.t 73) (.t 74), (some (65, true)), []⟩, ⟨(some 76), .ldN 8 (.t 75), (some (65, true)), []⟩, ⟨(some 77), .call (.c (.fn 34 [])) [(.t 71), (.t 76)], (some (65, true)), []⟩, ⟨(some 78), .bin .geq (.t 77) (.c (i 0)), (some (65, true)), []⟩, o 79 (.pick (.t 65) (.t 78) (.c (.bool false)))] none
def w16_0 : AC := .loop [1, 3]
 (.seq (.seq (g [o 46 (.mv (.t 3)), o 47 (.fa (.t 1) 6), o 48 (.ld1 (.t 47)), o 49 (.lenS (.t 48)), o 50 (.bin .lss (.t 46) (.t 49))])
 (.cond (.t 50) .skip
 (.exit 1)))
 (.seq (.block 2 (.seq (.seq v16_0
 (.seq (g [o 60 (.mv (.t 4)), o 61 (.bin .neq (.t 60) (.c (i 0)))])
 (.cond (.t 61) (.seq (g [o 62 (.mv (.t 4)), o 2 (.mv (.t 62))])
 .ret)
 .skip)))
 (.seq v16_1
 (.cond (.t 79) (.seq (g [o 2 (.mv (.c (i 14)))])
 .ret)
 .skip))))
 (g [o 51 (.mv (.t 3)), o 52 (.bin .add (.t 51) (.c (i 1))), o 3 (.mv (.t 52))])))
def c16 : AFunc := ⟨1, 80, [.tmp 2],
 (.seq (g [o 1 (.box (.t 0)), o 2 (.mv (.c (i 0)))])
 (.seq (.block 0 (.seq (g [o 6 (.fa (.t 1) 0), o 7 (.ld1 (.t 6)), o 8 (.call (.c (.fn 52 [])) [(.t 7), (.c (i 1)), (.c (i 5))]), o 9 (.un .not (.t 8)), o 10 (.mv (.t 9)), ⟨(some 11), .fa (.t 1) 1, (some (10, false)), []⟩, ⟨(some 12), .ld1 (.t 11), (some (10, false)), []⟩, ⟨(some 13), .call (.c (.fn 52 [])) [(.t 12), (.c (i 0)), (.c (i 6))], (some (10, false)), []⟩, ⟨(some 14), .un .not (.t 13), (some (10, false)), []⟩, o 15 (.pick (.t 10) (.c (.bool true)) (.t 14)), o 16 (.mv (.t 15)), ⟨(some 17), .fa (.t 1) 2, (some (16, false)), []⟩, ⟨(some 18), .ld1 (.t 17), (some (16, false)), []⟩, ⟨(some 19), .call (.c (.fn 52 [])) [(.t 18), (.c (i 1)), (.c (i 8))], (some (16, false)), []⟩, ⟨(some 20), .un .not (.t 19), (some (16, false)), []⟩, o 21 (.pick (.t 16) (.c (.bool true)) (.t 20)), o 22 (.mv (.t 21)), ⟨(some 23), .fa (.t 1) 3, (some (22, false)), []⟩, ⟨(some 24), .ld1 (.t 23), (some (22, false)), []⟩, ⟨(some 25), .call (.c (.fn 52 [])) [(.t 24), (.c (i 1)), (.c (i 8))], (some (22, false)), []⟩, ⟨(some 26), .un .not (.t 25), (some (22, false)), []⟩, o 27 (.pick (.t 22) (.c (.bool true)) (.t 26)), o 5 (.mv (.t 27))])
 (.cond (.t 5) (.seq (g [o 2 (.mv (.c (i 2)))])
 .ret)
 (.seq (g [o 29 (.ldN 8 (.t 1)), o 30 (.call (.c (.fn 53 [])) [(.t 29)]), o 31 (.un .not (.t 30)), o 28 (.mv (.t 31))])
 (.cond (.t 28) (.seq (g [o 2 (.mv (.c (i 15)))])
 .ret)
 (.seq (g [o 33 (.ldN 8 (.t 1)), o 34 (.call (.c (.fn 36 [])) [(.t 33)]), o 35 (.bin .gtr (.t 34) (.c (i 8192))), o 36 (.mv (.t 35)), ⟨(some 37), .fa (.t 1) 6, (some (36, false)), []⟩, ⟨(some 38), .ld1 (.t 37), (some (36, false)), []⟩, ⟨(some 39), .lenS (.t 38), (some (36, false)), []⟩, ⟨(some 40), .bin .gtr (.t 39) (.c (i 65536)), (some (36, false)), []⟩, o 41 (.pick (.t 36) (.c (.bool true)) (.t 40)), o 32 (.mv (.t 41))])
 (.cond (.t 32) (.seq (g [o 2 (.mv (.c (i 5)))])
 .ret)
 (.seq (g [o 43 (.ldN 8 (.t 1)), o 44 (.call (.c (.fn 54 [])) [(.t 43)]), o 45 (.un .not (.t 44)), o 42 (.mv (.t 45))])
 (.cond (.t 42) (.seq (g [o 2 (.mv (.c (i 2)))])
 .ret)
 .skip)))))))))
 (.seq (.seq (g [o 3 (.mv (.c (i 0)))])
 (.block 1 w16_0))
 (.seq (g [o 2 (.mv (.c (i 0)))])
 .ret))))⟩

def c17 : AFunc := ⟨2, 59, [.tmp 4],
 (.seq (g [o 2 (.box (.t 0)), o 3 (.box (.t 1)), o 4 (.mv (.c (.bool false)))])
 (.seq (g [o 5 (.fa (.t 2) 0), o 6 (.ld1 (.t 5)), o 7 (.fa (.t 3) 0), o 8 (.ld1 (.t 7)), o 9 (.bin .eql (.t 6) (.t 8)), o 10 (.mv (.t 9)), ⟨(some 11), .fa (.t 2) 1, (some (10, true)), []⟩, ⟨(some 12), .ld1 (.t 11), (some (10, true)), []⟩, ⟨(some 13), .fa (.t 3) 1, (some (10, true)), []⟩, ⟨(some 14), .ld1 (.t 13), (some (10, true)), []⟩, ⟨(some 15), .bin .eql (.t 12) (.t 14), (some (10, true)), []⟩, o 16 (.pick (.t 10) (.t 15) (.c (.bool false))), o 17 (.mv (.t 16)), ⟨(some 18), .fa (.t 2) 2, (some (17, true)), []⟩, ⟨(some 19), .ld1 (.t 18), (some (17, true)), []⟩, ⟨(some 20), .fa (.t 3) 2, (some (17, true)), []⟩, ⟨(some 21), .ld1 (.t 20), (some (17, true)), []⟩, ⟨(some 22), .bin .eql (.t 19) (.t 21), (some (17, true)), []⟩, o 23 (.pick (.t 17) (.t 22) (.c (.bool false))), o 24 (.mv (.t 23)), ⟨(some 25), .fa (.t 2) 3, (some (24, true)), []⟩, ⟨(some 26), .ld1 (.t 25), (some (24, true)), []⟩, ⟨(some 27), .fa (.t 3) 3, (some (24, true)), []⟩, ⟨(some 28), .ld1 (.t 27), (some (24, true)), []⟩, ⟨(some 29), .bin .eql (.t 26) (.t 28), (some (24, true)), []⟩, o 30 (.pick (.t 24) (.t 29) (.c (.bool false))), o 31 (.mv (.t 30)), ⟨(some 32), .fa (.t 2) 4, (some (31, true)), []⟩, ⟨(some 33), .ld1 (.t 32), (some (31, true)), []⟩, ⟨(some 34), .fa (.t 3) 4, (some (31, true)), []⟩, ⟨(some 35), .ld1 (.t 34), (some (31, true)), []⟩, ⟨(some 36), .call (.c (.fn 56 [])) [(.t 33), (.t 35)], (some (31, true)), []⟩, o 37 (.pick (.t 31) (.t 36) (.c (.bool false))), o 38 (.mv (.t 37)), ⟨(some 39), .fa (.t 2) 7, (some (38, true)), []⟩, ⟨(some 40), .ld1 (.t 39), (some (38, true)), []⟩, ⟨(some 41), .fa (.t 3) 7, (some (38, true)), []⟩, ⟨(some 42), .ld1 (.t 41), (some (38, true)), []⟩, ⟨(some 43), .call (.c (.fn 57 [])) [(.t 40), (.t 42)], (some (38, true)), []⟩, o 44 (.pick (.t 38) (.t 43) (.c (.bool false))), o 45 (.mv (.t 44)), ⟨(some 46), .fa (.t 2) 5, (some (45, true)), []⟩, ⟨(some 47), .ld1 (.t 46), (some (45, true)), []⟩, ⟨(some 48), .fa (.t 3) 5, (some (45, true)), []⟩, ⟨(some 49), .ld1 (.t 48), (some (45, true)), []⟩, ⟨(some 50), .call (.c (.fn 58 [])) [(.t 47), (.t 49), (.c (.fn 57 []))], (some (45, true)), []⟩, o 51 (.pick (.t 45) (.t 50) (.c (.bool false))), o 52 (.mv (.t 51)), ⟨(some 53), .fa (.t 2) 6, (some (52, true)), []⟩, ⟨(some 54), .ld1 (.t 53), (some (52, true)), []⟩, ⟨(some 55), .fa (.t 3) 6, (some (52, true)), []⟩, ⟨(some 56), .ld1 (.t 55), (some (52, true)), []⟩, ⟨(some 57), .call (.c (.fn 59 [])) [(.t 54), (.t 56)], (some (52, true)), []⟩, o 58 (.pick (.t 52) (.t 57) (.c (.bool false))), o 4 (.mv (.t 58))])
 .ret))⟩

def v18_0 : AC := .dreg [0, 1, 2, 3, 4, 5, 6, 7, 8, 9, 10, 11] [o 74 (.fa (.t 2) 5), o 75 (.ld1 (.t 74)), o 76 (.mv (.t 5)), o 77 (.ixS 1 (.t 75) (.t 76)), o 78 (.ld1 (.t 77)), o 79 (.fa (.t 3) 5), o 80 (.ld1 (.t 79)), o 81 (.mv (.t 5)), o 82 (.ixS 1 (.t 80) (.t 81)), o 83 (.ld1 (.t 82)), o 84 (.call (.c (.fn 61 [])) [(.t 78), (.t 83)]), o 85 (.un .not (.t 84))] none
def w18_0 : AC := .loop [2, 3, 5]
 (.seq (.seq (g [o 67 (.mv (.t 5)), o 68 (.fa (.t 2) 5), o 69 (.ld1 (.t 68)), o 70 (.lenS (.t 69)), o 71 (.bin .lss (.t 67) (.t 70))])
 (.cond (.t 71) .skip
 (.exit 0)))
 (.seq (.block 1 (.seq v18_0
 (.cond (.t 85) (.seq (g [o 4 (.mv (.c (.bool false)))])
 .ret)
 .skip)))
 (g [o 72 (.mv (.t 5)), o 73 (.bin .add (.t 72) (.c (i 1))), o 5 (.mv (.t 73))])))
def v18_1 : AC := .dreg [0, 1, 2, 3, 4, 5, 6, 7, 8, 9, 10] [o 93 (.fa (.t 2) 6), o 94 (.ld1 (.t 93)), o 95 (.mv (.t 6)), o 96 (.ixS 8 (.t 94) (.t 95)), o 97 (.ldN 8 (.t 96)), o 98 (.fa (.t 3) 6), o 99 (.ld1 (.t 98)), o 100 (.mv (.t 6)), o 101 (.ixS 8 (.t 99) (.t 100)), o 102 (.ldN 8 (.t 101)), o 103 (.eqf true 8 (.t 97) (.t 102))] none
def w18_1 : AC := .loop [2, 3, 6]
 (.seq (.seq (g [o 86 (.mv (.t 6)), o 87 (.fa (.t 2) 6), o 88 (.ld1 (.t 87)), o 89 (.lenS (.t 88)), o 90 (.bin .lss (.t 86) (.t 89))])
 (.cond (.t 90) .skip
 (.exit 2)))
 (.seq (.block 3 (.seq v18_1
 (.cond (.t 103) (.seq (g [o 4 (.mv (.c (.bool false)))])
 .ret)
 .skip)))
 (g [o 91 (.mv (.t 6)), o 92 (.bin .add (.t 91) (.c (i 1))), o 6 (.mv (.t 92))])))
def c18 : AFunc := ⟨2, 104, [.tmp 4],
 (.seq (g [o 2 (.box (.t 0)), o 3 (.box (.t 1)), o 4 (.mv (.c (.bool false)))])
 (.seq (.seq (g [o 7 (.fa (.t 2) 0), o 8 (.ld1 (.t 7)), o 9 (.fa (.t 3) 0), o 10 (.ld1 (.t 9)), o 11 (.bin .neq (.t 8) (.t 10)), o 12 (.mv (.t 11)), ⟨(some 13), .fa (.t 2) 1, (some (12, false)), []⟩, ⟨(some 14), .ld1 (.t 13), (some (12, false)), []⟩, ⟨(some 15), .fa (.t 3) 1, (some (12, false)), []⟩, ⟨(some 16), .ld1 (.t 15), (some (12, false)), []⟩, ⟨(some 17), .bin .neq (.t 14) (.t 16), (some (12, false)), []⟩, o 18 (.pick (.t 12) (.c (.bool true)) (.t 17)), o 19 (.mv (.t 18)), ⟨(some 20), .fa (.t 2) 2, (some (19, false)), []⟩, ⟨(some 21), .ld1 (.t 20), (some (19, false)), []⟩, ⟨(some 22), .fa (.t 3) 2, (some (19, false)), []⟩, ⟨(some 23), .ld1 (.t 22), (some (19, false)), []⟩, ⟨(some 24), .bin .neq (.t 21) (.t 23), (some (19, false)), []⟩, o 25 (.pick (.t 19) (.c (.bool true)) (.t 24)), o 26 (.mv (.t 25)), ⟨(some 27), .fa (.t 2) 3, (some (26, false)), []⟩, ⟨(some 28), .ld1 (.t 27), (some (26, false)), []⟩, ⟨(some 29), .fa (.t 3) 3, (some (26, false)), []⟩, ⟨(some 30), .ld1 (.t 29), (some (26, false)), []⟩, ⟨(some 31), .bin .neq (.t 28) (.t 30), (some (26, false)), []⟩, o 32 (.pick (.t 26) (.c (.bool true)) (.t 31)), o 33 (.mv (.t 32)), ⟨(some 34), .fa (.t 2) 4, (some (33, false)), []⟩, ⟨(some 35), .ld1 (.t 34), (some (33, false)), []⟩, ⟨(some 36), .fa (.t 3) 4, (some (33, false)), []⟩, ⟨(some 37), .ld1 (.t 36), (some (33, false)), []⟩, ⟨(some 38), .call (.c (.fn 60 [])) [(.t 35), (.t 37)], (some (33, false)), []⟩, ⟨(some 39), .un .not (.t 38), (some (33, false)), []⟩, o 40 (.pick (.t 33) (.c (.bool true)) (.t 39)), o 41 (.mv (.t 40)), ⟨(some 42), .fa (.t 2) 7, (some (41, false)), []⟩, ⟨(some 43), .ld1 (.t 42), (some (41, false)), []⟩, ⟨(some 44), .fa (.t 3) 7, (some (41, false)), []⟩, ⟨(some 45), .ld1 (.t 44), (some (41, false)), []⟩, ⟨(some 46), .call (.c (.fn 61 [])) [(.t 43), (.t 45)], (some (41, false)), []⟩, ⟨(some 47), .un .not (.t 46), (some (41, false)), []⟩, o 48 (.pick (.t 41) (.c (.bool true)) (.t 47)), o 49 (.mv (.t 48)), ⟨(some 50), .fa (.t 2) 5, (some (49, false)), []⟩, ⟨(some 51), .ld1 (.t 50), (some (49, false)), []⟩, ⟨(some 52), .lenS (.t 51), (some (49, false)), []⟩, ⟨(some 53), .fa (.t 3) 5, (some (49, false)), []⟩, ⟨(some 54), .ld1 (.t 53), (some (49, false)), []⟩, ⟨(some 55), .lenS (.t 54), (some (49, false)), []⟩, ⟨(some 56), .bin .neq (.t 52) (.t 55), (some (49, false)), []⟩, o 57 (.pick (.t 49) (.c (.bool true)) (.t 56)), o 58 (.mv (.t 57)), ⟨(some 59), .fa (.t 2) 6, (some (58, false)), []⟩, ⟨(some 60), .ld1 (.t 59), (some (58, false)), []⟩, ⟨(some 61), .lenS (.t 60), (some (58, false)), []⟩, ⟨(some 62), .fa (.t 3) 6, (some (58, false)), []⟩, ⟨(some 63), .ld1 (.t 62), (some (58, false)), []⟩, ⟨(some 64), .lenS (.t 63), (some (58, false)), []⟩, ⟨(some 65), .bin .neq (.t 61) (.t 64), (some (58, false)), []⟩, o 66 (.pick (.t 58) (.c (.bool true)) (.t 65))])
 (.cond (.t 66) (.seq (g [o 4 (.mv (.c (.bool false)))])
 .ret)
 .skip))
 (.seq (.seq (g [o 5 (.mv (.c (i 0)))])
 (.block 0 w18_0))
 (.seq (.seq (g [o 6 (.mv (.c (i 0)))])
 (.block 2 w18_1))
 (.seq (g [o 4 (.mv (.c (.bool true)))])
 .ret)))))⟩

def v19_0 : AC := .dreg [0, 2, 3, 4, 5, 1, 6, 7, 8, 9, 10, 11] [o 33 (.ldN 8 (.t 4)), o 35 (.mv (.t 1)), o 36 (.mv (.t 2)), o 37 (.ldN 5 (.t 7)), o 38 (.build [i 0, i 0, i 0, i 0, i 0, i 0, i 0] [(0, 1, (.t 35)), (1, 1, (.t 36)), (2, 5, (.t 37))]), ⟨(some 34), .call (.c (.fn 62 [])) [(.t 33)], none, [3]⟩, o 39 (.look 7 (i 0) (.t 34) (.t 38)), o 32 (.mv (.t 39)), o 40 (.ext (.t 32) 0), o 41 (.ext (.t 32) 1), o 11 (.mv (.t 40)), o 12 (.mv (.t 41))] none
def c19 : AFunc := ⟨4, 45, [.tmp 8, .tmp 9],
 (.seq (g [o 4 (.box (.t 0)), o 7 (.box (.t 3)), o 8 (.mv (.c (i 0))), o 9 (.mv (.c (i 0)))])
 (.seq (.seq (g [o 13 (.ldN 8 (.t 4)), o 14 (.call (.c (.fn 15 [])) [(.t 13)]), o 10 (.mv (.t 14))])
 (.seq (g [o 15 (.mv (.t 10)), o 16 (.bin .neq (.t 15) (.c (i 0)))])
 (.cond (.t 16) (.seq (g [o 17 (.mv (.t 10)), o 8 (.mv (.c (i 0))), o 9 (.mv (.t 17))])
 .ret)
 .skip)))
 (.seq (.seq (g [o 18 (.mv (.t 1)), o 19 (.fa (.t 4) 1), o 20 (.ld1 (.t 19)), o 21 (.bin .sub (.t 20) (.c (i 1))), o 22 (.call (.c (.fn 47 [])) [(.t 18), (.c (i 0)), (.t 21)]), o 23 (.un .not (.t 22)), o 24 (.mv (.t 23)), ⟨(some 25), .mv (.t 2), (some (24, false)), []⟩, ⟨(some 26), .fa (.t 4) 0, (some (24, false)), []⟩, ⟨(some 27), .ld1 (.t 26), (some (24, false)), []⟩, ⟨(some 28), .bin .sub (.t 27) (.c (i 1)), (some (24, false)), []⟩, ⟨(some 29), .call (.c (.fn 47 [])) [(.t 25), (.c (i 0)), (.t 28)], (some (24, false)), []⟩, ⟨(some 30), .un .not (.t 29), (some (24, false)), []⟩, o 31 (.pick (.t 24) (.c (.bool true)) (.t 30))])
 (.cond (.t 31) (.seq (g [o 8 (.mv (.c (i 0))), o 9 (.mv (.c (i 2)))])
 .ret)
 .skip))
 (.seq v19_0
 (.seq (.seq (g [o 42 (.mv (.t 12)), o 43 (.un .not (.t 42))])
 (.cond (.t 43) (.seq (g [o 8 (.mv (.c (i 0))), o 9 (.mv (.c (i 20)))])
 .ret)
 .skip))
 (.seq (g [o 44 (.mv (.t 11)), o 8 (.mv (.t 44)), o 9 (.mv (.c (i 0)))])
 .ret))))))⟩

def c20 : AFunc := ⟨4, 39, [.tmp 8, .tmp 9],
 (.seq (g [o 4 (.box (.t 0)), o 7 (.box (.t 3)), o 8 (.mv (.c (i 0))), o 9 (.mv (.c (i 0)))])
 (.seq (.seq (g [o 12 (.ldN 8 (.t 4)), o 13 (.call (.c (.fn 16 [])) [(.t 12)]), o 10 (.mv (.t 13))])
 (.seq (g [o 14 (.mv (.t 10)), o 15 (.bin .neq (.t 14) (.c (i 0)))])
 (.cond (.t 15) (.seq (g [o 16 (.mv (.t 10)), o 8 (.mv (.c (i 0))), o 9 (.mv (.t 16))])
 .ret)
 .skip)))
 (.seq (.seq (g [o 17 (.mv (.t 1)), o 18 (.fa (.t 4) 1), o 19 (.ld1 (.t 18)), o 20 (.bin .sub (.t 19) (.c (i 1))), o 21 (.call (.c (.fn 52 [])) [(.t 17), (.c (i 0)), (.t 20)]), o 22 (.un .not (.t 21)), o 23 (.mv (.t 22)), ⟨(some 24), .mv (.t 2), (some (23, false)), []⟩, ⟨(some 25), .fa (.t 4) 0, (some (23, false)), []⟩, ⟨(some 26), .ld1 (.t 25), (some (23, false)), []⟩, ⟨(some 27), .bin .sub (.t 26) (.c (i 1)), (some (23, false)), []⟩, ⟨(some 28), .call (.c (.fn 52 [])) [(.t 24), (.c (i 0)), (.t 27)], (some (23, false)), []⟩, ⟨(some 29), .un .not (.t 28), (some (23, false)), []⟩, o 30 (.pick (.t 23) (.c (.bool true)) (.t 29))])
 (.cond (.t 30) (.seq (g [o 8 (.mv (.c (i 0))), o 9 (.mv (.c (i 2)))])
 .ret)
 .skip))
 (.seq (g [o 31 (.ldN 8 (.t 4)), o 32 (.mv (.t 1)), o 33 (.mv (.t 2)), o 34 (.ldN 5 (.t 7)), o 35 (.call (.c (.fn 63 [])) [(.t 31), (.t 32), (.t 33), (.t 34)]), o 11 (.mv (.t 35))])
 (.seq (.seq (g [o 36 (.mv (.t 11)), o 37 (.bin .lss (.t 36) (.c (i 0)))])
 (.cond (.t 37) (.seq (g [o 8 (.mv (.c (i 0))), o 9 (.mv (.c (i 20)))])
 .ret)
 .skip))
 (.seq (g [o 38 (.mv (.t 11)), o 8 (.mv (.t 38)), o 9 (.mv (.c (i 0)))])
 .ret))))))⟩

def c21 : AFunc := ⟨3, 53, [.tmp 6, .tmp 7],
 (.seq (g [o 3 (.box (.t 0)), o 6 (.mv (.c .nils)), o 7 (.mv (.c (i 0)))])
 (.seq (.seq (g [o 11 (.ldN 8 (.t 3)), o 12 (.call (.c (.fn 15 [])) [(.t 11)]), o 8 (.mv (.t 12))])
 (.seq (g [o 13 (.mv (.t 8)), o 14 (.bin .neq (.t 13) (.c (i 0)))])
 (.cond (.t 14) (.seq (g [o 15 (.mv (.t 8)), o 6 (.mv (.c .nils)), o 7 (.mv (.t 15))])
 .ret)
 .skip)))
 (.seq (.block 0 (.seq (g [o 17 (.mv (.t 1)), o 18 (.lenS (.t 17)), o 19 (.fa (.t 3) 0), o 20 (.ld1 (.t 19)), o 21 (.bin .neq (.t 18) (.t 20)), o 16 (.mv (.t 21))])
 (.cond (.t 16) (.seq (g [o 6 (.mv (.c .nils)), o 7 (.mv (.c (i 15)))])
 .ret)
 (.seq (g [o 23 (.mv (.t 1)), o 24 (.fa (.t 3) 2), o 25 (.ld1 (.t 24)), o 26 (.bin .sub (.t 25) (.c (i 1))), o 27 (.call (.c (.fn 64 [])) [(.t 23), (.c (i 0)), (.t 26)]), o 28 (.un .not (.t 27)), o 22 (.mv (.t 28))])
 (.cond (.t 22) (.seq (g [o 6 (.mv (.c .nils)), o 7 (.mv (.c (i 2)))])
 .ret)
 .skip)))))
 (.seq (.seq (g [o 29 (.fa (.t 3) 0), o 30 (.ld1 (.t 29)), o 31 (.mv (.t 2)), o 32 (.call (.c (.fn 65 [])) [(.t 30), (.t 31)]), o 9 (.mv (.t 32))])
 (.seq (g [o 33 (.mv (.t 9)), o 34 (.bin .neq (.t 33) (.c (i 0)))])
 (.cond (.t 34) (.seq (g [o 35 (.mv (.t 9)), o 6 (.mv (.c .nils)), o 7 (.mv (.t 35))])
 .ret)
 .skip)))
 (.seq (.seq (g [o 36 (.mv (.t 2)), o 37 (.lenS (.t 36)), o 38 (.fa (.t 3) 1), o 39 (.ld1 (.t 38)), o 40 (.bin .neq (.t 37) (.t 39))])
 (.cond (.t 40) (.seq (g [o 6 (.mv (.c .nils)), o 7 (.mv (.c (i 15)))])
 .ret)
 .skip))
 (.seq (g [o 41 (.ldN 8 (.t 3)), o 42 (.mv (.t 1)), o 43 (.mv (.t 2)), o 44 (.call (.c (.fn 67 [])) [(.t 41), (.t 42), (.t 43)]), o 45 (.call (.c (.fn 66 [])) [(.t 44)]), o 10 (.mv (.t 45))])
 (.seq (.seq (g [o 46 (.mv (.t 10)), o 47 (.lenS (.t 46)), o 48 (.fa (.t 3) 1), o 49 (.ld1 (.t 48)), o 50 (.bin .add (.t 49) (.c (i 1))), o 51 (.bin .neq (.t 47) (.t 50))])
 (.cond (.t 51) (.seq (g [o 6 (.mv (.c .nils)), o 7 (.mv (.c (i 20)))])
 .ret)
 .skip))
 (.seq (g [o 52 (.mv (.t 10)), o 6 (.mv (.t 52)), o 7 (.mv (.c (i 0)))])
 .ret))))))))⟩

def c22 : AFunc := ⟨3, 44, [.tmp 6, .tmp 7],
 (.seq (g [o 3 (.box (.t 0)), o 6 (.mv (.c .nils)), o 7 (.mv (.c (i 0)))])
 (.seq (.seq (g [o 10 (.ldN 8 (.t 3)), o 11 (.call (.c (.fn 16 [])) [(.t 10)]), o 8 (.mv (.t 11))])
 (.seq (g [o 12 (.mv (.t 8)), o 13 (.bin .neq (.t 12) (.c (i 0)))])
 (.cond (.t 13) (.seq (g [o 14 (.mv (.t 8)), o 6 (.mv (.c .nils)), o 7 (.mv (.t 14))])
 .ret)
 .skip)))
 (.seq (.seq (g [o 15 (.mv (.t 1)), o 16 (.lenS (.t 15)), o 17 (.fa (.t 3) 0), o 18 (.ld1 (.t 17)), o 19 (.bin .neq (.t 16) (.t 18))])
 (.cond (.t 19) (.seq (g [o 6 (.mv (.c .nils)), o 7 (.mv (.c (i 15)))])
 .ret)
 .skip))
 (.seq (.seq (g [o 20 (.mv (.t 1)), o 21 (.fa (.t 3) 2), o 22 (.ld1 (.t 21)), o 23 (.bin .sub (.t 22) (.c (i 1))), o 24 (.call (.c (.fn 68 [])) [(.t 20), (.c (i 0)), (.t 23)]), o 25 (.un .not (.t 24))])
 (.cond (.t 25) (.seq (g [o 6 (.mv (.c .nils)), o 7 (.mv (.c (i 2)))])
 .ret)
 .skip))
 (.seq (.seq (g [o 26 (.fa (.t 3) 0), o 27 (.ld1 (.t 26)), o 28 (.mv (.t 2)), o 29 (.call (.c (.fn 69 [])) [(.t 27), (.t 28)]), o 9 (.mv (.t 29))])
 (.seq (g [o 30 (.mv (.t 9)), o 31 (.bin .neq (.t 30) (.c (i 0)))])
 (.cond (.t 31) (.seq (g [o 32 (.mv (.t 9)), o 6 (.mv (.c .nils)), o 7 (.mv (.t 32))])
 .ret)
 .skip)))
 (.seq (.seq (g [o 33 (.mv (.t 2)), o 34 (.lenS (.t 33)), o 35 (.fa (.t 3) 1), o 36 (.ld1 (.t 35)), o 37 (.bin .neq (.t 34) (.t 36))])
 (.cond (.t 37) (.seq (g [o 6 (.mv (.c .nils)), o 7 (.mv (.c (i 15)))])
 .ret)
 .skip))
 (.seq (g [o 38 (.ldN 8 (.t 3)), o 39 (.mv (.t 1)), o 40 (.mv (.t 2)), o 41 (.call (.c (.fn 70 [])) [(.t 38), (.t 39), (.t 40)]), o 42 (.ext (.t 41) 0), o 43 (.ext (.t 41) 1), o 6 (.mv (.t 42)), o 7 (.mv (.t 43))])
 .ret)))))))⟩

def c23 : AFunc := ⟨2, 8, [.tmp 4],
 (.seq (g [o 4 (.mv (.c (.bool false)))])
 (.seq (g [o 5 (.mv (.t 0)), o 6 (.mv (.t 1)), o 7 (.call (.c (.fn 71 [])) [(.t 5), (.t 6), (.c (.fn 72 []))]), o 4 (.mv (.t 7))])
 .ret))⟩

def c24 : AFunc := ⟨1, 12, [.tmp 2],
 (.seq (g [o 1 (.box (.t 0)), o 2 (.mv (.c (.bool false)))])
 (.seq (g [o 3 (.ldN 10 (.t 1)), o 4 (.call (.c (.fn 73 [])) [(.t 3)]), o 5 (.mv (.t 4)), ⟨(some 6), .fa (.t 1) 7, (some (5, true)), []⟩, ⟨(some 7), .fa (.t 6) 1, (some (5, true)), []⟩, ⟨(some 8), .ld1 (.t 7), (some (5, true)), []⟩, ⟨(some 9), .lenS (.t 8), (some (5, true)), []⟩, ⟨(some 10), .bin .leq (.t 9) (.c (i 90)), (some (5, true)), []⟩, o 11 (.pick (.t 5) (.t 10) (.c (.bool false))), o 2 (.mv (.t 11))])
 .ret))⟩

def v25_0 : AC := .dreg [0, 1, 2, 3, 4, 5, 6, 7, 8, 9, 10] [o 52 (.fa (.t 11) 1), o 53 (.ld1 (.t 52)), o 54 (.bin .sub (.t 53) (.c (i 1))), o 55 (.fa (.t 11) 0), o 56 (.ld1 (.t 55)), o 57 (.ldN 12 (.t 8)), o 58 (.mv (.t 10)), ⟨(some 59), .call (.c (.fn 77 [])) [(.t 57), (.t 58)], none, [1, 4]⟩, o 60 (.build [i 0, i 0, i 0, i 0, i 0, i 0, i 0, i 0] [(0, 1, (.t 54)), (1, 1, (.t 56)), (7, 1, (.t 59))]), o 12 (.alloc [i 0, i 0, i 0, i 0, i 0, i 0, i 0, i 0]), e (.st 8 (.t 12) (.t 60))] none
def w25_0 : AC := .loop [4, 8, 9, 12, 13, 14, 42, 43, 44, 67, 68, 69]
 (.seq (g [o 70 (.bin .lss (.t 69) (.t 68))])
 (.seq (.cond (.t 70) .skip
 (.exit 2))
 (.seq (.block 3 (.seq (g [o 71 (.mv (.t 69)), o 72 (.ixS 1 (.t 67) (.t 69)), o 73 (.ld1 (.t 72)), o 15 (.mv (.t 71)), o 16 (.mv (.t 73))])
 (.seq (g [o 74 (.mv (.t 16)), o 75 (.bin .geq (.t 74) (.c (i 0)))])
 (.cond (.t 75) (.seq (g [o 76 (.mv (.t 13)), o 77 (.mv (.t 15)), o 78 (.ldN 12 (.t 8)), o 79 (.mv (.t 16)), o 80 (.call (.c (.fn 77 [])) [(.t 78), (.t 79)]), o 81 (.ixS 1 (.t 76) (.t 77)), e (.st 1 (.t 81) (.t 80))])
 (g [o 82 (.mv (.t 14)), o 83 (.mv (.t 15)), o 84 (.bin .shl (.c (i 1)) (.t 83)), o 85 (.bin .or (.t 82) (.t 84)), o 14 (.mv (.t 85))]))
 .skip))))
 (g [o 86 (.bin .add (.t 69) (.c (i 1))), o 69 (.mv (.t 86))]))))
def w25_1 : AC := .loop [4, 8, 9, 42, 43, 44]
 (.seq (g [o 45 (.bin .lss (.t 44) (.t 43))])
 (.seq (.cond (.t 45) .skip
 (.exit 0))
 (.seq (.block 1 (.seq (g [o 46 (.mv (.t 44)), o 47 (.ixS 8 (.t 42) (.t 44)), o 48 (.ldN 8 (.t 47)), o 11 (.alloc [i 0, i 0, i 0, i 0, i 0, i 0, i 0, i 0]), o 10 (.mv (.t 46)), e (.st 8 (.t 11) (.t 48))])
 (.seq (.seq (g [o 49 (.fa (.t 11) 1), o 50 (.ld1 (.t 49)), o 51 (.bin .eql (.t 50) (.c (i 0)))])
 (.cond (.t 51) (.exit 1)
 .skip))
 (.seq v25_0
 (.seq (g [o 61 (.fa (.t 9) 0), o 62 (.ld1 (.t 61)), o 63 (.mkslice 8 [i 0] (.t 62) (.t 62)), o 13 (.mv (.t 63))])
 (.seq (g [o 14 (.mv (.c (i 0)))])
 (.seq (.seq (g [o 64 (.fa (.t 11) 3), o 65 (.fa (.t 9) 0), o 66 (.ld1 (.t 65)), o 67 (.slcA 5 1 (.t 64) none (some (.t 66)) none), o 68 (.lenS (.t 67)), o 69 (.mv (.c (i 0)))])
 (.block 2 w25_0))
 (.seq (g [o 87 (.ldN 8 (.t 9)), o 88 (.fa (.t 12) 0), o 89 (.ld1 (.t 88)), o 90 (.fa (.t 12) 1), o 91 (.ld1 (.t 90)), o 92 (.mv (.t 13)), o 93 (.mv (.t 14)), o 94 (.call (.c (.fn 78 [])) [(.t 87), (.t 89), (.t 91), (.t 92), (.t 93)]), o 95 (.fa (.t 12) 2), e (.st 5 (.t 95) (.t 94))])
 (g [o 96 (.fa (.t 9) 6), o 97 (.ld1 (.t 96)), o 98 (.ldN 8 (.t 12)), o 99 (.bslice 1 [i 0, i 0, i 0, i 0, i 0, i 0, i 0, i 0] [(0, 8, (.t 98))]), o 100 (.app 8 64 (.t 97) (.t 99)), o 101 (.fa (.t 9) 6), e (.st 1 (.t 101) (.t 100))])))))))))
 (g [o 102 (.bin .add (.t 44) (.c (i 1))), o 44 (.mv (.t 102))]))))
def c25 : AFunc := ⟨2, 111, [.cellN 4 8, .tmp 5],
 (.seq (g [o 2 (.box (.t 0)), o 3 (.box (.t 1)), o 4 (.alloc [i 0, i 0, i 0, i 0, .nils, .nils, .nils, .nils]), o 5 (.mv (.c (i 0)))])
 (.seq (g [o 18 (.ldN 10 (.t 2)), o 19 (.ldN 1 (.t 3)), o 20 (.call (.c (.fn 74 [])) [(.t 18), (.t 19)]), o 17 (.mv (.t 20)), o 21 (.ext (.t 17) 0), o 22 (.ext (.t 17) 1), o 6 (.mv (.t 21)), o 7 (.mv (.t 22))])
 (.seq (.seq (g [o 23 (.mv (.t 7)), o 24 (.bin .neq (.t 23) (.c (i 0)))])
 (.cond (.t 24) (.seq (g [o 25 (.build [i 0, i 0, i 0, i 0, .nils, .nils, .nils, .nils] []), o 26 (.mv (.t 7)), e (.st 8 (.t 4) (.t 25)), o 5 (.mv (.t 26))])
 .ret)
 .skip))
 (.seq (g [o 27 (.ldN 10 (.t 2)), o 28 (.mv (.t 6)), o 29 (.call (.c (.fn 75 [])) [(.t 27), (.t 28)]), o 8 (.alloc [i 0, i 0, i 0, .nils, i 0, .nils, i 0, i 0, .nils, .nils, .nils, .nils]), e (.st 12 (.t 8) (.t 29))])
 (.seq (g [o 31 (.ldN 12 (.t 8)), o 32 (.ldN 1 (.t 3)), o 33 (.call (.c (.fn 76 [])) [(.t 31), (.t 32)]), o 30 (.mv (.t 33)), o 34 (.ext (.t 30) 0), o 35 (.ext (.t 30) 1), o 9 (.alloc [i 0, i 0, i 0, i 0, .nils, .nils, .nils, .nils]), e (.st 8 (.t 9) (.t 34)), o 7 (.mv (.t 35))])
 (.seq (.seq (g [o 36 (.mv (.t 7)), o 37 (.bin .neq (.t 36) (.c (i 0)))])
 (.cond (.t 37) (.seq (g [o 38 (.build [i 0, i 0, i 0, i 0, .nils, .nils, .nils, .nils] []), o 39 (.mv (.t 7)), e (.st 8 (.t 4) (.t 38)), o 5 (.mv (.t 39))])
 .ret)
 .skip))
 (.seq (.seq (g [o 40 (.fa (.t 2) 7), o 41 (.fa (.t 40) 1), o 42 (.ld1 (.t 41)), o 43 (.lenS (.t 42)), o 44 (.mv (.c (i 0)))])
 (.block 0 w25_1))
 (.seq (g [o 103 (.fa (.t 9) 6), o 104 (.ld1 (.t 103)), o 105 (.call (.c (.fn 33 [])) [(.t 104), (.c (.fn 51 []))])])
 (.seq (g [o 106 (.fa (.t 9) 6), o 107 (.ld1 (.t 106)), o 108 (.call (.c (.fn 79 [])) [(.t 107), (.c (.fn 80 []))]), o 109 (.fa (.t 9) 6), e (.st 1 (.t 109) (.t 108))])
 (.seq (g [o 110 (.ldN 8 (.t 9)), e (.st 8 (.t 4) (.t 110)), o 5 (.mv (.c (i 0)))])
 .ret))))))))))⟩

def c26 : AFunc := ⟨2, 17, [.cellN 4 8, .tmp 5],
 (.seq (g [o 2 (.box (.t 0)), o 3 (.box (.t 1)), o 4 (.alloc [i 0, i 0, i 0, i 0, .nils, .nils, .nils, .nils]), o 5 (.mv (.c (i 0)))])
 (.seq (.seq (g [o 7 (.ldN 10 (.t 2)), o 8 (.ldN 1 (.t 3)), o 9 (.call (.c (.fn 81 [])) [(.t 7), (.t 8)]), o 6 (.mv (.t 9))])
 (.seq (g [o 10 (.mv (.t 6)), o 11 (.bin .neq (.t 10) (.c (i 0)))])
 (.cond (.t 11) (.seq (g [o 12 (.build [i 0, i 0, i 0, i 0, .nils, .nils, .nils, .nils] []), o 13 (.mv (.t 6)), e (.st 8 (.t 4) (.t 12)), o 5 (.mv (.t 13))])
 .ret)
 .skip)))
 (.seq (g [o 14 (.ldN 10 (.t 2)), o 15 (.ldN 1 (.t 3)), o 16 (.call (.c (.fn 82 [])) [(.t 14), (.t 15)]), e (.st 8 (.t 4) (.t 16)), o 5 (.mv (.c (i 0)))])
 .ret)))⟩

def v27_0 : AC := .dreg [0, 1, 2, 3, 4, 5, 6, 7, 8, 9, 10, 11, 12, 13, 14, 15] [o 67 (.ldN 8 (.t 3)), o 68 (.fa (.t 9) 3), o 69 (.ld1 (.t 68)), o 70 (.fa (.t 11) 0), o 71 (.ld1 (.t 70)), o 72 (.ixS 3 (.t 69) (.t 71)), o 73 (.fa (.t 72) 0), o 74 (.ld1 (.t 73)), o 75 (.fa (.t 11) 1), o 76 (.ld1 (.t 75)), o 77 (.call (.c (.fn 21 [])) [(.t 67), (.t 74), (.t 76)]), o 66 (.mv (.t 77)), o 78 (.ext (.t 66) 0), o 79 (.ext (.t 66) 1), o 12 (.mv (.t 78)), o 13 (.mv (.t 79))] none
def v27_1 : AC := .dreg [0, 1, 2, 3, 4, 5, 6, 7, 8, 9, 10, 11, 12, 13, 14, 15, 16, 17, 18, 19, 20, 21, 22, 23] [o 97 (.fa (.t 3) 7), o 98 (.ld1 (.t 97)), o 99 (.mv (.t 14)), o 100 (.ixS 1 (.t 98) (.t 99)), o 101 (.ld1 (.t 100)), o 102 (.mv (.t 16)), o 103 (.ixS 1 (.t 101) (.t 102)), o 104 (.ld1 (.t 103)), o 105 (.mv (.t 17)), o 106 (.ixS 1 (.t 104) (.t 105)), o 107 (.ld1 (.t 106)), o 108 (.fa (.t 5) 0), o 109 (.ld1 (.t 108)), o 110 (.fa (.t 11) 2), o 111 (.ld1 (.t 110)), o 112 (.mv (.t 14)), o 113 (.ixS 1 (.t 111) (.t 112)), o 114 (.ld1 (.t 113)), o 115 (.mv (.t 16)), o 116 (.ixS 1 (.t 114) (.t 115)), o 117 (.ld1 (.t 116)), o 118 (.ixS 1 (.t 109) (.t 117)), o 119 (.ld1 (.t 118)), o 120 (.bin .neq (.t 107) (.t 119))] none
def w27_0 : AC := .loop [3, 5, 9, 11, 14, 60, 61, 62, 83, 84, 85, 90, 91, 92]
 (.seq (g [o 93 (.bin .lss (.t 92) (.t 91))])
 (.seq (.cond (.t 93) .skip
 (.exit 4))
 (.seq (.block 5 (.seq (g [o 94 (.mv (.t 92)), o 95 (.ixS 1 (.t 90) (.t 92)), o 96 (.ld1 (.t 95)), o 16 (.mv (.t 94)), o 17 (.mv (.t 96))])
 (.seq v27_1
 (.cond (.t 120) (.seq (g [o 6 (.mv (.c (i 18)))])
 .ret)
 .skip))))
 (g [o 121 (.bin .add (.t 92) (.c (i 1))), o 92 (.mv (.t 121))]))))
def w27_1 : AC := .loop [3, 5, 9, 11, 60, 61, 62, 83, 84, 85]
 (.seq (g [o 86 (.bin .lss (.t 85) (.t 84))])
 (.seq (.cond (.t 86) .skip
 (.exit 2))
 (.seq (.block 3 (.seq (g [o 87 (.mv (.t 85)), o 88 (.ixS 1 (.t 83) (.t 85)), o 89 (.ld1 (.t 88)), o 14 (.mv (.t 87)), o 15 (.mv (.t 89))])
 (.seq (g [o 90 (.mv (.t 15)), o 91 (.lenS (.t 90)), o 92 (.mv (.c (i 0)))])
 (.block 4 w27_0))))
 (g [o 122 (.bin .add (.t 85) (.c (i 1))), o 85 (.mv (.t 122))]))))
def w27_2 : AC := .loop [3, 5, 9, 60, 61, 62]
 (.seq (g [o 63 (.bin .lss (.t 62) (.t 61))])
 (.seq (.cond (.t 63) .skip
 (.exit 0))
 (.seq (.block 1 (.seq (g [o 64 (.ixS 3 (.t 60) (.t 62)), o 65 (.ldN 3 (.t 64)), o 11 (.alloc [i 0, .nils, .nils]), e (.st 3 (.t 11) (.t 65))])
 (.seq v27_0
 (.seq (.seq (g [o 80 (.mv (.t 13)), o 81 (.bin .neq (.t 80) (.c (i 0)))])
 (.cond (.t 81) (.seq (g [o 82 (.mv (.t 13)), o 6 (.mv (.t 82))])
 .ret)
 .skip))
 (.seq (g [o 83 (.mv (.t 12)), o 84 (.lenS (.t 83)), o 85 (.mv (.c (i 0)))])
 (.block 2 w27_1))))))
 (g [o 123 (.bin .add (.t 62) (.c (i 1))), o 62 (.mv (.t 123))]))))
def c27 : AFunc := ⟨3, 124, [.tmp 6],
 (.seq (g [o 3 (.box (.t 0)), o 4 (.box (.t 1)), o 5 (.box (.t 2)), o 6 (.mv (.c (i 0)))])
 (.seq (.seq (g [o 18 (.ldN 10 (.t 4)), o 19 (.ldN 1 (.t 5)), o 20 (.call (.c (.fn 83 [])) [(.t 18), (.t 19)]), o 7 (.mv (.t 20))])
 (.seq (g [o 21 (.mv (.t 7)), o 22 (.bin .neq (.t 21) (.c (i 0)))])
 (.cond (.t 22) (.seq (g [o 23 (.mv (.t 7)), o 6 (.mv (.t 23))])
 .ret)
 .skip)))
 (.seq (.seq (g [o 24 (.ldN 8 (.t 3)), o 25 (.call (.c (.fn 15 [])) [(.t 24)]), o 8 (.mv (.t 25))])
 (.seq (g [o 26 (.mv (.t 8)), o 27 (.bin .neq (.t 26) (.c (i 0)))])
 (.cond (.t 27) (.seq (g [o 28 (.mv (.t 8)), o 6 (.mv (.t 28))])
 .ret)
 .skip)))
 (.seq (g [o 29 (.fa (.t 4) 0), o 30 (.fa (.t 29) 0), o 31 (.ldN 4 (.t 30)), o 9 (.alloc [i 0, i 0, i 0, .nils]), e (.st 4 (.t 9) (.t 31))])
 (.seq (.seq (g [o 32 (.fa (.t 3) 0), o 33 (.ld1 (.t 32)), o 34 (.fa (.t 9) 0), o 35 (.ld1 (.t 34)), o 36 (.bin .neq (.t 33) (.t 35)), o 37 (.mv (.t 36)), ⟨(some 38), .fa (.t 3) 1, (some (37, false)), []⟩, ⟨(some 39), .ld1 (.t 38), (some (37, false)), []⟩, ⟨(some 40), .fa (.t 4) 0, (some (37, false)), []⟩, ⟨(some 41), .fa (.t 40) 6, (some (37, false)), []⟩, ⟨(some 42), .ld1 (.t 41), (some (37, false)), []⟩, ⟨(some 43), .bin .neq (.t 39) (.t 42), (some (37, false)), []⟩, o 44 (.pick (.t 37) (.c (.bool true)) (.t 43)), o 45 (.mv (.t 44)), ⟨(some 46), .fa (.t 3) 2, (some (45, false)), []⟩, ⟨(some 47), .ld1 (.t 46), (some (45, false)), []⟩, ⟨(some 48), .fa (.t 9) 1, (some (45, false)), []⟩, ⟨(some 49), .ld1 (.t 48), (some (45, false)), []⟩, ⟨(some 50), .bin .neq (.t 47) (.t 49), (some (45, false)), []⟩, o 51 (.pick (.t 45) (.c (.bool true)) (.t 50)), o 52 (.mv (.t 51)), ⟨(some 53), .fa (.t 3) 3, (some (52, false)), []⟩, ⟨(some 54), .ld1 (.t 53), (some (52, false)), []⟩, ⟨(some 55), .fa (.t 9) 2, (some (52, false)), []⟩, ⟨(some 56), .ld1 (.t 55), (some (52, false)), []⟩, ⟨(some 57), .bin .neq (.t 54) (.t 56), (some (52, false)), []⟩, o 58 (.pick (.t 52) (.c (.bool true)) (.t 57))])
 (.cond (.t 58) (.seq (g [o 6 (.mv (.c (i 22)))])
 .ret)
 .skip))
 (.seq (.seq (g [o 59 (.fa (.t 4) 9), o 60 (.ld1 (.t 59)), o 61 (.lenS (.t 60)), o 62 (.mv (.c (i 0)))])
 (.block 0 w27_2))
 (.seq (g [o 6 (.mv (.c (i 0)))])
 .ret)))))))⟩

def v28_0 : AC := .dreg [0, 1, 2, 3, 4, 5, 6, 7, 8, 9] [o 60 (.ldN 8 (.t 3)), o 61 (.ldN 10 (.t 4)), o 62 (.ldN 1 (.t 5)), o 63 (.fa (.t 4) 9), o 64 (.ld1 (.t 63)), o 65 (.mv (.t 10)), o 66 (.ixS 3 (.t 64) (.t 65)), o 67 (.ldN 3 (.t 66)), o 68 (.call (.c (.fn 84 [])) [(.t 60), (.t 61), (.t 62), (.t 67)]), o 11 (.mv (.t 68))] none
def w28_0 : AC := .loop [3, 4, 5, 10]
 (.seq (.seq (g [o 53 (.mv (.t 10)), o 54 (.fa (.t 4) 9), o 55 (.ld1 (.t 54)), o 56 (.lenS (.t 55)), o 57 (.bin .lss (.t 53) (.t 56))])
 (.cond (.t 57) .skip
 (.exit 0)))
 (.seq (.block 1 (.seq v28_0
 (.seq (g [o 69 (.mv (.t 11)), o 70 (.bin .neq (.t 69) (.c (i 0)))])
 (.cond (.t 70) (.seq (g [o 71 (.mv (.t 11)), o 6 (.mv (.t 71))])
 .ret)
 .skip))))
 (g [o 58 (.mv (.t 10)), o 59 (.bin .add (.t 58) (.c (i 1))), o 10 (.mv (.t 59))])))
def c28 : AFunc := ⟨3, 72, [.tmp 6],
 (.seq (g [o 3 (.box (.t 0)), o 4 (.box (.t 1)), o 5 (.box (.t 2)), o 6 (.mv (.c (i 0)))])
 (.seq (.seq (g [o 12 (.ldN 10 (.t 4)), o 13 (.ldN 1 (.t 5)), o 14 (.call (.c (.fn 81 [])) [(.t 12), (.t 13)]), o 7 (.mv (.t 14))])
 (.seq (g [o 15 (.mv (.t 7)), o 16 (.bin .neq (.t 15) (.c (i 0)))])
 (.cond (.t 16) (.seq (g [o 17 (.mv (.t 7)), o 6 (.mv (.t 17))])
 .ret)
 .skip)))
 (.seq (.seq (g [o 18 (.ldN 8 (.t 3)), o 19 (.call (.c (.fn 16 [])) [(.t 18)]), o 8 (.mv (.t 19))])
 (.seq (g [o 20 (.mv (.t 8)), o 21 (.bin .neq (.t 20) (.c (i 0)))])
 (.cond (.t 21) (.seq (g [o 22 (.mv (.t 8)), o 6 (.mv (.t 22))])
 .ret)
 .skip)))
 (.seq (g [o 23 (.fa (.t 4) 0), o 24 (.fa (.t 23) 0), o 25 (.ldN 4 (.t 24)), o 9 (.alloc [i 0, i 0, i 0, .nils]), e (.st 4 (.t 9) (.t 25))])
 (.seq (.seq (g [o 26 (.fa (.t 3) 0), o 27 (.ld1 (.t 26)), o 28 (.fa (.t 9) 0), o 29 (.ld1 (.t 28)), o 30 (.bin .neq (.t 27) (.t 29)), o 31 (.mv (.t 30)), ⟨(some 32), .fa (.t 3) 1, (some (31, false)), []⟩, ⟨(some 33), .ld1 (.t 32), (some (31, false)), []⟩, ⟨(some 34), .fa (.t 4) 0, (some (31, false)), []⟩, ⟨(some 35), .fa (.t 34) 6, (some (31, false)), []⟩, ⟨(some 36), .ld1 (.t 35), (some (31, false)), []⟩, ⟨(some 37), .bin .neq (.t 33) (.t 36), (some (31, false)), []⟩, o 38 (.pick (.t 31) (.c (.bool true)) (.t 37)), o 39 (.mv (.t 38)), ⟨(some 40), .fa (.t 3) 2, (some (39, false)), []⟩, ⟨(some 41), .ld1 (.t 40), (some (39, false)), []⟩, ⟨(some 42), .fa (.t 9) 1, (some (39, false)), []⟩, ⟨(some 43), .ld1 (.t 42), (some (39, false)), []⟩, ⟨(some 44), .bin .neq (.t 41) (.t 43), (some (39, false)), []⟩, o 45 (.pick (.t 39) (.c (.bool true)) (.t 44)), o 46 (.mv (.t 45)), ⟨(some 47), .fa (.t 3) 3, (some (46, false)), []⟩, ⟨(some 48), .ld1 (.t 47), (some (46, false)), []⟩, ⟨(some 49), .fa (.t 9) 2, (some (46, false)), []⟩, ⟨(some 50), .ld1 (.t 49), (some (46, false)), []⟩, ⟨(some 51), .bin .neq (.t 48) (.t 50), (some (46, false)), []⟩, o 52 (.pick (.t 46) (.c (.bool true)) (.t 51))])
 (.cond (.t 52) (.seq (g [o 6 (.mv (.c (i 22)))])
 .ret)
 .skip))
 (.seq (.seq (g [o 10 (.mv (.c (i 0)))])
 (.block 0 w28_0))
 (.seq (g [o 6 (.mv (.c (i 0)))])
 .ret)))))))⟩

def v29_0 : AC := .dreg [0, 1, 2, 3, 4, 5, 6] [o 45 (.ldN 10 (.t 8)), o 46 (.ldN 8 (.t 10)), o 47 (.mv (.t 11)), ⟨none, .st 10 (.t 4) (.t 45), none, [1]⟩, e (.st 8 (.t 5) (.t 46)), o 6 (.mv (.c (.bool true))), o 7 (.mv (.t 47))] none
def c29 : AFunc := ⟨2, 48, [.cellN 4 10, .cellN 5 8, .tmp 6, .tmp 7],
 (.seq (g [o 2 (.box (.t 0)), o 3 (.box (.t 1)), o 4 (.alloc [i 0, i 0, i 0, .nils, i 0, .nils, i 0, i 0, .nils, .nils]), o 5 (.alloc [i 0, i 0, i 0, i 0, .nils, .nils, .nils, .nils]), o 6 (.mv (.c (.bool false))), o 7 (.mv (.c (i 0)))])
 (.seq (.seq (g [o 12 (.ldN 7 (.t 2)), o 13 (.call (.c (.fn 85 [])) [(.t 12)]), o 14 (.un .not (.t 13)), o 15 (.mv (.t 14)), ⟨(some 16), .fa (.t 3) 0, (some (15, false)), []⟩, ⟨(some 17), .ld1 (.t 16), (some (15, false)), []⟩, ⟨(some 18), .lenS (.t 17), (some (15, false)), []⟩, ⟨(some 19), .bin .gtr (.t 18) (.c (i 2000)), (some (15, false)), []⟩, o 20 (.pick (.t 15) (.c (.bool true)) (.t 19))])
 (.cond (.t 20) (.seq (g [o 21 (.build [i 0, i 0, i 0, .nils, i 0, .nils, i 0, i 0, .nils, .nils] []), o 22 (.build [i 0, i 0, i 0, i 0, .nils, .nils, .nils, .nils] []), e (.st 10 (.t 4) (.t 21)), e (.st 8 (.t 5) (.t 22)), o 6 (.mv (.c (.bool false))), o 7 (.mv (.c (i 0)))])
 .ret)
 .skip))
 (.seq (g [o 24 (.ldN 7 (.t 2)), o 25 (.call (.c (.fn 38 [])) [(.t 24)]), o 23 (.mv (.t 25)), o 26 (.ext (.t 23) 0), o 27 (.ext (.t 23) 1), o 8 (.alloc [i 0, i 0, i 0, .nils, i 0, .nils, i 0, i 0, .nils, .nils]), e (.st 10 (.t 8) (.t 26)), o 9 (.mv (.t 27))])
 (.seq (.seq (g [o 28 (.ldN 10 (.t 8)), o 29 (.call (.c (.fn 24 [])) [(.t 28)]), o 30 (.un .not (.t 29)), o 31 (.mv (.t 30)), ⟨(some 32), .ldN 10 (.t 8), (some (31, false)), []⟩, ⟨(some 33), .ldN 1 (.t 3), (some (31, false)), []⟩, ⟨(some 34), .call (.c (.fn 81 [])) [(.t 32), (.t 33)], (some (31, false)), []⟩, ⟨(some 35), .bin .neq (.t 34) (.c (i 0)), (some (31, false)), []⟩, o 36 (.pick (.t 31) (.c (.bool true)) (.t 35))])
 (.cond (.t 36) (.seq (g [o 37 (.build [i 0, i 0, i 0, .nils, i 0, .nils, i 0, i 0, .nils, .nils] []), o 38 (.build [i 0, i 0, i 0, i 0, .nils, .nils, .nils, .nils] []), e (.st 10 (.t 4) (.t 37)), e (.st 8 (.t 5) (.t 38)), o 6 (.mv (.c (.bool false))), o 7 (.mv (.c (i 0)))])
 .ret)
 .skip))
 (.seq (g [o 40 (.ldN 10 (.t 8)), o 41 (.ldN 1 (.t 3)), o 42 (.call (.c (.fn 25 [])) [(.t 40), (.t 41)]), o 39 (.mv (.t 42)), o 43 (.ext (.t 39) 0), o 44 (.ext (.t 39) 1), o 10 (.alloc [i 0, i 0, i 0, i 0, .nils, .nils, .nils, .nils]), e (.st 8 (.t 10) (.t 43)), o 11 (.mv (.t 44))])
 (.seq v29_0
 .ret))))))⟩

def c30 : AFunc := ⟨3, 15, [.tmp 4],
 (.seq (g [o 4 (.mv (.c (i 0)))])
 (.seq (.seq (g [o 5 (.mv (.t 0))])
 (.block 0 (.seq (g [o 7 (.ld1 (.t 1)), o 8 (.bin .eql (.t 5) (.t 7)), o 6 (.mv (.t 8))])
 (.cond (.t 6) (.seq (g [o 9 (.ld1 (.t 2)), o 4 (.mv (.t 9))])
 .ret)
 (.seq (g [o 11 (.ld1 (.t 2)), o 12 (.bin .eql (.t 5) (.t 11)), o 10 (.mv (.t 12))])
 (.cond (.t 10) (.seq (g [o 13 (.ld1 (.t 1)), o 4 (.mv (.t 13))])
 .ret)
 .skip))))))
 (.seq (g [o 14 (.mv (.t 0)), o 4 (.mv (.t 14))])
 .ret)))⟩

def w31_0 : AC := .loop [2, 3, 6, 16, 17, 18, 22, 23, 24]
 (.seq (g [o 25 (.bin .lss (.t 24) (.t 23))])
 (.seq (.cond (.t 25) .skip
 (.exit 2))
 (.seq (.block 3 (.seq (g [o 26 (.ixS 1 (.t 22) (.t 24)), o 27 (.ld1 (.t 26)), o 8 (.mv (.t 27))])
 (g [o 28 (.mv (.t 6)), o 29 (.mv (.t 8)), o 30 (.call (.c (.fn 32 [])) [(.t 29)]), o 31 (.bslice 1 [.nils] [(0, 1, (.t 30))]), o 32 (.app 1 24 (.t 28) (.t 31)), o 6 (.mv (.t 32))])))
 (g [o 33 (.bin .add (.t 24) (.c (i 1))), o 24 (.mv (.t 33))]))))
def w31_1 : AC := .loop [2, 3, 16, 17, 18]
 (.seq (g [o 19 (.bin .lss (.t 18) (.t 17))])
 (.seq (.cond (.t 19) .skip
 (.exit 0))
 (.seq (.block 1 (.seq (g [o 20 (.ixS 1 (.t 16) (.t 18)), o 21 (.ld1 (.t 20)), o 5 (.mv (.t 21))])
 (.seq (g [o 6 (.mv (.c .nils))])
 (.seq (.seq (g [o 22 (.mv (.t 5)), o 23 (.lenS (.t 22)), o 24 (.mv (.c (i 0)))])
 (.block 2 w31_0))
 (g [o 34 (.fa (.t 3) 7), o 35 (.ld1 (.t 34)), o 36 (.mv (.t 6)), o 37 (.bslice 1 [.nils] [(0, 1, (.t 36))]), o 38 (.app 1 24 (.t 35) (.t 37)), o 39 (.fa (.t 3) 7), e (.st 1 (.t 39) (.t 38))])))))
 (g [o 40 (.bin .add (.t 18) (.c (i 1))), o 18 (.mv (.t 40))]))))
def c31 : AFunc := ⟨1, 42, [.cellN 2 8],
 (.seq (g [o 1 (.box (.t 0)), o 2 (.alloc [i 0, i 0, i 0, i 0, .nils, .nils, .nils, .nils])])
 (.seq (g [o 9 (.ldN 8 (.t 1)), o 3 (.alloc [i 0, i 0, i 0, i 0, .nils, .nils, .nils, .nils]), e (.st 8 (.t 3) (.t 9))])
 (.seq (g [o 10 (.fa (.t 1) 6), o 11 (.ld1 (.t 10)), o 12 (.call (.c (.fn 86 [])) [(.t 11)]), o 13 (.fa (.t 3) 7), e (.st 1 (.t 13) (.c .nils)), o 14 (.fa (.t 3) 6), e (.st 1 (.t 14) (.t 12))])
 (.seq (.seq (g [o 15 (.fa (.t 1) 7), o 16 (.ld1 (.t 15)), o 17 (.lenS (.t 16)), o 18 (.mv (.c (i 0)))])
 (.block 0 w31_1))
 (.seq (g [o 41 (.ldN 8 (.t 3)), e (.st 8 (.t 2) (.t 41))])
 .ret)))))⟩

def c32 : AFunc := ⟨1, 8, [.tmp 2],
 (.seq (g [o 2 (.mv (.c .nils))])
 (.seq (.seq (g [o 3 (.mv (.t 0)), o 4 (.isnil false (.t 3))])
 (.cond (.t 4) (.seq (g [o 2 (.mv (.c .nils))])
 .ret)
 .skip))
 (.seq (g [o 5 (.bslice 0 [] []), o 6 (.mv (.t 0)), o 7 (.app 1 8 (.t 5) (.t 6)), o 2 (.mv (.t 7))])
 .ret)))⟩

def c33 : AFunc := ⟨2, 14, [],
 (.seq (g [o 5 (.mv (.t 0)), o 6 (.lenS (.t 5)), o 4 (.mv (.t 6))])
 (g [o 7 (.mv (.t 0)), o 8 (.mv (.t 4)), o 9 (.mv (.t 4)), o 10 (.conv .u64 (.t 9)), o 11 (.call (.c (.fn 88 [])) [(.t 10)]), o 12 (.mv (.t 1)), o 13 (.call (.c (.fn 87 [])) [(.t 7), (.c (i 0)), (.t 8), (.t 11), (.t 12)])]))⟩

def v34_0 : AC := .dreg [0, 1, 2, 3, 4, 7, 8, 9, 10, 11, 5, 6, 12, 13, 14, 15] [o 23 (.mv (.t 5)), o 24 (.mv (.t 7)), o 25 (.fa (.t 2) 2), o 26 (.ixA 5 1 (.t 25) (.t 24)), o 27 (.ld1 (.t 26)), o 30 (.mv (.t 6)), o 31 (.mv (.t 7)), o 32 (.fa (.t 3) 2), o 33 (.ixA 5 1 (.t 32) (.t 31)), o 34 (.ld1 (.t 33)), o 28 (.bslice 1 [i 0] [(0, 1, (.t 27))]), ⟨(some 29), .app 1 8 (.t 23) (.t 28), none, [9]⟩, o 35 (.bslice 1 [i 0] [(0, 1, (.t 34))]), o 36 (.app 1 8 (.t 30) (.t 35)), o 5 (.mv (.t 29)), o 6 (.mv (.t 36))] none
def w34_0 : AC := .loop [2, 3, 5, 6, 7]
 (.seq (.seq (g [o 19 (.mv (.t 7)), o 20 (.bin .lss (.t 19) (.c (i 5)))])
 (.cond (.t 20) .skip
 (.exit 0)))
 (.seq (.block 1 v34_0)
 (g [o 21 (.mv (.t 7)), o 22 (.bin .add (.t 21) (.c (i 1))), o 7 (.mv (.t 22))])))
def v34_1 : AC := .dreg [0, 1, 2, 3, 4, 5, 6, 7, 8] [o 43 (.mv (.t 5)), o 44 (.mv (.t 8)), o 45 (.ixS 1 (.t 43) (.t 44)), o 46 (.ld1 (.t 45)), o 47 (.mv (.t 6)), o 48 (.mv (.t 8)), o 49 (.ixS 1 (.t 47) (.t 48)), o 50 (.ld1 (.t 49)), o 51 (.bin .lss (.t 46) (.t 50))] none
def v34_2 : AC := .dreg [0, 1, 2, 3, 4, 5, 6, 7, 8] [o 52 (.mv (.t 5)), o 53 (.mv (.t 8)), o 54 (.ixS 1 (.t 52) (.t 53)), o 55 (.ld1 (.t 54)), o 56 (.mv (.t 6)), o 57 (.mv (.t 8)), o 58 (.ixS 1 (.t 56) (.t 57)), o 59 (.ld1 (.t 58)), o 60 (.bin .gtr (.t 55) (.t 59))] none
def w34_1 : AC := .loop [5, 6, 8]
 (.seq (.seq (g [o 37 (.mv (.t 8)), o 38 (.mv (.t 5)), o 39 (.lenS (.t 38)), o 40 (.bin .lss (.t 37) (.t 39))])
 (.cond (.t 40) .skip
 (.exit 2)))
 (.seq (.block 3 (.seq (.seq v34_1
 (.cond (.t 51) (.seq (g [o 4 (.mv (.c (j 0)))])
 .ret)
 .skip))
 (.seq v34_2
 (.cond (.t 60) (.seq (g [o 4 (.mv (.c (i 1)))])
 .ret)
 .skip))))
 (g [o 41 (.mv (.t 8)), o 42 (.bin .add (.t 41) (.c (i 1))), o 8 (.mv (.t 42))])))
def c34 : AFunc := ⟨2, 61, [.tmp 4],
 (.seq (g [o 2 (.box (.t 0)), o 3 (.box (.t 1)), o 4 (.mv (.c (i 0)))])
 (.seq (g [o 9 (.fa (.t 2) 0), o 10 (.ld1 (.t 9)), o 11 (.fa (.t 2) 1), o 12 (.ld1 (.t 11)), o 13 (.bslice 2 [i 0, i 0] [(0, 1, (.t 10)), (1, 1, (.t 12))]), o 5 (.mv (.t 13))])
 (.seq (g [o 14 (.fa (.t 3) 0), o 15 (.ld1 (.t 14)), o 16 (.fa (.t 3) 1), o 17 (.ld1 (.t 16)), o 18 (.bslice 2 [i 0, i 0] [(0, 1, (.t 15)), (1, 1, (.t 17))]), o 6 (.mv (.t 18))])
 (.seq (.seq (g [o 7 (.mv (.c (i 0)))])
 (.block 0 w34_0))
 (.seq (.seq (g [o 8 (.mv (.c (i 0)))])
 (.block 2 w34_1))
 (.seq (g [o 4 (.mv (.c (i 0)))])
 .ret))))))⟩

def v35_0 : AC := .dreg [0, 1, 2, 3, 4, 5, 6, 7] [o 20 (.mv (.t 0)), o 21 (.mv (.t 1)), o 22 (.slcS 8 (.t 20) none (some (.t 21)) none), o 23 (.mv (.t 0)), o 24 (.mv (.t 2)), o 25 (.slcS 8 (.t 23) (some (.t 24)) none none), o 26 (.app 8 64 (.t 22) (.t 25)), o 0 (.mv (.t 26))] none
def c35 : AFunc := ⟨3, 33, [.tmp 6],
 (.seq (g [o 6 (.mv (.c .nils))])
 (.seq (g [o 8 (.mv (.t 0)), o 9 (.mv (.t 1)), o 10 (.mv (.t 2)), o 11 (.mv (.t 0)), o 12 (.lenS (.t 11)), o 13 (.slcS 8 (.t 8) (some (.t 9)) (some (.t 10)) (some (.t 12)))])
 (.seq (.seq (g [o 14 (.mv (.t 1)), o 15 (.mv (.t 2)), o 16 (.bin .eql (.t 14) (.t 15))])
 (.cond (.t 16) (.seq (g [o 17 (.mv (.t 0)), o 6 (.mv (.t 17))])
 .ret)
 .skip))
 (.seq (g [o 18 (.mv (.t 0)), o 19 (.lenS (.t 18)), o 7 (.mv (.t 19))])
 (.seq v35_0
 (.seq (g [o 27 (.mv (.t 0)), o 28 (.mv (.t 0)), o 29 (.lenS (.t 28)), o 30 (.mv (.t 7)), o 31 (.slcS 8 (.t 27) (some (.t 29)) (some (.t 30)) none), e (.clr [i 0, i 0, i 0, i 0, i 0, i 0, i 0, i 0] (.t 31))])
 (.seq (g [o 32 (.mv (.t 0)), o 6 (.mv (.t 32))])
 .ret)))))))⟩

def w36_0 : AC := .loop [1, 3, 4, 5]
 (.seq (.seq (g [o 13 (.mv (.t 5)), o 14 (.fa (.t 1) 7), o 15 (.ld1 (.t 14)), o 16 (.mv (.t 4)), o 17 (.ixS 1 (.t 15) (.t 16)), o 18 (.ld1 (.t 17)), o 19 (.lenS (.t 18)), o 20 (.bin .lss (.t 13) (.t 19))])
 (.cond (.t 20) .skip
 (.exit 2)))
 (.seq (.block 3 (g [o 23 (.mv (.t 3)), o 24 (.fa (.t 1) 7), o 25 (.ld1 (.t 24)), o 26 (.mv (.t 4)), o 27 (.ixS 1 (.t 25) (.t 26)), o 28 (.ld1 (.t 27)), o 29 (.mv (.t 5)), o 30 (.ixS 1 (.t 28) (.t 29)), o 31 (.ld1 (.t 30)), o 32 (.lenS (.t 31)), o 33 (.bin .add (.t 23) (.t 32)), o 3 (.mv (.t 33))]))
 (g [o 21 (.mv (.t 5)), o 22 (.bin .add (.t 21) (.c (i 1))), o 5 (.mv (.t 22))])))
def w36_1 : AC := .loop [1, 3, 4]
 (.seq (.seq (g [o 6 (.mv (.t 4)), o 7 (.fa (.t 1) 7), o 8 (.ld1 (.t 7)), o 9 (.lenS (.t 8)), o 10 (.bin .lss (.t 6) (.t 9))])
 (.cond (.t 10) .skip
 (.exit 0)))
 (.seq (.block 1 (.seq (g [o 5 (.mv (.c (i 0)))])
 (.block 2 w36_0)))
 (g [o 11 (.mv (.t 4)), o 12 (.bin .add (.t 11) (.c (i 1))), o 4 (.mv (.t 12))])))
def c36 : AFunc := ⟨1, 35, [.tmp 2],
 (.seq (g [o 1 (.box (.t 0)), o 2 (.mv (.c (i 0)))])
 (.seq (g [o 3 (.mv (.c (i 0)))])
 (.seq (.seq (g [o 4 (.mv (.c (i 0)))])
 (.block 0 w36_1))
 (.seq (g [o 34 (.mv (.t 3)), o 2 (.mv (.t 34))])
 .ret))))⟩

def c37 : AFunc := ⟨0, 34, [.cellN 0 10],
 (.seq (g [o 0 (.alloc [i 0, i 0, i 0, .nils, i 0, .nils, i 0, i 0, .nils, .nils])])
 (.seq (g [o 5 (.bslice 2 [i 0, i 0] [(0, 1, (.c (i 0))), (1, 1, (.c (i 0)))]), o 6 (.bslice 2 [i 0, i 0] [(0, 1, (.c (i 0))), (1, 1, (.c (i 0)))]), o 7 (.bslice 1 [.nils] [(0, 1, (.t 6))]), o 8 (.build [.nils, .nils, .nils] [(0, 1, (.t 5)), (1, 1, (.t 7))]), o 9 (.bslice 2 [i 0, i 0] [(0, 1, (.c (i 0))), (1, 1, (.c (i 1)))]), o 10 (.bslice 2 [i 0, i 0] [(0, 1, (.c (i 0))), (1, 1, (.c (i 0)))]), o 11 (.bslice 1 [.nils] [(0, 1, (.t 10))]), o 12 (.build [.nils, .nils, .nils] [(0, 1, (.t 9)), (1, 1, (.t 11))]), o 13 (.bslice 2 [.nils, .nils, .nils, .nils, .nils, .nils] [(0, 3, (.t 8)), (3, 3, (.t 12))]), o 14 (.build [i 0, i 0, i 0, .nils] [(0, 1, (.c (i 2))), (1, 1, (.c (i 2))), (2, 1, (.c (i 1))), (3, 1, (.t 13))]), o 1 (.alloc [i 0, i 0, i 0, .nils]), e (.st 4 (.t 1) (.t 14))])
 (.seq (g [o 15 (.build [i 0, i 0, i 0, i 0, i 0] [(0, 1, (.c (i 1))), (1, 1, (.c (i 3)))]), o 16 (.build [i 0, i 0, i 0, i 0, i 0, i 0] [(0, 1, (.c (i 2))), (1, 5, (.t 15))]), o 17 (.build [i 0, i 0, i 0, i 0, i 0, i 0, i 0] [(0, 6, (.t 16))]), o 18 (.build [i 0, i 0, i 0, i 0, i 0, i 0, i 0, i 0] [(0, 7, (.t 17))]), o 19 (.build [i 0, i 0, i 0, i 0, i 0] [(0, 1, (.c (i 3))), (1, 1, (.c (i 3)))]), o 20 (.build [i 0, i 0, i 0, i 0, i 0, i 0] [(0, 1, (.c (i 2))), (1, 5, (.t 19))]), o 21 (.build [i 0, i 0, i 0, i 0, i 0, i 0, i 0] [(0, 6, (.t 20))]), o 22 (.build [i 0, i 0, i 0, i 0, i 0, i 0, i 0, i 0] [(0, 7, (.t 21))]), o 23 (.bslice 2 [i 0, i 0, i 0, i 0, i 0, i 0, i 0, i 0, i 0, i 0, i 0, i 0, i 0, i 0, i 0, i 0] [(0, 8, (.t 18)), (8, 8, (.t 22))]), o 24 (.bslice 1 [.nils] [(0, 1, (.t 23))]), o 25 (.build [i 0, .nils] [(0, 1, (.c (i 2))), (1, 1, (.t 24))]), o 2 (.alloc [i 0, .nils]), e (.st 2 (.t 2) (.t 25))])
 (.seq (g [o 27 (.ldN 4 (.t 1)), o 28 (.ldN 2 (.t 2)), o 29 (.build [i 0, i 0, i 0, .nils, i 0, .nils, i 0] [(0, 4, (.t 27)), (4, 2, (.t 28)), (6, 1, (.c (i 1)))]), o 30 (.call (.c (.fn 38 [])) [(.t 29)]), o 26 (.mv (.t 30)), o 31 (.ext (.t 26) 0), o 32 (.ext (.t 26) 1), o 3 (.alloc [i 0, i 0, i 0, .nils, i 0, .nils, i 0, i 0, .nils, .nils]), e (.st 10 (.t 3) (.t 31)), o 4 (.mv (.t 32))])
 (.seq (g [o 33 (.ldN 10 (.t 3)), e (.st 10 (.t 0) (.t 33))])
 .ret)))))⟩

def c38 : AFunc := ⟨1, 25, [.cellN 2 10, .tmp 3],
 (.seq (g [o 1 (.box (.t 0)), o 2 (.alloc [i 0, i 0, i 0, .nils, i 0, .nils, i 0, i 0, .nils, .nils]), o 3 (.mv (.c (i 0)))])
 (.seq (.seq (g [o 6 (.ldN 7 (.t 1)), o 7 (.call (.c (.fn 89 [])) [(.t 6)]), o 4 (.mv (.t 7))])
 (.seq (g [o 8 (.mv (.t 4)), o 9 (.bin .neq (.t 8) (.c (i 0)))])
 (.cond (.t 9) (.seq (g [o 10 (.build [i 0, i 0, i 0, .nils, i 0, .nils, i 0, i 0, .nils, .nils] []), o 11 (.mv (.t 4)), e (.st 10 (.t 2) (.t 10)), o 3 (.mv (.t 11))])
 .ret)
 .skip)))
 (.seq (.seq (g [o 12 (.ldN 7 (.t 1)), o 13 (.call (.c (.fn 90 [])) [(.t 12), (.c (i 4096))]), o 14 (.bin .gtr (.t 13) (.c (i 4096)))])
 (.cond (.t 14) (.seq (g [o 15 (.build [i 0, i 0, i 0, .nils, i 0, .nils, i 0, i 0, .nils, .nils] []), e (.st 10 (.t 2) (.t 15)), o 3 (.mv (.c (i 17)))])
 .ret)
 .skip))
 (.seq (g [o 16 (.ldN 7 (.t 1)), o 17 (.call (.c (.fn 91 [])) [(.t 16)]), o 5 (.alloc [i 0, i 0, i 0, .nils, i 0, .nils, i 0, i 0, .nils, .nils]), e (.st 10 (.t 5) (.t 17))])
 (.seq (.seq (g [o 18 (.fa (.t 5) 7), o 19 (.fa (.t 18) 1), o 20 (.ld1 (.t 19)), o 21 (.lenS (.t 20)), o 22 (.bin .gtr (.t 21) (.c (i 8192)))])
 (.cond (.t 22) (.seq (g [o 23 (.build [i 0, i 0, i 0, .nils, i 0, .nils, i 0, i 0, .nils, .nils] []), e (.st 10 (.t 2) (.t 23)), o 3 (.mv (.c (i 17)))])
 .ret)
 .skip))
 (.seq (g [o 24 (.ldN 10 (.t 5)), e (.st 10 (.t 2) (.t 24)), o 3 (.mv (.c (i 0)))])
 .ret))))))⟩

def c39 : AFunc := ⟨0, 27, [.cellN 0 8],
 (.seq (g [o 0 (.alloc [i 0, i 0, i 0, i 0, .nils, .nils, .nils, .nils])])
 (.seq (g [o 1 (.bslice 2 [i 0, i 0] [(0, 1, (.c (i 0))), (1, 1, (.c (j 0)))]), o 2 (.bslice 2 [i 0, i 0] [(0, 1, (.c (i 0))), (1, 1, (.c (i 1)))]), o 3 (.bslice 2 [.nils, .nils] [(0, 1, (.t 1)), (1, 1, (.t 2))]), o 4 (.bslice 1 [i 0] [(0, 1, (.c (i 0)))]), o 5 (.bslice 2 [.nils, .nils] [(0, 1, (.c .nils)), (1, 1, (.t 4))]), o 6 (.bslice 2 [i 0, i 0] [(0, 1, (.c (i 0))), (1, 1, (.c (i 0)))]), o 7 (.bslice 2 [.nils, .nils] [(0, 1, (.t 6)), (1, 1, (.c .nils))]), o 8 (.bslice 2 [.nils, .nils] [(0, 1, (.t 5)), (1, 1, (.t 7))]), o 9 (.bslice 1 [.nils] [(0, 1, (.t 8))]), o 10 (.call (.c (.fn 40 [])) [(.c (i 0)), (.c (j 0))]), o 11 (.build [i 0, i 0, i 0, i 0, i 0, i 0, i 0, i 0] [(2, 5, (.t 10))]), o 12 (.call (.c (.fn 40 [])) [(.c (i 0)), (.c (i 0))]), o 13 (.build [i 0, i 0, i 0, i 0, i 0, i 0, i 0, i 0] [(2, 5, (.t 12))]), o 14 (.call (.c (.fn 40 [])) [(.c (i 0)), (.c (i 0))]), o 15 (.build [i 0, i 0, i 0, i 0, i 0, i 0, i 0, i 0] [(1, 1, (.c (i 1))), (2, 5, (.t 14))]), o 16 (.call (.c (.fn 40 [])) [(.c (i 0)), (.c (i 1))]), o 17 (.build [i 0, i 0, i 0, i 0, i 0, i 0, i 0, i 0] [(1, 1, (.c (i 1))), (2, 5, (.t 16)), (7, 1, (.c (i 1)))]), o 18 (.bslice 4 [i 0, i 0, i 0, i 0, i 0, i 0, i 0, i 0, i 0, i 0, i 0, i 0, i 0, i 0, i 0, i 0, i 0, i 0, i 0, i 0, i 0, i 0, i 0, i 0, i 0, i 0, i 0, i 0, i 0, i 0, i 0, i 0] [(0, 8, (.t 11)), (8, 8, (.t 13)), (16, 8, (.t 15)), (24, 8, (.t 17))]), o 19 (.bslice 1 [i 0] [(0, 1, (.c (j 0)))]), o 20 (.bslice 2 [i 0, i 0] [(0, 1, (.c (j 0))), (1, 1, (.c (j 0)))]), o 21 (.bslice 2 [.nils, .nils] [(0, 1, (.t 19)), (1, 1, (.t 20))]), o 22 (.bslice 1 [i 0] [(0, 1, (.c (j 0)))]), o 23 (.bslice 2 [i 0, i 0] [(0, 1, (.c (j 0))), (1, 1, (.c (i 1)))]), o 24 (.bslice 2 [.nils, .nils] [(0, 1, (.t 22)), (1, 1, (.t 23))]), o 25 (.bslice 2 [.nils, .nils] [(0, 1, (.t 21)), (1, 1, (.t 24))]), o 26 (.build [i 0, i 0, i 0, i 0, .nils, .nils, .nils, .nils] [(0, 1, (.c (i 2))), (1, 1, (.c (i 1))), (2, 1, (.c (i 2))), (3, 1, (.c (i 2))), (4, 1, (.t 3)), (5, 1, (.t 9)), (6, 1, (.t 18)), (7, 1, (.t 25))]), e (.st 8 (.t 0) (.t 26))])
 .ret))⟩

def c40 : AFunc := ⟨2, 8, [.cellN 4 5],
 (.seq (g [o 4 (.alloc [i 0, i 0, i 0, i 0, i 0])])
 (.seq (g [o 5 (.mv (.t 0)), o 6 (.mv (.t 1)), o 7 (.build [i 0, i 0, i 0, i 0, i 0] [(0, 1, (.t 5)), (1, 1, (.t 6)), (2, 1, (.c (j 0))), (3, 1, (.c (j 0))), (4, 1, (.c (j 0)))]), e (.st 5 (.t 4) (.t 7))])
 .ret))⟩

def v41_0 : AC := .dreg [0, 1, 2, 3, 4, 5, 6, 7, 8] [o 16 (.mv (.t 0)), o 17 (.mv (.t 5)), o 18 (.ixS 1 (.t 16) (.t 17)), o 19 (.ld1 (.t 18)), o 20 (.mv (.t 1)), o 21 (.mv (.t 5)), o 22 (.ixS 1 (.t 20) (.t 21)), o 23 (.ld1 (.t 22)), o 24 (.bin .neq (.t 19) (.t 23))] none
def w41_0 : AC := .loop [0, 1, 12, 13]
 (.seq (g [o 14 (.bin .lss (.t 13) (.t 12))])
 (.seq (.cond (.t 14) .skip
 (.exit 0))
 (.seq (.block 1 (.seq (g [o 15 (.mv (.t 13)), o 5 (.mv (.t 15))])
 (.seq v41_0
 (.cond (.t 24) (.seq (g [o 4 (.mv (.c (.bool false)))])
 .ret)
 .skip))))
 (g [o 25 (.bin .add (.t 13) (.c (i 1))), o 13 (.mv (.t 25))]))))
def c41 : AFunc := ⟨2, 26, [.tmp 4],
 (.seq (g [o 4 (.mv (.c (.bool false)))])
 (.seq (.seq (g [o 6 (.mv (.t 0)), o 7 (.lenS (.t 6)), o 8 (.mv (.t 1)), o 9 (.lenS (.t 8)), o 10 (.bin .neq (.t 7) (.t 9))])
 (.cond (.t 10) (.seq (g [o 4 (.mv (.c (.bool false)))])
 .ret)
 .skip))
 (.seq (.seq (g [o 11 (.mv (.t 0)), o 12 (.lenS (.t 11)), o 13 (.mv (.c (i 0)))])
 (.block 0 w41_0))
 (.seq (g [o 4 (.mv (.c (.bool true)))])
 .ret))))⟩

def c42 : AFunc := ⟨1, 9, [.tmp 2],
 (.seq (g [o 2 (.mv (.c .nils))])
 (.seq (g [o 4 (.mv (.t 0)), o 5 (.call (.c (.fn 92 [])) [(.t 4)]), o 3 (.mv (.t 5))])
 (.seq (g [o 6 (.mv (.t 3)), o 7 (.call (.c (.fn 93 [])) [(.t 6)])])
 (.seq (g [o 8 (.mv (.t 3)), o 2 (.mv (.t 8))])
 .ret))))⟩

def c43 : AFunc := ⟨1, 4, [.tmp 2],
 (.seq (g [o 1 (.box (.t 0)), o 2 (.mv (.c .nilf))])
 (.seq (g [o 3 (.mkfn 94 [(.t 1)]), o 2 (.mv (.t 3))])
 .ret))⟩

def v44_0 : AC := .dreg [0, 1, 2, 3, 4, 5, 6, 7, 8, 9] [o 16 (.mv (.t 0)), o 17 (.mv (.t 3)), o 18 (.ixS 1 (.t 16) (.t 17)), o 19 (.ld1 (.t 18)), o 20 (.mv (.t 0)), o 21 (.mv (.t 3)), o 22 (.bin .sub (.t 21) (.c (i 1))), o 23 (.ixS 1 (.t 20) (.t 22)), o 24 (.ld1 (.t 23)), o 25 (.bin .eql (.t 19) (.t 24))] none
def v44_1 : AC := .dreg [0, 1, 2, 3, 4, 5, 6, 7, 8, 9] [o 35 (.mv (.t 4)), o 36 (.mv (.t 5)), o 37 (.ixS 1 (.t 35) (.t 36)), o 38 (.ld1 (.t 37)), o 39 (.mv (.t 4)), o 40 (.mv (.t 5)), o 41 (.bin .sub (.t 40) (.c (i 1))), o 42 (.ixS 1 (.t 39) (.t 41)), o 43 (.ld1 (.t 42)), o 44 (.bin .neq (.t 38) (.t 43))] none
def w44_0 : AC := .loop [0, 3, 4, 5]
 (.seq (.seq (g [o 29 (.mv (.t 5)), o 30 (.mv (.t 4)), o 31 (.lenS (.t 30)), o 32 (.bin .lss (.t 29) (.t 31))])
 (.cond (.t 32) .skip
 (.exit 2)))
 (.seq (.block 3 (.seq v44_1
 (.cond (.t 44) (.seq (g [o 45 (.mv (.t 0)), o 46 (.mv (.t 3)), o 47 (.mv (.t 4)), o 48 (.mv (.t 5)), o 49 (.ixS 1 (.t 47) (.t 48)), o 50 (.ld1 (.t 49)), o 51 (.ixS 1 (.t 45) (.t 46)), e (.st 1 (.t 51) (.t 50))])
 (g [o 52 (.mv (.t 3)), o 53 (.bin .add (.t 52) (.c (i 1))), o 3 (.mv (.t 53))]))
 .skip)))
 (g [o 33 (.mv (.t 5)), o 34 (.bin .add (.t 33) (.c (i 1))), o 5 (.mv (.t 34))])))
def w44_1 : AC := .loop [0, 3]
 (.seq (.seq (g [o 10 (.mv (.t 3)), o 11 (.mv (.t 0)), o 12 (.lenS (.t 11)), o 13 (.bin .lss (.t 10) (.t 12))])
 (.cond (.t 13) .skip
 (.exit 0)))
 (.seq (.block 1 (.seq v44_0
 (.cond (.t 25) (.seq (g [o 26 (.mv (.t 0)), o 27 (.mv (.t 3)), o 28 (.slcS 1 (.t 26) (some (.t 27)) none none), o 4 (.mv (.t 28))])
 (.seq (.seq (g [o 5 (.mv (.c (i 1)))])
 (.block 2 w44_0))
 (.seq (g [o 54 (.mv (.t 0)), o 55 (.mv (.t 3)), o 56 (.slcS 1 (.t 54) (some (.t 55)) none none), e (.clr [i 0] (.t 56))])
 (.seq (g [o 57 (.mv (.t 0)), o 58 (.mv (.t 3)), o 59 (.slcS 1 (.t 57) none (some (.t 58)) none), o 2 (.mv (.t 59))])
 .ret))))
 .skip)))
 (g [o 14 (.mv (.t 3)), o 15 (.bin .add (.t 14) (.c (i 1))), o 3 (.mv (.t 15))])))
def c44 : AFunc := ⟨1, 61, [.tmp 2],
 (.seq (g [o 2 (.mv (.c .nils))])
 (.seq (.seq (g [o 6 (.mv (.t 0)), o 7 (.lenS (.t 6)), o 8 (.bin .lss (.t 7) (.c (i 2)))])
 (.cond (.t 8) (.seq (g [o 9 (.mv (.t 0)), o 2 (.mv (.t 9))])
 .ret)
 .skip))
 (.seq (.seq (g [o 3 (.mv (.c (i 1)))])
 (.block 0 w44_1))
 (.seq (g [o 60 (.mv (.t 0)), o 2 (.mv (.t 60))])
 .ret))))⟩

def w45_0 : AC := .loop [3, 9, 10, 11, 15, 16, 17]
 (.seq (g [o 18 (.bin .lss (.t 17) (.t 16))])
 (.seq (.cond (.t 18) .skip
 (.exit 2))
 (.seq (.block 3 (.seq (g [o 19 (.ixS 1 (.t 15) (.t 17)), o 20 (.ld1 (.t 19)), o 7 (.mv (.t 20))])
 (g [o 21 (.mv (.t 3)), o 22 (.mv (.t 7)), o 23 (.lenS (.t 22)), o 24 (.bin .add (.t 21) (.t 23)), o 3 (.mv (.t 24))])))
 (g [o 25 (.bin .add (.t 17) (.c (i 1))), o 17 (.mv (.t 25))]))))
def w45_1 : AC := .loop [3, 9, 10, 11]
 (.seq (g [o 12 (.bin .lss (.t 11) (.t 10))])
 (.seq (.cond (.t 12) .skip
 (.exit 0))
 (.seq (.block 1 (.seq (g [o 13 (.ixS 1 (.t 9) (.t 11)), o 14 (.ld1 (.t 13)), o 5 (.mv (.t 14))])
 (.seq (g [o 15 (.mv (.t 5)), o 16 (.lenS (.t 15)), o 17 (.mv (.c (i 0)))])
 (.block 2 w45_0))))
 (g [o 26 (.bin .add (.t 11) (.c (i 1))), o 11 (.mv (.t 26))]))))
def c45 : AFunc := ⟨1, 28, [.tmp 2],
 (.seq (g [o 1 (.box (.t 0)), o 2 (.mv (.c (i 0)))])
 (.seq (g [o 3 (.mv (.c (i 0)))])
 (.seq (.seq (g [o 8 (.fa (.t 1) 7), o 9 (.ld1 (.t 8)), o 10 (.lenS (.t 9)), o 11 (.mv (.c (i 0)))])
 (.block 0 w45_1))
 (.seq (g [o 27 (.mv (.t 3)), o 2 (.mv (.t 27))])
 .ret))))⟩

def v46_0 : AC := .dreg [0, 1, 2, 3, 4, 5, 6, 7, 8, 9, 10, 11, 12] [o 18 (.mv (.t 5)), o 19 (.mv (.t 18)), ⟨(some 20), .mv (.t 0), (some (19, true)), []⟩, ⟨(some 21), .mv (.t 6), (some (19, true)), []⟩, ⟨(some 22), .ixS 1 (.t 20) (.t 21), (some (19, true)), []⟩, ⟨(some 23), .ld1 (.t 22), (some (19, true)), []⟩, ⟨(some 24), .mv (.t 0), (some (19, true)), []⟩, ⟨(some 25), .mv (.t 4), (some (19, true)), []⟩, ⟨(some 26), .ixS 1 (.t 24) (.t 25), (some (19, true)), []⟩, ⟨(some 27), .ld1 (.t 26), (some (19, true)), []⟩, ⟨(some 28), .bin .neq (.t 23) (.t 27), (some (19, true)), []⟩, o 29 (.pick (.t 19) (.t 28) (.c (.bool false))), o 5 (.mv (.t 29))] none
def w46_0 : AC := .loop [0, 3, 4, 5, 6]
 (.seq (.seq (g [o 13 (.mv (.t 6)), o 14 (.mv (.t 4)), o 15 (.bin .lss (.t 13) (.t 14))])
 (.cond (.t 15) .skip
 (.exit 2)))
 (.seq (.block 3 v46_0)
 (g [o 16 (.mv (.t 6)), o 17 (.bin .add (.t 16) (.c (i 1))), o 6 (.mv (.t 17))])))
def w46_1 : AC := .loop [0, 3, 4]
 (.seq (.seq (g [o 7 (.mv (.t 4)), o 8 (.mv (.t 0)), o 9 (.lenS (.t 8)), o 10 (.bin .lss (.t 7) (.t 9))])
 (.cond (.t 10) .skip
 (.exit 0)))
 (.seq (.block 1 (.seq (g [o 5 (.mv (.c (.bool true)))])
 (.seq (.seq (g [o 6 (.mv (.c (i 0)))])
 (.block 2 w46_0))
 (.seq (g [o 30 (.mv (.t 5))])
 (.cond (.t 30) (g [o 31 (.mv (.t 3)), o 32 (.bin .add (.t 31) (.c (i 1))), o 3 (.mv (.t 32))])
 .skip)))))
 (g [o 11 (.mv (.t 4)), o 12 (.bin .add (.t 11) (.c (i 1))), o 4 (.mv (.t 12))])))
def c46 : AFunc := ⟨1, 34, [.tmp 2],
 (.seq (g [o 2 (.mv (.c (i 0)))])
 (.seq (g [o 3 (.mv (.c (i 0)))])
 (.seq (.seq (g [o 4 (.mv (.c (i 0)))])
 (.block 0 w46_1))
 (.seq (g [o 33 (.mv (.t 3)), o 2 (.mv (.t 33))])
 .ret))))⟩

def c47 : AFunc := ⟨3, 15, [.tmp 6],
 (.seq (g [o 6 (.mv (.c (.bool false)))])
 (.seq (g [o 7 (.mv (.t 0)), o 8 (.mv (.t 1)), o 9 (.bin .geq (.t 7) (.t 8)), o 10 (.mv (.t 9)), ⟨(some 11), .mv (.t 0), (some (10, true)), []⟩, ⟨(some 12), .mv (.t 2), (some (10, true)), []⟩, ⟨(some 13), .bin .leq (.t 11) (.t 12), (some (10, true)), []⟩, o 14 (.pick (.t 10) (.t 13) (.c (.bool false))), o 6 (.mv (.t 14))])
 .ret))⟩

def w48_0 : AC := .loop [1, 38, 39, 40]
 (.seq (g [o 41 (.bin .lss (.t 40) (.t 39))])
 (.seq (.cond (.t 41) .skip
 (.exit 0))
 (.seq (.block 1 (.seq (g [o 42 (.ixS 1 (.t 38) (.t 40)), o 43 (.ld1 (.t 42)), o 4 (.mv (.t 43))])
 (.seq (g [o 44 (.mv (.t 4)), o 45 (.lenS (.t 44)), o 46 (.fa (.t 1) 2), o 47 (.ld1 (.t 46)), o 48 (.bin .neq (.t 45) (.t 47))])
 (.cond (.t 48) (.seq (g [o 2 (.mv (.c (.bool false)))])
 .ret)
 .skip))))
 (g [o 49 (.bin .add (.t 40) (.c (i 1))), o 40 (.mv (.t 49))]))))
def w48_1 : AC := .loop [1, 51, 52, 53]
 (.seq (g [o 54 (.bin .lss (.t 53) (.t 52))])
 (.seq (.cond (.t 54) .skip
 (.exit 2))
 (.seq (.block 3 (.seq (g [o 55 (.ixS 1 (.t 51) (.t 53)), o 56 (.ld1 (.t 55)), o 6 (.mv (.t 56))])
 (.seq (g [o 57 (.mv (.t 6)), o 58 (.lenS (.t 57)), o 59 (.fa (.t 1) 0), o 60 (.ld1 (.t 59)), o 61 (.bin .neq (.t 58) (.t 60))])
 (.cond (.t 61) (.seq (g [o 2 (.mv (.c (.bool false)))])
 .ret)
 .skip))))
 (g [o 62 (.bin .add (.t 53) (.c (i 1))), o 53 (.mv (.t 62))]))))
def w48_2 : AC := .loop [1, 7, 9, 64, 65, 66, 76, 77, 78, 88, 89, 90]
 (.seq (g [o 91 (.bin .lss (.t 90) (.t 89))])
 (.seq (.cond (.t 91) .skip
 (.exit 8))
 (.seq (.block 9 (.seq (g [o 92 (.mv (.t 90)), o 93 (.ixS 1 (.t 88) (.t 90)), o 94 (.ld1 (.t 93)), o 11 (.mv (.t 92)), o 12 (.mv (.t 94))])
 (.seq (g [o 95 (.fa (.t 1) 7), o 96 (.ld1 (.t 95)), o 97 (.mv (.t 7)), o 98 (.ixS 1 (.t 96) (.t 97)), o 99 (.ld1 (.t 98)), o 100 (.mv (.t 9)), o 101 (.ixS 1 (.t 99) (.t 100)), o 102 (.ld1 (.t 101)), o 103 (.lenS (.t 102)), o 13 (.mv (.t 103))])
 (.seq (.seq (g [o 104 (.mv (.t 9)), o 105 (.mv (.t 11)), o 106 (.bin .eql (.t 104) (.t 105))])
 (.cond (.t 106) (g [o 13 (.mv (.c (i 0)))])
 .skip))
 (.seq (g [o 107 (.mv (.t 12)), o 108 (.lenS (.t 107)), o 109 (.mv (.t 13)), o 110 (.bin .neq (.t 108) (.t 109))])
 (.cond (.t 110) (.seq (g [o 2 (.mv (.c (.bool false)))])
 .ret)
 .skip))))))
 (g [o 111 (.bin .add (.t 90) (.c (i 1))), o 90 (.mv (.t 111))]))))
def w48_3 : AC := .loop [1, 7, 64, 65, 66, 76, 77, 78]
 (.seq (g [o 79 (.bin .lss (.t 78) (.t 77))])
 (.seq (.cond (.t 79) .skip
 (.exit 6))
 (.seq (.block 7 (.seq (g [o 80 (.mv (.t 78)), o 81 (.ixS 1 (.t 76) (.t 78)), o 82 (.ld1 (.t 81)), o 9 (.mv (.t 80)), o 10 (.mv (.t 82))])
 (.seq (.seq (g [o 83 (.mv (.t 10)), o 84 (.lenS (.t 83)), o 85 (.fa (.t 1) 0), o 86 (.ld1 (.t 85)), o 87 (.bin .neq (.t 84) (.t 86))])
 (.cond (.t 87) (.seq (g [o 2 (.mv (.c (.bool false)))])
 .ret)
 .skip))
 (.seq (g [o 88 (.mv (.t 10)), o 89 (.lenS (.t 88)), o 90 (.mv (.c (i 0)))])
 (.block 8 w48_2)))))
 (g [o 112 (.bin .add (.t 78) (.c (i 1))), o 78 (.mv (.t 112))]))))
def w48_4 : AC := .loop [1, 64, 65, 66]
 (.seq (g [o 67 (.bin .lss (.t 66) (.t 65))])
 (.seq (.cond (.t 67) .skip
 (.exit 4))
 (.seq (.block 5 (.seq (g [o 68 (.mv (.t 66)), o 69 (.ixS 1 (.t 64) (.t 66)), o 70 (.ld1 (.t 69)), o 7 (.mv (.t 68)), o 8 (.mv (.t 70))])
 (.seq (.seq (g [o 71 (.mv (.t 8)), o 72 (.lenS (.t 71)), o 73 (.fa (.t 1) 0), o 74 (.ld1 (.t 73)), o 75 (.bin .neq (.t 72) (.t 74))])
 (.cond (.t 75) (.seq (g [o 2 (.mv (.c (.bool false)))])
 .ret)
 .skip))
 (.seq (g [o 76 (.mv (.t 8)), o 77 (.lenS (.t 76)), o 78 (.mv (.c (i 0)))])
 (.block 6 w48_3)))))
 (g [o 113 (.bin .add (.t 66) (.c (i 1))), o 66 (.mv (.t 113))]))))
def c48 : AFunc := ⟨1, 114, [.tmp 2],
 (.seq (g [o 1 (.box (.t 0)), o 2 (.mv (.c (.bool false)))])
 (.seq (.seq (g [o 14 (.fa (.t 1) 4), o 15 (.ld1 (.t 14)), o 16 (.lenS (.t 15)), o 17 (.fa (.t 1) 0), o 18 (.ld1 (.t 17)), o 19 (.bin .neq (.t 16) (.t 18)), o 20 (.mv (.t 19)), ⟨(some 21), .fa (.t 1) 7, (some (20, false)), []⟩, ⟨(some 22), .ld1 (.t 21), (some (20, false)), []⟩, ⟨(some 23), .lenS (.t 22), (some (20, false)), []⟩, ⟨(some 24), .fa (.t 1) 1, (some (20, false)), []⟩, ⟨(some 25), .ld1 (.t 24), (some (20, false)), []⟩, ⟨(some 26), .bin .add (.t 25) (.c (i 1)), (some (20, false)), []⟩, ⟨(some 27), .bin .neq (.t 23) (.t 26), (some (20, false)), []⟩, o 28 (.pick (.t 20) (.c (.bool true)) (.t 27)), o 29 (.mv (.t 28)), ⟨(some 30), .fa (.t 1) 5, (some (29, false)), []⟩, ⟨(some 31), .ld1 (.t 30), (some (29, false)), []⟩, ⟨(some 32), .lenS (.t 31), (some (29, false)), []⟩, ⟨(some 33), .fa (.t 1) 1, (some (29, false)), []⟩, ⟨(some 34), .ld1 (.t 33), (some (29, false)), []⟩, ⟨(some 35), .bin .neq (.t 32) (.t 34), (some (29, false)), []⟩, o 36 (.pick (.t 29) (.c (.bool true)) (.t 35))])
 (.cond (.t 36) (.seq (g [o 2 (.mv (.c (.bool false)))])
 .ret)
 .skip))
 (.seq (.seq (g [o 37 (.fa (.t 1) 4), o 38 (.ld1 (.t 37)), o 39 (.lenS (.t 38)), o 40 (.mv (.c (i 0)))])
 (.block 0 w48_0))
 (.seq (.seq (g [o 50 (.fa (.t 1) 7), o 51 (.ld1 (.t 50)), o 52 (.lenS (.t 51)), o 53 (.mv (.c (i 0)))])
 (.block 2 w48_1))
 (.seq (.seq (g [o 63 (.fa (.t 1) 5), o 64 (.ld1 (.t 63)), o 65 (.lenS (.t 64)), o 66 (.mv (.c (i 0)))])
 (.block 4 w48_4))
 (.seq (g [o 2 (.mv (.c (.bool true)))])
 .ret))))))⟩

def w49_0 : AC := .loop [1, 12, 13, 14]
 (.seq (g [o 15 (.bin .lss (.t 14) (.t 13))])
 (.seq (.cond (.t 15) .skip
 (.exit 0))
 (.seq (.block 1 (.seq (g [o 16 (.mv (.t 14)), o 17 (.ixS 1 (.t 12) (.t 14)), o 18 (.ld1 (.t 17)), o 3 (.mv (.t 16)), o 4 (.mv (.t 18))])
 (.seq (g [o 19 (.mv (.t 4)), o 20 (.fa (.t 1) 7), o 21 (.ld1 (.t 20)), o 22 (.ixS 1 (.t 21) (.c (i 0))), o 23 (.ld1 (.t 22)), o 24 (.mv (.t 3)), o 25 (.ixS 1 (.t 23) (.t 24)), o 26 (.ld1 (.t 25)), o 27 (.lenS (.t 26)), o 28 (.bin .sub (.t 27) (.c (i 1))), o 29 (.call (.c (.fn 64 [])) [(.t 19), (.c (j 0)), (.t 28)]), o 30 (.un .not (.t 29))])
 (.cond (.t 30) (.seq (g [o 2 (.mv (.c (.bool false)))])
 .ret)
 .skip))))
 (g [o 31 (.bin .add (.t 14) (.c (i 1))), o 14 (.mv (.t 31))]))))
def w49_1 : AC := .loop [1, 33, 34, 35]
 (.seq (g [o 36 (.bin .lss (.t 35) (.t 34))])
 (.seq (.cond (.t 36) .skip
 (.exit 2))
 (.seq (.block 3 (.seq (g [o 37 (.ixS 1 (.t 33) (.t 35)), o 38 (.ld1 (.t 37)), o 6 (.mv (.t 38))])
 (.seq (g [o 39 (.mv (.t 6)), o 40 (.mkfn 96 [(.t 1)]), o 41 (.call (.c (.fn 95 [])) [(.t 39), (.t 40)])])
 (.cond (.t 41) (.seq (g [o 2 (.mv (.c (.bool false)))])
 .ret)
 .skip))))
 (g [o 42 (.bin .add (.t 35) (.c (i 1))), o 35 (.mv (.t 42))]))))
def w49_2 : AC := .loop [44, 45, 46, 50, 51, 52]
 (.seq (g [o 53 (.bin .lss (.t 52) (.t 51))])
 (.seq (.cond (.t 53) .skip
 (.exit 6))
 (.seq (.block 7 (.seq (g [o 54 (.ixS 1 (.t 50) (.t 52)), o 55 (.ld1 (.t 54)), o 10 (.mv (.t 55))])
 (.seq (g [o 56 (.mv (.t 10)), o 57 (.call (.c (.fn 95 [])) [(.t 56), (.c (.fn 97 []))])])
 (.cond (.t 57) (.seq (g [o 2 (.mv (.c (.bool false)))])
 .ret)
 .skip))))
 (g [o 58 (.bin .add (.t 52) (.c (i 1))), o 52 (.mv (.t 58))]))))
def w49_3 : AC := .loop [44, 45, 46]
 (.seq (g [o 47 (.bin .lss (.t 46) (.t 45))])
 (.seq (.cond (.t 47) .skip
 (.exit 4))
 (.seq (.block 5 (.seq (g [o 48 (.ixS 1 (.t 44) (.t 46)), o 49 (.ld1 (.t 48)), o 8 (.mv (.t 49))])
 (.seq (g [o 50 (.mv (.t 8)), o 51 (.lenS (.t 50)), o 52 (.mv (.c (i 0)))])
 (.block 6 w49_2))))
 (g [o 59 (.bin .add (.t 46) (.c (i 1))), o 46 (.mv (.t 59))]))))
def c49 : AFunc := ⟨1, 60, [.tmp 2],
 (.seq (g [o 1 (.box (.t 0)), o 2 (.mv (.c (.bool false)))])
 (.seq (.seq (g [o 11 (.fa (.t 1) 4), o 12 (.ld1 (.t 11)), o 13 (.lenS (.t 12)), o 14 (.mv (.c (i 0)))])
 (.block 0 w49_0))
 (.seq (.seq (g [o 32 (.fa (.t 1) 7), o 33 (.ld1 (.t 32)), o 34 (.lenS (.t 33)), o 35 (.mv (.c (i 0)))])
 (.block 2 w49_1))
 (.seq (.seq (g [o 43 (.fa (.t 1) 5), o 44 (.ld1 (.t 43)), o 45 (.lenS (.t 44)), o 46 (.mv (.c (i 0)))])
 (.block 4 w49_3))
 (.seq (g [o 2 (.mv (.c (.bool true)))])
 .ret)))))⟩

def v50_0 : AC := .dreg [0, 1, 2, 3, 4, 5, 6, 7, 8, 9, 10, 11, 12, 13, 14, 15, 16, 17, 18, 19, 20, 21, 22, 23, 24, 25, 26, 27, 28, 29, 30, 31, 32, 33, 34] [o 7 (.fa (.t 3) 0), o 8 (.ld1 (.t 7)), o 9 (.fa (.t 2) 1), o 10 (.ld1 (.t 9)), o 11 (.bin .sub (.t 10) (.c (i 1))), o 12 (.call (.c (.fn 47 [])) [(.t 8), (.c (i 0)), (.t 11)]), o 13 (.un .not (.t 12)), o 14 (.mv (.t 13)), ⟨(some 15), .fa (.t 3) 1, (some (14, false)), []⟩, ⟨(some 16), .ld1 (.t 15), (some (14, false)), []⟩, ⟨(some 17), .fa (.t 2) 0, (some (14, false)), []⟩, ⟨(some 18), .ld1 (.t 17), (some (14, false)), []⟩, ⟨(some 19), .bin .sub (.t 18) (.c (i 1)), (some (14, false)), []⟩, ⟨(some 20), .call (.c (.fn 47 [])) [(.t 16), (.c (i 0)), (.t 19)], (some (14, false)), []⟩, ⟨(some 21), .un .not (.t 20), (some (14, false)), []⟩, o 22 (.pick (.t 14) (.c (.bool true)) (.t 21)), o 23 (.mv (.t 22)), ⟨(some 24), .fa (.t 3) 7, (some (23, false)), []⟩, ⟨(some 25), .ld1 (.t 24), (some (23, false)), []⟩, ⟨(some 26), .fa (.t 2) 7, (some (23, false)), []⟩, ⟨(some 27), .ld1 (.t 26), (some (23, false)), []⟩, ⟨(some 28), .fa (.t 3) 0, (some (23, false)), []⟩, ⟨(some 29), .ld1 (.t 28), (some (23, false)), []⟩, ⟨(some 30), .bin .add (.t 29) (.c (i 1)), (some (23, false)), []⟩, ⟨(some 31), .ixS 1 (.t 27) (.t 30), (some (23, false)), []⟩, ⟨(some 32), .ld1 (.t 31), (some (23, false)), []⟩, ⟨(some 33), .fa (.t 3) 1, (some (23, false)), []⟩, ⟨(some 34), .ld1 (.t 33), (some (23, false)), []⟩, ⟨(some 35), .ixS 1 (.t 32) (.t 34), (some (23, false)), []⟩, ⟨(some 36), .ld1 (.t 35), (some (23, false)), []⟩, ⟨(some 37), .lenS (.t 36), (some (23, false)), []⟩, ⟨(some 38), .bin .sub (.t 37) (.c (i 1)), (some (23, false)), []⟩, ⟨(some 39), .call (.c (.fn 47 [])) [(.t 25), (.c (i 0)), (.t 38)], (some (23, false)), []⟩, ⟨(some 40), .un .not (.t 39), (some (23, false)), []⟩, o 41 (.pick (.t 23) (.c (.bool true)) (.t 40))] none
def w50_0 : AC := .loop [2, 3, 51, 52, 53]
 (.seq (g [o 54 (.bin .lss (.t 53) (.t 52))])
 (.seq (.cond (.t 54) .skip
 (.exit 0))
 (.seq (.block 1 (.seq (g [o 55 (.mv (.t 53)), o 56 (.ixS 1 (.t 51) (.t 53)), o 57 (.ld1 (.t 56)), o 5 (.mv (.t 55)), o 6 (.mv (.t 57))])
 (.seq (g [o 58 (.mv (.t 5)), o 59 (.fa (.t 3) 1), o 60 (.ld1 (.t 59)), o 61 (.bin .eql (.t 58) (.t 60)), o 62 (.mv (.t 61)), ⟨(some 63), .mv (.t 6), (some (62, true)), []⟩, ⟨(some 64), .fa (.t 2) 7, (some (62, true)), []⟩, ⟨(some 65), .ld1 (.t 64), (some (62, true)), []⟩, ⟨(some 66), .fa (.t 3) 0, (some (62, true)), []⟩, ⟨(some 67), .ld1 (.t 66), (some (62, true)), []⟩, ⟨(some 68), .ixS 1 (.t 65) (.t 67), (some (62, true)), []⟩, ⟨(some 69), .ld1 (.t 68), (some (62, true)), []⟩, ⟨(some 70), .mv (.t 5), (some (62, true)), []⟩, ⟨(some 71), .ixS 1 (.t 69) (.t 70), (some (62, true)), []⟩, ⟨(some 72), .ld1 (.t 71), (some (62, true)), []⟩, ⟨(some 73), .lenS (.t 72), (some (62, true)), []⟩, ⟨(some 74), .bin .sub (.t 73) (.c (i 1)), (some (62, true)), []⟩, ⟨(some 75), .call (.c (.fn 47 [])) [(.t 63), (.c (i 0)), (.t 74)], (some (62, true)), []⟩, ⟨(some 76), .un .not (.t 75), (some (62, true)), []⟩, o 77 (.pick (.t 62) (.t 76) (.c (.bool false))), o 78 (.mv (.t 77)), ⟨(some 79), .mv (.t 5), (some (78, false)), []⟩, ⟨(some 80), .fa (.t 3) 1, (some (78, false)), []⟩, ⟨(some 81), .ld1 (.t 80), (some (78, false)), []⟩, ⟨(some 82), .bin .neq (.t 79) (.t 81), (some (78, false)), []⟩, ⟨(some 83), .mv (.t 82), (some (78, false)), []⟩, ⟨(some 84), .mv (.t 6), (some (83, true)), []⟩, ⟨(some 85), .call (.c (.fn 47 [])) [(.t 84), (.c (j 0)), (.c (i 1048576))], (some (83, true)), []⟩, ⟨(some 86), .un .not (.t 85), (some (83, true)), []⟩, ⟨(some 87), .pick (.t 83) (.t 86) (.c (.bool false)), (some (78, false)), []⟩, o 88 (.pick (.t 78) (.c (.bool true)) (.t 87))])
 (.cond (.t 88) (.seq (g [o 4 (.mv (.c (i 2)))])
 .ret)
 .skip))))
 (g [o 89 (.bin .add (.t 53) (.c (i 1))), o 53 (.mv (.t 89))]))))
def c50 : AFunc := ⟨2, 90, [.tmp 4],
 (.seq (g [o 2 (.box (.t 0)), o 3 (.box (.t 1)), o 4 (.mv (.c (i 0)))])
 (.seq (.seq v50_0
 (.cond (.t 41) (.seq (g [o 4 (.mv (.c (i 2)))])
 .ret)
 .skip))
 (.seq (.seq (g [o 42 (.fa (.t 3) 2), o 43 (.fa (.t 2) 0), o 44 (.ld1 (.t 43)), o 45 (.slcA 5 1 (.t 42) (some (.t 44)) none none), o 46 (.call (.c (.fn 64 [])) [(.t 45), (.c (j 0)), (.c (j 0))]), o 47 (.un .not (.t 46))])
 (.cond (.t 47) (.seq (g [o 4 (.mv (.c (i 3)))])
 .ret)
 .skip))
 (.seq (.seq (g [o 48 (.fa (.t 3) 2), o 49 (.fa (.t 2) 0), o 50 (.ld1 (.t 49)), o 51 (.slcA 5 1 (.t 48) none (some (.t 50)) none), o 52 (.lenS (.t 51)), o 53 (.mv (.c (i 0)))])
 (.block 0 w50_0))
 (.seq (g [o 4 (.mv (.c (i 0)))])
 .ret)))))⟩

def v51_0 : AC := .dreg [0, 1, 2, 3, 5, 6, 7, 8, 10, 11, 12, 13, 4, 9, 14, 15, 16, 17] [o 5 (.fa (.t 2) 0), o 6 (.ld1 (.t 5)), o 7 (.fa (.t 3) 0), o 8 (.ld1 (.t 7)), o 10 (.fa (.t 2) 1), o 11 (.ld1 (.t 10)), o 12 (.fa (.t 3) 1), o 13 (.ld1 (.t 12)), o 15 (.fa (.t 2) 2), o 16 (.slcA 5 1 (.t 15) none none none), o 17 (.fa (.t 3) 2), o 18 (.slcA 5 1 (.t 17) none none none), ⟨(some 9), .call (.c (.fn 99 [])) [(.t 6), (.t 8)], none, [5, 7]⟩, o 14 (.call (.c (.fn 99 [])) [(.t 11), (.t 13)]), o 19 (.call (.c (.fn 100 [])) [(.t 16), (.t 18)]), o 20 (.bslice 3 [i 0, i 0, i 0] [(0, 1, (.t 9)), (1, 1, (.t 14)), (2, 1, (.t 19))]), o 21 (.call (.c (.fn 98 [])) [(.t 20)]), o 4 (.mv (.t 21))] none
def c51 : AFunc := ⟨2, 22, [.tmp 4],
 (.seq (g [o 2 (.box (.t 0)), o 3 (.box (.t 1)), o 4 (.mv (.c (i 0)))])
 (.seq v51_0
 .ret))⟩

def c52 : AFunc := ⟨3, 15, [.tmp 6],
 (.seq (g [o 6 (.mv (.c (.bool false)))])
 (.seq (g [o 7 (.mv (.t 0)), o 8 (.mv (.t 1)), o 9 (.bin .geq (.t 7) (.t 8)), o 10 (.mv (.t 9)), ⟨(some 11), .mv (.t 0), (some (10, true)), []⟩, ⟨(some 12), .mv (.t 2), (some (10, true)), []⟩, ⟨(some 13), .bin .leq (.t 11) (.t 12), (some (10, true)), []⟩, o 14 (.pick (.t 10) (.t 13) (.c (.bool false))), o 6 (.mv (.t 14))])
 .ret))⟩

def v53_0 : AC := .dreg [0, 1, 2, 3, 4, 5, 6, 7, 8] [o 37 (.fa (.t 1) 4), o 38 (.ld1 (.t 37)), o 39 (.mv (.t 3)), o 40 (.ixS 1 (.t 38) (.t 39)), o 41 (.ld1 (.t 40)), o 42 (.lenS (.t 41)), o 43 (.fa (.t 1) 2), o 44 (.ld1 (.t 43)), o 45 (.bin .neq (.t 42) (.t 44))] none
def w53_0 : AC := .loop [1, 3]
 (.seq (.seq (g [o 31 (.mv (.t 3)), o 32 (.fa (.t 1) 0), o 33 (.ld1 (.t 32)), o 34 (.bin .lss (.t 31) (.t 33))])
 (.cond (.t 34) .skip
 (.exit 0)))
 (.seq (.block 1 (.seq v53_0
 (.cond (.t 45) (.seq (g [o 2 (.mv (.c (.bool false)))])
 .ret)
 .skip)))
 (g [o 35 (.mv (.t 3)), o 36 (.bin .add (.t 35) (.c (i 1))), o 3 (.mv (.t 36))])))
def v53_1 : AC := .dreg [0, 1, 2, 3, 4, 5, 6, 7, 8] [o 52 (.fa (.t 1) 7), o 53 (.ld1 (.t 52)), o 54 (.mv (.t 4)), o 55 (.ixS 1 (.t 53) (.t 54)), o 56 (.ld1 (.t 55)), o 57 (.lenS (.t 56)), o 58 (.fa (.t 1) 0), o 59 (.ld1 (.t 58)), o 60 (.bin .neq (.t 57) (.t 59))] none
def w53_1 : AC := .loop [1, 4]
 (.seq (.seq (g [o 46 (.mv (.t 4)), o 47 (.fa (.t 1) 1), o 48 (.ld1 (.t 47)), o 49 (.bin .leq (.t 46) (.t 48))])
 (.cond (.t 49) .skip
 (.exit 2)))
 (.seq (.block 3 (.seq v53_1
 (.cond (.t 60) (.seq (g [o 2 (.mv (.c (.bool false)))])
 .ret)
 .skip)))
 (g [o 50 (.mv (.t 4)), o 51 (.bin .add (.t 50) (.c (i 1))), o 4 (.mv (.t 51))])))
def v53_2 : AC := .dreg [0, 1, 2, 3, 4, 5, 6, 7, 8] [o 67 (.fa (.t 1) 5), o 68 (.ld1 (.t 67)), o 69 (.mv (.t 5)), o 70 (.ixS 1 (.t 68) (.t 69)), o 71 (.ld1 (.t 70)), o 72 (.lenS (.t 71)), o 73 (.fa (.t 1) 0), o 74 (.ld1 (.t 73)), o 75 (.bin .neq (.t 72) (.t 74))] none
def v53_3 : AC := .dreg [0, 1, 2, 3, 4, 5, 6, 7, 8, 9, 10, 11] [o 82 (.fa (.t 1) 5), o 83 (.ld1 (.t 82)), o 84 (.mv (.t 5)), o 85 (.ixS 1 (.t 83) (.t 84)), o 86 (.ld1 (.t 85)), o 87 (.mv (.t 6)), o 88 (.ixS 1 (.t 86) (.t 87)), o 89 (.ld1 (.t 88)), o 90 (.lenS (.t 89)), o 91 (.fa (.t 1) 0), o 92 (.ld1 (.t 91)), o 93 (.bin .neq (.t 90) (.t 92))] none
def v53_4 : AC := .dreg [0, 1, 2, 3, 4, 5, 6, 7, 8, 9, 10, 11, 12, 13, 14, 15, 16, 17, 18, 19, 20, 21, 22, 23, 24, 25, 26, 27, 28, 29, 30, 31, 32, 33, 34, 35, 36, 37, 38, 39, 40, 41, 42, 43, 44, 45, 46] [o 100 (.mv (.t 6)), o 101 (.mv (.t 7)), o 102 (.bin .eql (.t 100) (.t 101)), o 103 (.mv (.t 102)), ⟨(some 104), .fa (.t 1) 5, (some (103, true)), []⟩, ⟨(some 105), .ld1 (.t 104), (some (103, true)), []⟩, ⟨(some 106), .mv (.t 5), (some (103, true)), []⟩, ⟨(some 107), .ixS 1 (.t 105) (.t 106), (some (103, true)), []⟩, ⟨(some 108), .ld1 (.t 107), (some (103, true)), []⟩, ⟨(some 109), .mv (.t 6), (some (103, true)), []⟩, ⟨(some 110), .ixS 1 (.t 108) (.t 109), (some (103, true)), []⟩, ⟨(some 111), .ld1 (.t 110), (some (103, true)), []⟩, ⟨(some 112), .mv (.t 7), (some (103, true)), []⟩, ⟨(some 113), .ixS 1 (.t 111) (.t 112), (some (103, true)), []⟩, ⟨(some 114), .ld1 (.t 113), (some (103, true)), []⟩, ⟨(some 115), .lenS (.t 114), (some (103, true)), []⟩, ⟨(some 116), .bin .gtr (.t 115) (.c (i 0)), (some (103, true)), []⟩, o 117 (.pick (.t 103) (.t 116) (.c (.bool false))), o 118 (.mv (.t 117)), ⟨(some 119), .mv (.t 6), (some (118, false)), []⟩, ⟨(some 120), .mv (.t 7), (some (118, false)), []⟩, ⟨(some 121), .bin .neq (.t 119) (.t 120), (some (118, false)), []⟩, ⟨(some 122), .mv (.t 121), (some (118, false)), []⟩, ⟨(some 123), .fa (.t 1) 5, (some (122, true)), []⟩, ⟨(some 124), .ld1 (.t 123), (some (122, true)), []⟩, ⟨(some 125), .mv (.t 5), (some (122, true)), []⟩, ⟨(some 126), .ixS 1 (.t 124) (.t 125), (some (122, true)), []⟩, ⟨(some 127), .ld1 (.t 126), (some (122, true)), []⟩, ⟨(some 128), .mv (.t 6), (some (122, true)), []⟩, ⟨(some 129), .ixS 1 (.t 127) (.t 128), (some (122, true)), []⟩, ⟨(some 130), .ld1 (.t 129), (some (122, true)), []⟩, ⟨(some 131), .mv (.t 7), (some (122, true)), []⟩, ⟨(some 132), .ixS 1 (.t 130) (.t 131), (some (122, true)), []⟩, ⟨(some 133), .ld1 (.t 132), (some (122, true)), []⟩, ⟨(some 134), .lenS (.t 133), (some (122, true)), []⟩, ⟨(some 135), .fa (.t 1) 7, (some (122, true)), []⟩, ⟨(some 136), .ld1 (.t 135), (some (122, true)), []⟩, ⟨(some 137), .mv (.t 5), (some (122, true)), []⟩, ⟨(some 138), .ixS 1 (.t 136) (.t 137), (some (122, true)), []⟩, ⟨(some 139), .ld1 (.t 138), (some (122, true)), []⟩, ⟨(some 140), .mv (.t 6), (some (122, true)), []⟩, ⟨(some 141), .ixS 1 (.t 139) (.t 140), (some (122, true)), []⟩, ⟨(some 142), .ld1 (.t 141), (some (122, true)), []⟩, ⟨(some 143), .lenS (.t 142), (some (122, true)), []⟩, ⟨(some 144), .bin .neq (.t 134) (.t 143), (some (122, true)), []⟩, ⟨(some 145), .pick (.t 122) (.t 144) (.c (.bool false)), (some (118, false)), []⟩, o 146 (.pick (.t 118) (.c (.bool true)) (.t 145))] none
def w53_2 : AC := .loop [1, 5, 6, 7]
 (.seq (.seq (g [o 94 (.mv (.t 7)), o 95 (.fa (.t 1) 0), o 96 (.ld1 (.t 95)), o 97 (.bin .lss (.t 94) (.t 96))])
 (.cond (.t 97) .skip
 (.exit 8)))
 (.seq (.block 9 (.seq v53_4
 (.cond (.t 146) (.seq (g [o 2 (.mv (.c (.bool false)))])
 .ret)
 .skip)))
 (g [o 98 (.mv (.t 7)), o 99 (.bin .add (.t 98) (.c (i 1))), o 7 (.mv (.t 99))])))
def w53_3 : AC := .loop [1, 5, 6]
 (.seq (.seq (g [o 76 (.mv (.t 6)), o 77 (.fa (.t 1) 0), o 78 (.ld1 (.t 77)), o 79 (.bin .lss (.t 76) (.t 78))])
 (.cond (.t 79) .skip
 (.exit 6)))
 (.seq (.block 7 (.seq (.seq v53_3
 (.cond (.t 93) (.seq (g [o 2 (.mv (.c (.bool false)))])
 .ret)
 .skip))
 (.seq (g [o 7 (.mv (.c (i 0)))])
 (.block 8 w53_2))))
 (g [o 80 (.mv (.t 6)), o 81 (.bin .add (.t 80) (.c (i 1))), o 6 (.mv (.t 81))])))
def w53_4 : AC := .loop [1, 5]
 (.seq (.seq (g [o 61 (.mv (.t 5)), o 62 (.fa (.t 1) 1), o 63 (.ld1 (.t 62)), o 64 (.bin .lss (.t 61) (.t 63))])
 (.cond (.t 64) .skip
 (.exit 4)))
 (.seq (.block 5 (.seq (.seq v53_2
 (.cond (.t 75) (.seq (g [o 2 (.mv (.c (.bool false)))])
 .ret)
 .skip))
 (.seq (g [o 6 (.mv (.c (i 0)))])
 (.block 6 w53_3))))
 (g [o 65 (.mv (.t 5)), o 66 (.bin .add (.t 65) (.c (i 1))), o 5 (.mv (.t 66))])))
def c53 : AFunc := ⟨1, 147, [.tmp 2],
 (.seq (g [o 1 (.box (.t 0)), o 2 (.mv (.c (.bool false)))])
 (.seq (.seq (g [o 8 (.fa (.t 1) 4), o 9 (.ld1 (.t 8)), o 10 (.lenS (.t 9)), o 11 (.fa (.t 1) 0), o 12 (.ld1 (.t 11)), o 13 (.bin .neq (.t 10) (.t 12)), o 14 (.mv (.t 13)), ⟨(some 15), .fa (.t 1) 7, (some (14, false)), []⟩, ⟨(some 16), .ld1 (.t 15), (some (14, false)), []⟩, ⟨(some 17), .lenS (.t 16), (some (14, false)), []⟩, ⟨(some 18), .fa (.t 1) 1, (some (14, false)), []⟩, ⟨(some 19), .ld1 (.t 18), (some (14, false)), []⟩, ⟨(some 20), .bin .add (.t 19) (.c (i 1)), (some (14, false)), []⟩, ⟨(some 21), .bin .neq (.t 17) (.t 20), (some (14, false)), []⟩, o 22 (.pick (.t 14) (.c (.bool true)) (.t 21)), o 23 (.mv (.t 22)), ⟨(some 24), .fa (.t 1) 5, (some (23, false)), []⟩, ⟨(some 25), .ld1 (.t 24), (some (23, false)), []⟩, ⟨(some 26), .lenS (.t 25), (some (23, false)), []⟩, ⟨(some 27), .fa (.t 1) 1, (some (23, false)), []⟩, ⟨(some 28), .ld1 (.t 27), (some (23, false)), []⟩, ⟨(some 29), .bin .neq (.t 26) (.t 28), (some (23, false)), []⟩, o 30 (.pick (.t 23) (.c (.bool true)) (.t 29))])
 (.cond (.t 30) (.seq (g [o 2 (.mv (.c (.bool false)))])
 .ret)
 .skip))
 (.seq (.seq (g [o 3 (.mv (.c (i 0)))])
 (.block 0 w53_0))
 (.seq (.seq (g [o 4 (.mv (.c (i 0)))])
 (.block 2 w53_1))
 (.seq (.seq (g [o 5 (.mv (.c (i 0)))])
 (.block 4 w53_4))
 (.seq (g [o 2 (.mv (.c (.bool true)))])
 .ret))))))⟩

def v54_0 : AC := .dreg [0, 1, 2, 3, 4, 5, 6, 7, 8, 9, 10, 11, 12, 13, 14, 15] [o 12 (.fa (.t 1) 4), o 13 (.ld1 (.t 12)), o 14 (.mv (.t 3)), o 15 (.ixS 1 (.t 13) (.t 14)), o 16 (.ld1 (.t 15)), o 17 (.fa (.t 1) 7), o 18 (.ld1 (.t 17)), o 19 (.ixS 1 (.t 18) (.c (i 0))), o 20 (.ld1 (.t 19)), o 21 (.mv (.t 3)), o 22 (.ixS 1 (.t 20) (.t 21)), o 23 (.ld1 (.t 22)), o 24 (.lenS (.t 23)), o 25 (.bin .sub (.t 24) (.c (i 1))), o 26 (.call (.c (.fn 68 [])) [(.t 16), (.c (j 0)), (.t 25)]), o 27 (.un .not (.t 26))] none
def v54_1 : AC := .dreg [0, 1, 2, 3, 4, 5, 6, 7, 8, 9, 10, 11, 12] [o 34 (.fa (.t 1) 7), o 35 (.ld1 (.t 34)), o 36 (.mv (.t 4)), o 37 (.ixS 1 (.t 35) (.t 36)), o 38 (.ld1 (.t 37)), o 39 (.mv (.t 3)), o 40 (.ixS 1 (.t 38) (.t 39)), o 41 (.ld1 (.t 40)), o 42 (.fa (.t 1) 3), o 43 (.ld1 (.t 42)), o 44 (.bin .sub (.t 43) (.c (i 1))), o 45 (.call (.c (.fn 68 [])) [(.t 41), (.c (j 0)), (.t 44)]), o 46 (.un .not (.t 45))] none
def w54_0 : AC := .loop [1, 3, 4, 5]
 (.seq (.seq (g [o 47 (.mv (.t 5)), o 48 (.fa (.t 1) 0), o 49 (.ld1 (.t 48)), o 50 (.bin .lss (.t 47) (.t 49)), o 51 (.mv (.t 50)), ⟨(some 52), .mv (.t 4), (some (51, true)), []⟩, ⟨(some 53), .fa (.t 1) 1, (some (51, true)), []⟩, ⟨(some 54), .ld1 (.t 53), (some (51, true)), []⟩, ⟨(some 55), .bin .lss (.t 52) (.t 54), (some (51, true)), []⟩, o 56 (.pick (.t 51) (.t 55) (.c (.bool false)))])
 (.cond (.t 56) .skip
 (.exit 4)))
 (.seq (.block 5 (.seq (g [o 59 (.fa (.t 1) 5), o 60 (.ld1 (.t 59)), o 61 (.mv (.t 4)), o 62 (.ixS 1 (.t 60) (.t 61)), o 63 (.ld1 (.t 62)), o 64 (.mv (.t 3)), o 65 (.ixS 1 (.t 63) (.t 64)), o 66 (.ld1 (.t 65)), o 67 (.mv (.t 5)), o 68 (.ixS 1 (.t 66) (.t 67)), o 69 (.ld1 (.t 68)), o 70 (.call (.c (.fn 68 [])) [(.t 69), (.c (i 0)), (.c (i 1048576))]), o 71 (.un .not (.t 70))])
 (.cond (.t 71) (.seq (g [o 2 (.mv (.c (.bool false)))])
 .ret)
 .skip)))
 (g [o 57 (.mv (.t 5)), o 58 (.bin .add (.t 57) (.c (i 1))), o 5 (.mv (.t 58))])))
def w54_1 : AC := .loop [1, 3, 4]
 (.seq (.seq (g [o 28 (.mv (.t 4)), o 29 (.fa (.t 1) 1), o 30 (.ld1 (.t 29)), o 31 (.bin .leq (.t 28) (.t 30))])
 (.cond (.t 31) .skip
 (.exit 2)))
 (.seq (.block 3 (.seq (.seq v54_1
 (.cond (.t 46) (.seq (g [o 2 (.mv (.c (.bool false)))])
 .ret)
 .skip))
 (.seq (g [o 5 (.mv (.c (i 0)))])
 (.block 4 w54_0))))
 (g [o 32 (.mv (.t 4)), o 33 (.bin .add (.t 32) (.c (i 1))), o 4 (.mv (.t 33))])))
def w54_2 : AC := .loop [1, 3]
 (.seq (.seq (g [o 6 (.mv (.t 3)), o 7 (.fa (.t 1) 0), o 8 (.ld1 (.t 7)), o 9 (.bin .lss (.t 6) (.t 8))])
 (.cond (.t 9) .skip
 (.exit 0)))
 (.seq (.block 1 (.seq (.seq v54_0
 (.cond (.t 27) (.seq (g [o 2 (.mv (.c (.bool false)))])
 .ret)
 .skip))
 (.seq (g [o 4 (.mv (.c (i 0)))])
 (.block 2 w54_1))))
 (g [o 10 (.mv (.t 3)), o 11 (.bin .add (.t 10) (.c (i 1))), o 3 (.mv (.t 11))])))
def c54 : AFunc := ⟨1, 72, [.tmp 2],
 (.seq (g [o 1 (.box (.t 0)), o 2 (.mv (.c (.bool false)))])
 (.seq (.seq (g [o 3 (.mv (.c (i 0)))])
 (.block 0 w54_2))
 (.seq (g [o 2 (.mv (.c (.bool true)))])
 .ret)))⟩

def v55_0 : AC := .dreg [0, 1, 2, 3, 4, 5, 6, 7, 8, 9, 10, 11, 12, 13, 14, 15, 16, 17, 18, 19, 20, 21, 22, 23, 24, 25, 26, 27, 28, 29, 30, 31, 32, 33, 34] [o 9 (.fa (.t 3) 0), o 10 (.ld1 (.t 9)), o 11 (.fa (.t 2) 1), o 12 (.ld1 (.t 11)), o 13 (.bin .sub (.t 12) (.c (i 1))), o 14 (.call (.c (.fn 52 [])) [(.t 10), (.c (i 0)), (.t 13)]), o 15 (.un .not (.t 14)), o 16 (.mv (.t 15)), ⟨(some 17), .fa (.t 3) 1, (some (16, false)), []⟩, ⟨(some 18), .ld1 (.t 17), (some (16, false)), []⟩, ⟨(some 19), .fa (.t 2) 0, (some (16, false)), []⟩, ⟨(some 20), .ld1 (.t 19), (some (16, false)), []⟩, ⟨(some 21), .bin .sub (.t 20) (.c (i 1)), (some (16, false)), []⟩, ⟨(some 22), .call (.c (.fn 52 [])) [(.t 18), (.c (i 0)), (.t 21)], (some (16, false)), []⟩, ⟨(some 23), .un .not (.t 22), (some (16, false)), []⟩, o 24 (.pick (.t 16) (.c (.bool true)) (.t 23)), o 25 (.mv (.t 24)), ⟨(some 26), .fa (.t 3) 7, (some (25, false)), []⟩, ⟨(some 27), .ld1 (.t 26), (some (25, false)), []⟩, ⟨(some 28), .fa (.t 2) 7, (some (25, false)), []⟩, ⟨(some 29), .ld1 (.t 28), (some (25, false)), []⟩, ⟨(some 30), .fa (.t 3) 0, (some (25, false)), []⟩, ⟨(some 31), .ld1 (.t 30), (some (25, false)), []⟩, ⟨(some 32), .bin .add (.t 31) (.c (i 1)), (some (25, false)), []⟩, ⟨(some 33), .ixS 1 (.t 29) (.t 32), (some (25, false)), []⟩, ⟨(some 34), .ld1 (.t 33), (some (25, false)), []⟩, ⟨(some 35), .fa (.t 3) 1, (some (25, false)), []⟩, ⟨(some 36), .ld1 (.t 35), (some (25, false)), []⟩, ⟨(some 37), .ixS 1 (.t 34) (.t 36), (some (25, false)), []⟩, ⟨(some 38), .ld1 (.t 37), (some (25, false)), []⟩, ⟨(some 39), .lenS (.t 38), (some (25, false)), []⟩, ⟨(some 40), .bin .sub (.t 39) (.c (i 1)), (some (25, false)), []⟩, ⟨(some 41), .call (.c (.fn 52 [])) [(.t 27), (.c (i 0)), (.t 40)], (some (25, false)), []⟩, ⟨(some 42), .un .not (.t 41), (some (25, false)), []⟩, o 43 (.pick (.t 25) (.c (.bool true)) (.t 42))] none
def w55_0 : AC := .loop [2, 3, 5]
 (.seq (.seq (g [o 46 (.mv (.t 5)), o 47 (.bin .lss (.t 46) (.c (i 5)))])
 (.cond (.t 47) .skip
 (.exit 0)))
 (.seq (.block 1 (.seq (g [o 50 (.mv (.t 5)), o 51 (.fa (.t 3) 2), o 52 (.ixA 5 1 (.t 51) (.t 50)), o 53 (.ld1 (.t 52)), o 54 (.bin .neq (.t 53) (.c (j 0)))])
 (.cond (.t 54) (.seq (g [o 4 (.mv (.c (i 3)))])
 .ret)
 .skip)))
 (g [o 48 (.mv (.t 5)), o 49 (.bin .add (.t 48) (.c (i 1))), o 5 (.mv (.t 49))])))
def v55_1 : AC := .dreg [0, 1, 2, 3, 4, 5, 6, 7, 8, 9, 10, 11, 12] [o 65 (.fa (.t 2) 7), o 66 (.ld1 (.t 65)), o 67 (.fa (.t 3) 0), o 68 (.ld1 (.t 67)), o 69 (.ixS 1 (.t 66) (.t 68)), o 70 (.ld1 (.t 69)), o 71 (.mv (.t 6)), o 72 (.ixS 1 (.t 70) (.t 71)), o 73 (.ld1 (.t 72)), o 74 (.lenS (.t 73)), o 75 (.bin .sub (.t 74) (.c (i 1))), o 7 (.mv (.c (i 0))), o 8 (.mv (.t 75))] none
def w55_1 : AC := .loop [2, 3, 6]
 (.seq (.seq (g [o 55 (.mv (.t 6)), o 56 (.fa (.t 2) 0), o 57 (.ld1 (.t 56)), o 58 (.bin .lss (.t 55) (.t 57))])
 (.cond (.t 58) .skip
 (.exit 2)))
 (.seq (.block 3 (.seq (g [o 7 (.mv (.c (j 0))), o 8 (.mv (.c (i 1048576)))])
 (.seq (.seq (g [o 61 (.mv (.t 6)), o 62 (.fa (.t 3) 1), o 63 (.ld1 (.t 62)), o 64 (.bin .eql (.t 61) (.t 63))])
 (.cond (.t 64) v55_1
 .skip))
 (.seq (g [o 76 (.mv (.t 6)), o 77 (.fa (.t 3) 2), o 78 (.ixA 5 1 (.t 77) (.t 76)), o 79 (.ld1 (.t 78)), o 80 (.mv (.t 7)), o 81 (.mv (.t 8)), o 82 (.call (.c (.fn 52 [])) [(.t 79), (.t 80), (.t 81)]), o 83 (.un .not (.t 82))])
 (.cond (.t 83) (.seq (g [o 4 (.mv (.c (i 2)))])
 .ret)
 .skip)))))
 (g [o 59 (.mv (.t 6)), o 60 (.bin .add (.t 59) (.c (i 1))), o 6 (.mv (.t 60))])))
def c55 : AFunc := ⟨2, 84, [.tmp 4],
 (.seq (g [o 2 (.box (.t 0)), o 3 (.box (.t 1)), o 4 (.mv (.c (i 0)))])
 (.seq (.seq v55_0
 (.cond (.t 43) (.seq (g [o 4 (.mv (.c (i 2)))])
 .ret)
 .skip))
 (.seq (.seq (g [o 44 (.fa (.t 2) 0), o 45 (.ld1 (.t 44)), o 5 (.mv (.t 45))])
 (.block 0 w55_0))
 (.seq (.seq (g [o 6 (.mv (.c (i 0)))])
 (.block 2 w55_1))
 (.seq (g [o 4 (.mv (.c (i 0)))])
 .ret)))))⟩

def c56 : AFunc := ⟨2, 8, [.tmp 4],
 (.seq (g [o 4 (.mv (.c (.bool false)))])
 (.seq (g [o 5 (.mv (.t 0)), o 6 (.mv (.t 1)), o 7 (.call (.c (.fn 101 [])) [(.t 5), (.t 6), (.c (.fn 41 []))]), o 4 (.mv (.t 7))])
 .ret))⟩

def c57 : AFunc := ⟨2, 8, [.tmp 4],
 (.seq (g [o 4 (.mv (.c (.bool false)))])
 (.seq (g [o 5 (.mv (.t 0)), o 6 (.mv (.t 1)), o 7 (.call (.c (.fn 102 [])) [(.t 5), (.t 6), (.c (.fn 56 []))]), o 4 (.mv (.t 7))])
 .ret))⟩

def c58 : AFunc := ⟨3, 11, [.tmp 6],
 (.seq (g [o 6 (.mv (.c (.bool false)))])
 (.seq (g [o 7 (.mv (.t 0)), o 8 (.mv (.t 1)), o 9 (.mv (.t 2)), o 10 (.call (.c (.fn 103 [])) [(.t 7), (.t 8), (.t 9)]), o 6 (.mv (.t 10))])
 .ret))⟩

def v59_0 : AC := .dreg [0, 1, 2, 3, 4, 5, 6, 7, 8] [o 16 (.mv (.t 0)), o 17 (.mv (.t 5)), o 18 (.ixS 8 (.t 16) (.t 17)), o 19 (.ldN 8 (.t 18)), o 20 (.mv (.t 1)), o 21 (.mv (.t 5)), o 22 (.ixS 8 (.t 20) (.t 21)), o 23 (.ldN 8 (.t 22)), o 24 (.eqf true 8 (.t 19) (.t 23))] none
def w59_0 : AC := .loop [0, 1, 12, 13]
 (.seq (g [o 14 (.bin .lss (.t 13) (.t 12))])
 (.seq (.cond (.t 14) .skip
 (.exit 0))
 (.seq (.block 1 (.seq (g [o 15 (.mv (.t 13)), o 5 (.mv (.t 15))])
 (.seq v59_0
 (.cond (.t 24) (.seq (g [o 4 (.mv (.c (.bool false)))])
 .ret)
 .skip))))
 (g [o 25 (.bin .add (.t 13) (.c (i 1))), o 13 (.mv (.t 25))]))))
def c59 : AFunc := ⟨2, 26, [.tmp 4],
 (.seq (g [o 4 (.mv (.c (.bool false)))])
 (.seq (.seq (g [o 6 (.mv (.t 0)), o 7 (.lenS (.t 6)), o 8 (.mv (.t 1)), o 9 (.lenS (.t 8)), o 10 (.bin .neq (.t 7) (.t 9))])
 (.cond (.t 10) (.seq (g [o 4 (.mv (.c (.bool false)))])
 .ret)
 .skip))
 (.seq (.seq (g [o 11 (.mv (.t 0)), o 12 (.lenS (.t 11)), o 13 (.mv (.c (i 0)))])
 (.block 0 w59_0))
 (.seq (g [o 4 (.mv (.c (.bool true)))])
 .ret))))⟩

def v60_0 : AC := .dreg [0, 1, 2, 3, 4, 5, 6, 7, 8, 9] [o 17 (.mv (.t 0)), o 18 (.mv (.t 5)), o 19 (.ixS 1 (.t 17) (.t 18)), o 20 (.ld1 (.t 19)), o 21 (.mv (.t 1)), o 22 (.mv (.t 5)), o 23 (.ixS 1 (.t 21) (.t 22)), o 24 (.ld1 (.t 23)), o 25 (.call (.c (.fn 104 [])) [(.t 20), (.t 24)]), o 26 (.un .not (.t 25))] none
def w60_0 : AC := .loop [0, 1, 5]
 (.seq (.seq (g [o 11 (.mv (.t 5)), o 12 (.mv (.t 0)), o 13 (.lenS (.t 12)), o 14 (.bin .lss (.t 11) (.t 13))])
 (.cond (.t 14) .skip
 (.exit 0)))
 (.seq (.block 1 (.seq v60_0
 (.cond (.t 26) (.seq (g [o 4 (.mv (.c (.bool false)))])
 .ret)
 .skip)))
 (g [o 15 (.mv (.t 5)), o 16 (.bin .add (.t 15) (.c (i 1))), o 5 (.mv (.t 16))])))
def c60 : AFunc := ⟨2, 27, [.tmp 4],
 (.seq (g [o 4 (.mv (.c (.bool false)))])
 (.seq (.seq (g [o 6 (.mv (.t 0)), o 7 (.lenS (.t 6)), o 8 (.mv (.t 1)), o 9 (.lenS (.t 8)), o 10 (.bin .neq (.t 7) (.t 9))])
 (.cond (.t 10) (.seq (g [o 4 (.mv (.c (.bool false)))])
 .ret)
 .skip))
 (.seq (.seq (g [o 5 (.mv (.c (i 0)))])
 (.block 0 w60_0))
 (.seq (g [o 4 (.mv (.c (.bool true)))])
 .ret))))⟩

def v61_0 : AC := .dreg [0, 1, 2, 3, 4, 5, 6, 7, 8, 9] [o 17 (.mv (.t 0)), o 18 (.mv (.t 5)), o 19 (.ixS 1 (.t 17) (.t 18)), o 20 (.ld1 (.t 19)), o 21 (.mv (.t 1)), o 22 (.mv (.t 5)), o 23 (.ixS 1 (.t 21) (.t 22)), o 24 (.ld1 (.t 23)), o 25 (.call (.c (.fn 60 [])) [(.t 20), (.t 24)]), o 26 (.un .not (.t 25))] none
def w61_0 : AC := .loop [0, 1, 5]
 (.seq (.seq (g [o 11 (.mv (.t 5)), o 12 (.mv (.t 0)), o 13 (.lenS (.t 12)), o 14 (.bin .lss (.t 11) (.t 13))])
 (.cond (.t 14) .skip
 (.exit 0)))
 (.seq (.block 1 (.seq v61_0
 (.cond (.t 26) (.seq (g [o 4 (.mv (.c (.bool false)))])
 .ret)
 .skip)))
 (g [o 15 (.mv (.t 5)), o 16 (.bin .add (.t 15) (.c (i 1))), o 5 (.mv (.t 16))])))
def c61 : AFunc := ⟨2, 27, [.tmp 4],
 (.seq (g [o 4 (.mv (.c (.bool false)))])
 (.seq (.seq (g [o 6 (.mv (.t 0)), o 7 (.lenS (.t 6)), o 8 (.mv (.t 1)), o 9 (.lenS (.t 8)), o 10 (.bin .neq (.t 7) (.t 9))])
 (.cond (.t 10) (.seq (g [o 4 (.mv (.c (.bool false)))])
 .ret)
 .skip))
 (.seq (.seq (g [o 5 (.mv (.c (i 0)))])
 (.block 0 w61_0))
 (.seq (g [o 4 (.mv (.c (.bool true)))])
 .ret))))⟩

def w62_0 : AC := .loop [3, 8, 9, 10]
 (.seq (g [o 11 (.bin .lss (.t 10) (.t 9))])
 (.seq (.cond (.t 11) .skip
 (.exit 0))
 (.seq (.block 1 (.seq (g [o 12 (.ixS 8 (.t 8) (.t 10)), o 13 (.ldN 8 (.t 12)), o 5 (.alloc [i 0, i 0, i 0, i 0, i 0, i 0, i 0, i 0]), e (.st 8 (.t 5) (.t 13))])
 (g [o 14 (.mv (.t 3)), o 15 (.fa (.t 5) 0), o 16 (.ld1 (.t 15)), o 17 (.fa (.t 5) 1), o 18 (.ld1 (.t 17)), o 19 (.fa (.t 5) 2), o 20 (.ldN 5 (.t 19)), o 21 (.build [i 0, i 0, i 0, i 0, i 0, i 0, i 0] [(0, 1, (.t 16)), (1, 1, (.t 18)), (2, 5, (.t 20))]), o 22 (.fa (.t 5) 7), o 23 (.ld1 (.t 22)), e (.mput 7 (.t 14) (.t 21) (.t 23))])))
 (g [o 24 (.bin .add (.t 10) (.c (i 1))), o 10 (.mv (.t 24))]))))
def c62 : AFunc := ⟨1, 26, [.tmp 2],
 (.seq (g [o 1 (.box (.t 0)), o 2 (.mv (.c .nilm))])
 (.seq (g [o 6 .mkmap, o 3 (.mv (.t 6))])
 (.seq (.seq (g [o 7 (.fa (.t 1) 6), o 8 (.ld1 (.t 7)), o 9 (.lenS (.t 8)), o 10 (.mv (.c (i 0)))])
 (.block 0 w62_0))
 (.seq (g [o 25 (.mv (.t 3)), o 2 (.mv (.t 25))])
 .ret))))⟩

def w63_0 : AC := .loop [1, 2, 4, 7, 9]
 (.seq (.seq (g [o 11 (.mv (.t 9)), o 12 (.fa (.t 4) 6), o 13 (.ld1 (.t 12)), o 14 (.lenS (.t 13)), o 15 (.bin .lss (.t 11) (.t 14))])
 (.cond (.t 15) .skip
 (.exit 0)))
 (.seq (.block 1 (.seq (g [o 18 (.fa (.t 4) 6), o 19 (.ld1 (.t 18)), o 20 (.mv (.t 9)), o 21 (.ixS 8 (.t 19) (.t 20)), o 22 (.ldN 8 (.t 21)), o 10 (.alloc [i 0, i 0, i 0, i 0, i 0, i 0, i 0, i 0]), e (.st 8 (.t 10) (.t 22))])
 (.seq (g [o 23 (.fa (.t 10) 0), o 24 (.ld1 (.t 23)), o 25 (.mv (.t 1)), o 26 (.bin .eql (.t 24) (.t 25)), o 27 (.mv (.t 26)), ⟨(some 28), .fa (.t 10) 1, (some (27, true)), []⟩, ⟨(some 29), .ld1 (.t 28), (some (27, true)), []⟩, ⟨(some 30), .mv (.t 2), (some (27, true)), []⟩, ⟨(some 31), .bin .eql (.t 29) (.t 30), (some (27, true)), []⟩, o 32 (.pick (.t 27) (.t 31) (.c (.bool false))), o 33 (.mv (.t 32)), ⟨(some 34), .fa (.t 10) 2, (some (33, true)), []⟩, ⟨(some 35), .ldN 5 (.t 34), (some (33, true)), []⟩, ⟨(some 36), .ldN 5 (.t 7), (some (33, true)), []⟩, ⟨(some 37), .eqf false 5 (.t 35) (.t 36), (some (33, true)), []⟩, o 38 (.pick (.t 33) (.t 37) (.c (.bool false)))])
 (.cond (.t 38) (.seq (g [o 39 (.fa (.t 10) 7), o 40 (.ld1 (.t 39)), o 8 (.mv (.t 40))])
 .ret)
 .skip))))
 (g [o 16 (.mv (.t 9)), o 17 (.bin .add (.t 16) (.c (i 1))), o 9 (.mv (.t 17))])))
def c63 : AFunc := ⟨4, 41, [.tmp 8],
 (.seq (g [o 4 (.box (.t 0)), o 7 (.box (.t 3)), o 8 (.mv (.c (i 0)))])
 (.seq (.seq (g [o 9 (.mv (.c (i 0)))])
 (.block 0 w63_0))
 (.seq (g [o 8 (.mv (.c (j 0)))])
 .ret)))⟩

def c64 : AFunc := ⟨3, 11, [.tmp 6],
 (.seq (g [o 4 (.box (.t 1)), o 5 (.box (.t 2)), o 6 (.mv (.c (.bool false)))])
 (.seq (g [o 7 (.mv (.t 0)), o 8 (.mkfn 106 [(.t 4), (.t 5)]), o 9 (.call (.c (.fn 105 [])) [(.t 7), (.t 8)]), o 10 (.un .not (.t 9)), o 6 (.mv (.t 10))])
 .ret))⟩

def u65_0 : AC := .block 1 (.seq (.seq (g [o 21 (.ldN 7 (.t 7)), o 22 (.call (.c (.fn 109 [])) [(.t 21)]), o 8 (.mv (.t 22))])
 (.seq (g [o 23 (.mv (.t 8)), o 24 (.bin .neq (.t 23) (.c (i 0)))])
 (.cond (.t 24) (.seq (g [o 25 (.mv (.t 8)), e (.st 1 (.t 4) (.t 25))])
 .ret)
 .skip)))
 (.block 2 (.seq (g [o 27 (.fa (.t 7) 0), o 28 (.fa (.t 27) 0), o 29 (.ld1 (.t 28)), o 30 (.ld1 (.t 2)), o 31 (.bin .neq (.t 29) (.t 30)), o 26 (.mv (.t 31))])
 (.cond (.t 26) (.seq (g [e (.st 1 (.t 4) (.c (i 22)))])
 .ret)
 (.seq (g [o 33 (.mv (.t 6)), o 34 (.fa (.t 7) 6), o 35 (.ld1 (.t 34)), o 36 (.bin .andNot (.t 33) (.t 35)), o 37 (.bin .neq (.t 36) (.c (i 0))), o 32 (.mv (.t 37))])
 (.cond (.t 32) (.seq (g [e (.st 1 (.t 4) (.c (i 14)))])
 .ret)
 .skip))))))
def c65 : AFunc := ⟨2, 38, [.cell1 4],
 (.seq (g [o 2 (.box (.t 0)), o 4 (.alloc [i 0])])
 (.seq (.seq (g [o 9 (.ld1 (.t 2)), o 10 (.call (.c (.fn 107 [])) [(.t 9)]), o 5 (.mv (.t 10))])
 (.seq (g [o 11 (.mv (.t 5)), o 12 (.bin .neq (.t 11) (.c (i 0)))])
 (.cond (.t 12) (.seq (g [o 13 (.mv (.t 5)), e (.st 1 (.t 4) (.t 13))])
 .ret)
 .skip)))
 (.seq (.seq (g [o 14 (.mv (.t 1)), o 15 (.lenS (.t 14)), o 16 (.bin .gtr (.t 15) (.c (i 1024)))])
 (.cond (.t 16) (.seq (g [e (.st 1 (.t 4) (.c (i 5)))])
 .ret)
 .skip))
 (.seq (.seq (g [o 17 (.mv (.t 1)), o 18 (.call (.c (.fn 108 [])) [(.t 17)])])
 (.block 0 (.rangeF (.t 18) [19, 20] (.seq (g [o 6 (.mv (.t 19))])
 (g [o 7 (.alloc [i 0, i 0, i 0, i 0, i 0, i 0, i 0]), e (.st 7 (.t 7) (.t 20))]))
 u65_0)))
 (.seq (g [e (.st 1 (.t 4) (.c (i 0)))])
 .ret)))))⟩

def c66 : AFunc := ⟨1, 5, [.tmp 2],
 (.seq (g [o 2 (.mv (.c .nils))])
 (.seq (g [o 3 (.mv (.t 0)), o 4 (.call (.c (.fn 110 [])) [(.c .nils), (.t 3)]), o 2 (.mv (.t 4))])
 .ret))⟩

def c67 : AFunc := ⟨3, 8, [.tmp 6],
 (.seq (g [o 3 (.box (.t 0)), o 4 (.box (.t 1)), o 5 (.box (.t 2)), o 6 (.mv (.c .nilf))])
 (.seq (g [o 7 (.mkfn 111 [(.t 3), (.t 4), (.t 5)]), o 6 (.mv (.t 7))])
 .ret))⟩

def w68_0 : AC := .loop [0, 1, 2, 7]
 (.seq (.seq (g [o 8 (.mv (.t 7)), o 9 (.mv (.t 0)), o 10 (.lenS (.t 9)), o 11 (.bin .lss (.t 8) (.t 10))])
 (.cond (.t 11) .skip
 (.exit 0)))
 (.seq (.block 1 (.seq (g [o 14 (.mv (.t 0)), o 15 (.mv (.t 7)), o 16 (.ixS 1 (.t 14) (.t 15)), o 17 (.ld1 (.t 16)), o 18 (.mv (.t 1)), o 19 (.mv (.t 2)), o 20 (.call (.c (.fn 52 [])) [(.t 17), (.t 18), (.t 19)]), o 21 (.un .not (.t 20))])
 (.cond (.t 21) (.seq (g [o 6 (.mv (.c (.bool false)))])
 .ret)
 .skip)))
 (g [o 12 (.mv (.t 7)), o 13 (.bin .add (.t 12) (.c (i 1))), o 7 (.mv (.t 13))])))
def c68 : AFunc := ⟨3, 22, [.tmp 6],
 (.seq (g [o 6 (.mv (.c (.bool false)))])
 (.seq (.seq (g [o 7 (.mv (.c (i 0)))])
 (.block 0 w68_0))
 (.seq (g [o 6 (.mv (.c (.bool true)))])
 .ret)))⟩

def v69_0 : AC := .dreg [0, 1, 2, 3, 4, 5, 6, 7, 8, 9, 10, 11, 12, 13, 14, 15, 16] [o 38 (.mv (.t 6)), o 39 (.bin .gtr (.t 38) (.c (i 0))), o 40 (.mv (.t 39)), ⟨(some 41), .mv (.t 1), (some (40, true)), []⟩, ⟨(some 42), .mv (.t 6), (some (40, true)), []⟩, ⟨(some 43), .bin .sub (.t 42) (.c (i 1)), (some (40, true)), []⟩, ⟨(some 44), .ixS 7 (.t 41) (.t 43), (some (40, true)), []⟩, ⟨(some 45), .fa (.t 44) 6, (some (40, true)), []⟩, ⟨(some 46), .ld1 (.t 45), (some (40, true)), []⟩, ⟨(some 47), .mv (.t 1), (some (40, true)), []⟩, ⟨(some 48), .mv (.t 6), (some (40, true)), []⟩, ⟨(some 49), .ixS 7 (.t 47) (.t 48), (some (40, true)), []⟩, ⟨(some 50), .fa (.t 49) 6, (some (40, true)), []⟩, ⟨(some 51), .ld1 (.t 50), (some (40, true)), []⟩, ⟨(some 52), .call (.c (.fn 115 [])) [(.t 46), (.t 51)], (some (40, true)), []⟩, ⟨(some 53), .un .not (.t 52), (some (40, true)), []⟩, o 54 (.pick (.t 40) (.t 53) (.c (.bool false)))] none
def w69_0 : AC := .loop [0, 1, 6]
 (.seq (.seq (g [o 16 (.mv (.t 6)), o 17 (.mv (.t 1)), o 18 (.lenS (.t 17)), o 19 (.bin .lss (.t 16) (.t 18))])
 (.cond (.t 19) .skip
 (.exit 0)))
 (.seq (.block 1 (.seq (.seq (g [o 22 (.mv (.t 1)), o 23 (.mv (.t 6)), o 24 (.ixS 7 (.t 22) (.t 23)), o 25 (.ldN 7 (.t 24)), o 26 (.call (.c (.fn 114 [])) [(.t 25)]), o 7 (.mv (.t 26))])
 (.seq (g [o 27 (.mv (.t 7)), o 28 (.bin .neq (.t 27) (.c (i 0)))])
 (.cond (.t 28) (.seq (g [o 29 (.mv (.t 7)), o 4 (.mv (.t 29))])
 .ret)
 .skip)))
 (.seq (.seq (g [o 30 (.mv (.t 1)), o 31 (.mv (.t 6)), o 32 (.ixS 7 (.t 30) (.t 31)), o 33 (.fa (.t 32) 0), o 34 (.fa (.t 33) 0), o 35 (.ld1 (.t 34)), o 36 (.mv (.t 0)), o 37 (.bin .neq (.t 35) (.t 36))])
 (.cond (.t 37) (.seq (g [o 4 (.mv (.c (i 22)))])
 .ret)
 .skip))
 (.seq v69_0
 (.cond (.t 54) (.seq (g [o 4 (.mv (.c (i 14)))])
 .ret)
 .skip)))))
 (g [o 20 (.mv (.t 6)), o 21 (.bin .add (.t 20) (.c (i 1))), o 6 (.mv (.t 21))])))
def c69 : AFunc := ⟨2, 55, [.tmp 4],
 (.seq (g [o 4 (.mv (.c (i 0)))])
 (.seq (.seq (g [o 8 (.mv (.t 0)), o 9 (.call (.c (.fn 113 [])) [(.t 8)]), o 5 (.mv (.t 9))])
 (.seq (g [o 10 (.mv (.t 5)), o 11 (.bin .neq (.t 10) (.c (i 0)))])
 (.cond (.t 11) (.seq (g [o 12 (.mv (.t 5)), o 4 (.mv (.t 12))])
 .ret)
 .skip)))
 (.seq (.seq (g [o 13 (.mv (.t 1)), o 14 (.lenS (.t 13)), o 15 (.bin .gtr (.t 14) (.c (i 1024)))])
 (.cond (.t 15) (.seq (g [o 4 (.mv (.c (i 5)))])
 .ret)
 .skip))
 (.seq (.seq (g [o 6 (.mv (.c (i 0)))])
 (.block 0 w69_0))
 (.seq (g [o 4 (.mv (.c (i 0)))])
 .ret)))))⟩

def v70_0 : AC := .dreg [0, 1, 2, 3, 4, 5, 6, 7, 8, 9, 10, 11, 12, 13, 14] [o 21 (.mv (.t 8)), o 22 (.fa (.t 3) 4), o 23 (.ld1 (.t 22)), o 24 (.mv (.t 9)), o 25 (.ixS 1 (.t 23) (.t 24)), o 26 (.ld1 (.t 25)), o 27 (.mv (.t 1)), o 28 (.mv (.t 9)), o 29 (.ixS 1 (.t 27) (.t 28)), o 30 (.ld1 (.t 29)), o 31 (.ixS 1 (.t 26) (.t 30)), o 32 (.ld1 (.t 31)), o 33 (.bslice 1 [i 0] [(0, 1, (.t 32))]), o 34 (.app 1 8 (.t 21) (.t 33)), o 8 (.mv (.t 34))] none
def w70_0 : AC := .loop [1, 2, 3, 8, 9]
 (.seq (.seq (g [o 15 (.mv (.t 9)), o 16 (.fa (.t 3) 0), o 17 (.ld1 (.t 16)), o 18 (.bin .lss (.t 15) (.t 17))])
 (.cond (.t 18) .skip
 (.exit 0)))
 (.seq (.block 1 (.seq v70_0
 (.seq (g [o 35 (.mv (.t 8)), o 36 (.mv (.t 9)), o 37 (.ixS 1 (.t 35) (.t 36)), o 38 (.ld1 (.t 37)), o 39 (.bin .lss (.t 38) (.c (i 0)))])
 (.cond (.t 39) (.seq (g [o 6 (.mv (.c .nils)), o 7 (.mv (.c (i 20)))])
 .ret)
 .skip))))
 (g [o 19 (.mv (.t 9)), o 20 (.bin .add (.t 19) (.c (i 1))), o 9 (.mv (.t 20))])))
def v70_1 : AC := .dreg [0, 1, 2, 3, 4, 5, 6, 7, 8, 9, 10, 11, 12, 13, 14] [o 54 (.ldN 8 (.t 3)), o 55 (.mv (.t 11)), o 56 (.mv (.t 13)), o 57 (.ldN 8 (.t 3)), o 58 (.mv (.t 11)), o 59 (.mv (.t 13)), o 60 (.mv (.t 8)), o 61 (.mv (.t 2)), o 62 (.mv (.t 11)), o 63 (.ixS 7 (.t 61) (.t 62)), o 64 (.fa (.t 63) 0), o 65 (.ldN 6 (.t 64)), ⟨(some 66), .call (.c (.fn 116 [])) [(.t 57), (.t 58), (.t 59), (.t 60), (.t 65)], none, [0]⟩, o 67 (.call (.c (.fn 63 [])) [(.t 54), (.t 55), (.t 56), (.t 66)]), o 14 (.mv (.t 67))] none
def w70_1 : AC := .loop [2, 3, 8, 10, 11, 12, 13]
 (.seq (.seq (g [o 48 (.mv (.t 13)), o 49 (.fa (.t 3) 0), o 50 (.ld1 (.t 49)), o 51 (.bin .lss (.t 48) (.t 50))])
 (.cond (.t 51) .skip
 (.exit 4)))
 (.seq (.block 5 (.seq v70_1
 (.seq (.seq (g [o 68 (.mv (.t 14)), o 69 (.bin .lss (.t 68) (.c (i 0)))])
 (.cond (.t 69) (.seq (g [o 6 (.mv (.c .nils)), o 7 (.mv (.c (i 20)))])
 .ret)
 .skip))
 (g [o 70 (.mv (.t 12)), o 71 (.mv (.t 14)), o 72 (.bslice 1 [i 0] [(0, 1, (.t 71))]), o 73 (.app 1 8 (.t 70) (.t 72)), o 12 (.mv (.t 73))]))))
 (g [o 52 (.mv (.t 13)), o 53 (.bin .add (.t 52) (.c (i 1))), o 13 (.mv (.t 53))])))
def w70_2 : AC := .loop [2, 3, 8, 10, 11]
 (.seq (.seq (g [o 42 (.mv (.t 11)), o 43 (.fa (.t 3) 1), o 44 (.ld1 (.t 43)), o 45 (.bin .lss (.t 42) (.t 44))])
 (.cond (.t 45) .skip
 (.exit 2)))
 (.seq (.block 3 (.seq (g [o 12 (.mv (.c .nils))])
 (.seq (.seq (g [o 13 (.mv (.c (i 0)))])
 (.block 4 w70_1))
 (g [o 74 (.mv (.t 10)), o 75 (.mv (.t 12)), o 76 (.bslice 1 [.nils] [(0, 1, (.t 75))]), o 77 (.app 1 24 (.t 74) (.t 76)), o 78 (.mv (.t 12)), o 10 (.mv (.t 77)), o 8 (.mv (.t 78))]))))
 (g [o 46 (.mv (.t 11)), o 47 (.bin .add (.t 46) (.c (i 1))), o 11 (.mv (.t 47))])))
def c70 : AFunc := ⟨3, 80, [.tmp 6, .tmp 7],
 (.seq (g [o 3 (.box (.t 0)), o 6 (.mv (.c .nils)), o 7 (.mv (.c (i 0)))])
 (.seq (g [o 8 (.mv (.c .nils))])
 (.seq (.seq (g [o 9 (.mv (.c (i 0)))])
 (.block 0 w70_0))
 (.seq (g [o 40 (.mv (.t 8)), o 41 (.bslice 1 [.nils] [(0, 1, (.t 40))]), o 10 (.mv (.t 41))])
 (.seq (.seq (g [o 11 (.mv (.c (i 0)))])
 (.block 2 w70_2))
 (.seq (g [o 79 (.mv (.t 10)), o 6 (.mv (.t 79)), o 7 (.mv (.c (i 0)))])
 .ret))))))⟩

def w71_0 : AC := .loop [1, 2, 15, 16, 17]
 (.seq (g [o 18 (.bin .lss (.t 17) (.t 16))])
 (.seq (.cond (.t 18) .skip
 (.exit 0))
 (.seq (.block 1 (.seq (g [o 19 (.mv (.t 17)), o 20 (.ixS 1 (.t 15) (.t 17)), o 21 (.ld1 (.t 20)), o 7 (.mv (.t 19)), o 8 (.mv (.t 21))])
 (.seq (g [o 22 (.mv (.t 1)), o 23 (.mv (.t 7)), o 24 (.ixS 1 (.t 22) (.t 23)), o 25 (.ld1 (.t 24)), o 9 (.mv (.t 25))])
 (.seq (g [o 26 (.mv (.t 2)), o 27 (.mv (.t 8)), o 28 (.mv (.t 9)), o 29 (.call (.t 26) [(.t 27), (.t 28)]), o 30 (.un .not (.t 29))])
 (.cond (.t 30) (.seq (g [o 6 (.mv (.c (.bool false)))])
 .ret)
 .skip)))))
 (g [o 31 (.bin .add (.t 17) (.c (i 1))), o 17 (.mv (.t 31))]))))
def c71 : AFunc := ⟨3, 32, [.tmp 6],
 (.seq (g [o 6 (.mv (.c (.bool false)))])
 (.seq (.seq (g [o 10 (.mv (.t 0)), o 11 (.lenS (.t 10)), o 12 (.mv (.t 1)), o 13 (.lenS (.t 12)), o 14 (.bin .neq (.t 11) (.t 13))])
 (.cond (.t 14) (.seq (g [o 6 (.mv (.c (.bool false)))])
 .ret)
 .skip))
 (.seq (.seq (g [o 15 (.mv (.t 0)), o 16 (.lenS (.t 15)), o 17 (.mv (.c (i 0)))])
 (.block 0 w71_0))
 (.seq (g [o 6 (.mv (.c (.bool true)))])
 .ret))))⟩

def c72 : AFunc := ⟨2, 8, [.tmp 4],
 (.seq (g [o 4 (.mv (.c (.bool false)))])
 (.seq (g [o 5 (.mv (.t 0)), o 6 (.mv (.t 1)), o 7 (.call (.c (.fn 41 [])) [(.t 5), (.t 6)]), o 4 (.mv (.t 7))])
 .ret))⟩

def w73_0 : AC := .loop [1, 3, 4, 5]
 (.seq (.seq (g [o 45 (.mv (.t 5)), o 46 (.fa (.t 4) 2), o 47 (.ld1 (.t 46)), o 48 (.lenS (.t 47)), o 49 (.bin .lss (.t 45) (.t 48))])
 (.cond (.t 49) .skip
 (.exit 2)))
 (.seq (.block 3 (.seq (g [o 52 (.fa (.t 4) 2), o 53 (.ld1 (.t 52)), o 54 (.mv (.t 5)), o 55 (.ixS 1 (.t 53) (.t 54)), o 56 (.ld1 (.t 55)), o 57 (.lenS (.t 56)), o 58 (.bin .gtr (.t 57) (.c (i 10)))])
 (.cond (.t 58) (.seq (g [o 2 (.mv (.c (.bool false)))])
 .ret)
 .skip)))
 (g [o 50 (.mv (.t 5)), o 51 (.bin .add (.t 50) (.c (i 1))), o 5 (.mv (.t 51))])))
def w73_1 : AC := .loop [1, 3]
 (.seq (.seq (g [o 23 (.mv (.t 3)), o 24 (.fa (.t 1) 9), o 25 (.ld1 (.t 24)), o 26 (.lenS (.t 25)), o 27 (.bin .lss (.t 23) (.t 26))])
 (.cond (.t 27) .skip
 (.exit 0)))
 (.seq (.block 1 (.seq (g [o 30 (.fa (.t 1) 9), o 31 (.ld1 (.t 30)), o 32 (.mv (.t 3)), o 33 (.ixS 3 (.t 31) (.t 32)), o 34 (.ldN 3 (.t 33)), o 4 (.alloc [i 0, .nils, .nils]), e (.st 3 (.t 4) (.t 34))])
 (.seq (.seq (g [o 35 (.fa (.t 4) 1), o 36 (.ld1 (.t 35)), o 37 (.lenS (.t 36)), o 38 (.bin .gtr (.t 37) (.c (i 10))), o 39 (.mv (.t 38)), ⟨(some 40), .fa (.t 4) 2, (some (39, false)), []⟩, ⟨(some 41), .ld1 (.t 40), (some (39, false)), []⟩, ⟨(some 42), .lenS (.t 41), (some (39, false)), []⟩, ⟨(some 43), .bin .gtr (.t 42) (.c (i 10)), (some (39, false)), []⟩, o 44 (.pick (.t 39) (.c (.bool true)) (.t 43))])
 (.cond (.t 44) (.seq (g [o 2 (.mv (.c (.bool false)))])
 .ret)
 .skip))
 (.seq (g [o 5 (.mv (.c (i 0)))])
 (.block 2 w73_0)))))
 (g [o 28 (.mv (.t 3)), o 29 (.bin .add (.t 28) (.c (i 1))), o 3 (.mv (.t 29))])))
def c73 : AFunc := ⟨1, 59, [.tmp 2],
 (.seq (g [o 1 (.box (.t 0)), o 2 (.mv (.c (.bool false)))])
 (.seq (.seq (g [o 6 (.fa (.t 1) 0), o 7 (.ldN 7 (.t 6)), o 8 (.call (.c (.fn 117 [])) [(.t 7)]), o 9 (.un .not (.t 8)), o 10 (.mv (.t 9)), ⟨(some 11), .fa (.t 1) 7, (some (10, false)), []⟩, ⟨(some 12), .fa (.t 11) 1, (some (10, false)), []⟩, ⟨(some 13), .ld1 (.t 12), (some (10, false)), []⟩, ⟨(some 14), .lenS (.t 13), (some (10, false)), []⟩, ⟨(some 15), .bin .gtr (.t 14) (.c (i 600)), (some (10, false)), []⟩, o 16 (.pick (.t 10) (.c (.bool true)) (.t 15)), o 17 (.mv (.t 16)), ⟨(some 18), .fa (.t 1) 9, (some (17, false)), []⟩, ⟨(some 19), .ld1 (.t 18), (some (17, false)), []⟩, ⟨(some 20), .lenS (.t 19), (some (17, false)), []⟩, ⟨(some 21), .bin .gtr (.t 20) (.c (i 70)), (some (17, false)), []⟩, o 22 (.pick (.t 17) (.c (.bool true)) (.t 21))])
 (.cond (.t 22) (.seq (g [o 2 (.mv (.c (.bool false)))])
 .ret)
 .skip))
 (.seq (.seq (g [o 3 (.mv (.c (i 0)))])
 (.block 0 w73_1))
 (.seq (g [o 2 (.mv (.c (.bool true)))])
 .ret))))⟩

def c74 : AFunc := ⟨2, 22, [.tmp 4, .tmp 5],
 (.seq (g [o 2 (.box (.t 0)), o 3 (.box (.t 1)), o 4 (.mv (.c .nils)), o 5 (.mv (.c (i 0)))])
 (.seq (g [o 9 (.ldN 10 (.t 2)), o 10 (.ldN 1 (.t 3)), o 11 (.call (.c (.fn 118 [])) [(.t 9), (.t 10)]), o 8 (.mv (.t 11)), o 12 (.ext (.t 8) 0), o 13 (.ext (.t 8) 1), o 6 (.mv (.t 12)), o 7 (.mv (.t 13))])
 (.seq (.seq (g [o 14 (.mv (.t 7)), o 15 (.bin .neq (.t 14) (.c (i 0)))])
 (.cond (.t 15) (.seq (g [o 16 (.mv (.t 7)), o 4 (.mv (.c .nils)), o 5 (.mv (.t 16))])
 .ret)
 .skip))
 (.seq (g [o 17 (.mv (.t 6)), o 18 (.call (.c (.fn 120 [])) [(.t 17)]), o 19 (.call (.c (.fn 119 [])) [(.t 18)]), o 20 (.ext (.t 19) 0), o 21 (.ext (.t 19) 1), o 4 (.mv (.t 20)), o 5 (.mv (.t 21))])
 .ret))))⟩

def v75_0 : AC := .dreg [0, 1, 2, 3, 4, 5, 6, 7, 8, 9] [o 13 (.ldN 10 (.t 2)), o 14 (.mv (.t 1)), o 15 (.fa (.t 2) 0), o 16 (.fa (.t 15) 6), o 17 (.ld1 (.t 16)), o 18 (.bin .add (.t 17) (.c (i 1))), o 19 (.mkslice 24 [.nils] (.t 18) (.t 18)), o 20 (.build [i 0, i 0, i 0, .nils, i 0, .nils, i 0, i 0, .nils, .nils, .nils, .nils] [(0, 10, (.t 13)), (10, 1, (.t 14)), (11, 1, (.t 19))]), o 5 (.alloc [i 0, i 0, i 0, .nils, i 0, .nils, i 0, i 0, .nils, .nils, .nils, .nils]), e (.st 12 (.t 5) (.t 20))] none
def v75_1 : AC := .dreg [0, 1, 2, 3, 4, 5, 6, 7, 8, 9] [o 27 (.fa (.t 5) 11), o 28 (.ld1 (.t 27)), o 29 (.mv (.t 6)), o 30 (.fa (.t 2) 0), o 31 (.fa (.t 30) 0), o 32 (.fa (.t 31) 0), o 33 (.ld1 (.t 32)), o 34 (.mkslice 24 [.nils] (.t 33) (.t 33)), o 35 (.ixS 1 (.t 28) (.t 29)), e (.st 1 (.t 35) (.t 34))] none
def w75_0 : AC := .loop [1, 2, 4, 5, 23, 24]
 (.seq (g [o 25 (.bin .lss (.t 24) (.t 23))])
 (.seq (.cond (.t 25) .skip
 (.exit 0))
 (.seq (.block 1 (.seq (g [o 26 (.mv (.t 24)), o 6 (.mv (.t 26))])
 v75_1))
 (g [o 36 (.bin .add (.t 24) (.c (i 1))), o 24 (.mv (.t 36))]))))
def v75_2 : AC := .dreg [0, 1, 2, 3, 4, 5, 6, 7, 8, 9] [o 46 (.fa (.t 5) 11), o 47 (.ld1 (.t 46)), o 48 (.fa (.t 8) 1), o 49 (.ld1 (.t 48)), o 50 (.ixS 1 (.t 47) (.t 49)), o 51 (.ld1 (.t 50)), o 52 (.fa (.t 8) 0), o 53 (.ld1 (.t 52)), o 54 (.ixS 1 (.t 51) (.t 53)), o 9 (.mv (.t 54))] none
def v75_3 : AC := .dreg [0, 1, 2, 3, 4, 5, 6, 7, 8, 9, 10, 11] [o 55 (.mv (.t 9)), o 56 (.mv (.t 9)), o 57 (.nilck (.t 56)), o 58 (.ld1 (.t 57)), o 59 (.mv (.t 1)), o 60 (.mv (.t 7)), o 61 (.ixS 1 (.t 59) (.t 60)), o 62 (.ld1 (.t 61)), o 63 (.bslice 1 [i 0] [(0, 1, (.t 62))]), o 64 (.app 1 8 (.t 58) (.t 63)), o 65 (.nilck (.t 55)), e (.st 1 (.t 65) (.t 64))] none
def w75_1 : AC := .loop [1, 4, 5, 39, 40, 41]
 (.seq (g [o 42 (.bin .lss (.t 41) (.t 40))])
 (.seq (.cond (.t 42) .skip
 (.exit 2))
 (.seq (.block 3 (.seq (g [o 43 (.mv (.t 41)), o 44 (.ixS 8 (.t 39) (.t 41)), o 45 (.ldN 8 (.t 44)), o 8 (.alloc [i 0, i 0, i 0, i 0, i 0, i 0, i 0, i 0]), o 7 (.mv (.t 43)), e (.st 8 (.t 8) (.t 45))])
 (.seq v75_2
 v75_3)))
 (g [o 66 (.bin .add (.t 41) (.c (i 1))), o 41 (.mv (.t 66))]))))
def w75_2 : AC := .loop [4, 5, 11, 68, 69, 70, 75, 76]
 (.seq (g [o 77 (.bin .lss (.t 76) (.t 75))])
 (.seq (.cond (.t 77) .skip
 (.exit 6))
 (.seq (.block 7 (.seq (g [o 78 (.mv (.t 76)), o 12 (.mv (.t 78))])
 (.seq (g [o 79 (.mv (.t 11)), o 80 (.mv (.t 12)), o 81 (.ixS 1 (.t 79) (.t 80)), o 82 (.ld1 (.t 81)), o 83 (.call (.c (.fn 93 [])) [(.t 82)])])
 (g [o 84 (.mv (.t 11)), o 85 (.mv (.t 12)), o 86 (.mv (.t 11)), o 87 (.mv (.t 12)), o 88 (.ixS 1 (.t 86) (.t 87)), o 89 (.ld1 (.t 88)), o 90 (.call (.c (.fn 44 [])) [(.t 89)]), o 91 (.ixS 1 (.t 84) (.t 85)), e (.st 1 (.t 91) (.t 90))]))))
 (g [o 92 (.bin .add (.t 76) (.c (i 1))), o 76 (.mv (.t 92))]))))
def w75_3 : AC := .loop [4, 5, 68, 69, 70]
 (.seq (g [o 71 (.bin .lss (.t 70) (.t 69))])
 (.seq (.cond (.t 71) .skip
 (.exit 4))
 (.seq (.block 5 (.seq (g [o 72 (.ixS 1 (.t 68) (.t 70)), o 73 (.ld1 (.t 72)), o 11 (.mv (.t 73))])
 (.seq (g [o 74 (.mv (.t 11)), o 75 (.lenS (.t 74)), o 76 (.mv (.c (i 0)))])
 (.block 6 w75_2))))
 (g [o 93 (.bin .add (.t 70) (.c (i 1))), o 70 (.mv (.t 93))]))))
def c75 : AFunc := ⟨2, 95, [.cellN 4 12],
 (.seq (g [o 2 (.box (.t 0)), o 4 (.alloc [i 0, i 0, i 0, .nils, i 0, .nils, i 0, i 0, .nils, .nils, .nils, .nils])])
 (.seq v75_0
 (.seq (.seq (g [o 21 (.fa (.t 5) 11), o 22 (.ld1 (.t 21)), o 23 (.lenS (.t 22)), o 24 (.mv (.c (i 0)))])
 (.block 0 w75_0))
 (.seq (.seq (g [o 37 (.fa (.t 2) 7), o 38 (.fa (.t 37) 1), o 39 (.ld1 (.t 38)), o 40 (.lenS (.t 39)), o 41 (.mv (.c (i 0)))])
 (.block 2 w75_1))
 (.seq (.seq (g [o 67 (.fa (.t 5) 11), o 68 (.ld1 (.t 67)), o 69 (.lenS (.t 68)), o 70 (.mv (.c (i 0)))])
 (.block 4 w75_3))
 (.seq (g [o 94 (.ldN 12 (.t 5)), e (.st 12 (.t 4) (.t 94))])
 .ret))))))⟩

def w76_0 : AC := .loop [2, 3, 4, 6, 7, 8, 9, 10, 35, 36, 43, 44, 48, 49]
 (.seq (g [o 50 (.bin .lss (.t 49) (.t 48))])
 (.seq (.cond (.t 50) .skip
 (.exit 4))
 (.seq (.block 5 (.seq (g [o 51 (.mv (.t 49)), o 11 (.mv (.t 51))])
 (.seq (g [o 53 (.ldN 12 (.t 2)), o 54 (.mv (.t 8)), o 55 (.mv (.t 10)), o 56 (.mv (.t 11)), o 57 (.call (.c (.fn 121 [])) [(.t 53), (.t 54), (.t 55), (.t 56)]), o 52 (.mv (.t 57)), o 58 (.ext (.t 52) 0), o 59 (.ext (.t 52) 1), o 12 (.mv (.t 58)), o 13 (.mv (.t 59))])
 (.seq (.seq (g [o 60 (.mv (.t 13)), o 61 (.bin .neq (.t 60) (.c (i 0)))])
 (.cond (.t 61) (.seq (g [o 62 (.build [i 0, i 0, i 0, i 0, .nils, .nils, .nils, .nils] []), o 63 (.mv (.t 13)), e (.st 8 (.t 4) (.t 62)), o 5 (.mv (.t 63))])
 .ret)
 .skip))
 (g [o 64 (.mv (.t 9)), o 65 (.mv (.t 10)), o 66 (.mv (.t 9)), o 67 (.mv (.t 10)), o 68 (.ixS 1 (.t 66) (.t 67)), o 69 (.ld1 (.t 68)), o 70 (.mv (.t 12)), o 71 (.bslice 1 [.nils] [(0, 1, (.t 70))]), o 72 (.app 1 24 (.t 69) (.t 71)), o 73 (.ixS 1 (.t 64) (.t 65)), e (.st 1 (.t 73) (.t 72))])))))
 (g [o 74 (.bin .add (.t 49) (.c (i 1))), o 49 (.mv (.t 74))]))))
def w76_1 : AC := .loop [2, 3, 4, 6, 7, 8, 9, 35, 36, 43, 44]
 (.seq (g [o 45 (.bin .lss (.t 44) (.t 43))])
 (.seq (.cond (.t 45) .skip
 (.exit 2))
 (.seq (.block 3 (.seq (g [o 46 (.mv (.t 44)), o 10 (.mv (.t 46))])
 (.seq (g [o 47 (.fa (.t 6) 0), o 48 (.ld1 (.t 47)), o 49 (.mv (.c (i 0)))])
 (.block 4 w76_0))))
 (g [o 75 (.bin .add (.t 44) (.c (i 1))), o 44 (.mv (.t 75))]))))
def w76_2 : AC := .loop [2, 3, 4, 6, 7, 35, 36]
 (.seq (g [o 37 (.bin .lss (.t 36) (.t 35))])
 (.seq (.cond (.t 37) .skip
 (.exit 0))
 (.seq (.block 1 (.seq (g [o 38 (.mv (.t 36)), o 8 (.mv (.t 38))])
 (.seq (g [o 39 (.fa (.t 6) 0), o 40 (.ld1 (.t 39)), o 41 (.mkslice 24 [.nils] (.t 40) (.t 40)), o 9 (.mv (.t 41))])
 (.seq (.seq (g [o 42 (.fa (.t 6) 0), o 43 (.ld1 (.t 42)), o 44 (.mv (.c (i 0)))])
 (.block 2 w76_1))
 (g [o 76 (.fa (.t 7) 5), o 77 (.ld1 (.t 76)), o 78 (.mv (.t 9)), o 79 (.bslice 1 [.nils] [(0, 1, (.t 78))]), o 80 (.app 1 24 (.t 77) (.t 79)), o 81 (.fa (.t 7) 5), e (.st 1 (.t 81) (.t 80))])))))
 (g [o 82 (.bin .add (.t 36) (.c (i 1))), o 36 (.mv (.t 82))]))))
def w76_3 : AC := .loop [2, 3, 4, 6, 7, 14, 15, 85, 86, 93, 94]
 (.seq (g [o 95 (.bin .lss (.t 94) (.t 93))])
 (.seq (.cond (.t 95) .skip
 (.exit 8))
 (.seq (.block 9 (.seq (g [o 96 (.mv (.t 94)), o 16 (.mv (.t 96))])
 (g [o 97 (.mv (.t 15)), o 98 (.mv (.t 16)), o 99 (.fa (.t 2) 11), o 100 (.ld1 (.t 99)), o 101 (.mv (.t 14)), o 102 (.ixS 1 (.t 100) (.t 101)), o 103 (.ld1 (.t 102)), o 104 (.mv (.t 16)), o 105 (.ixS 1 (.t 103) (.t 104)), o 106 (.ld1 (.t 105)), o 107 (.lenS (.t 106)), o 108 (.mkslice 8 [i 0] (.t 107) (.t 107)), o 109 (.ixS 1 (.t 97) (.t 98)), e (.st 1 (.t 109) (.t 108))])))
 (g [o 110 (.bin .add (.t 94) (.c (i 1))), o 94 (.mv (.t 110))]))))
def w76_4 : AC := .loop [2, 3, 4, 6, 7, 85, 86]
 (.seq (g [o 87 (.bin .lss (.t 86) (.t 85))])
 (.seq (.cond (.t 87) .skip
 (.exit 6))
 (.seq (.block 7 (.seq (g [o 88 (.mv (.t 86)), o 14 (.mv (.t 88))])
 (.seq (g [o 89 (.fa (.t 6) 0), o 90 (.ld1 (.t 89)), o 91 (.mkslice 24 [.nils] (.t 90) (.t 90)), o 15 (.mv (.t 91))])
 (.seq (.seq (g [o 92 (.mv (.t 15)), o 93 (.lenS (.t 92)), o 94 (.mv (.c (i 0)))])
 (.block 8 w76_3))
 (g [o 111 (.fa (.t 7) 7), o 112 (.ld1 (.t 111)), o 113 (.mv (.t 15)), o 114 (.bslice 1 [.nils] [(0, 1, (.t 113))]), o 115 (.app 1 24 (.t 112) (.t 114)), o 116 (.fa (.t 7) 7), e (.st 1 (.t 116) (.t 115))])))))
 (g [o 117 (.bin .add (.t 86) (.c (i 1))), o 86 (.mv (.t 117))]))))
def v76_0 : AC := .dreg [0, 1, 3, 4, 2, 5, 6, 7, 8, 9] [o 122 (.fa (.t 7) 4), o 123 (.ld1 (.t 122)), o 125 (.fa (.t 6) 1), o 126 (.ld1 (.t 125)), o 124 (.bslice 1 [i 0] [(0, 1, (.c (j 0)))]), ⟨(some 127), .call (.c (.fn 122 [])) [(.t 124), (.t 126)], none, [1]⟩, o 128 (.bslice 1 [.nils] [(0, 1, (.t 127))]), o 129 (.app 1 24 (.t 123) (.t 128)), o 130 (.fa (.t 7) 4), e (.st 1 (.t 130) (.t 129))] none
def w76_5 : AC := .loop [2, 3, 4, 6, 7, 119, 120]
 (.seq (g [o 121 (.bin .lss (.t 120) (.t 119))])
 (.seq (.cond (.t 121) .skip
 (.exit 10))
 (.seq (.block 11 v76_0)
 (g [o 131 (.bin .add (.t 120) (.c (i 1))), o 120 (.mv (.t 131))]))))
def v76_1 : AC := .dreg [0, 1, 2, 3, 4, 5, 6, 7, 8, 9, 10, 11, 13, 14, 15, 16, 17, 12, 18, 19] [o 142 (.fa (.t 7) 7), o 143 (.ld1 (.t 142)), o 144 (.fa (.t 18) 1), o 145 (.ld1 (.t 144)), o 146 (.ixS 1 (.t 143) (.t 145)), o 147 (.ld1 (.t 146)), o 148 (.fa (.t 18) 0), o 149 (.ld1 (.t 148)), o 150 (.ixS 1 (.t 147) (.t 149)), o 151 (.ld1 (.t 150)), o 152 (.ldN 12 (.t 2)), o 153 (.mv (.t 17)), o 155 (.fa (.t 3) 0), o 156 (.ld1 (.t 155)), o 157 (.mv (.t 17)), o 158 (.ixS 1 (.t 156) (.t 157)), o 159 (.ld1 (.t 158)), ⟨(some 154), .call (.c (.fn 77 [])) [(.t 152), (.t 153)], none, [1, 3, 5, 7, 9, 13, 16]⟩, o 160 (.ixS 1 (.t 151) (.t 154)), e (.st 1 (.t 160) (.t 159))] none
def v76_2 : AC := .dreg [0, 1, 2, 3, 4, 5, 6, 7, 8, 9, 10, 11, 12] [o 164 (.fa (.t 7) 4), o 165 (.ld1 (.t 164)), o 166 (.fa (.t 18) 0), o 167 (.ld1 (.t 166)), o 168 (.ixS 1 (.t 165) (.t 167)), o 169 (.ld1 (.t 168)), o 170 (.fa (.t 18) 2), o 171 (.ld1 (.t 170)), o 172 (.ldN 12 (.t 2)), o 173 (.mv (.t 17)), ⟨(some 174), .call (.c (.fn 77 [])) [(.t 172), (.t 173)], none, [1, 3, 5, 7]⟩, o 175 (.ixS 1 (.t 169) (.t 171)), e (.st 1 (.t 175) (.t 174))] none
def w76_6 : AC := .loop [2, 3, 4, 7, 135, 136, 137]
 (.seq (g [o 138 (.bin .lss (.t 137) (.t 136))])
 (.seq (.cond (.t 138) .skip
 (.exit 12))
 (.seq (.block 13 (.seq (g [o 139 (.mv (.t 137)), o 140 (.ixS 8 (.t 135) (.t 137)), o 141 (.ldN 8 (.t 140)), o 18 (.alloc [i 0, i 0, i 0, i 0, i 0, i 0, i 0, i 0]), o 17 (.mv (.t 139)), e (.st 8 (.t 18) (.t 141))])
 (.seq v76_1
 (.seq (g [o 161 (.fa (.t 18) 1), o 162 (.ld1 (.t 161)), o 163 (.bin .eql (.t 162) (.c (i 0)))])
 (.cond (.t 163) v76_2
 .skip)))))
 (g [o 176 (.bin .add (.t 137) (.c (i 1))), o 137 (.mv (.t 176))]))))
def c76 : AFunc := ⟨2, 178, [.cellN 4 8, .tmp 5],
 (.seq (g [o 2 (.box (.t 0)), o 3 (.box (.t 1)), o 4 (.alloc [i 0, i 0, i 0, i 0, .nils, .nils, .nils, .nils]), o 5 (.mv (.c (i 0)))])
 (.seq (g [o 19 (.fa (.t 2) 0), o 20 (.fa (.t 19) 0), o 21 (.fa (.t 20) 0), o 22 (.ldN 4 (.t 21)), o 6 (.alloc [i 0, i 0, i 0, .nils]), e (.st 4 (.t 6) (.t 22))])
 (.seq (g [o 23 (.fa (.t 6) 0), o 24 (.ld1 (.t 23)), o 25 (.fa (.t 2) 0), o 26 (.fa (.t 25) 0), o 27 (.fa (.t 26) 6), o 28 (.ld1 (.t 27)), o 29 (.fa (.t 6) 1), o 30 (.ld1 (.t 29)), o 31 (.fa (.t 6) 2), o 32 (.ld1 (.t 31)), o 33 (.build [i 0, i 0, i 0, i 0, .nils, .nils, .nils, .nils] [(0, 1, (.t 24)), (1, 1, (.t 28)), (2, 1, (.t 30)), (3, 1, (.t 32))]), o 7 (.alloc [i 0, i 0, i 0, i 0, .nils, .nils, .nils, .nils]), e (.st 8 (.t 7) (.t 33))])
 (.seq (.seq (g [o 34 (.fa (.t 7) 1), o 35 (.ld1 (.t 34)), o 36 (.mv (.c (i 0)))])
 (.block 0 w76_2))
 (.seq (.seq (g [o 83 (.fa (.t 7) 1), o 84 (.ld1 (.t 83)), o 85 (.bin .add (.t 84) (.c (i 1))), o 86 (.mv (.c (i 0)))])
 (.block 6 w76_4))
 (.seq (.seq (g [o 118 (.fa (.t 6) 0), o 119 (.ld1 (.t 118)), o 120 (.mv (.c (i 0)))])
 (.block 10 w76_5))
 (.seq (.seq (g [o 132 (.fa (.t 2) 0), o 133 (.fa (.t 132) 7), o 134 (.fa (.t 133) 1), o 135 (.ld1 (.t 134)), o 136 (.lenS (.t 135)), o 137 (.mv (.c (i 0)))])
 (.block 12 w76_6))
 (.seq (g [o 177 (.ldN 8 (.t 7)), e (.st 8 (.t 4) (.t 177)), o 5 (.mv (.c (i 0)))])
 .ret))))))))⟩

def v77_0 : AC := .dreg [0, 1, 2, 3, 4, 5, 6, 7, 8, 9, 10, 11, 12, 13, 14, 15, 16, 17, 18, 19, 20] [o 16 (.fa (.t 2) 11), o 17 (.ld1 (.t 16)), o 18 (.fa (.t 5) 1), o 19 (.ld1 (.t 18)), o 20 (.ixS 1 (.t 17) (.t 19)), o 21 (.ld1 (.t 20)), o 22 (.fa (.t 5) 0), o 23 (.ld1 (.t 22)), o 24 (.ixS 1 (.t 21) (.t 23)), o 25 (.ld1 (.t 24)), o 26 (.fa (.t 2) 10), o 27 (.ld1 (.t 26)), o 28 (.mv (.t 1)), o 29 (.ixS 1 (.t 27) (.t 28)), o 30 (.ld1 (.t 29)), o 31 (.call (.c (.fn 123 [])) [(.t 25), (.t 30)]), o 15 (.mv (.t 31)), o 32 (.ext (.t 15) 0), o 33 (.ext (.t 15) 1), o 6 (.mv (.t 32)), o 7 (.mv (.t 33))] none
def c77 : AFunc := ⟨2, 35, [.tmp 4],
 (.seq (g [o 2 (.box (.t 0)), o 4 (.mv (.c (i 0)))])
 (.seq (g [o 8 (.fa (.t 2) 0), o 9 (.fa (.t 8) 7), o 10 (.fa (.t 9) 1), o 11 (.ld1 (.t 10)), o 12 (.mv (.t 1)), o 13 (.ixS 8 (.t 11) (.t 12)), o 14 (.ldN 8 (.t 13)), o 5 (.alloc [i 0, i 0, i 0, i 0, i 0, i 0, i 0, i 0]), e (.st 8 (.t 5) (.t 14))])
 (.seq v77_0
 (.seq (g [o 34 (.mv (.t 6)), o 4 (.mv (.t 34))])
 .ret))))⟩

def v78_0 : AC := .dreg [0, 1, 2, 3, 4, 5, 6, 7, 8, 9, 10, 11, 12, 13, 14, 15, 16, 17, 18, 19] [o 40 (.mv (.t 12)), o 41 (.fa (.t 5) 5), o 42 (.ld1 (.t 41)), o 43 (.mv (.t 1)), o 44 (.ixS 1 (.t 42) (.t 43)), o 45 (.ld1 (.t 44)), o 46 (.mv (.t 12)), o 47 (.ixS 1 (.t 45) (.t 46)), o 48 (.ld1 (.t 47)), o 49 (.mv (.t 2)), o 50 (.ixS 1 (.t 48) (.t 49)), o 51 (.ld1 (.t 50)), o 52 (.mv (.t 3)), o 53 (.mv (.t 12)), o 54 (.ixS 1 (.t 52) (.t 53)), o 55 (.ld1 (.t 54)), o 56 (.ixS 1 (.t 51) (.t 55)), o 57 (.ld1 (.t 56)), o 58 (.ixA 5 1 (.t 11) (.t 40)), e (.st 1 (.t 58) (.t 57))] none
def w78_0 : AC := .loop [1, 2, 3, 4, 5, 10, 11, 13]
 (.seq (g [o 14 (.bin .lss (.t 13) (.c (i 5)))])
 (.seq (.cond (.t 14) .skip
 (.exit 0))
 (.seq (.block 1 (.seq (g [o 15 (.mv (.t 13)), o 12 (.mv (.t 15))])
 (.seq (g [o 16 (.mv (.t 12)), o 17 (.ixA 5 1 (.t 11) (.t 16)), e (.st 1 (.t 17) (.c (j 0)))])
 (.block 2 (.seq (g [o 19 (.mv (.t 12)), o 20 (.mv (.t 2)), o 21 (.bin .eql (.t 19) (.t 20)), o 18 (.mv (.t 21))])
 (.cond (.t 18) (g [o 22 (.mv (.t 12)), o 23 (.mv (.t 3)), o 24 (.mv (.t 2)), o 25 (.ixS 1 (.t 23) (.t 24)), o 26 (.ld1 (.t 25)), o 27 (.ixA 5 1 (.t 11) (.t 22)), e (.st 1 (.t 27) (.t 26))])
 (.seq (g [o 29 (.mv (.t 12)), o 30 (.fa (.t 5) 0), o 31 (.ld1 (.t 30)), o 32 (.bin .lss (.t 29) (.t 31)), o 33 (.mv (.t 32)), ⟨(some 34), .mv (.t 4), (some (33, true)), []⟩, ⟨(some 35), .mv (.t 12), (some (33, true)), []⟩, ⟨(some 36), .bin .shr (.t 34) (.t 35), (some (33, true)), []⟩, ⟨(some 37), .bin .and (.t 36) (.c (i 1)), (some (33, true)), []⟩, ⟨(some 38), .bin .eql (.t 37) (.c (i 1)), (some (33, true)), []⟩, o 39 (.pick (.t 33) (.t 38) (.c (.bool false))), o 28 (.mv (.t 39))])
 (.cond (.t 28) v78_0
 .skip))))))))
 (g [o 59 (.bin .add (.t 13) (.c (i 1))), o 13 (.mv (.t 59))]))))
def c78 : AFunc := ⟨5, 61, [.cellN 10 5],
 (.seq (g [o 5 (.box (.t 0)), o 10 (.alloc [i 0, i 0, i 0, i 0, i 0])])
 (.seq (g [o 11 (.alloc [i 0, i 0, i 0, i 0, i 0])])
 (.seq (.seq (g [o 13 (.mv (.c (i 0)))])
 (.block 0 w78_0))
 (.seq (g [o 60 (.ldN 5 (.t 11)), e (.st 5 (.t 10) (.t 60))])
 .ret))))⟩

def v79_0 : AC := .dreg [0, 1, 2, 3, 4, 5, 6, 7, 8, 9, 10] [o 18 (.mv (.t 1)), o 19 (.mv (.t 0)), o 20 (.mv (.t 5)), o 21 (.ixS 8 (.t 19) (.t 20)), o 22 (.ldN 8 (.t 21)), o 23 (.mv (.t 0)), o 24 (.mv (.t 5)), o 25 (.bin .sub (.t 24) (.c (i 1))), o 26 (.ixS 8 (.t 23) (.t 25)), o 27 (.ldN 8 (.t 26)), o 28 (.call (.t 18) [(.t 22), (.t 27)])] none
def v79_1 : AC := .dreg [0, 1, 2, 3, 4, 5, 6, 7, 8, 9, 10, 11] [o 38 (.mv (.t 1)), o 39 (.mv (.t 6)), o 40 (.mv (.t 7)), o 41 (.ixS 8 (.t 39) (.t 40)), o 42 (.ldN 8 (.t 41)), o 43 (.mv (.t 6)), o 44 (.mv (.t 7)), o 45 (.bin .sub (.t 44) (.c (i 1))), o 46 (.ixS 8 (.t 43) (.t 45)), o 47 (.ldN 8 (.t 46)), o 48 (.call (.t 38) [(.t 42), (.t 47)]), o 49 (.un .not (.t 48))] none
def w79_0 : AC := .loop [0, 1, 5, 6, 7]
 (.seq (.seq (g [o 32 (.mv (.t 7)), o 33 (.mv (.t 6)), o 34 (.lenS (.t 33)), o 35 (.bin .lss (.t 32) (.t 34))])
 (.cond (.t 35) .skip
 (.exit 2)))
 (.seq (.block 3 (.seq v79_1
 (.cond (.t 49) (.seq (g [o 50 (.mv (.t 0)), o 51 (.mv (.t 5)), o 52 (.mv (.t 6)), o 53 (.mv (.t 7)), o 54 (.ixS 8 (.t 52) (.t 53)), o 55 (.ldN 8 (.t 54)), o 56 (.ixS 8 (.t 50) (.t 51)), e (.st 8 (.t 56) (.t 55))])
 (g [o 57 (.mv (.t 5)), o 58 (.bin .add (.t 57) (.c (i 1))), o 5 (.mv (.t 58))]))
 .skip)))
 (g [o 36 (.mv (.t 7)), o 37 (.bin .add (.t 36) (.c (i 1))), o 7 (.mv (.t 37))])))
def w79_1 : AC := .loop [0, 1, 5]
 (.seq (.seq (g [o 12 (.mv (.t 5)), o 13 (.mv (.t 0)), o 14 (.lenS (.t 13)), o 15 (.bin .lss (.t 12) (.t 14))])
 (.cond (.t 15) .skip
 (.exit 0)))
 (.seq (.block 1 (.seq v79_0
 (.cond (.t 28) (.seq (g [o 29 (.mv (.t 0)), o 30 (.mv (.t 5)), o 31 (.slcS 8 (.t 29) (some (.t 30)) none none), o 6 (.mv (.t 31))])
 (.seq (.seq (g [o 7 (.mv (.c (i 1)))])
 (.block 2 w79_0))
 (.seq (g [o 59 (.mv (.t 0)), o 60 (.mv (.t 5)), o 61 (.slcS 8 (.t 59) (some (.t 60)) none none), e (.clr [i 0, i 0, i 0, i 0, i 0, i 0, i 0, i 0] (.t 61))])
 (.seq (g [o 62 (.mv (.t 0)), o 63 (.mv (.t 5)), o 64 (.slcS 8 (.t 62) none (some (.t 63)) none), o 4 (.mv (.t 64))])
 .ret))))
 .skip)))
 (g [o 16 (.mv (.t 5)), o 17 (.bin .add (.t 16) (.c (i 1))), o 5 (.mv (.t 17))])))
def c79 : AFunc := ⟨2, 66, [.tmp 4],
 (.seq (g [o 4 (.mv (.c .nils))])
 (.seq (.seq (g [o 8 (.mv (.t 0)), o 9 (.lenS (.t 8)), o 10 (.bin .lss (.t 9) (.c (i 2)))])
 (.cond (.t 10) (.seq (g [o 11 (.mv (.t 0)), o 4 (.mv (.t 11))])
 .ret)
 .skip))
 (.seq (.seq (g [o 5 (.mv (.c (i 1)))])
 (.block 0 w79_1))
 (.seq (g [o 65 (.mv (.t 0)), o 4 (.mv (.t 65))])
 .ret))))⟩

def c80 : AFunc := ⟨2, 9, [.tmp 4],
 (.seq (g [o 2 (.box (.t 0)), o 3 (.box (.t 1)), o 4 (.mv (.c (.bool false)))])
 (.seq (g [o 5 (.ldN 8 (.t 2)), o 6 (.ldN 8 (.t 3)), o 7 (.call (.c (.fn 51 [])) [(.t 5), (.t 6)]), o 8 (.bin .eql (.t 7) (.c (i 0))), o 4 (.mv (.t 8))])
 .ret))⟩

def c81 : AFunc := ⟨2, 14, [.tmp 4],
 (.seq (g [o 2 (.box (.t 0)), o 3 (.box (.t 1)), o 4 (.mv (.c (i 0)))])
 (.seq (.seq (g [o 6 (.ldN 10 (.t 2)), o 7 (.call (.c (.fn 124 [])) [(.t 6)]), o 5 (.mv (.t 7))])
 (.seq (g [o 8 (.mv (.t 5)), o 9 (.bin .neq (.t 8) (.c (i 0)))])
 (.cond (.t 9) (.seq (g [o 10 (.mv (.t 5)), o 4 (.mv (.t 10))])
 .ret)
 .skip)))
 (.seq (g [o 11 (.ldN 10 (.t 2)), o 12 (.ldN 1 (.t 3)), o 13 (.call (.c (.fn 125 [])) [(.t 11), (.t 12)]), o 4 (.mv (.t 13))])
 .ret)))⟩

def w82_0 : AC := .loop [2, 3, 4, 5, 6, 7, 8, 9, 10]
 (.seq (.seq (g [o 43 (.mv (.t 10)), o 44 (.fa (.t 6) 1), o 45 (.ld1 (.t 44)), o 46 (.bin .lss (.t 43) (.t 45))])
 (.cond (.t 46) .skip
 (.exit 2)))
 (.seq (.block 3 (g [o 49 (.mv (.t 9)), o 50 (.mv (.t 10)), o 51 (.ixS 1 (.t 49) (.t 50)), e (.st 1 (.t 51) (.c (j 0)))]))
 (g [o 47 (.mv (.t 10)), o 48 (.bin .add (.t 47) (.c (i 1))), o 10 (.mv (.t 48))])))
def w82_1 : AC := .loop [2, 3, 4, 5, 6, 7, 8]
 (.seq (.seq (g [o 34 (.mv (.t 8)), o 35 (.fa (.t 6) 0), o 36 (.ld1 (.t 35)), o 37 (.bin .lss (.t 34) (.t 36))])
 (.cond (.t 37) .skip
 (.exit 0)))
 (.seq (.block 1 (.seq (g [o 40 (.fa (.t 6) 1), o 41 (.ld1 (.t 40)), o 42 (.mkslice 8 [i 0] (.t 41) (.t 41)), o 9 (.mv (.t 42))])
 (.seq (.seq (g [o 10 (.mv (.c (i 0)))])
 (.block 2 w82_0))
 (g [o 52 (.fa (.t 7) 4), o 53 (.ld1 (.t 52)), o 54 (.mv (.t 9)), o 55 (.bslice 1 [.nils] [(0, 1, (.t 54))]), o 56 (.app 1 24 (.t 53) (.t 55)), o 57 (.fa (.t 7) 4), e (.st 1 (.t 57) (.t 56))]))))
 (g [o 38 (.mv (.t 8)), o 39 (.bin .add (.t 38) (.c (i 1))), o 8 (.mv (.t 39))])))
def w82_2 : AC := .loop [2, 3, 4, 5, 6, 7, 11, 12, 13]
 (.seq (.seq (g [o 64 (.mv (.t 13)), o 65 (.fa (.t 6) 0), o 66 (.ld1 (.t 65)), o 67 (.bin .lss (.t 64) (.t 66))])
 (.cond (.t 67) .skip
 (.exit 6)))
 (.seq (.block 7 (g [o 70 (.mv (.t 12)), o 71 (.fa (.t 5) 11), o 72 (.ld1 (.t 71)), o 73 (.mv (.t 11)), o 74 (.ixS 1 (.t 72) (.t 73)), o 75 (.ld1 (.t 74)), o 76 (.mv (.t 13)), o 77 (.ixS 1 (.t 75) (.t 76)), o 78 (.ld1 (.t 77)), o 79 (.lenS (.t 78)), o 80 (.mkslice 8 [i 0] (.t 79) (.t 79)), o 81 (.bslice 1 [.nils] [(0, 1, (.t 80))]), o 82 (.app 1 24 (.t 70) (.t 81)), o 12 (.mv (.t 82))]))
 (g [o 68 (.mv (.t 13)), o 69 (.bin .add (.t 68) (.c (i 1))), o 13 (.mv (.t 69))])))
def w82_3 : AC := .loop [2, 3, 4, 5, 6, 7, 11]
 (.seq (.seq (g [o 58 (.mv (.t 11)), o 59 (.fa (.t 7) 1), o 60 (.ld1 (.t 59)), o 61 (.bin .leq (.t 58) (.t 60))])
 (.cond (.t 61) .skip
 (.exit 4)))
 (.seq (.block 5 (.seq (g [o 12 (.mv (.c .nils))])
 (.seq (.seq (g [o 13 (.mv (.c (i 0)))])
 (.block 6 w82_2))
 (g [o 83 (.fa (.t 7) 7), o 84 (.ld1 (.t 83)), o 85 (.mv (.t 12)), o 86 (.bslice 1 [.nils] [(0, 1, (.t 85))]), o 87 (.app 1 24 (.t 84) (.t 86)), o 88 (.fa (.t 7) 7), e (.st 1 (.t 88) (.t 87))]))))
 (g [o 62 (.mv (.t 11)), o 63 (.bin .add (.t 62) (.c (i 1))), o 11 (.mv (.t 63))])))
def v82_0 : AC := .dreg [0, 1, 2, 3, 4, 5, 6, 7, 8, 9, 10, 11, 13, 14, 15, 16, 17, 12, 18, 19] [o 103 (.fa (.t 7) 7), o 104 (.ld1 (.t 103)), o 105 (.fa (.t 15) 1), o 106 (.ld1 (.t 105)), o 107 (.ixS 1 (.t 104) (.t 106)), o 108 (.ld1 (.t 107)), o 109 (.fa (.t 15) 0), o 110 (.ld1 (.t 109)), o 111 (.ixS 1 (.t 108) (.t 110)), o 112 (.ld1 (.t 111)), o 113 (.ldN 13 (.t 5)), o 114 (.mv (.t 14)), o 116 (.fa (.t 3) 0), o 117 (.ld1 (.t 116)), o 118 (.mv (.t 14)), o 119 (.ixS 1 (.t 117) (.t 118)), o 120 (.ld1 (.t 119)), ⟨(some 115), .call (.c (.fn 127 [])) [(.t 113), (.t 114)], none, [1, 3, 5, 7, 9, 13, 16]⟩, o 121 (.ixS 1 (.t 112) (.t 115)), e (.st 1 (.t 121) (.t 120))] none
def v82_1 : AC := .dreg [0, 1, 2, 3, 4, 5, 6, 7, 8, 9, 10, 11, 12] [o 125 (.fa (.t 7) 4), o 126 (.ld1 (.t 125)), o 127 (.fa (.t 15) 0), o 128 (.ld1 (.t 127)), o 129 (.ixS 1 (.t 126) (.t 128)), o 130 (.ld1 (.t 129)), o 131 (.fa (.t 15) 2), o 132 (.ld1 (.t 131)), o 133 (.ldN 13 (.t 5)), o 134 (.mv (.t 14)), ⟨(some 135), .call (.c (.fn 127 [])) [(.t 133), (.t 134)], none, [1, 3, 5, 7]⟩, o 136 (.ixS 1 (.t 130) (.t 132)), e (.st 1 (.t 136) (.t 135))] none
def v82_2 : AC := .dreg [0, 1, 2, 3, 4, 5, 6, 7, 8, 10, 11, 9, 12, 13, 14, 15, 16] [o 137 (.fa (.t 7) 6), o 138 (.ld1 (.t 137)), o 139 (.fa (.t 15) 1), o 140 (.ld1 (.t 139)), o 141 (.bin .sub (.t 140) (.c (i 1))), o 142 (.fa (.t 15) 0), o 143 (.ld1 (.t 142)), o 144 (.ldN 13 (.t 5)), o 145 (.mv (.t 14)), o 147 (.ldN 13 (.t 5)), o 148 (.mv (.t 14)), ⟨(some 146), .call (.c (.fn 129 [])) [(.t 144), (.t 145)], none, [1, 3, 6, 9]⟩, ⟨(some 149), .call (.c (.fn 127 [])) [(.t 147), (.t 148)], none, [1, 3, 6]⟩, o 150 (.build [i 0, i 0, i 0, i 0, i 0, i 0, i 0, i 0] [(0, 1, (.t 141)), (1, 1, (.t 143)), (2, 5, (.t 146)), (7, 1, (.t 149))]), o 151 (.call (.c (.fn 128 [])) [(.t 138), (.t 150)]), o 152 (.fa (.t 7) 6), e (.st 1 (.t 152) (.t 151))] none
def w82_4 : AC := .loop [2, 3, 4, 5, 7, 14]
 (.seq (.seq (g [o 89 (.mv (.t 14)), o 90 (.fa (.t 2) 7), o 91 (.fa (.t 90) 1), o 92 (.ld1 (.t 91)), o 93 (.lenS (.t 92)), o 94 (.bin .lss (.t 89) (.t 93))])
 (.cond (.t 94) .skip
 (.exit 8)))
 (.seq (.block 9 (.seq (g [o 97 (.fa (.t 2) 7), o 98 (.fa (.t 97) 1), o 99 (.ld1 (.t 98)), o 100 (.mv (.t 14)), o 101 (.ixS 8 (.t 99) (.t 100)), o 102 (.ldN 8 (.t 101)), o 15 (.alloc [i 0, i 0, i 0, i 0, i 0, i 0, i 0, i 0]), e (.st 8 (.t 15) (.t 102))])
 (.seq v82_0
 (.seq (g [o 122 (.fa (.t 15) 1), o 123 (.ld1 (.t 122)), o 124 (.bin .eql (.t 123) (.c (i 0)))])
 (.cond (.t 124) v82_1
 v82_2)))))
 (g [o 95 (.mv (.t 14)), o 96 (.bin .add (.t 95) (.c (i 1))), o 14 (.mv (.t 96))])))
def c82 : AFunc := ⟨2, 154, [.cellN 4 8],
 (.seq (g [o 2 (.box (.t 0)), o 3 (.box (.t 1)), o 4 (.alloc [i 0, i 0, i 0, i 0, .nils, .nils, .nils, .nils])])
 (.seq (g [o 16 (.ldN 10 (.t 2)), o 17 (.ldN 1 (.t 3)), o 18 (.call (.c (.fn 126 [])) [(.t 16), (.t 17)]), o 5 (.alloc [i 0, i 0, i 0, .nils, i 0, .nils, i 0, i 0, .nils, .nils, .nils, .nils, .nils]), e (.st 13 (.t 5) (.t 18))])
 (.seq (g [o 19 (.fa (.t 2) 0), o 20 (.fa (.t 19) 0), o 21 (.ldN 4 (.t 20)), o 6 (.alloc [i 0, i 0, i 0, .nils]), e (.st 4 (.t 6) (.t 21))])
 (.seq (g [o 22 (.fa (.t 6) 0), o 23 (.ld1 (.t 22)), o 24 (.fa (.t 2) 0), o 25 (.fa (.t 24) 6), o 26 (.ld1 (.t 25)), o 27 (.fa (.t 6) 1), o 28 (.ld1 (.t 27)), o 29 (.fa (.t 6) 2), o 30 (.ld1 (.t 29)), o 31 (.fa (.t 5) 12), o 32 (.ld1 (.t 31)), o 33 (.build [i 0, i 0, i 0, i 0, .nils, .nils, .nils, .nils] [(0, 1, (.t 23)), (1, 1, (.t 26)), (2, 1, (.t 28)), (3, 1, (.t 30)), (5, 1, (.t 32))]), o 7 (.alloc [i 0, i 0, i 0, i 0, .nils, .nils, .nils, .nils]), e (.st 8 (.t 7) (.t 33))])
 (.seq (.seq (g [o 8 (.mv (.c (i 0)))])
 (.block 0 w82_1))
 (.seq (.seq (g [o 11 (.mv (.c (i 0)))])
 (.block 4 w82_3))
 (.seq (.seq (g [o 14 (.mv (.c (i 0)))])
 (.block 8 w82_4))
 (.seq (g [o 153 (.ldN 8 (.t 7)), e (.st 8 (.t 4) (.t 153))])
 .ret))))))))⟩

def c83 : AFunc := ⟨2, 14, [.tmp 4],
 (.seq (g [o 2 (.box (.t 0)), o 3 (.box (.t 1)), o 4 (.mv (.c (i 0)))])
 (.seq (.seq (g [o 6 (.ldN 10 (.t 2)), o 7 (.call (.c (.fn 130 [])) [(.t 6)]), o 5 (.mv (.t 7))])
 (.seq (g [o 8 (.mv (.t 5)), o 9 (.bin .neq (.t 8) (.c (i 0)))])
 (.cond (.t 9) (.seq (g [o 10 (.mv (.t 5)), o 4 (.mv (.t 10))])
 .ret)
 .skip)))
 (.seq (g [o 11 (.ldN 10 (.t 2)), o 12 (.ldN 1 (.t 3)), o 13 (.call (.c (.fn 131 [])) [(.t 11), (.t 12)]), o 4 (.mv (.t 13))])
 .ret)))⟩

def v84_0 : AC := .dreg [0, 1, 2, 3, 4, 5, 6, 7, 8, 9, 10, 11, 12, 13, 14, 15, 16, 17] [o 14 (.ldN 8 (.t 4)), o 15 (.fa (.t 5) 0), o 16 (.fa (.t 15) 0), o 17 (.fa (.t 16) 3), o 18 (.ld1 (.t 17)), o 19 (.fa (.t 7) 0), o 20 (.ld1 (.t 19)), o 21 (.ixS 3 (.t 18) (.t 20)), o 22 (.fa (.t 21) 0), o 23 (.ld1 (.t 22)), o 24 (.fa (.t 7) 1), o 25 (.ld1 (.t 24)), o 26 (.call (.c (.fn 22 [])) [(.t 14), (.t 23), (.t 25)]), o 13 (.mv (.t 26)), o 27 (.ext (.t 13) 0), o 28 (.ext (.t 13) 1), o 9 (.mv (.t 27)), o 10 (.mv (.t 28))] none
def v84_1 : AC := .dreg [0, 1, 2, 3, 4, 5, 6, 7, 8, 9, 10, 11, 12, 13, 14, 15, 16, 17, 18, 19, 20, 21, 22, 23, 24, 25, 26, 27, 28, 29] [o 44 (.fa (.t 4) 7), o 45 (.ld1 (.t 44)), o 46 (.mv (.t 11)), o 47 (.ixS 1 (.t 45) (.t 46)), o 48 (.ld1 (.t 47)), o 49 (.mv (.t 12)), o 50 (.ixS 1 (.t 48) (.t 49)), o 51 (.ld1 (.t 50)), o 52 (.mv (.t 9)), o 53 (.mv (.t 11)), o 54 (.ixS 1 (.t 52) (.t 53)), o 55 (.ld1 (.t 54)), o 56 (.mv (.t 12)), o 57 (.ixS 1 (.t 55) (.t 56)), o 58 (.ld1 (.t 57)), o 59 (.ixS 1 (.t 51) (.t 58)), o 60 (.ld1 (.t 59)), o 61 (.fa (.t 6) 0), o 62 (.ld1 (.t 61)), o 63 (.fa (.t 7) 2), o 64 (.ld1 (.t 63)), o 65 (.mv (.t 11)), o 66 (.ixS 1 (.t 64) (.t 65)), o 67 (.ld1 (.t 66)), o 68 (.mv (.t 12)), o 69 (.ixS 1 (.t 67) (.t 68)), o 70 (.ld1 (.t 69)), o 71 (.ixS 1 (.t 62) (.t 70)), o 72 (.ld1 (.t 71)), o 73 (.bin .neq (.t 60) (.t 72))] none
def w84_0 : AC := .loop [4, 6, 7, 9, 11, 12]
 (.seq (.seq (g [o 38 (.mv (.t 12)), o 39 (.fa (.t 4) 0), o 40 (.ld1 (.t 39)), o 41 (.bin .lss (.t 38) (.t 40))])
 (.cond (.t 41) .skip
 (.exit 2)))
 (.seq (.block 3 (.seq v84_1
 (.cond (.t 73) (.seq (g [o 8 (.mv (.c (i 18)))])
 .ret)
 .skip)))
 (g [o 42 (.mv (.t 12)), o 43 (.bin .add (.t 42) (.c (i 1))), o 12 (.mv (.t 43))])))
def w84_1 : AC := .loop [4, 6, 7, 9, 11]
 (.seq (.seq (g [o 32 (.mv (.t 11)), o 33 (.fa (.t 4) 1), o 34 (.ld1 (.t 33)), o 35 (.bin .leq (.t 32) (.t 34))])
 (.cond (.t 35) .skip
 (.exit 0)))
 (.seq (.block 1 (.seq (g [o 12 (.mv (.c (i 0)))])
 (.block 2 w84_0)))
 (g [o 36 (.mv (.t 11)), o 37 (.bin .add (.t 36) (.c (i 1))), o 11 (.mv (.t 37))])))
def c84 : AFunc := ⟨4, 74, [.tmp 8],
 (.seq (g [o 4 (.box (.t 0)), o 5 (.box (.t 1)), o 6 (.box (.t 2)), o 7 (.box (.t 3)), o 8 (.mv (.c (i 0)))])
 (.seq v84_0
 (.seq (.seq (g [o 29 (.mv (.t 10)), o 30 (.bin .neq (.t 29) (.c (i 0)))])
 (.cond (.t 30) (.seq (g [o 31 (.mv (.t 10)), o 8 (.mv (.t 31))])
 .ret)
 .skip))
 (.seq (.seq (g [o 11 (.mv (.c (i 0)))])
 (.block 0 w84_1))
 (.seq (g [o 8 (.mv (.c (i 0)))])
 .ret)))))⟩

def c85 : AFunc := ⟨1, 15, [.tmp 2],
 (.seq (g [o 1 (.box (.t 0)), o 2 (.mv (.c (.bool false)))])
 (.seq (.seq (g [o 5 (.ldN 7 (.t 1)), o 6 (.call (.c (.fn 117 [])) [(.t 5)]), o 7 (.un .not (.t 6))])
 (.cond (.t 7) (.seq (g [o 2 (.mv (.c (.bool false)))])
 .ret)
 .skip))
 (.seq (g [o 9 (.ldN 7 (.t 1)), o 10 (.call (.c (.fn 38 [])) [(.t 9)]), o 8 (.mv (.t 10)), o 11 (.ext (.t 8) 0), o 12 (.ext (.t 8) 1), o 3 (.alloc [i 0, i 0, i 0, .nils, i 0, .nils, i 0, i 0, .nils, .nils]), e (.st 10 (.t 3) (.t 11)), o 4 (.mv (.t 12))])
 (.seq (g [o 13 (.mv (.t 4)), o 14 (.bin .eql (.t 13) (.c (i 0))), o 2 (.mv (.t 14))])
 .ret))))⟩

def c86 : AFunc := ⟨1, 8, [.tmp 2],
 (.seq (g [o 2 (.mv (.c .nils))])
 (.seq (.seq (g [o 3 (.mv (.t 0)), o 4 (.isnil false (.t 3))])
 (.cond (.t 4) (.seq (g [o 2 (.mv (.c .nils))])
 .ret)
 .skip))
 (.seq (g [o 5 (.bslice 0 [] []), o 6 (.mv (.t 0)), o 7 (.app 8 64 (.t 5) (.t 6)), o 2 (.mv (.t 7))])
 .ret)))⟩

def v87_0 : AC := .dreg [0, 1, 2, 3, 4, 5, 6, 7, 8, 9, 10, 11, 12, 13, 14, 15, 16] [o 81 (.mv (.t 1)), o 82 (.bin .gtr (.t 81) (.c (i 0))), o 83 (.mv (.t 82)), ⟨(some 84), .mv (.t 4), (some (83, true)), []⟩, ⟨(some 85), .mv (.t 0), (some (83, true)), []⟩, ⟨(some 86), .mv (.t 1), (some (83, true)), []⟩, ⟨(some 87), .bin .sub (.t 86) (.c (i 1)), (some (83, true)), []⟩, ⟨(some 88), .ixS 8 (.t 85) (.t 87), (some (83, true)), []⟩, ⟨(some 89), .ldN 8 (.t 88), (some (83, true)), []⟩, ⟨(some 90), .mv (.t 0), (some (83, true)), []⟩, ⟨(some 91), .mv (.t 13), (some (83, true)), []⟩, ⟨(some 92), .ixS 8 (.t 90) (.t 91), (some (83, true)), []⟩, ⟨(some 93), .ldN 8 (.t 92), (some (83, true)), []⟩, ⟨(some 94), .call (.t 84) [(.t 89), (.t 93)], (some (83, true)), []⟩, ⟨(some 95), .bin .lss (.t 94) (.c (i 0)), (some (83, true)), []⟩, ⟨(some 96), .un .not (.t 95), (some (83, true)), []⟩, o 97 (.pick (.t 83) (.t 96) (.c (.bool false)))] none
def w87_0 : AC := .loop [0, 1, 2, 3, 4, 10, 11]
 (.block 1 (.seq (g [o 21 (.mv (.t 2)), o 22 (.mv (.t 1)), o 23 (.bin .sub (.t 21) (.t 22)), o 12 (.mv (.t 23))])
 (.seq (.seq (g [o 24 (.mv (.t 12)), o 25 (.bin .leq (.t 24) (.c (i 12)))])
 (.cond (.t 25) (.seq (g [o 26 (.mv (.t 0)), o 27 (.mv (.t 1)), o 28 (.mv (.t 2)), o 29 (.mv (.t 4)), o 30 (.call (.c (.fn 132 [])) [(.t 26), (.t 27), (.t 28), (.t 29)])])
 .ret)
 .skip))
 (.seq (.seq (g [o 31 (.mv (.t 3)), o 32 (.bin .eql (.t 31) (.c (i 0)))])
 (.cond (.t 32) (.seq (g [o 33 (.mv (.t 0)), o 34 (.mv (.t 1)), o 35 (.mv (.t 2)), o 36 (.mv (.t 4)), o 37 (.call (.c (.fn 133 [])) [(.t 33), (.t 34), (.t 35), (.t 36)])])
 .ret)
 .skip))
 (.seq (.seq (g [o 38 (.mv (.t 10)), o 39 (.un .not (.t 38))])
 (.cond (.t 39) (.seq (g [o 40 (.mv (.t 0)), o 41 (.mv (.t 1)), o 42 (.mv (.t 2)), o 43 (.mv (.t 4)), o 44 (.call (.c (.fn 134 [])) [(.t 40), (.t 41), (.t 42), (.t 43)])])
 (g [o 45 (.mv (.t 3)), o 46 (.bin .sub (.t 45) (.c (i 1))), o 3 (.mv (.t 46))]))
 .skip))
 (.seq (g [o 48 (.mv (.t 0)), o 49 (.mv (.t 1)), o 50 (.mv (.t 2)), o 51 (.mv (.t 4)), o 52 (.call (.c (.fn 135 [])) [(.t 48), (.t 49), (.t 50), (.t 51)]), o 47 (.mv (.t 52)), o 53 (.ext (.t 47) 0), o 54 (.ext (.t 47) 1), o 13 (.mv (.t 53)), o 14 (.mv (.t 54))])
 (.seq (.seq (g [o 55 (.mv (.t 14)), o 56 (.bin .eql (.t 55) (.c (i 2)))])
 (.cond (.t 56) (.seq (g [o 57 (.mv (.t 0)), o 58 (.mv (.t 1)), o 59 (.mv (.t 2)), o 60 (.mv (.t 4)), o 61 (.call (.c (.fn 136 [])) [(.t 57), (.t 58), (.t 59), (.t 60)])])
 (.seq (g [o 62 (.mv (.t 2)), o 63 (.bin .sub (.t 62) (.c (i 1))), o 64 (.mv (.t 13)), o 65 (.mv (.t 1)), o 66 (.bin .sub (.t 64) (.t 65)), o 67 (.bin .sub (.t 63) (.t 66)), o 13 (.mv (.t 67))])
 (g [o 14 (.mv (.c (i 1)))])))
 .skip))
 (.seq (.seq (g [o 68 (.mv (.t 10)), o 69 (.mv (.t 68)), ⟨(some 70), .mv (.t 11), (some (69, true)), []⟩, o 71 (.pick (.t 69) (.t 70) (.c (.bool false))), o 72 (.mv (.t 71)), ⟨(some 73), .mv (.t 14), (some (72, true)), []⟩, ⟨(some 74), .bin .eql (.t 73) (.c (i 1)), (some (72, true)), []⟩, o 75 (.pick (.t 72) (.t 74) (.c (.bool false)))])
 (.cond (.t 75) (.seq (g [o 76 (.mv (.t 0)), o 77 (.mv (.t 1)), o 78 (.mv (.t 2)), o 79 (.mv (.t 4)), o 80 (.call (.c (.fn 137 [])) [(.t 76), (.t 77), (.t 78), (.t 79)])])
 (.cond (.t 80) .ret
 .skip))
 .skip))
 (.seq (.seq v87_0
 (.cond (.t 97) (.seq (g [o 98 (.mv (.t 0)), o 99 (.mv (.t 1)), o 100 (.mv (.t 2)), o 101 (.mv (.t 13)), o 102 (.mv (.t 4)), o 103 (.call (.c (.fn 138 [])) [(.t 98), (.t 99), (.t 100), (.t 101), (.t 102)]), o 15 (.mv (.t 103))])
 (.seq (g [o 104 (.mv (.t 15)), o 1 (.mv (.t 104))])
 (.exit 1)))
 .skip))
 (.seq (g [o 106 (.mv (.t 0)), o 107 (.mv (.t 1)), o 108 (.mv (.t 2)), o 109 (.mv (.t 13)), o 110 (.mv (.t 4)), o 111 (.call (.c (.fn 139 [])) [(.t 106), (.t 107), (.t 108), (.t 109), (.t 110)]), o 105 (.mv (.t 111)), o 112 (.ext (.t 105) 0), o 113 (.ext (.t 105) 1), o 16 (.mv (.t 112)), o 17 (.mv (.t 113))])
 (.seq (g [o 114 (.mv (.t 17)), o 11 (.mv (.t 114))])
 (.seq (g [o 115 (.mv (.t 16)), o 116 (.mv (.t 1)), o 117 (.bin .sub (.t 115) (.t 116)), o 118 (.mv (.t 2)), o 119 (.mv (.t 16)), o 120 (.bin .sub (.t 118) (.t 119)), o 18 (.mv (.t 117)), o 19 (.mv (.t 120))])
 (.seq (g [o 121 (.mv (.t 12)), o 122 (.bin .quo (.t 121) (.c (i 8))), o 20 (.mv (.t 122))])
 (.seq (g [o 123 (.mv (.t 18)), o 124 (.mv (.t 19)), o 125 (.bin .lss (.t 123) (.t 124))])
 (.cond (.t 125) (.seq (g [o 126 (.mv (.t 18)), o 127 (.mv (.t 20)), o 128 (.bin .geq (.t 126) (.t 127)), o 10 (.mv (.t 128))])
 (.seq (g [o 129 (.mv (.t 0)), o 130 (.mv (.t 1)), o 131 (.mv (.t 16)), o 132 (.mv (.t 3)), o 133 (.mv (.t 4)), o 134 (.call (.c (.fn 87 [])) [(.t 129), (.t 130), (.t 131), (.t 132), (.t 133)])])
 (g [o 135 (.mv (.t 16)), o 136 (.bin .add (.t 135) (.c (i 1))), o 1 (.mv (.t 136))])))
 (.seq (g [o 137 (.mv (.t 19)), o 138 (.mv (.t 20)), o 139 (.bin .geq (.t 137) (.t 138)), o 10 (.mv (.t 139))])
 (.seq (g [o 140 (.mv (.t 0)), o 141 (.mv (.t 16)), o 142 (.bin .add (.t 141) (.c (i 1))), o 143 (.mv (.t 2)), o 144 (.mv (.t 3)), o 145 (.mv (.t 4)), o 146 (.call (.c (.fn 87 [])) [(.t 140), (.t 142), (.t 143), (.t 144), (.t 145)])])
 (g [o 147 (.mv (.t 16)), o 2 (.mv (.t 147))]))))))))))))))))))
def c87 : AFunc := ⟨5, 148, [],
 (.seq (g [o 10 (.mv (.c (.bool true)))])
 (.seq (g [o 11 (.mv (.c (.bool true)))])
 (.block 0 w87_0)))⟩

def c88 : AFunc := ⟨1, 8, [.tmp 2],
 (.seq (g [o 2 (.mv (.c (i 0)))])
 (.seq (.cond (.c (.bool false)) (.seq (g [o 3 (.mv (.t 0)), o 4 (.conv .u32 (.t 3)), o 5 (.call (.c (.fn 140 [])) [(.t 4)]), o 2 (.mv (.t 5))])
 .ret)
 .skip)
 (.seq (g [o 6 (.mv (.t 0)), o 7 (.call (.c (.fn 141 [])) [(.t 6)]), o 2 (.mv (.t 7))])
 .ret)))⟩

def c89 : AFunc := ⟨1, 32, [.tmp 2],
 (.seq (g [o 1 (.box (.t 0)), o 2 (.mv (.c (i 0)))])
 (.seq (.seq (g [o 5 (.fa (.t 1) 0), o 6 (.ldN 4 (.t 5)), o 7 (.call (.c (.fn 142 [])) [(.t 6)]), o 3 (.mv (.t 7))])
 (.seq (g [o 8 (.mv (.t 3)), o 9 (.bin .neq (.t 8) (.c (i 0)))])
 (.cond (.t 9) (.seq (g [o 10 (.mv (.t 3)), o 2 (.mv (.t 10))])
 .ret)
 .skip)))
 (.seq (.seq (g [o 11 (.fa (.t 1) 4), o 12 (.ldN 2 (.t 11)), o 13 (.call (.c (.fn 143 [])) [(.t 12)]), o 4 (.mv (.t 13))])
 (.seq (g [o 14 (.mv (.t 4)), o 15 (.bin .neq (.t 14) (.c (i 0)))])
 (.cond (.t 15) (.seq (g [o 16 (.mv (.t 4)), o 2 (.mv (.t 16))])
 .ret)
 .skip)))
 (.seq (.seq (g [o 17 (.fa (.t 1) 0), o 18 (.fa (.t 17) 0), o 19 (.ld1 (.t 18)), o 20 (.fa (.t 1) 4), o 21 (.fa (.t 20) 0), o 22 (.ld1 (.t 21)), o 23 (.bin .neq (.t 19) (.t 22))])
 (.cond (.t 23) (.seq (g [o 2 (.mv (.c (i 22)))])
 .ret)
 .skip))
 (.seq (.seq (g [o 24 (.fa (.t 1) 6), o 25 (.ld1 (.t 24)), o 26 (.bin .lss (.t 25) (.c (i 0))), o 27 (.mv (.t 26)), ⟨(some 28), .fa (.t 1) 6, (some (27, false)), []⟩, ⟨(some 29), .ld1 (.t 28), (some (27, false)), []⟩, ⟨(some 30), .bin .gtr (.t 29) (.c (i 6)), (some (27, false)), []⟩, o 31 (.pick (.t 27) (.c (.bool true)) (.t 30))])
 (.cond (.t 31) (.seq (g [o 2 (.mv (.c (i 2)))])
 .ret)
 .skip))
 (.seq (g [o 2 (.mv (.c (i 0)))])
 .ret))))))⟩

def v90_0 : AC := .dreg [0, 1, 2, 3, 4, 5, 6, 7, 8, 9, 10, 11] [o 5 (.fa (.t 2) 0), o 6 (.fa (.t 5) 3), o 7 (.ld1 (.t 6)), o 8 (.lenS (.t 7)), o 9 (.fa (.t 2) 4), o 10 (.ldN 2 (.t 9)), o 11 (.fa (.t 2) 6), o 12 (.ld1 (.t 11)), o 13 (.mv (.t 1)), ⟨(some 14), .call (.c (.fn 144 [])) [(.t 10), (.t 12), (.t 13)], none, [2]⟩, o 15 (.bin .mul (.t 8) (.t 14)), o 4 (.mv (.t 15))] none
def c90 : AFunc := ⟨2, 16, [.tmp 4],
 (.seq (g [o 2 (.box (.t 0)), o 4 (.mv (.c (i 0)))])
 (.seq v90_0
 .ret))⟩

def v91_0 : AC := .dreg [0, 1, 2, 3, 4, 5, 6, 7, 8, 9, 10, 11, 12, 13, 14, 15, 16, 17, 18] [o 72 (.mv (.t 4)), o 73 (.mv (.t 6)), o 74 (.ixS 1 (.t 72) (.t 73)), o 75 (.ld1 (.t 74)), o 76 (.mv (.t 8)), o 77 (.bin .sub (.t 76) (.c (i 1))), o 78 (.ixS 7 (.t 75) (.t 77)), o 79 (.fa (.t 78) 0), o 80 (.ldN 6 (.t 79)), o 81 (.mv (.t 8)), o 82 (.mv (.t 10)), o 83 (.fa (.t 7) 2), o 84 (.ld1 (.t 83)), o 85 (.mv (.t 8)), o 86 (.bin .sub (.t 85) (.c (i 1))), o 87 (.ixS 1 (.t 84) (.t 86)), o 88 (.ld1 (.t 87)), o 89 (.call (.c (.fn 147 [])) [(.t 80), (.t 81), (.t 82), (.t 88)]), e (.st 8 (.t 11) (.t 89))] none
def w91_0 : AC := .loop [1, 2, 3, 4, 5, 6, 7, 8, 9, 10]
 (.seq (.seq (g [o 51 (.mv (.t 10)), o 52 (.fa (.t 1) 0), o 53 (.fa (.t 52) 0), o 54 (.ld1 (.t 53)), o 55 (.bin .lss (.t 51) (.t 54))])
 (.cond (.t 55) .skip
 (.exit 6)))
 (.seq (.block 7 (.seq (g [o 58 (.mv (.t 10)), o 59 (.fa (.t 1) 0), o 60 (.fa (.t 59) 3), o 61 (.ld1 (.t 60)), o 62 (.mv (.t 5)), o 63 (.ixS 3 (.t 61) (.t 62)), o 64 (.fa (.t 63) 0), o 65 (.ld1 (.t 64)), o 66 (.mv (.t 10)), o 67 (.ixS 1 (.t 65) (.t 66)), o 68 (.ld1 (.t 67)), o 69 (.call (.c (.fn 146 [])) [(.t 58), (.t 68)]), o 11 (.alloc [i 0, i 0, i 0, i 0, i 0, i 0, i 0, i 0]), e (.st 8 (.t 11) (.t 69))])
 (.seq (.seq (g [o 70 (.mv (.t 8)), o 71 (.bin .gtr (.t 70) (.c (i 0)))])
 (.cond (.t 71) v91_0
 .skip))
 (.seq (g [o 91 (.fa (.t 3) 7), o 92 (.ldN 2 (.t 91)), o 93 (.ldN 8 (.t 11)), o 94 (.call (.c (.fn 148 [])) [(.t 92), (.t 93)]), o 90 (.mv (.t 94)), o 95 (.ext (.t 90) 0), o 96 (.ext (.t 90) 1), o 12 (.alloc [i 0, .nils]), e (.st 2 (.t 12) (.t 95)), o 13 (.mv (.t 96))])
 (.seq (g [o 97 (.ldN 2 (.t 12)), o 98 (.fa (.t 3) 7), e (.st 2 (.t 98) (.t 97))])
 (g [o 99 (.mv (.t 9)), o 100 (.mv (.t 13)), o 101 (.bslice 1 [i 0] [(0, 1, (.t 100))]), o 102 (.app 1 8 (.t 99) (.t 101)), o 9 (.mv (.t 102))]))))))
 (g [o 56 (.mv (.t 10)), o 57 (.bin .add (.t 56) (.c (i 1))), o 10 (.mv (.t 57))])))
def w91_1 : AC := .loop [1, 2, 3, 4, 5, 6, 7, 8]
 (.seq (.seq (g [o 45 (.mv (.t 8)), o 46 (.fa (.t 1) 6), o 47 (.ld1 (.t 46)), o 48 (.bin .leq (.t 45) (.t 47))])
 (.cond (.t 48) .skip
 (.exit 4)))
 (.seq (.block 5 (.seq (g [o 9 (.mv (.c .nils))])
 (.seq (.seq (g [o 10 (.mv (.c (i 0)))])
 (.block 6 w91_0))
 (g [o 103 (.fa (.t 7) 2), o 104 (.ld1 (.t 103)), o 105 (.mv (.t 9)), o 106 (.bslice 1 [.nils] [(0, 1, (.t 105))]), o 107 (.app 1 24 (.t 104) (.t 106)), o 108 (.fa (.t 7) 2), e (.st 1 (.t 108) (.t 107))]))))
 (g [o 49 (.mv (.t 8)), o 50 (.bin .add (.t 49) (.c (i 1))), o 8 (.mv (.t 50))])))
def w91_2 : AC := .loop [1, 2, 3, 4, 5, 6]
 (.seq (.seq (g [o 33 (.mv (.t 6)), o 34 (.mv (.t 4)), o 35 (.lenS (.t 34)), o 36 (.bin .lss (.t 33) (.t 35))])
 (.cond (.t 36) .skip
 (.exit 2)))
 (.seq (.block 3 (.seq (g [o 39 (.mv (.t 5)), o 40 (.mv (.t 4)), o 41 (.mv (.t 6)), o 42 (.ixS 1 (.t 40) (.t 41)), o 43 (.ld1 (.t 42)), o 44 (.build [i 0, .nils, .nils] [(0, 1, (.t 39)), (1, 1, (.t 43))]), o 7 (.alloc [i 0, .nils, .nils]), e (.st 3 (.t 7) (.t 44))])
 (.seq (.seq (g [o 8 (.mv (.c (i 0)))])
 (.block 4 w91_1))
 (g [o 109 (.fa (.t 3) 9), o 110 (.ld1 (.t 109)), o 111 (.ldN 3 (.t 7)), o 112 (.bslice 1 [i 0, .nils, .nils] [(0, 3, (.t 111))]), o 113 (.app 3 56 (.t 110) (.t 112)), o 114 (.fa (.t 3) 9), e (.st 1 (.t 114) (.t 113))]))))
 (g [o 37 (.mv (.t 6)), o 38 (.bin .add (.t 37) (.c (i 1))), o 6 (.mv (.t 38))])))
def w91_3 : AC := .loop [1, 2, 3, 4, 5]
 (.seq (.seq (g [o 25 (.mv (.t 5)), o 26 (.fa (.t 1) 0), o 27 (.fa (.t 26) 3), o 28 (.ld1 (.t 27)), o 29 (.lenS (.t 28)), o 30 (.bin .lss (.t 25) (.t 29))])
 (.cond (.t 30) .skip
 (.exit 0)))
 (.seq (.block 1 (.seq (g [o 6 (.mv (.c (i 0)))])
 (.block 2 w91_2)))
 (g [o 31 (.mv (.t 5)), o 32 (.bin .add (.t 31) (.c (i 1))), o 5 (.mv (.t 32))])))
def c91 : AFunc := ⟨1, 116, [.cellN 2 10],
 (.seq (g [o 1 (.box (.t 0)), o 2 (.alloc [i 0, i 0, i 0, .nils, i 0, .nils, i 0, i 0, .nils, .nils])])
 (.seq (g [o 14 (.ldN 7 (.t 1)), o 15 (.fa (.t 1) 0), o 16 (.fa (.t 15) 0), o 17 (.ld1 (.t 16)), o 18 (.build [i 0, .nils] [(0, 1, (.t 17))]), o 19 (.build [i 0, i 0, i 0, .nils, i 0, .nils, i 0, i 0, .nils, .nils] [(0, 7, (.t 14)), (7, 2, (.t 18))]), o 3 (.alloc [i 0, i 0, i 0, .nils, i 0, .nils, i 0, i 0, .nils, .nils]), e (.st 10 (.t 3) (.t 19))])
 (.seq (g [o 20 (.fa (.t 1) 4), o 21 (.ldN 2 (.t 20)), o 22 (.fa (.t 1) 6), o 23 (.ld1 (.t 22)), o 24 (.call (.c (.fn 145 [])) [(.t 21), (.c (i 0)), (.t 23)]), o 4 (.mv (.t 24))])
 (.seq (.seq (g [o 5 (.mv (.c (i 0)))])
 (.block 0 w91_3))
 (.seq (g [o 115 (.ldN 10 (.t 3)), e (.st 10 (.t 2) (.t 115))])
 .ret)))))⟩

def c92 : AFunc := ⟨1, 5, [.tmp 2],
 (.seq (g [o 2 (.mv (.c .nils))])
 (.seq (g [o 3 (.mv (.t 0)), o 4 (.call (.c (.fn 149 [])) [(.c .nils), (.t 3)]), o 2 (.mv (.t 4))])
 .ret))⟩

def c93 : AFunc := ⟨1, 11, [],
 (.seq (g [o 3 (.mv (.t 0)), o 4 (.lenS (.t 3)), o 2 (.mv (.t 4))])
 (g [o 5 (.mv (.t 0)), o 6 (.mv (.t 2)), o 7 (.mv (.t 2)), o 8 (.conv .u64 (.t 7)), o 9 (.call (.c (.fn 88 [])) [(.t 8)]), o 10 (.call (.c (.fn 150 [])) [(.t 5), (.c (i 0)), (.t 6), (.t 9)])]))⟩

def w94_0 : AC := .loop [0, 5, 6, 7]
 (.seq (g [o 8 (.bin .lss (.t 7) (.t 6))])
 (.seq (.cond (.t 8) .skip
 (.exit 0))
 (.seq (.block 1 (.seq (g [o 9 (.ixS 1 (.t 5) (.t 7)), o 10 (.ld1 (.t 9)), o 4 (.mv (.t 10))])
 (.seq (g [o 11 (.mv (.t 0)), o 12 (.mv (.t 4)), o 13 (.call (.t 11) [(.t 12)]), o 14 (.un .not (.t 13))])
 (.cond (.t 14) .ret
 .skip))))
 (g [o 15 (.bin .add (.t 7) (.c (i 1))), o 7 (.mv (.t 15))]))))
def c94 : AFunc := ⟨2, 16, [],
 (.seq (g [o 5 (.ld1 (.t 1)), o 6 (.lenS (.t 5)), o 7 (.mv (.c (i 0)))])
 (.block 0 w94_0))⟩

def c95 : AFunc := ⟨2, 9, [.tmp 4],
 (.seq (g [o 4 (.mv (.c (.bool false)))])
 (.seq (g [o 5 (.mv (.t 0)), o 6 (.mv (.t 1)), o 7 (.call (.c (.fn 151 [])) [(.t 5), (.t 6)]), o 8 (.bin .geq (.t 7) (.c (i 0))), o 4 (.mv (.t 8))])
 .ret))⟩

def c96 : AFunc := ⟨2, 10, [.tmp 3],
 (.seq (g [o 3 (.mv (.c (.bool false)))])
 (.seq (g [o 4 (.mv (.t 0)), o 5 (.fa (.t 1) 3), o 6 (.ld1 (.t 5)), o 7 (.bin .sub (.t 6) (.c (i 1))), o 8 (.call (.c (.fn 64 [])) [(.t 4), (.c (j 0)), (.t 7)]), o 9 (.un .not (.t 8)), o 3 (.mv (.t 9))])
 .ret))⟩

def c97 : AFunc := ⟨1, 6, [.tmp 2],
 (.seq (g [o 2 (.mv (.c (.bool false)))])
 (.seq (g [o 3 (.mv (.t 0)), o 4 (.call (.c (.fn 64 [])) [(.t 3), (.c (i 0)), (.c (i 1048576))]), o 5 (.un .not (.t 4)), o 2 (.mv (.t 5))])
 .ret))⟩

def w98_0 : AC := .loop [3, 6, 7, 8]
 (.seq (g [o 9 (.bin .lss (.t 8) (.t 7))])
 (.seq (.cond (.t 9) .skip
 (.exit 0))
 (.seq (.block 1 (.seq (g [o 10 (.ixS 1 (.t 6) (.t 8)), o 11 (.ld1 (.t 10)), o 5 (.mv (.t 11))])
 (.seq (g [o 12 (.mv (.t 5)), o 13 (.mv (.t 3)), o 14 (.bin .neq (.t 12) (.t 13))])
 (.cond (.t 14) (.seq (g [o 15 (.mv (.t 5)), o 2 (.mv (.t 15))])
 .ret)
 .skip))))
 (g [o 16 (.bin .add (.t 8) (.c (i 1))), o 8 (.mv (.t 16))]))))
def c98 : AFunc := ⟨1, 18, [.tmp 2],
 (.seq (g [o 2 (.mv (.c (i 0)))])
 (.seq (g [o 3 (.mv (.c (i 0)))])
 (.seq (.seq (g [o 6 (.mv (.t 0)), o 7 (.lenS (.t 6)), o 8 (.mv (.c (i 0)))])
 (.block 0 w98_0))
 (.seq (g [o 17 (.mv (.t 3)), o 2 (.mv (.t 17))])
 .ret))))⟩

def c99 : AFunc := ⟨2, 20, [.tmp 4],
 (.seq (g [o 4 (.mv (.c (i 0)))])
 (.seq (g [o 7 (.mv (.t 0)), o 8 (.call (.c (.fn 152 [])) [(.t 7)]), o 5 (.mv (.t 8))])
 (.seq (g [o 9 (.mv (.t 1)), o 10 (.call (.c (.fn 152 [])) [(.t 9)]), o 6 (.mv (.t 10))])
 (.seq (.seq (g [o 11 (.mv (.t 5))])
 (.cond (.t 11) (.seq (.seq (g [o 12 (.mv (.t 6))])
 (.cond (.t 12) (.seq (g [o 4 (.mv (.c (i 0)))])
 .ret)
 .skip))
 (.seq (g [o 4 (.mv (.c (j 0)))])
 .ret))
 .skip))
 (.seq (.seq (g [o 13 (.mv (.t 6))])
 (.cond (.t 13) (.seq (g [o 4 (.mv (.c (i 1)))])
 .ret)
 .skip))
 (.seq (.seq (g [o 14 (.mv (.t 0)), o 15 (.mv (.t 1)), o 16 (.bin .lss (.t 14) (.t 15))])
 (.cond (.t 16) (.seq (g [o 4 (.mv (.c (j 0)))])
 .ret)
 .skip))
 (.seq (.seq (g [o 17 (.mv (.t 0)), o 18 (.mv (.t 1)), o 19 (.bin .gtr (.t 17) (.t 18))])
 (.cond (.t 19) (.seq (g [o 4 (.mv (.c (i 1)))])
 .ret)
 .skip))
 (.seq (g [o 4 (.mv (.c (i 0)))])
 .ret))))))))⟩

def w100_0 : AC := .loop [0, 1, 9, 10, 11]
 (.seq (g [o 12 (.bin .lss (.t 11) (.t 10))])
 (.seq (.cond (.t 12) .skip
 (.exit 0))
 (.seq (.block 1 (.seq (g [o 13 (.mv (.t 11)), o 14 (.ixS 1 (.t 9) (.t 11)), o 15 (.ld1 (.t 14)), o 5 (.mv (.t 13)), o 6 (.mv (.t 15))])
 (.seq (.seq (g [o 16 (.mv (.t 5)), o 17 (.mv (.t 1)), o 18 (.lenS (.t 17)), o 19 (.bin .geq (.t 16) (.t 18))])
 (.cond (.t 19) (.seq (g [o 4 (.mv (.c (i 1)))])
 .ret)
 .skip))
 (.seq (g [o 20 (.mv (.t 1)), o 21 (.mv (.t 5)), o 22 (.ixS 1 (.t 20) (.t 21)), o 23 (.ld1 (.t 22)), o 7 (.mv (.t 23))])
 (.seq (g [o 24 (.mv (.t 6)), o 25 (.mv (.t 7)), o 26 (.call (.c (.fn 99 [])) [(.t 24), (.t 25)]), o 8 (.mv (.t 26))])
 (.seq (g [o 27 (.mv (.t 8)), o 28 (.bin .neq (.t 27) (.c (i 0)))])
 (.cond (.t 28) (.seq (g [o 29 (.mv (.t 8)), o 4 (.mv (.t 29))])
 .ret)
 .skip)))))))
 (g [o 30 (.bin .add (.t 11) (.c (i 1))), o 11 (.mv (.t 30))]))))
def c100 : AFunc := ⟨2, 36, [.tmp 4],
 (.seq (g [o 4 (.mv (.c (i 0)))])
 (.seq (.seq (g [o 9 (.mv (.t 0)), o 10 (.lenS (.t 9)), o 11 (.mv (.c (i 0)))])
 (.block 0 w100_0))
 (.seq (.seq (g [o 31 (.mv (.t 0)), o 32 (.lenS (.t 31)), o 33 (.mv (.t 1)), o 34 (.lenS (.t 33)), o 35 (.bin .lss (.t 32) (.t 34))])
 (.cond (.t 35) (.seq (g [o 4 (.mv (.c (j 0)))])
 .ret)
 .skip))
 (.seq (g [o 4 (.mv (.c (i 0)))])
 .ret))))⟩

def c101 : AFunc := ⟨3, 11, [.tmp 6],
 (.seq (g [o 6 (.mv (.c (.bool false)))])
 (.seq (g [o 7 (.mv (.t 0)), o 8 (.mv (.t 1)), o 9 (.mv (.t 2)), o 10 (.call (.c (.fn 71 [])) [(.t 7), (.t 8), (.t 9)]), o 6 (.mv (.t 10))])
 .ret))⟩

def c102 : AFunc := ⟨3, 11, [.tmp 6],
 (.seq (g [o 6 (.mv (.c (.bool false)))])
 (.seq (g [o 7 (.mv (.t 0)), o 8 (.mv (.t 1)), o 9 (.mv (.t 2)), o 10 (.call (.c (.fn 153 [])) [(.t 7), (.t 8), (.t 9)]), o 6 (.mv (.t 10))])
 .ret))⟩

def w103_0 : AC := .loop [1, 2, 15, 16, 17]
 (.seq (g [o 18 (.bin .lss (.t 17) (.t 16))])
 (.seq (.cond (.t 18) .skip
 (.exit 0))
 (.seq (.block 1 (.seq (g [o 19 (.mv (.t 17)), o 20 (.ixS 1 (.t 15) (.t 17)), o 21 (.ld1 (.t 20)), o 7 (.mv (.t 19)), o 8 (.mv (.t 21))])
 (.seq (g [o 22 (.mv (.t 1)), o 23 (.mv (.t 7)), o 24 (.ixS 1 (.t 22) (.t 23)), o 25 (.ld1 (.t 24)), o 9 (.mv (.t 25))])
 (.seq (g [o 26 (.mv (.t 2)), o 27 (.mv (.t 8)), o 28 (.mv (.t 9)), o 29 (.call (.t 26) [(.t 27), (.t 28)]), o 30 (.un .not (.t 29))])
 (.cond (.t 30) (.seq (g [o 6 (.mv (.c (.bool false)))])
 .ret)
 .skip)))))
 (g [o 31 (.bin .add (.t 17) (.c (i 1))), o 17 (.mv (.t 31))]))))
def c103 : AFunc := ⟨3, 32, [.tmp 6],
 (.seq (g [o 6 (.mv (.c (.bool false)))])
 (.seq (.seq (g [o 10 (.mv (.t 0)), o 11 (.lenS (.t 10)), o 12 (.mv (.t 1)), o 13 (.lenS (.t 12)), o 14 (.bin .neq (.t 11) (.t 13))])
 (.cond (.t 14) (.seq (g [o 6 (.mv (.c (.bool false)))])
 .ret)
 .skip))
 (.seq (.seq (g [o 15 (.mv (.t 0)), o 16 (.lenS (.t 15)), o 17 (.mv (.c (i 0)))])
 (.block 0 w103_0))
 (.seq (g [o 6 (.mv (.c (.bool true)))])
 .ret))))⟩

def v104_0 : AC := .dreg [0, 1, 2, 3, 4, 5, 6, 7, 8] [o 17 (.mv (.t 0)), o 18 (.mv (.t 5)), o 19 (.ixS 1 (.t 17) (.t 18)), o 20 (.ld1 (.t 19)), o 21 (.mv (.t 1)), o 22 (.mv (.t 5)), o 23 (.ixS 1 (.t 21) (.t 22)), o 24 (.ld1 (.t 23)), o 25 (.bin .neq (.t 20) (.t 24))] none
def w104_0 : AC := .loop [0, 1, 5]
 (.seq (.seq (g [o 11 (.mv (.t 5)), o 12 (.mv (.t 0)), o 13 (.lenS (.t 12)), o 14 (.bin .lss (.t 11) (.t 13))])
 (.cond (.t 14) .skip
 (.exit 0)))
 (.seq (.block 1 (.seq v104_0
 (.cond (.t 25) (.seq (g [o 4 (.mv (.c (.bool false)))])
 .ret)
 .skip)))
 (g [o 15 (.mv (.t 5)), o 16 (.bin .add (.t 15) (.c (i 1))), o 5 (.mv (.t 16))])))
def c104 : AFunc := ⟨2, 26, [.tmp 4],
 (.seq (g [o 4 (.mv (.c (.bool false)))])
 (.seq (.seq (g [o 6 (.mv (.t 0)), o 7 (.lenS (.t 6)), o 8 (.mv (.t 1)), o 9 (.lenS (.t 8)), o 10 (.bin .neq (.t 7) (.t 9))])
 (.cond (.t 10) (.seq (g [o 4 (.mv (.c (.bool false)))])
 .ret)
 .skip))
 (.seq (.seq (g [o 5 (.mv (.c (i 0)))])
 (.block 0 w104_0))
 (.seq (g [o 4 (.mv (.c (.bool true)))])
 .ret))))⟩

def c105 : AFunc := ⟨2, 9, [.tmp 4],
 (.seq (g [o 4 (.mv (.c (.bool false)))])
 (.seq (g [o 5 (.mv (.t 0)), o 6 (.mv (.t 1)), o 7 (.call (.c (.fn 154 [])) [(.t 5), (.t 6)]), o 8 (.bin .geq (.t 7) (.c (i 0))), o 4 (.mv (.t 8))])
 .ret))⟩

def c106 : AFunc := ⟨3, 10, [.tmp 4],
 (.seq (g [o 4 (.mv (.c (.bool false)))])
 (.seq (g [o 5 (.mv (.t 0)), o 6 (.ld1 (.t 1)), o 7 (.ld1 (.t 2)), o 8 (.call (.c (.fn 47 [])) [(.t 5), (.t 6), (.t 7)]), o 9 (.un .not (.t 8)), o 4 (.mv (.t 9))])
 .ret))⟩

def c107 : AFunc := ⟨1, 9, [.tmp 2],
 (.seq (g [o 2 (.mv (.c (i 0)))])
 (.seq (.seq (g [o 3 (.mv (.t 0)), o 4 (.bin .lss (.t 3) (.c (i 1))), o 5 (.mv (.t 4)), ⟨(some 6), .mv (.t 0), (some (5, false)), []⟩, ⟨(some 7), .bin .gtr (.t 6) (.c (i 5)), (some (5, false)), []⟩, o 8 (.pick (.t 5) (.c (.bool true)) (.t 7))])
 (.cond (.t 8) (.seq (g [o 2 (.mv (.c (i 1)))])
 .ret)
 .skip))
 (.seq (g [o 2 (.mv (.c (i 0)))])
 .ret)))⟩

def c108 : AFunc := ⟨1, 4, [.tmp 2],
 (.seq (g [o 1 (.box (.t 0)), o 2 (.mv (.c .nilf))])
 (.seq (g [o 3 (.mkfn 155 [(.t 1)]), o 2 (.mv (.t 3))])
 .ret))⟩

def c109 : AFunc := ⟨1, 16, [.tmp 2],
 (.seq (g [o 1 (.box (.t 0)), o 2 (.mv (.c (i 0)))])
 (.seq (.seq (g [o 4 (.fa (.t 1) 0), o 5 (.ldN 6 (.t 4)), o 6 (.call (.c (.fn 156 [])) [(.t 5)]), o 3 (.mv (.t 6))])
 (.seq (g [o 7 (.mv (.t 3)), o 8 (.bin .neq (.t 7) (.c (i 0)))])
 (.cond (.t 8) (.seq (g [o 9 (.mv (.t 3)), o 2 (.mv (.t 9))])
 .ret)
 .skip)))
 (.seq (g [o 10 (.fa (.t 1) 0), o 11 (.fa (.t 10) 0), o 12 (.ld1 (.t 11)), o 13 (.fa (.t 1) 6), o 14 (.ld1 (.t 13)), o 15 (.call (.c (.fn 157 [])) [(.t 12), (.t 14)]), o 2 (.mv (.t 15))])
 .ret)))⟩

def u110_0 : AC := .block 1 (g [o 8 (.ld1 (.t 2)), o 9 (.mv (.t 5)), o 10 (.bslice 1 [.nils] [(0, 1, (.t 9))]), o 11 (.app 1 24 (.t 8) (.t 10)), e (.st 1 (.t 2) (.t 11))])
def c110 : AFunc := ⟨2, 13, [.tmp 4],
 (.seq (g [o 2 (.box (.t 0)), o 4 (.mv (.c .nils))])
 (.seq (.seq (g [o 6 (.mv (.t 1))])
 (.block 0 (.rangeF (.t 6) [7] (g [o 5 (.mv (.t 7))])
 u110_0)))
 (.seq (g [o 12 (.ld1 (.t 2)), o 4 (.mv (.t 12))])
 .ret)))⟩

def w111_0 : AC := .loop [0, 1, 3, 5, 18, 19, 20]
 (.seq (g [o 21 (.bin .lss (.t 20) (.t 19))])
 (.seq (.cond (.t 21) .skip
 (.exit 0))
 (.seq (.block 1 (.seq (g [o 22 (.mv (.t 20)), o 23 (.ixS 1 (.t 18) (.t 20)), o 24 (.ld1 (.t 23)), o 6 (.mv (.t 22)), o 7 (.mv (.t 24))])
 (g [o 25 (.mv (.t 5)), o 26 (.mv (.t 6)), o 27 (.fa (.t 1) 4), o 28 (.ld1 (.t 27)), o 29 (.mv (.t 6)), o 30 (.ixS 1 (.t 28) (.t 29)), o 31 (.ld1 (.t 30)), o 32 (.mv (.t 7)), o 33 (.ixS 1 (.t 31) (.t 32)), o 34 (.ld1 (.t 33)), o 35 (.ixS 1 (.t 25) (.t 26)), e (.st 1 (.t 35) (.t 34))])))
 (g [o 36 (.bin .add (.t 20) (.c (i 1))), o 20 (.mv (.t 36))]))))
def v111_0 : AC := .dreg [0, 1, 2, 3, 4, 5, 6, 7, 8, 9, 10, 11, 12, 13, 14, 15, 16, 17, 18, 19] [o 63 (.mv (.t 8)), o 64 (.mv (.t 9)), o 65 (.mv (.t 12)), o 66 (.ldN 8 (.t 1)), o 67 (.mv (.t 9)), o 68 (.mv (.t 12)), o 69 (.mv (.t 5)), o 70 (.mv (.t 12)), o 71 (.fa (.t 10) 0), o 72 (.fa (.t 71) 1), o 73 (.ixA 5 1 (.t 72) (.t 70)), o 74 (.ld1 (.t 73)), o 75 (.call (.c (.fn 78 [])) [(.t 66), (.t 67), (.t 68), (.t 69), (.t 74)]), o 76 (.build [i 0, i 0, i 0, i 0, i 0, i 0, i 0] [(0, 1, (.t 64)), (1, 1, (.t 65)), (2, 5, (.t 75))]), o 77 (.look 7 (i 0) (.t 63) (.t 76)), o 62 (.mv (.t 77)), o 78 (.ext (.t 62) 0), o 79 (.ext (.t 62) 1), o 13 (.mv (.t 78)), o 14 (.mv (.t 79))] none
def w111_1 : AC := .loop [0, 1, 5, 8, 9, 10, 11, 47, 48, 49, 58, 59]
 (.seq (g [o 60 (.bin .lss (.t 59) (.t 58))])
 (.seq (.cond (.t 60) .skip
 (.exit 4))
 (.seq (.block 5 (.seq (g [o 61 (.mv (.t 59)), o 12 (.mv (.t 61))])
 (.seq v111_0
 (.seq (.seq (g [o 80 (.mv (.t 14)), o 81 (.un .not (.t 80))])
 (.cond (.t 81) .ret
 .skip))
 (g [o 82 (.mv (.t 11)), o 83 (.mv (.t 12)), o 84 (.mv (.t 13)), o 85 (.ixS 1 (.t 82) (.t 83)), e (.st 1 (.t 85) (.t 84))])))))
 (g [o 86 (.bin .add (.t 59) (.c (i 1))), o 59 (.mv (.t 86))]))))
def w111_2 : AC := .loop [0, 1, 5, 8, 47, 48, 49]
 (.seq (g [o 50 (.bin .lss (.t 49) (.t 48))])
 (.seq (.cond (.t 50) .skip
 (.exit 2))
 (.seq (.block 3 (.seq (g [o 51 (.mv (.t 49)), o 52 (.ixS 7 (.t 47) (.t 49)), o 53 (.ldN 7 (.t 52)), o 10 (.alloc [i 0, i 0, i 0, i 0, i 0, i 0, i 0]), o 9 (.mv (.t 51)), e (.st 7 (.t 10) (.t 53))])
 (.seq (g [o 54 (.fa (.t 1) 0), o 55 (.ld1 (.t 54)), o 56 (.mkslice 8 [i 0] (.t 55) (.t 55)), o 11 (.mv (.t 56))])
 (.seq (.seq (g [o 57 (.mv (.t 11)), o 58 (.lenS (.t 57)), o 59 (.mv (.c (i 0)))])
 (.block 4 w111_1))
 (.seq (g [o 87 (.mv (.t 11)), o 5 (.mv (.t 87))])
 (.seq (g [o 88 (.mv (.t 0)), o 89 (.mv (.t 5)), o 90 (.call (.t 88) [(.t 89)]), o 91 (.un .not (.t 90))])
 (.cond (.t 91) .ret
 .skip)))))))
 (g [o 92 (.bin .add (.t 49) (.c (i 1))), o 49 (.mv (.t 92))]))))
def c111 : AFunc := ⟨4, 93, [],
 (.seq (g [o 15 (.fa (.t 1) 0), o 16 (.ld1 (.t 15)), o 17 (.mkslice 8 [i 0] (.t 16) (.t 16)), o 5 (.mv (.t 17))])
 (.seq (.seq (g [o 18 (.ld1 (.t 2)), o 19 (.lenS (.t 18)), o 20 (.mv (.c (i 0)))])
 (.block 0 w111_0))
 (.seq (.seq (g [o 37 (.mv (.t 5)), o 38 (.call (.c (.fn 112 [])) [(.t 37), (.c (j 0))]), o 39 (.mv (.t 38)), ⟨(some 40), .mv (.t 0), (some (39, false)), []⟩, ⟨(some 41), .mv (.t 5), (some (39, false)), []⟩, ⟨(some 42), .call (.t 40) [(.t 41)], (some (39, false)), []⟩, ⟨(some 43), .un .not (.t 42), (some (39, false)), []⟩, o 44 (.pick (.t 39) (.c (.bool true)) (.t 43))])
 (.cond (.t 44) .ret
 .skip))
 (.seq (g [o 45 (.ldN 8 (.t 1)), o 46 (.call (.c (.fn 62 [])) [(.t 45)]), o 8 (.mv (.t 46))])
 (.seq (g [o 47 (.ld1 (.t 3)), o 48 (.lenS (.t 47)), o 49 (.mv (.c (i 0)))])
 (.block 2 w111_2))))))⟩

def c112 : AFunc := ⟨2, 9, [.tmp 4],
 (.seq (g [o 4 (.mv (.c (.bool false)))])
 (.seq (g [o 5 (.mv (.t 0)), o 6 (.mv (.t 1)), o 7 (.call (.c (.fn 158 [])) [(.t 5), (.t 6)]), o 8 (.bin .geq (.t 7) (.c (i 0))), o 4 (.mv (.t 8))])
 .ret))⟩

def c113 : AFunc := ⟨1, 9, [.tmp 2],
 (.seq (g [o 2 (.mv (.c (i 0)))])
 (.seq (.seq (g [o 3 (.mv (.t 0)), o 4 (.bin .lss (.t 3) (.c (i 1))), o 5 (.mv (.t 4)), ⟨(some 6), .mv (.t 0), (some (5, false)), []⟩, ⟨(some 7), .bin .gtr (.t 6) (.c (i 5)), (some (5, false)), []⟩, o 8 (.pick (.t 5) (.c (.bool true)) (.t 7))])
 (.cond (.t 8) (.seq (g [o 2 (.mv (.c (i 1)))])
 .ret)
 .skip))
 (.seq (g [o 2 (.mv (.c (i 0)))])
 .ret)))⟩

def c114 : AFunc := ⟨1, 16, [.tmp 2],
 (.seq (g [o 1 (.box (.t 0)), o 2 (.mv (.c (i 0)))])
 (.seq (.seq (g [o 4 (.fa (.t 1) 0), o 5 (.ldN 6 (.t 4)), o 6 (.call (.c (.fn 159 [])) [(.t 5)]), o 3 (.mv (.t 6))])
 (.seq (g [o 7 (.mv (.t 3)), o 8 (.bin .neq (.t 7) (.c (i 0)))])
 (.cond (.t 8) (.seq (g [o 9 (.mv (.t 3)), o 2 (.mv (.t 9))])
 .ret)
 .skip)))
 (.seq (g [o 10 (.fa (.t 1) 0), o 11 (.fa (.t 10) 0), o 12 (.ld1 (.t 11)), o 13 (.fa (.t 1) 6), o 14 (.ld1 (.t 13)), o 15 (.call (.c (.fn 160 [])) [(.t 12), (.t 14)]), o 2 (.mv (.t 15))])
 .ret)))⟩

def w115_0 : AC := .loop [0, 1, 5]
 (.seq (.seq (g [o 6 (.mv (.t 5)), o 7 (.bin .lss (.t 6) (.c (i 5)))])
 (.cond (.t 7) .skip
 (.exit 0)))
 (.seq (.block 1 (.seq (g [o 10 (.mv (.t 0)), o 11 (.mv (.t 5)), o 12 (.call (.c (.fn 161 [])) [(.t 10), (.t 11)]), o 13 (.mv (.t 12)), ⟨(some 14), .mv (.t 1), (some (13, true)), []⟩, ⟨(some 15), .mv (.t 5), (some (13, true)), []⟩, ⟨(some 16), .call (.c (.fn 161 [])) [(.t 14), (.t 15)], (some (13, true)), []⟩, ⟨(some 17), .un .not (.t 16), (some (13, true)), []⟩, o 18 (.pick (.t 13) (.t 17) (.c (.bool false)))])
 (.cond (.t 18) (.seq (g [o 4 (.mv (.c (.bool false)))])
 .ret)
 .skip)))
 (g [o 8 (.mv (.t 5)), o 9 (.bin .add (.t 8) (.c (i 1))), o 5 (.mv (.t 9))])))
def c115 : AFunc := ⟨2, 19, [.tmp 4],
 (.seq (g [o 4 (.mv (.c (.bool false)))])
 (.seq (.seq (g [o 5 (.mv (.c (i 0)))])
 (.block 0 w115_0))
 (.seq (g [o 4 (.mv (.c (.bool true)))])
 .ret)))⟩

def v116_0 : AC := .dreg [0, 1, 2, 3, 4, 5, 6, 7, 8, 9, 10, 11, 12, 13, 14, 15, 16, 17, 18, 19] [o 36 (.mv (.t 12)), o 37 (.fa (.t 5) 5), o 38 (.ld1 (.t 37)), o 39 (.mv (.t 1)), o 40 (.ixS 1 (.t 38) (.t 39)), o 41 (.ld1 (.t 40)), o 42 (.mv (.t 12)), o 43 (.ixS 1 (.t 41) (.t 42)), o 44 (.ld1 (.t 43)), o 45 (.mv (.t 2)), o 46 (.ixS 1 (.t 44) (.t 45)), o 47 (.ld1 (.t 46)), o 48 (.mv (.t 3)), o 49 (.mv (.t 12)), o 50 (.ixS 1 (.t 48) (.t 49)), o 51 (.ld1 (.t 50)), o 52 (.ixS 1 (.t 47) (.t 51)), o 53 (.ld1 (.t 52)), o 54 (.ixA 5 1 (.t 11) (.t 36)), e (.st 1 (.t 54) (.t 53))] none
def w116_0 : AC := .loop [1, 2, 3, 5, 9, 10, 11, 12]
 (.seq (.seq (g [o 13 (.mv (.t 12)), o 14 (.bin .lss (.t 13) (.c (i 5)))])
 (.cond (.t 14) .skip
 (.exit 0)))
 (.seq (.block 1 (.seq (g [o 17 (.mv (.t 12)), o 18 (.ixA 5 1 (.t 11) (.t 17)), e (.st 1 (.t 18) (.c (j 0)))])
 (.seq (g [o 19 (.mv (.t 12)), o 20 (.fa (.t 5) 0), o 21 (.ld1 (.t 20)), o 22 (.bin .lss (.t 19) (.t 21)), o 23 (.mv (.t 22)), ⟨(some 24), .mv (.t 12), (some (23, true)), []⟩, ⟨(some 25), .mv (.t 2), (some (23, true)), []⟩, ⟨(some 26), .bin .neq (.t 24) (.t 25), (some (23, true)), []⟩, o 27 (.pick (.t 23) (.t 26) (.c (.bool false))), o 28 (.mv (.t 27)), ⟨(some 29), .mv (.t 2), (some (28, true)), []⟩, ⟨(some 30), .fa (.t 9) 1, (some (28, true)), []⟩, ⟨(some 31), .ixA 5 1 (.t 30) (.t 29), (some (28, true)), []⟩, ⟨(some 32), .ld1 (.t 31), (some (28, true)), []⟩, ⟨(some 33), .mv (.t 12), (some (28, true)), []⟩, ⟨(some 34), .call (.c (.fn 161 [])) [(.t 32), (.t 33)], (some (28, true)), []⟩, o 35 (.pick (.t 28) (.t 34) (.c (.bool false)))])
 (.cond (.t 35) v116_0
 .skip))))
 (g [o 15 (.mv (.t 12)), o 16 (.bin .add (.t 15) (.c (i 1))), o 12 (.mv (.t 16))])))
def c116 : AFunc := ⟨5, 62, [.cellN 10 5],
 (.seq (g [o 5 (.box (.t 0)), o 9 (.box (.t 4)), o 10 (.alloc [i 0, i 0, i 0, i 0, i 0])])
 (.seq (g [o 11 (.alloc [i 0, i 0, i 0, i 0, i 0])])
 (.seq (.seq (g [o 12 (.mv (.c (i 0)))])
 (.block 0 w116_0))
 (.seq (g [o 55 (.mv (.t 2)), o 56 (.mv (.t 3)), o 57 (.mv (.t 2)), o 58 (.ixS 1 (.t 56) (.t 57)), o 59 (.ld1 (.t 58)), o 60 (.ixA 5 1 (.t 11) (.t 55)), e (.st 1 (.t 60) (.t 59))])
 (.seq (g [o 61 (.ldN 5 (.t 11)), e (.st 5 (.t 10) (.t 61))])
 .ret)))))⟩

def c117 : AFunc := ⟨1, 37, [.tmp 2],
 (.seq (g [o 1 (.box (.t 0)), o 2 (.mv (.c (.bool false)))])
 (.seq (.seq (g [o 4 (.fa (.t 1) 0), o 5 (.ldN 4 (.t 4)), o 6 (.call (.c (.fn 162 [])) [(.t 5)]), o 7 (.un .not (.t 6)), o 8 (.mv (.t 7)), ⟨(some 9), .fa (.t 1) 4, (some (8, false)), []⟩, ⟨(some 10), .ldN 2 (.t 9), (some (8, false)), []⟩, ⟨(some 11), .call (.c (.fn 163 [])) [(.t 10)], (some (8, false)), []⟩, ⟨(some 12), .un .not (.t 11), (some (8, false)), []⟩, o 13 (.pick (.t 8) (.c (.bool true)) (.t 12)), o 14 (.mv (.t 13)), ⟨(some 15), .fa (.t 1) 0, (some (14, false)), []⟩, ⟨(some 16), .fa (.t 15) 0, (some (14, false)), []⟩, ⟨(some 17), .ld1 (.t 16), (some (14, false)), []⟩, ⟨(some 18), .bin .gtr (.t 17) (.c (i 3)), (some (14, false)), []⟩, ⟨(some 19), .mv (.t 18), (some (14, false)), []⟩, ⟨(some 20), .fa (.t 1) 0, (some (19, true)), []⟩, ⟨(some 21), .fa (.t 20) 0, (some (19, true)), []⟩, ⟨(some 22), .ld1 (.t 21), (some (19, true)), []⟩, ⟨(some 23), .bin .leq (.t 22) (.c (i 5)), (some (19, true)), []⟩, ⟨(some 24), .pick (.t 19) (.t 23) (.c (.bool false)), (some (14, false)), []⟩, o 25 (.pick (.t 14) (.c (.bool true)) (.t 24))])
 (.cond (.t 25) (.seq (g [o 2 (.mv (.c (.bool false)))])
 .ret)
 .skip))
 (.seq (.seq (g [o 26 (.ldN 7 (.t 1)), o 27 (.call (.c (.fn 89 [])) [(.t 26)]), o 28 (.bin .neq (.t 27) (.c (i 0)))])
 (.cond (.t 28) (.seq (g [o 2 (.mv (.c (.bool true)))])
 .ret)
 .skip))
 (.seq (g [o 29 (.ldN 7 (.t 1)), o 30 (.call (.c (.fn 90 [])) [(.t 29), (.c (i 4096))]), o 3 (.mv (.t 30))])
 (.seq (g [o 31 (.mv (.t 3)), o 32 (.bin .leq (.t 31) (.c (i 60))), o 33 (.mv (.t 32)), ⟨(some 34), .mv (.t 3), (some (33, false)), []⟩, ⟨(some 35), .bin .gtr (.t 34) (.c (i 4096)), (some (33, false)), []⟩, o 36 (.pick (.t 33) (.c (.bool true)) (.t 35)), o 2 (.mv (.t 36))])
 .ret)))))⟩

def v118_0 : AC := .dreg [0, 1, 3, 4, 5, 6, 2, 7, 8, 9, 10] [o 18 (.ldN 10 (.t 2)), o 19 (.ldN 1 (.t 3)), o 21 (.fa (.t 2) 7), o 22 (.fa (.t 21) 1), o 23 (.ld1 (.t 22)), o 24 (.lenS (.t 23)), o 20 .mkmap, o 25 (.mkslice 24 [.nils] (.t 24) (.t 24)), o 26 (.build [i 0, i 0, i 0, .nils, i 0, .nils, i 0, i 0, .nils, .nils, .nils, .nilm, .nils] [(0, 10, (.t 18)), (10, 1, (.t 19)), (11, 1, (.t 20)), (12, 1, (.t 25))]), o 27 (.box (.t 26)), o 7 (.mv (.t 27))] none
def v118_1 : AC := .dreg [0, 1, 2, 3, 4, 5, 6] [o 37 (.mv (.t 7)), o 38 (.nilck (.t 37)), o 39 (.fa (.t 38) 11), o 40 (.ld1 (.t 39)), o 41 (.ldN 8 (.t 9)), o 42 (.mv (.t 8)), e (.mput 8 (.t 40) (.t 41) (.t 42))] none
def v118_2 : AC := .dreg [0, 1, 2, 3, 4, 5, 6, 7, 8, 9, 10, 11, 12, 13, 14, 15, 16] [o 50 (.mv (.t 7)), o 51 (.nilck (.t 50)), o 52 (.fa (.t 51) 12), o 53 (.ld1 (.t 52)), o 54 (.mv (.t 11)), o 55 (.mv (.t 7)), o 56 (.nilck (.t 55)), o 57 (.fa (.t 56) 12), o 58 (.ld1 (.t 57)), o 59 (.mv (.t 11)), o 60 (.ixS 1 (.t 58) (.t 59)), o 61 (.ld1 (.t 60)), o 62 (.mv (.t 8)), o 63 (.bslice 1 [i 0] [(0, 1, (.t 62))]), ⟨(some 64), .app 1 8 (.t 61) (.t 63), none, [3]⟩, o 65 (.ixS 1 (.t 53) (.t 54)), e (.st 1 (.t 65) (.t 64))] none
def w118_0 : AC := .loop [7, 8, 30, 31, 32, 44, 45]
 (.seq (g [o 46 (.bin .lss (.t 45) (.c (i 5)))])
 (.seq (.cond (.t 46) .skip
 (.exit 2))
 (.seq (.block 3 (.seq (g [o 47 (.idx 5 1 false (.t 44) (.t 45)), o 11 (.mv (.t 47))])
 (.seq (g [o 48 (.mv (.t 11)), o 49 (.bin .geq (.t 48) (.c (i 0)))])
 (.cond (.t 49) v118_2
 .skip))))
 (g [o 66 (.bin .add (.t 45) (.c (i 1))), o 45 (.mv (.t 66))]))))
def w118_1 : AC := .loop [7, 30, 31, 32]
 (.seq (g [o 33 (.bin .lss (.t 32) (.t 31))])
 (.seq (.cond (.t 33) .skip
 (.exit 0))
 (.seq (.block 1 (.seq (g [o 34 (.mv (.t 32)), o 35 (.ixS 8 (.t 30) (.t 32)), o 36 (.ldN 8 (.t 35)), o 9 (.alloc [i 0, i 0, i 0, i 0, i 0, i 0, i 0, i 0]), o 8 (.mv (.t 34)), e (.st 8 (.t 9) (.t 36))])
 (.seq v118_1
 (.seq (g [o 43 (.fa (.t 9) 3), o 44 (.ldN 5 (.t 43)), o 45 (.mv (.c (i 0)))])
 (.block 2 w118_0)))))
 (g [o 67 (.bin .add (.t 32) (.c (i 1))), o 32 (.mv (.t 67))]))))
def c118 : AFunc := ⟨2, 69, [.tmp 4, .tmp 5],
 (.seq (g [o 2 (.box (.t 0)), o 3 (.box (.t 1)), o 4 (.mv (.c .nilp)), o 5 (.mv (.c (i 0)))])
 (.seq (.seq (g [o 12 (.ldN 10 (.t 2)), o 13 (.ldN 1 (.t 3)), o 14 (.call (.c (.fn 83 [])) [(.t 12), (.t 13)]), o 6 (.mv (.t 14))])
 (.seq (g [o 15 (.mv (.t 6)), o 16 (.bin .neq (.t 15) (.c (i 0)))])
 (.cond (.t 16) (.seq (g [o 17 (.mv (.t 6)), o 4 (.mv (.c .nilp)), o 5 (.mv (.t 17))])
 .ret)
 .skip)))
 (.seq v118_0
 (.seq (.seq (g [o 28 (.fa (.t 2) 7), o 29 (.fa (.t 28) 1), o 30 (.ld1 (.t 29)), o 31 (.lenS (.t 30)), o 32 (.mv (.c (i 0)))])
 (.block 0 w118_1))
 (.seq (g [o 68 (.mv (.t 7)), o 4 (.mv (.t 68)), o 5 (.mv (.c (i 0)))])
 .ret)))))⟩

def c119 : AFunc := ⟨1, 9, [.tmp 2, .tmp 3],
 (.seq (g [o 2 (.mv (.c .nils)), o 3 (.mv (.c (i 0)))])
 (.seq (.seq (g [o 4 (.mv (.t 0)), o 5 (.lenS (.t 4)), o 6 (.bin .gtr (.t 5) (.c (i 65536)))])
 (.cond (.t 6) (.seq (g [o 2 (.mv (.c .nils)), o 3 (.mv (.c (i 5)))])
 .ret)
 .skip))
 (.seq (g [o 7 (.mv (.t 0)), o 8 (.call (.c (.fn 164 [])) [(.t 7)]), o 2 (.mv (.t 8)), o 3 (.mv (.c (i 0)))])
 .ret)))⟩

def w120_0 : AC := .loop [0, 3, 4, 5, 6, 8, 34, 35, 36, 49, 50, 51]
 (.seq (g [o 52 (.bin .lss (.t 51) (.t 50))])
 (.seq (.cond (.t 52) .skip
 (.exit 4))
 (.seq (.block 5 (.seq (g [o 53 (.ixS 1 (.t 49) (.t 51)), o 54 (.ld1 (.t 53)), o 10 (.mv (.t 54))])
 (.seq (g [o 55 (.mv (.t 0)), o 56 (.mv (.t 3)), o 57 (.mv (.t 6)), o 58 (.mv (.t 10)), o 59 (.call (.c (.fn 165 [])) [(.t 55), (.t 56), (.t 57), (.t 58)])])
 (.cond (.t 59) (.seq (g [o 60 (.mv (.t 3)), o 61 (.mv (.t 6)), o 62 (.mv (.t 10)), o 63 (.ixS 1 (.t 60) (.t 61)), e (.st 1 (.t 63) (.t 62)), o 8 (.mv (.c (.bool true)))])
 (.exit 4))
 .skip))))
 (g [o 64 (.bin .add (.t 51) (.c (i 1))), o 51 (.mv (.t 64))]))))
def w120_1 : AC := .loop [0, 3, 4, 5, 34, 35, 36]
 (.seq (g [o 37 (.bin .lss (.t 36) (.t 35))])
 (.seq (.cond (.t 37) .skip
 (.exit 2))
 (.seq (.block 3 (.seq (g [o 38 (.mv (.t 36)), o 39 (.ixS 8 (.t 34) (.t 36)), o 40 (.ldN 8 (.t 39)), o 7 (.alloc [i 0, i 0, i 0, i 0, i 0, i 0, i 0, i 0]), o 6 (.mv (.t 38)), e (.st 8 (.t 7) (.t 40))])
 (.seq (.seq (g [o 41 (.fa (.t 7) 1), o 42 (.ld1 (.t 41)), o 43 (.mv (.t 4)), o 44 (.bin .neq (.t 42) (.t 43))])
 (.cond (.t 44) (.exit 3)
 .skip))
 (.seq (g [o 45 (.mv (.t 3)), o 46 (.mv (.t 6)), o 47 (.mv (.t 6)), o 48 (.ixS 1 (.t 45) (.t 46)), e (.st 1 (.t 48) (.t 47))])
 (.seq (g [o 8 (.mv (.c (.bool false)))])
 (.seq (.seq (g [o 49 (.mv (.t 5)), o 50 (.lenS (.t 49)), o 51 (.mv (.c (i 0)))])
 (.block 4 w120_0))
 (.seq (g [o 65 (.mv (.t 8)), o 66 (.un .not (.t 65))])
 (.cond (.t 66) (g [o 67 (.mv (.t 5)), o 68 (.mv (.t 6)), o 69 (.bslice 1 [i 0] [(0, 1, (.t 68))]), o 70 (.app 1 8 (.t 67) (.t 69)), o 5 (.mv (.t 70))])
 .skip))))))))
 (g [o 71 (.bin .add (.t 36) (.c (i 1))), o 36 (.mv (.t 71))]))))
def w120_2 : AC := .loop [0, 3, 4]
 (.seq (.seq (g [o 25 (.mv (.t 4)), o 26 (.bin .geq (.t 25) (.c (i 0)))])
 (.cond (.t 26) .skip
 (.exit 0)))
 (.seq (.block 1 (.seq (g [o 5 (.mv (.c .nils))])
 (.seq (g [o 29 (.mv (.t 0)), o 30 (.nilck (.t 29)), o 31 (.fa (.t 30) 0), o 32 (.fa (.t 31) 7), o 33 (.fa (.t 32) 1), o 34 (.ld1 (.t 33)), o 35 (.lenS (.t 34)), o 36 (.mv (.c (i 0)))])
 (.block 2 w120_1))))
 (g [o 27 (.mv (.t 4)), o 28 (.bin .sub (.t 27) (.c (i 1))), o 4 (.mv (.t 28))])))
def c120 : AFunc := ⟨1, 73, [.tmp 2],
 (.seq (g [o 2 (.mv (.c .nils))])
 (.seq (g [o 11 (.mv (.t 0)), o 12 (.nilck (.t 11)), o 13 (.fa (.t 12) 0), o 14 (.fa (.t 13) 7), o 15 (.fa (.t 14) 1), o 16 (.ld1 (.t 15)), o 17 (.lenS (.t 16)), o 18 (.mkslice 8 [i 0] (.t 17) (.t 17)), o 3 (.mv (.t 18))])
 (.seq (.seq (g [o 19 (.mv (.t 0)), o 20 (.nilck (.t 19)), o 21 (.fa (.t 20) 0), o 22 (.fa (.t 21) 0), o 23 (.fa (.t 22) 6), o 24 (.ld1 (.t 23)), o 4 (.mv (.t 24))])
 (.block 0 w120_2))
 (.seq (g [o 72 (.mv (.t 3)), o 2 (.mv (.t 72))])
 .ret))))⟩

def w121_0 : AC := .loop [10, 12, 40, 41, 42]
 (.seq (g [o 43 (.bin .lss (.t 42) (.t 41))])
 (.seq (.cond (.t 43) .skip
 (.exit 0))
 (.seq (.block 1 (.seq (g [o 44 (.ixS 1 (.t 40) (.t 42)), o 45 (.ld1 (.t 44)), o 14 (.mv (.t 45))])
 (g [o 46 (.mv (.t 12)), o 47 (.mv (.t 10)), o 48 (.mv (.t 14)), o 49 (.ixS 1 (.t 47) (.t 48)), o 50 (.ld1 (.t 49)), o 51 (.bslice 1 [i 0] [(0, 1, (.t 50))]), o 52 (.app 1 8 (.t 46) (.t 51)), o 12 (.mv (.t 52))])))
 (g [o 53 (.bin .add (.t 42) (.c (i 1))), o 42 (.mv (.t 53))]))))
def c121 : AFunc := ⟨4, 55, [.tmp 8, .tmp 9],
 (.seq (g [o 4 (.box (.t 0)), o 8 (.mv (.c .nils)), o 9 (.mv (.c (i 0)))])
 (.seq (.seq (g [o 15 (.mv (.t 2)), o 16 (.mv (.t 3)), o 17 (.bin .eql (.t 15) (.t 16))])
 (.cond (.t 17) (.seq (g [o 8 (.mv (.c .nils)), o 9 (.mv (.c (i 0)))])
 .ret)
 .skip))
 (.seq (g [o 19 (.fa (.t 4) 0), o 20 (.ldN 10 (.t 19)), o 21 (.fa (.t 4) 10), o 22 (.ld1 (.t 21)), o 23 (.mv (.t 1)), o 24 (.mv (.t 2)), o 25 (.mv (.t 3)), o 26 (.build [i 0, i 0, i 0] [(0, 1, (.t 23)), (1, 1, (.t 24)), (2, 1, (.t 25))]), o 27 (.call (.c (.fn 166 [])) [(.t 20), (.t 22), (.t 26)]), o 18 (.mv (.t 27)), o 28 (.ext (.t 18) 0), o 29 (.ext (.t 18) 1), o 10 (.mv (.t 28)), o 11 (.mv (.t 29))])
 (.seq (.seq (g [o 30 (.mv (.t 11)), o 31 (.bin .neq (.t 30) (.c (i 0)))])
 (.cond (.t 31) (.seq (g [o 32 (.mv (.t 11)), o 8 (.mv (.c .nils)), o 9 (.mv (.t 32))])
 .ret)
 .skip))
 (.seq (g [o 12 (.mv (.c .nils))])
 (.seq (.seq (g [o 33 (.fa (.t 4) 11), o 34 (.ld1 (.t 33)), o 35 (.mv (.t 1)), o 36 (.ixS 1 (.t 34) (.t 35)), o 37 (.ld1 (.t 36)), o 38 (.mv (.t 2)), o 39 (.ixS 1 (.t 37) (.t 38)), o 40 (.ld1 (.t 39)), o 41 (.lenS (.t 40)), o 42 (.mv (.c (i 0)))])
 (.block 0 w121_0))
 (.seq (g [o 54 (.mv (.t 12)), o 8 (.mv (.t 54)), o 9 (.mv (.c (i 0)))])
 .ret)))))))⟩

def v122_0 : AC := .dreg [0, 1, 2, 3, 4, 5, 6, 7, 8, 9] [o 38 (.mv (.t 8)), o 39 (.mv (.t 7)), o 40 (.mv (.t 8)), o 41 (.slcS 1 (.t 39) (some (.t 40)) none none), o 42 (.mv (.t 7)), o 43 (.mv (.t 8)), o 44 (.slcS 1 (.t 42) none (some (.t 43)) none), o 45 (.copy 1 (.t 41) (.t 44)), o 46 (.bin .add (.t 38) (.t 45)), o 8 (.mv (.t 46))] none
def w122_0 : AC := .loop [7, 8]
 (.seq (.seq (g [o 34 (.mv (.t 8)), o 35 (.mv (.t 7)), o 36 (.lenS (.t 35)), o 37 (.bin .lss (.t 34) (.t 36))])
 (.cond (.t 37) .skip
 (.exit 0)))
 (.block 1 v122_0))
def c122 : AFunc := ⟨2, 48, [.tmp 4],
 (.seq (g [o 4 (.mv (.c .nils))])
 (.seq (.seq (g [o 9 (.mv (.t 1)), o 10 (.bin .lss (.t 9) (.c (i 0)))])
 (.cond (.t 10) (g [o 11 .bad, e .bad])
 .skip))
 (.seq (g [o 13 (.mv (.t 0)), o 14 (.lenS (.t 13)), o 15 (.conv .u64 (.t 14)), o 16 (.mv (.t 1)), o 17 (.conv .u64 (.t 16)), o 18 (.call (.c (.fn 167 [])) [(.t 15), (.t 17)]), o 12 (.mv (.t 18)), o 19 (.ext (.t 12) 0), o 20 (.ext (.t 12) 1), o 5 (.mv (.t 19)), o 6 (.mv (.t 20))])
 (.seq (.seq (g [o 21 (.mv (.t 5)), o 22 (.bin .gtr (.t 21) (.c (.int .u64 0))), o 23 (.mv (.t 22)), ⟨(some 24), .mv (.t 6), (some (23, false)), []⟩, ⟨(some 25), .bin .gtr (.t 24) (.c (.int .u64 9223372036854775807)), (some (23, false)), []⟩, o 26 (.pick (.t 23) (.c (.bool true)) (.t 25))])
 (.cond (.t 26) (g [o 27 .bad, e .bad])
 .skip))
 (.seq (g [o 28 (.mv (.t 6)), o 29 (.conv .i64 (.t 28)), o 30 (.mkslice 8 [i 0] (.t 29) (.t 29)), o 7 (.mv (.t 30))])
 (.seq (g [o 31 (.mv (.t 7)), o 32 (.mv (.t 0)), o 33 (.copy 1 (.t 31) (.t 32)), o 8 (.mv (.t 33))])
 (.seq (.block 0 w122_0)
 (.seq (g [o 47 (.mv (.t 7)), o 4 (.mv (.t 47))])
 .ret))))))))⟩

def w123_0 : AC := .loop [0, 1, 6, 7, 8]
 (.seq (.seq (g [o 13 (.mv (.t 7)), o 14 (.mv (.t 8)), o 15 (.bin .lss (.t 13) (.t 14))])
 (.cond (.t 15) .skip
 (.exit 0)))
 (.block 1 (.seq (g [o 16 (.mv (.t 7)), o 17 (.mv (.t 8)), o 18 (.bin .add (.t 16) (.t 17)), o 19 (.conv .u64 (.t 18)), o 20 (.bin .shr (.t 19) (.c (.int .u64 1))), o 21 (.conv .i64 (.t 20)), o 9 (.mv (.t 21))])
 (.seq (g [o 22 (.mv (.t 0)), o 23 (.mv (.t 9)), o 24 (.ixS 1 (.t 22) (.t 23)), o 25 (.ld1 (.t 24)), o 26 (.mv (.t 1)), o 27 (.call (.c (.fn 168 [])) [(.t 25), (.t 26)])])
 (.cond (.t 27) (g [o 28 (.mv (.t 9)), o 29 (.bin .add (.t 28) (.c (i 1))), o 7 (.mv (.t 29))])
 (g [o 30 (.mv (.t 9)), o 8 (.mv (.t 30))]))))))
def c123 : AFunc := ⟨2, 54, [.tmp 4, .tmp 5],
 (.seq (g [o 4 (.mv (.c (i 0))), o 5 (.mv (.c (.bool false)))])
 (.seq (g [o 10 (.mv (.t 0)), o 11 (.lenS (.t 10)), o 6 (.mv (.t 11))])
 (.seq (g [o 12 (.mv (.t 6)), o 7 (.mv (.c (i 0))), o 8 (.mv (.t 12))])
 (.seq (.block 0 w123_0)
 (.seq (g [o 31 (.mv (.t 7)), o 32 (.mv (.t 7)), o 33 (.mv (.t 6)), o 34 (.bin .lss (.t 32) (.t 33)), o 35 (.mv (.t 34)), ⟨(some 36), .mv (.t 0), (some (35, true)), []⟩, ⟨(some 37), .mv (.t 7), (some (35, true)), []⟩, ⟨(some 38), .ixS 1 (.t 36) (.t 37), (some (35, true)), []⟩, ⟨(some 39), .ld1 (.t 38), (some (35, true)), []⟩, ⟨(some 40), .mv (.t 1), (some (35, true)), []⟩, ⟨(some 41), .bin .eql (.t 39) (.t 40), (some (35, true)), []⟩, ⟨(some 42), .mv (.t 41), (some (35, true)), []⟩, ⟨(some 43), .mv (.t 0), (some (42, false)), []⟩, ⟨(some 44), .mv (.t 7), (some (42, false)), []⟩, ⟨(some 45), .ixS 1 (.t 43) (.t 44), (some (42, false)), []⟩, ⟨(some 46), .ld1 (.t 45), (some (42, false)), []⟩, ⟨(some 47), .call (.c (.fn 169 [])) [(.t 46)], (some (42, false)), []⟩, ⟨(some 48), .mv (.t 47), (some (42, false)), []⟩, ⟨(some 49), .mv (.t 1), (some (48, true)), []⟩, ⟨(some 50), .call (.c (.fn 169 [])) [(.t 49)], (some (48, true)), []⟩, ⟨(some 51), .pick (.t 48) (.t 50) (.c (.bool false)), (some (42, false)), []⟩, ⟨(some 52), .pick (.t 42) (.c (.bool true)) (.t 51), (some (35, true)), []⟩, o 53 (.pick (.t 35) (.t 52) (.c (.bool false))), o 4 (.mv (.t 31)), o 5 (.mv (.t 53))])
 .ret)))))⟩

def c124 : AFunc := ⟨1, 18, [.tmp 2],
 (.seq (g [o 1 (.box (.t 0)), o 2 (.mv (.c (i 0)))])
 (.seq (g [o 6 (.fa (.t 1) 0), o 7 (.ldN 7 (.t 6)), o 8 (.call (.c (.fn 38 [])) [(.t 7)]), o 5 (.mv (.t 8)), o 9 (.ext (.t 5) 0), o 10 (.ext (.t 5) 1), o 3 (.alloc [i 0, i 0, i 0, .nils, i 0, .nils, i 0, i 0, .nils, .nils]), e (.st 10 (.t 3) (.t 9)), o 4 (.mv (.t 10))])
 (.seq (.seq (g [o 11 (.mv (.t 4)), o 12 (.bin .neq (.t 11) (.c (i 0)))])
 (.cond (.t 12) (.seq (g [o 13 (.mv (.t 4)), o 2 (.mv (.t 13))])
 .ret)
 .skip))
 (.seq (.seq (g [o 14 (.ldN 10 (.t 1)), o 15 (.ldN 10 (.t 3)), o 16 (.call (.c (.fn 170 [])) [(.t 14), (.t 15)]), o 17 (.un .not (.t 16))])
 (.cond (.t 17) (.seq (g [o 2 (.mv (.c (i 3)))])
 .ret)
 .skip))
 (.seq (g [o 2 (.mv (.c (i 0)))])
 .ret)))))⟩

def v125_0 : AC := .dreg [0, 1, 2, 3, 4, 5, 6, 7, 8, 9, 10, 11, 12, 13, 14, 15, 16, 17] [o 22 (.fa (.t 3) 0), o 23 (.ld1 (.t 22)), o 24 (.mv (.t 5)), o 25 (.ixS 1 (.t 23) (.t 24)), o 26 (.ld1 (.t 25)), o 27 (.bin .lss (.t 26) (.c (j 0))), o 28 (.mv (.t 27)), ⟨(some 29), .fa (.t 3) 0, (some (28, false)), []⟩, ⟨(some 30), .ld1 (.t 29), (some (28, false)), []⟩, ⟨(some 31), .mv (.t 5), (some (28, false)), []⟩, ⟨(some 32), .ixS 1 (.t 30) (.t 31), (some (28, false)), []⟩, ⟨(some 33), .ld1 (.t 32), (some (28, false)), []⟩, ⟨(some 34), .fa (.t 2) 0, (some (28, false)), []⟩, ⟨(some 35), .fa (.t 34) 0, (some (28, false)), []⟩, ⟨(some 36), .fa (.t 35) 2, (some (28, false)), []⟩, ⟨(some 37), .ld1 (.t 36), (some (28, false)), []⟩, ⟨(some 38), .bin .geq (.t 33) (.t 37), (some (28, false)), []⟩, o 39 (.pick (.t 28) (.c (.bool true)) (.t 38))] none
def v125_1 : AC := .dreg [0, 1, 2, 3, 4, 5, 6, 7, 8, 9, 10, 11, 12, 13, 14, 15, 16, 17, 18, 19, 20, 21, 22] [o 44 (.mv (.t 6)), o 45 (.bin .geq (.t 44) (.c (i 0))), o 46 (.mv (.t 45)), ⟨(some 47), .fa (.t 3) 0, (some (46, true)), []⟩, ⟨(some 48), .ld1 (.t 47), (some (46, true)), []⟩, ⟨(some 49), .mv (.t 6), (some (46, true)), []⟩, ⟨(some 50), .ixS 1 (.t 48) (.t 49), (some (46, true)), []⟩, ⟨(some 51), .ld1 (.t 50), (some (46, true)), []⟩, ⟨(some 52), .bin .geq (.t 51) (.c (i 0)), (some (46, true)), []⟩, o 53 (.pick (.t 46) (.t 52) (.c (.bool false))), o 54 (.mv (.t 53)), ⟨(some 55), .fa (.t 3) 0, (some (54, true)), []⟩, ⟨(some 56), .ld1 (.t 55), (some (54, true)), []⟩, ⟨(some 57), .mv (.t 5), (some (54, true)), []⟩, ⟨(some 58), .ixS 1 (.t 56) (.t 57), (some (54, true)), []⟩, ⟨(some 59), .ld1 (.t 58), (some (54, true)), []⟩, ⟨(some 60), .fa (.t 3) 0, (some (54, true)), []⟩, ⟨(some 61), .ld1 (.t 60), (some (54, true)), []⟩, ⟨(some 62), .mv (.t 6), (some (54, true)), []⟩, ⟨(some 63), .ixS 1 (.t 61) (.t 62), (some (54, true)), []⟩, ⟨(some 64), .ld1 (.t 63), (some (54, true)), []⟩, ⟨(some 65), .bin .neq (.t 59) (.t 64), (some (54, true)), []⟩, o 66 (.pick (.t 54) (.t 65) (.c (.bool false)))] none
def w125_0 : AC := .loop [2, 3, 5]
 (.seq (.seq (g [o 15 (.mv (.t 5)), o 16 (.fa (.t 3) 0), o 17 (.ld1 (.t 16)), o 18 (.lenS (.t 17)), o 19 (.bin .lss (.t 15) (.t 18))])
 (.cond (.t 19) .skip
 (.exit 0)))
 (.seq (.block 1 (.seq (.seq v125_0
 (.cond (.t 39) (.seq (g [o 4 (.mv (.c (i 2)))])
 .ret)
 .skip))
 (.seq (g [o 40 (.fa (.t 2) 7), o 41 (.ldN 2 (.t 40)), o 42 (.mv (.t 5)), o 43 (.call (.c (.fn 171 [])) [(.t 41), (.t 42)]), o 6 (.mv (.t 43))])
 (.seq v125_1
 (.cond (.t 66) (.seq (g [o 4 (.mv (.c (i 21)))])
 .ret)
 .skip)))))
 (g [o 20 (.mv (.t 5)), o 21 (.bin .add (.t 20) (.c (i 1))), o 5 (.mv (.t 21))])))
def c125 : AFunc := ⟨2, 67, [.tmp 4],
 (.seq (g [o 2 (.box (.t 0)), o 3 (.box (.t 1)), o 4 (.mv (.c (i 0)))])
 (.seq (.seq (g [o 7 (.fa (.t 3) 0), o 8 (.ld1 (.t 7)), o 9 (.lenS (.t 8)), o 10 (.fa (.t 2) 7), o 11 (.fa (.t 10) 1), o 12 (.ld1 (.t 11)), o 13 (.lenS (.t 12)), o 14 (.bin .neq (.t 9) (.t 13))])
 (.cond (.t 14) (.seq (g [o 4 (.mv (.c (i 15)))])
 .ret)
 .skip))
 (.seq (.seq (g [o 5 (.mv (.c (i 0)))])
 (.block 0 w125_0))
 (.seq (g [o 4 (.mv (.c (i 0)))])
 .ret))))⟩

def v126_0 : AC := .dreg [0, 1, 2, 3, 4, 5, 6] [o 17 (.ldN 10 (.t 2)), o 18 (.ldN 10 (.t 2)), o 19 (.ldN 1 (.t 3)), ⟨(some 20), .call (.c (.fn 172 [])) [(.t 18), (.t 19)], none, [0]⟩, o 21 (.build [i 0, i 0, i 0, .nils, i 0, .nils, i 0, i 0, .nils, .nils, .nils, .nils, .nils] [(0, 10, (.t 17)), (10, 1, (.t 20))]), o 5 (.alloc [i 0, i 0, i 0, .nils, i 0, .nils, i 0, i 0, .nils, .nils, .nils, .nils, .nils]), e (.st 13 (.t 5) (.t 21))] none
def w126_0 : AC := .loop [2, 4, 5, 6, 7, 8]
 (.seq (.seq (g [o 29 (.mv (.t 8)), o 30 (.fa (.t 2) 7), o 31 (.fa (.t 30) 0), o 32 (.ld1 (.t 31)), o 33 (.bin .lss (.t 29) (.t 32))])
 (.cond (.t 33) .skip
 (.exit 2)))
 (.seq (.block 3 (g [o 36 (.mv (.t 7)), o 37 (.ldN 10 (.t 2)), o 38 (.fa (.t 5) 10), o 39 (.ld1 (.t 38)), o 40 (.mv (.t 6)), o 41 (.mv (.t 8)), o 42 (.call (.c (.fn 173 [])) [(.t 37), (.t 39), (.t 40), (.t 41)]), o 43 (.bslice 1 [.nils] [(0, 1, (.t 42))]), o 44 (.app 1 24 (.t 36) (.t 43)), o 7 (.mv (.t 44))]))
 (g [o 34 (.mv (.t 8)), o 35 (.bin .add (.t 34) (.c (i 1))), o 8 (.mv (.t 35))])))
def w126_1 : AC := .loop [2, 4, 5, 6]
 (.seq (.seq (g [o 22 (.mv (.t 6)), o 23 (.fa (.t 2) 0), o 24 (.fa (.t 23) 6), o 25 (.ld1 (.t 24)), o 26 (.bin .leq (.t 22) (.t 25))])
 (.cond (.t 26) .skip
 (.exit 0)))
 (.seq (.block 1 (.seq (g [o 7 (.mv (.c .nils))])
 (.seq (.seq (g [o 8 (.mv (.c (i 0)))])
 (.block 2 w126_0))
 (g [o 45 (.fa (.t 5) 11), o 46 (.ld1 (.t 45)), o 47 (.mv (.t 7)), o 48 (.bslice 1 [.nils] [(0, 1, (.t 47))]), o 49 (.app 1 24 (.t 46) (.t 48)), o 50 (.fa (.t 5) 11), e (.st 1 (.t 50) (.t 49))]))))
 (g [o 27 (.mv (.t 6)), o 28 (.bin .add (.t 27) (.c (i 1))), o 6 (.mv (.t 28))])))
def w126_2 : AC := .loop [2, 4, 5, 9, 10, 11, 12, 13, 14, 15, 16]
 (.seq (.seq (g [o 83 (.mv (.t 16)), o 84 (.fa (.t 5) 11), o 85 (.ld1 (.t 84)), o 86 (.mv (.t 9)), o 87 (.ixS 1 (.t 85) (.t 86)), o 88 (.ld1 (.t 87)), o 89 (.mv (.t 11)), o 90 (.ixS 1 (.t 88) (.t 89)), o 91 (.ld1 (.t 90)), o 92 (.lenS (.t 91)), o 93 (.bin .lss (.t 83) (.t 92))])
 (.cond (.t 93) .skip
 (.exit 10)))
 (.seq (.block 11 (g [o 96 (.mv (.t 14)), o 97 (.mv (.t 15)), o 98 (.fa (.t 5) 11), o 99 (.ld1 (.t 98)), o 100 (.mv (.t 9)), o 101 (.ixS 1 (.t 99) (.t 100)), o 102 (.ld1 (.t 101)), o 103 (.mv (.t 11)), o 104 (.ixS 1 (.t 102) (.t 103)), o 105 (.ld1 (.t 104)), o 106 (.mv (.t 16)), o 107 (.ixS 1 (.t 105) (.t 106)), o 108 (.ld1 (.t 107)), o 109 (.ixS 1 (.t 97) (.t 108)), o 110 (.ld1 (.t 109)), o 111 (.bslice 1 [i 0] [(0, 1, (.t 110))]), o 112 (.app 1 8 (.t 96) (.t 111)), o 14 (.mv (.t 112))]))
 (g [o 94 (.mv (.t 16)), o 95 (.bin .add (.t 94) (.c (i 1))), o 16 (.mv (.t 95))])))
def w126_3 : AC := .loop [2, 4, 5, 9, 10, 11, 12, 13]
 (.seq (.seq (g [o 65 (.mv (.t 13)), o 66 (.fa (.t 2) 7), o 67 (.fa (.t 66) 0), o 68 (.ld1 (.t 67)), o 69 (.bin .lss (.t 65) (.t 68))])
 (.cond (.t 69) .skip
 (.exit 8)))
 (.seq (.block 9 (.seq (g [o 14 (.mv (.c .nils))])
 (.seq (.seq (g [o 72 (.mv (.t 11)), o 73 (.mv (.t 13)), o 74 (.bin .neq (.t 72) (.t 73))])
 (.cond (.t 74) (.seq (g [o 75 (.ldN 10 (.t 2)), o 76 (.fa (.t 5) 10), o 77 (.ld1 (.t 76)), o 78 (.mv (.t 9)), o 79 (.mv (.t 11)), o 80 (.mv (.t 13)), o 81 (.build [i 0, i 0, i 0] [(0, 1, (.t 78)), (1, 1, (.t 79)), (2, 1, (.t 80))]), o 82 (.call (.c (.fn 174 [])) [(.t 75), (.t 77), (.t 81)]), o 15 (.mv (.t 82))])
 (.seq (g [o 16 (.mv (.c (i 0)))])
 (.block 10 w126_2)))
 .skip))
 (g [o 113 (.mv (.t 12)), o 114 (.mv (.t 14)), o 115 (.bslice 1 [.nils] [(0, 1, (.t 114))]), o 116 (.app 1 24 (.t 113) (.t 115)), o 12 (.mv (.t 116))]))))
 (g [o 70 (.mv (.t 13)), o 71 (.bin .add (.t 70) (.c (i 1))), o 13 (.mv (.t 71))])))
def w126_4 : AC := .loop [2, 4, 5, 9, 10, 11]
 (.seq (.seq (g [o 58 (.mv (.t 11)), o 59 (.fa (.t 2) 7), o 60 (.fa (.t 59) 0), o 61 (.ld1 (.t 60)), o 62 (.bin .lss (.t 58) (.t 61))])
 (.cond (.t 62) .skip
 (.exit 6)))
 (.seq (.block 7 (.seq (g [o 12 (.mv (.c .nils))])
 (.seq (.seq (g [o 13 (.mv (.c (i 0)))])
 (.block 8 w126_3))
 (g [o 117 (.mv (.t 10)), o 118 (.mv (.t 12)), o 119 (.bslice 1 [.nils] [(0, 1, (.t 118))]), o 120 (.app 1 24 (.t 117) (.t 119)), o 10 (.mv (.t 120))]))))
 (g [o 63 (.mv (.t 11)), o 64 (.bin .add (.t 63) (.c (i 1))), o 11 (.mv (.t 64))])))
def w126_5 : AC := .loop [2, 4, 5, 9]
 (.seq (.seq (g [o 51 (.mv (.t 9)), o 52 (.fa (.t 2) 0), o 53 (.fa (.t 52) 6), o 54 (.ld1 (.t 53)), o 55 (.bin .lss (.t 51) (.t 54))])
 (.cond (.t 55) .skip
 (.exit 4)))
 (.seq (.block 5 (.seq (g [o 10 (.mv (.c .nils))])
 (.seq (.seq (g [o 11 (.mv (.c (i 0)))])
 (.block 6 w126_4))
 (g [o 121 (.fa (.t 5) 12), o 122 (.ld1 (.t 121)), o 123 (.mv (.t 10)), o 124 (.bslice 1 [.nils] [(0, 1, (.t 123))]), o 125 (.app 1 24 (.t 122) (.t 124)), o 126 (.fa (.t 5) 12), e (.st 1 (.t 126) (.t 125))]))))
 (g [o 56 (.mv (.t 9)), o 57 (.bin .add (.t 56) (.c (i 1))), o 9 (.mv (.t 57))])))
def c126 : AFunc := ⟨2, 128, [.cellN 4 13],
 (.seq (g [o 2 (.box (.t 0)), o 3 (.box (.t 1)), o 4 (.alloc [i 0, i 0, i 0, .nils, i 0, .nils, i 0, i 0, .nils, .nils, .nils, .nils, .nils])])
 (.seq v126_0
 (.seq (.seq (g [o 6 (.mv (.c (i 0)))])
 (.block 0 w126_1))
 (.seq (.seq (g [o 9 (.mv (.c (i 0)))])
 (.block 4 w126_5))
 (.seq (g [o 127 (.ldN 13 (.t 5)), e (.st 13 (.t 4) (.t 127))])
 .ret)))))⟩

def v127_0 : AC := .dreg [0, 1, 2, 3, 4, 5, 6, 7, 8, 9, 10, 11, 12, 13, 14, 15, 16] [o 13 (.fa (.t 2) 11), o 14 (.ld1 (.t 13)), o 15 (.fa (.t 5) 1), o 16 (.ld1 (.t 15)), o 17 (.ixS 1 (.t 14) (.t 16)), o 18 (.ld1 (.t 17)), o 19 (.fa (.t 5) 0), o 20 (.ld1 (.t 19)), o 21 (.ixS 1 (.t 18) (.t 20)), o 22 (.ld1 (.t 21)), o 23 (.fa (.t 2) 10), o 24 (.ld1 (.t 23)), o 25 (.mv (.t 1)), o 26 (.ixS 1 (.t 24) (.t 25)), o 27 (.ld1 (.t 26)), o 28 (.call (.c (.fn 175 [])) [(.t 22), (.t 27)]), o 4 (.mv (.t 28))] none
def c127 : AFunc := ⟨2, 29, [.tmp 4],
 (.seq (g [o 2 (.box (.t 0)), o 4 (.mv (.c (i 0)))])
 (.seq (g [o 6 (.fa (.t 2) 0), o 7 (.fa (.t 6) 7), o 8 (.fa (.t 7) 1), o 9 (.ld1 (.t 8)), o 10 (.mv (.t 1)), o 11 (.ixS 8 (.t 9) (.t 10)), o 12 (.ldN 8 (.t 11)), o 5 (.alloc [i 0, i 0, i 0, i 0, i 0, i 0, i 0, i 0]), e (.st 8 (.t 5) (.t 12))])
 (.seq v127_0
 .ret)))⟩

def v128_0 : AC := .dreg [0, 1, 2, 3, 4, 5, 6] [o 15 (.ldN 8 (.t 3)), o 16 (.mv (.t 0)), o 17 (.mv (.t 7)), o 18 (.ixS 8 (.t 16) (.t 17)), o 19 (.ldN 8 (.t 18)), o 20 (.call (.c (.fn 34 [])) [(.t 15), (.t 19)]), o 8 (.mv (.t 20))] none
def w128_0 : AC := .loop [0, 3, 5, 6, 7]
 (.seq (.seq (g [o 9 (.mv (.t 7)), o 10 (.mv (.t 0)), o 11 (.lenS (.t 10)), o 12 (.bin .lss (.t 9) (.t 11))])
 (.cond (.t 12) .skip
 (.exit 0)))
 (.seq (.block 1 (.seq v128_0
 (.seq (.seq (g [o 21 (.mv (.t 8)), o 22 (.bin .eql (.t 21) (.c (i 0)))])
 (.cond (.t 22) (.seq (g [o 23 (.mv (.t 0)), o 4 (.mv (.t 23))])
 .ret)
 .skip))
 (.seq (.seq (g [o 24 (.mv (.t 6)), o 25 (.un .not (.t 24)), o 26 (.mv (.t 25)), ⟨(some 27), .mv (.t 8), (some (26, true)), []⟩, ⟨(some 28), .bin .lss (.t 27) (.c (i 0)), (some (26, true)), []⟩, o 29 (.pick (.t 26) (.t 28) (.c (.bool false)))])
 (.cond (.t 29) (g [o 30 (.mv (.t 5)), o 31 (.ldN 8 (.t 3)), o 32 (.bslice 1 [i 0, i 0, i 0, i 0, i 0, i 0, i 0, i 0] [(0, 8, (.t 31))]), o 33 (.app 8 64 (.t 30) (.t 32)), o 5 (.mv (.t 33)), o 6 (.mv (.c (.bool true)))])
 .skip))
 (g [o 34 (.mv (.t 5)), o 35 (.mv (.t 0)), o 36 (.mv (.t 7)), o 37 (.ixS 8 (.t 35) (.t 36)), o 38 (.ldN 8 (.t 37)), o 39 (.bslice 1 [i 0, i 0, i 0, i 0, i 0, i 0, i 0, i 0] [(0, 8, (.t 38))]), o 40 (.app 8 64 (.t 34) (.t 39)), o 5 (.mv (.t 40))])))))
 (g [o 13 (.mv (.t 7)), o 14 (.bin .add (.t 13) (.c (i 1))), o 7 (.mv (.t 14))])))
def c128 : AFunc := ⟨2, 48, [.tmp 4],
 (.seq (g [o 3 (.box (.t 1)), o 4 (.mv (.c .nils))])
 (.seq (g [o 5 (.mv (.c .nils))])
 (.seq (g [o 6 (.mv (.c (.bool false)))])
 (.seq (.seq (g [o 7 (.mv (.c (i 0)))])
 (.block 0 w128_0))
 (.seq (.seq (g [o 41 (.mv (.t 6)), o 42 (.un .not (.t 41))])
 (.cond (.t 42) (g [o 43 (.mv (.t 5)), o 44 (.ldN 8 (.t 3)), o 45 (.bslice 1 [i 0, i 0, i 0, i 0, i 0, i 0, i 0, i 0] [(0, 8, (.t 44))]), o 46 (.app 8 64 (.t 43) (.t 45)), o 5 (.mv (.t 46))])
 .skip))
 (.seq (g [o 47 (.mv (.t 5)), o 4 (.mv (.t 47))])
 .ret))))))⟩

def v129_0 : AC := .dreg [0, 1, 2, 3, 4, 5, 6, 7, 8, 9, 10, 11, 12, 13, 14, 15, 16, 17, 18, 19, 20, 21] [o 37 (.mv (.t 7)), o 38 (.fa (.t 2) 12), o 39 (.ld1 (.t 38)), o 40 (.fa (.t 5) 1), o 41 (.ld1 (.t 40)), o 42 (.bin .sub (.t 41) (.c (i 1))), o 43 (.ixS 1 (.t 39) (.t 42)), o 44 (.ld1 (.t 43)), o 45 (.mv (.t 7)), o 46 (.ixS 1 (.t 44) (.t 45)), o 47 (.ld1 (.t 46)), o 48 (.fa (.t 5) 0), o 49 (.ld1 (.t 48)), o 50 (.ixS 1 (.t 47) (.t 49)), o 51 (.ld1 (.t 50)), o 52 (.ldN 13 (.t 2)), o 53 (.mv (.t 8)), ⟨(some 54), .call (.c (.fn 127 [])) [(.t 52), (.t 53)], none, [2, 4, 7, 10, 12, 14]⟩, o 55 (.ixS 1 (.t 51) (.t 54)), o 56 (.ld1 (.t 55)), o 57 (.ixA 5 1 (.t 6) (.t 37)), e (.st 1 (.t 57) (.t 56))] none
def w129_0 : AC := .loop [2, 4, 5, 6, 7]
 (.seq (.seq (g [o 16 (.mv (.t 7)), o 17 (.bin .lss (.t 16) (.c (i 5)))])
 (.cond (.t 17) .skip
 (.exit 0)))
 (.seq (.block 1 (.seq (g [o 20 (.mv (.t 7)), o 21 (.ixA 5 1 (.t 6) (.t 20)), e (.st 1 (.t 21) (.c (j 0)))])
 (.seq (g [o 22 (.mv (.t 7)), o 23 (.fa (.t 5) 3), o 24 (.ixA 5 1 (.t 23) (.t 22)), o 25 (.ld1 (.t 24)), o 8 (.mv (.t 25))])
 (.seq (g [o 26 (.mv (.t 8)), o 27 (.bin .geq (.t 26) (.c (i 0)))])
 (.cond (.t 27) (.seq (g [o 28 (.mv (.t 7)), o 29 (.ldN 13 (.t 2)), o 30 (.mv (.t 8)), o 31 (.call (.c (.fn 127 [])) [(.t 29), (.t 30)]), o 32 (.ixA 5 1 (.t 6) (.t 28)), e (.st 1 (.t 32) (.t 31))])
 (.seq (g [o 33 (.mv (.t 7)), o 34 (.fa (.t 5) 0), o 35 (.ld1 (.t 34)), o 36 (.bin .neq (.t 33) (.t 35))])
 (.cond (.t 36) v129_0
 .skip)))
 .skip)))))
 (g [o 18 (.mv (.t 7)), o 19 (.bin .add (.t 18) (.c (i 1))), o 7 (.mv (.t 19))])))
def c129 : AFunc := ⟨2, 59, [.cellN 4 5],
 (.seq (g [o 2 (.box (.t 0)), o 4 (.alloc [i 0, i 0, i 0, i 0, i 0])])
 (.seq (g [o 9 (.fa (.t 2) 0), o 10 (.fa (.t 9) 7), o 11 (.fa (.t 10) 1), o 12 (.ld1 (.t 11)), o 13 (.mv (.t 1)), o 14 (.ixS 8 (.t 12) (.t 13)), o 15 (.ldN 8 (.t 14)), o 5 (.alloc [i 0, i 0, i 0, i 0, i 0, i 0, i 0, i 0]), e (.st 8 (.t 5) (.t 15))])
 (.seq (g [o 6 (.alloc [i 0, i 0, i 0, i 0, i 0])])
 (.seq (.seq (g [o 7 (.mv (.c (i 0)))])
 (.block 0 w129_0))
 (.seq (g [o 58 (.ldN 5 (.t 6)), e (.st 5 (.t 4) (.t 58))])
 .ret)))))⟩

def c130 : AFunc := ⟨1, 39, [.tmp 2],
 (.seq (g [o 1 (.box (.t 0)), o 2 (.mv (.c (i 0)))])
 (.seq (g [o 6 (.fa (.t 1) 0), o 7 (.ldN 7 (.t 6)), o 8 (.call (.c (.fn 176 [])) [(.t 7)]), o 5 (.mv (.t 8)), o 9 (.ext (.t 5) 0), o 10 (.ext (.t 5) 1), o 3 (.alloc [i 0, i 0, i 0, .nils, i 0, .nils, i 0, i 0, .nils, .nils]), e (.st 10 (.t 3) (.t 9)), o 4 (.mv (.t 10))])
 (.seq (.seq (g [o 11 (.mv (.t 4)), o 12 (.bin .neq (.t 11) (.c (i 0)))])
 (.cond (.t 12) (.seq (g [o 13 (.mv (.t 4)), o 2 (.mv (.t 13))])
 .ret)
 .skip))
 (.seq (.seq (g [o 14 (.fa (.t 1) 7), o 15 (.fa (.t 14) 0), o 16 (.ld1 (.t 15)), o 17 (.fa (.t 3) 7), o 18 (.fa (.t 17) 0), o 19 (.ld1 (.t 18)), o 20 (.bin .neq (.t 16) (.t 19)), o 21 (.mv (.t 20)), ⟨(some 22), .fa (.t 1) 7, (some (21, false)), []⟩, ⟨(some 23), .fa (.t 22) 1, (some (21, false)), []⟩, ⟨(some 24), .ld1 (.t 23), (some (21, false)), []⟩, ⟨(some 25), .fa (.t 3) 7, (some (21, false)), []⟩, ⟨(some 26), .fa (.t 25) 1, (some (21, false)), []⟩, ⟨(some 27), .ld1 (.t 26), (some (21, false)), []⟩, ⟨(some 28), .call (.c (.fn 177 [])) [(.t 24), (.t 27)], (some (21, false)), []⟩, ⟨(some 29), .un .not (.t 28), (some (21, false)), []⟩, o 30 (.pick (.t 21) (.c (.bool true)) (.t 29)), o 31 (.mv (.t 30)), ⟨(some 32), .fa (.t 1) 9, (some (31, false)), []⟩, ⟨(some 33), .ld1 (.t 32), (some (31, false)), []⟩, ⟨(some 34), .fa (.t 3) 9, (some (31, false)), []⟩, ⟨(some 35), .ld1 (.t 34), (some (31, false)), []⟩, ⟨(some 36), .call (.c (.fn 178 [])) [(.t 33), (.t 35), (.c (.fn 179 []))], (some (31, false)), []⟩, ⟨(some 37), .un .not (.t 36), (some (31, false)), []⟩, o 38 (.pick (.t 31) (.c (.bool true)) (.t 37))])
 (.cond (.t 38) (.seq (g [o 2 (.mv (.c (i 3)))])
 .ret)
 .skip))
 (.seq (g [o 2 (.mv (.c (i 0)))])
 .ret)))))⟩

def w131_0 : AC := .loop [2, 3, 17, 18, 19]
 (.seq (g [o 20 (.bin .lss (.t 19) (.t 18))])
 (.seq (.cond (.t 20) .skip
 (.exit 0))
 (.seq (.block 1 (.seq (g [o 21 (.mv (.t 19)), o 22 (.ixS 1 (.t 17) (.t 19)), o 23 (.ld1 (.t 22)), o 5 (.mv (.t 21)), o 6 (.mv (.t 23))])
 (.seq (.seq (g [o 24 (.mv (.t 6)), o 25 (.bin .lss (.t 24) (.c (j 0))), o 26 (.mv (.t 25)), ⟨(some 27), .mv (.t 6), (some (26, false)), []⟩, ⟨(some 28), .fa (.t 2) 0, (some (26, false)), []⟩, ⟨(some 29), .fa (.t 28) 0, (some (26, false)), []⟩, ⟨(some 30), .fa (.t 29) 2, (some (26, false)), []⟩, ⟨(some 31), .ld1 (.t 30), (some (26, false)), []⟩, ⟨(some 32), .bin .geq (.t 27) (.t 31), (some (26, false)), []⟩, o 33 (.pick (.t 26) (.c (.bool true)) (.t 32))])
 (.cond (.t 33) (.seq (g [o 4 (.mv (.c (i 2)))])
 .ret)
 .skip))
 (.seq (g [o 34 (.fa (.t 2) 7), o 35 (.ldN 2 (.t 34)), o 36 (.mv (.t 5)), o 37 (.call (.c (.fn 180 [])) [(.t 35), (.t 36)]), o 7 (.mv (.t 37))])
 (.seq (g [o 38 (.mv (.t 7)), o 39 (.bin .geq (.t 38) (.c (i 0))), o 40 (.mv (.t 39)), ⟨(some 41), .fa (.t 3) 0, (some (40, true)), []⟩, ⟨(some 42), .ld1 (.t 41), (some (40, true)), []⟩, ⟨(some 43), .mv (.t 7), (some (40, true)), []⟩, ⟨(some 44), .ixS 1 (.t 42) (.t 43), (some (40, true)), []⟩, ⟨(some 45), .ld1 (.t 44), (some (40, true)), []⟩, ⟨(some 46), .bin .geq (.t 45) (.c (i 0)), (some (40, true)), []⟩, o 47 (.pick (.t 40) (.t 46) (.c (.bool false))), o 48 (.mv (.t 47)), ⟨(some 49), .fa (.t 3) 0, (some (48, true)), []⟩, ⟨(some 50), .ld1 (.t 49), (some (48, true)), []⟩, ⟨(some 51), .mv (.t 7), (some (48, true)), []⟩, ⟨(some 52), .ixS 1 (.t 50) (.t 51), (some (48, true)), []⟩, ⟨(some 53), .ld1 (.t 52), (some (48, true)), []⟩, ⟨(some 54), .mv (.t 6), (some (48, true)), []⟩, ⟨(some 55), .bin .neq (.t 53) (.t 54), (some (48, true)), []⟩, o 56 (.pick (.t 48) (.t 55) (.c (.bool false)))])
 (.cond (.t 56) (.seq (g [o 4 (.mv (.c (i 21)))])
 .ret)
 .skip))))))
 (g [o 57 (.bin .add (.t 19) (.c (i 1))), o 19 (.mv (.t 57))]))))
def c131 : AFunc := ⟨2, 58, [.tmp 4],
 (.seq (g [o 2 (.box (.t 0)), o 3 (.box (.t 1)), o 4 (.mv (.c (i 0)))])
 (.seq (.seq (g [o 8 (.fa (.t 3) 0), o 9 (.ld1 (.t 8)), o 10 (.lenS (.t 9)), o 11 (.fa (.t 2) 7), o 12 (.fa (.t 11) 1), o 13 (.ld1 (.t 12)), o 14 (.lenS (.t 13)), o 15 (.bin .neq (.t 10) (.t 14))])
 (.cond (.t 15) (.seq (g [o 4 (.mv (.c (i 15)))])
 .ret)
 .skip))
 (.seq (.seq (g [o 16 (.fa (.t 3) 0), o 17 (.ld1 (.t 16)), o 18 (.lenS (.t 17)), o 19 (.mv (.c (i 0)))])
 (.block 0 w131_0))
 (.seq (g [o 4 (.mv (.c (i 0)))])
 .ret))))⟩

def v132_0 : AC := .dreg [0, 1, 2, 3, 4, 5, 6, 7, 8, 9, 10, 11, 12, 13, 14, 15, 16] [o 18 (.mv (.t 9)), o 19 (.mv (.t 1)), o 20 (.bin .gtr (.t 18) (.t 19)), o 21 (.mv (.t 20)), ⟨(some 22), .mv (.t 3), (some (21, true)), []⟩, ⟨(some 23), .mv (.t 0), (some (21, true)), []⟩, ⟨(some 24), .mv (.t 9), (some (21, true)), []⟩, ⟨(some 25), .ixS 8 (.t 23) (.t 24), (some (21, true)), []⟩, ⟨(some 26), .ldN 8 (.t 25), (some (21, true)), []⟩, ⟨(some 27), .mv (.t 0), (some (21, true)), []⟩, ⟨(some 28), .mv (.t 9), (some (21, true)), []⟩, ⟨(some 29), .bin .sub (.t 28) (.c (i 1)), (some (21, true)), []⟩, ⟨(some 30), .ixS 8 (.t 27) (.t 29), (some (21, true)), []⟩, ⟨(some 31), .ldN 8 (.t 30), (some (21, true)), []⟩, ⟨(some 32), .call (.t 22) [(.t 26), (.t 31)], (some (21, true)), []⟩, ⟨(some 33), .bin .lss (.t 32) (.c (i 0)), (some (21, true)), []⟩, o 34 (.pick (.t 21) (.t 33) (.c (.bool false)))] none
def v132_1 : AC := .dreg [0, 1, 2, 3, 4, 5, 6, 7, 8, 9, 10, 11, 12, 13, 14, 15, 16, 17] [o 37 (.mv (.t 0)), o 38 (.mv (.t 9)), o 39 (.mv (.t 0)), o 40 (.mv (.t 9)), o 41 (.bin .sub (.t 40) (.c (i 1))), o 42 (.mv (.t 0)), o 43 (.mv (.t 9)), o 44 (.bin .sub (.t 43) (.c (i 1))), o 45 (.ixS 8 (.t 42) (.t 44)), o 46 (.ldN 8 (.t 45)), o 47 (.mv (.t 0)), o 48 (.mv (.t 9)), o 49 (.ixS 8 (.t 47) (.t 48)), o 50 (.ldN 8 (.t 49)), o 51 (.ixS 8 (.t 37) (.t 38)), e (.st 8 (.t 51) (.t 46)), o 52 (.ixS 8 (.t 39) (.t 41)), e (.st 8 (.t 52) (.t 50))] none
def w132_0 : AC := .loop [0, 1, 2, 3, 8, 9]
 (.seq (.seq v132_0
 (.cond (.t 34) .skip
 (.exit 2)))
 (.seq (.block 3 v132_1)
 (g [o 35 (.mv (.t 9)), o 36 (.bin .sub (.t 35) (.c (i 1))), o 9 (.mv (.t 36))])))
def w132_1 : AC := .loop [0, 1, 2, 3, 8]
 (.seq (.seq (g [o 12 (.mv (.t 8)), o 13 (.mv (.t 2)), o 14 (.bin .lss (.t 12) (.t 13))])
 (.cond (.t 14) .skip
 (.exit 0)))
 (.seq (.block 1 (.seq (g [o 17 (.mv (.t 8)), o 9 (.mv (.t 17))])
 (.block 2 w132_0)))
 (g [o 15 (.mv (.t 8)), o 16 (.bin .add (.t 15) (.c (i 1))), o 8 (.mv (.t 16))])))
def c132 : AFunc := ⟨4, 53, [],
 (.seq (g [o 10 (.mv (.t 1)), o 11 (.bin .add (.t 10) (.c (i 1))), o 8 (.mv (.t 11))])
 (.block 0 w132_1))⟩

def w133_0 : AC := .loop [0, 3, 8, 9, 10, 11]
 (.seq (.seq (g [o 20 (.mv (.t 11)), o 21 (.bin .geq (.t 20) (.c (i 0)))])
 (.cond (.t 21) .skip
 (.exit 0)))
 (.seq (.block 1 (g [o 24 (.mv (.t 0)), o 25 (.mv (.t 11)), o 26 (.mv (.t 10)), o 27 (.mv (.t 8)), o 28 (.mv (.t 3)), o 29 (.call (.c (.fn 181 [])) [(.t 24), (.t 25), (.t 26), (.t 27), (.t 28)])]))
 (g [o 22 (.mv (.t 11)), o 23 (.bin .sub (.t 22) (.c (i 1))), o 11 (.mv (.t 23))])))
def v133_0 : AC := .dreg [0, 1, 2, 3, 4, 5, 6, 7, 8, 9, 10, 11, 12, 13, 14, 15, 16, 17, 18, 19] [o 36 (.mv (.t 0)), o 37 (.mv (.t 8)), o 38 (.mv (.t 0)), o 39 (.mv (.t 8)), o 40 (.mv (.t 12)), o 41 (.bin .add (.t 39) (.t 40)), o 42 (.mv (.t 0)), o 43 (.mv (.t 8)), o 44 (.mv (.t 12)), o 45 (.bin .add (.t 43) (.t 44)), o 46 (.ixS 8 (.t 42) (.t 45)), o 47 (.ldN 8 (.t 46)), o 48 (.mv (.t 0)), o 49 (.mv (.t 8)), o 50 (.ixS 8 (.t 48) (.t 49)), o 51 (.ldN 8 (.t 50)), o 52 (.ixS 8 (.t 36) (.t 37)), e (.st 8 (.t 52) (.t 47)), o 53 (.ixS 8 (.t 38) (.t 41)), e (.st 8 (.t 53) (.t 51))] none
def w133_1 : AC := .loop [0, 3, 8, 9, 12]
 (.seq (.seq (g [o 32 (.mv (.t 12)), o 33 (.bin .geq (.t 32) (.c (i 0)))])
 (.cond (.t 33) .skip
 (.exit 2)))
 (.seq (.block 3 (.seq v133_0
 (g [o 54 (.mv (.t 0)), o 55 (.mv (.t 9)), o 56 (.mv (.t 12)), o 57 (.mv (.t 8)), o 58 (.mv (.t 3)), o 59 (.call (.c (.fn 181 [])) [(.t 54), (.t 55), (.t 56), (.t 57), (.t 58)])])))
 (g [o 34 (.mv (.t 12)), o 35 (.bin .sub (.t 34) (.c (i 1))), o 12 (.mv (.t 35))])))
def c133 : AFunc := ⟨4, 60, [],
 (.seq (g [o 13 (.mv (.t 1)), o 8 (.mv (.t 13))])
 (.seq (g [o 9 (.mv (.c (i 0)))])
 (.seq (g [o 14 (.mv (.t 2)), o 15 (.mv (.t 1)), o 16 (.bin .sub (.t 14) (.t 15)), o 10 (.mv (.t 16))])
 (.seq (.seq (g [o 17 (.mv (.t 10)), o 18 (.bin .sub (.t 17) (.c (i 1))), o 19 (.bin .quo (.t 18) (.c (i 2))), o 11 (.mv (.t 19))])
 (.block 0 w133_0))
 (.seq (g [o 30 (.mv (.t 10)), o 31 (.bin .sub (.t 30) (.c (i 1))), o 12 (.mv (.t 31))])
 (.block 2 w133_1))))))⟩

def v134_0 : AC := .dreg [0, 1, 2, 3, 4, 5, 6, 7, 8, 9, 10, 11, 12, 13, 14, 15, 16, 17, 18, 19] [o 49 (.mv (.t 0)), o 50 (.mv (.t 11)), o 51 (.mv (.t 0)), o 52 (.mv (.t 1)), o 53 (.mv (.t 12)), o 54 (.bin .add (.t 52) (.t 53)), o 55 (.mv (.t 0)), o 56 (.mv (.t 1)), o 57 (.mv (.t 12)), o 58 (.bin .add (.t 56) (.t 57)), o 59 (.ixS 8 (.t 55) (.t 58)), o 60 (.ldN 8 (.t 59)), o 61 (.mv (.t 0)), o 62 (.mv (.t 11)), o 63 (.ixS 8 (.t 61) (.t 62)), o 64 (.ldN 8 (.t 63)), o 65 (.ixS 8 (.t 49) (.t 50)), e (.st 8 (.t 65) (.t 60)), o 66 (.ixS 8 (.t 51) (.t 54)), e (.st 8 (.t 66) (.t 64))] none
def w134_0 : AC := .loop [0, 1, 8, 9, 10, 11]
 (.seq (.seq (g [o 28 (.mv (.t 11)), o 29 (.mv (.t 1)), o 30 (.mv (.t 8)), o 31 (.bin .quo (.t 30) (.c (i 4))), o 32 (.bin .mul (.t 31) (.c (i 2))), o 33 (.bin .add (.t 29) (.t 32)), o 34 (.bin .add (.t 33) (.c (i 1))), o 35 (.bin .leq (.t 28) (.t 34))])
 (.cond (.t 35) .skip
 (.exit 0)))
 (.seq (.block 1 (.seq (g [o 38 (.call (.c (.fn 183 [])) [(.t 9)]), o 39 (.mv (.t 10)), o 40 (.bin .sub (.t 39) (.c (.int .u64 1))), o 41 (.bin .and (.t 38) (.t 40)), o 42 (.conv .i64 (.t 41)), o 12 (.mv (.t 42))])
 (.seq (.seq (g [o 43 (.mv (.t 12)), o 44 (.mv (.t 8)), o 45 (.bin .geq (.t 43) (.t 44))])
 (.cond (.t 45) (g [o 46 (.mv (.t 12)), o 47 (.mv (.t 8)), o 48 (.bin .sub (.t 46) (.t 47)), o 12 (.mv (.t 48))])
 .skip))
 v134_0)))
 (g [o 36 (.mv (.t 11)), o 37 (.bin .add (.t 36) (.c (i 1))), o 11 (.mv (.t 37))])))
def c134 : AFunc := ⟨4, 67, [],
 (.seq (g [o 13 (.mv (.t 2)), o 14 (.mv (.t 1)), o 15 (.bin .sub (.t 13) (.t 14)), o 8 (.mv (.t 15))])
 (.seq (g [o 16 (.mv (.t 8)), o 17 (.bin .geq (.t 16) (.c (i 8)))])
 (.cond (.t 17) (.seq (g [o 18 (.mv (.t 8)), o 19 (.conv .u64 (.t 18)), o 9 (.alloc [.int .u64 0]), e (.st 1 (.t 9) (.t 19))])
 (.seq (g [o 20 (.mv (.t 8)), o 21 (.call (.c (.fn 182 [])) [(.t 20)]), o 10 (.mv (.t 21))])
 (.seq (g [o 22 (.mv (.t 1)), o 23 (.mv (.t 8)), o 24 (.bin .quo (.t 23) (.c (i 4))), o 25 (.bin .mul (.t 24) (.c (i 2))), o 26 (.bin .add (.t 22) (.t 25)), o 27 (.bin .sub (.t 26) (.c (i 1))), o 11 (.mv (.t 27))])
 (.block 0 w134_0))))
 .skip)))⟩

end Go.Vm.Code
