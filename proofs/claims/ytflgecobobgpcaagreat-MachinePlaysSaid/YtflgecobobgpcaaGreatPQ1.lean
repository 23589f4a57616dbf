/-
  The code is the program's, first part. Conditions: none beyond those that each statement names.
-/
import Derived.Test.YtflgecobobgpcaaGreatChecked
import Derived.Test.YtflgecobobgpcaaGreatPVD
import Derived.Test.YtflgecobobgpcaaGreatPCB
namespace Go.Vm.Code
open Go.Vm Go.Proofs
theorem k3 : chkF Tryz.prog 3 c3 = true := by decide +kernel
theorem k5 : chkF Tryz.prog 5 c5 = true := by decide +kernel
theorem k9 : chkF Tryz.prog 9 c9 = true := by decide +kernel
theorem k10 : chkF Tryz.prog 10 c10 = true := by decide +kernel
theorem k13 : chkF Tryz.prog 13 c13 = true := by decide +kernel
theorem k14 : chkF Tryz.prog 14 c14 = true := by decide +kernel
theorem k15 : chkF Tryz.prog 15 c15 = true := by decide +kernel
theorem k30 : chkF Tryz.prog 30 c30 = true := by decide +kernel
theorem k33 : chkF Tryz.prog 33 c33 = true := by decide +kernel
theorem k39 : chkF Tryz.prog 39 c39 = true := by decide +kernel
theorem k41 : chkF Tryz.prog 41 c41 = true := by decide +kernel
theorem k43 : chkF Tryz.prog 43 c43 = true := by decide +kernel
theorem k47 : chkF Tryz.prog 47 c47 = true := by decide +kernel
theorem k49 : chkF Tryz.prog 49 c49 = true := by decide +kernel
theorem k50 : chkF Tryz.prog 50 c50 = true := by decide +kernel
theorem k51 : chkF Tryz.prog 51 c51 = true := by decide +kernel
theorem k55 : chkF Tryz.prog 55 c55 = true := by decide +kernel
theorem k62 : chkF Tryz.prog 62 c62 = true := by decide +kernel
theorem k67 : chkF Tryz.prog 67 c67 = true := by decide +kernel
theorem k70 : chkF Tryz.prog 70 c70 = true := by decide +kernel
theorem k77 : chkF Tryz.prog 77 c77 = true := by decide +kernel
theorem k78 : chkF Tryz.prog 78 c78 = true := by decide +kernel
theorem k79 : chkF Tryz.prog 79 c79 = true := by decide +kernel
theorem k82 : chkF Tryz.prog 82 c82 = true := by decide +kernel
theorem k86 : chkF Tryz.prog 86 c86 = true := by decide +kernel
theorem k88 : chkF Tryz.prog 88 c88 = true := by decide +kernel
theorem k92 : chkF Tryz.prog 92 c92 = true := by decide +kernel
theorem k93 : chkF Tryz.prog 93 c93 = true := by decide +kernel
theorem k94 : chkF Tryz.prog 94 c94 = true := by decide +kernel
theorem k97 : chkF Tryz.prog 97 c97 = true := by decide +kernel
theorem k100 : chkF Tryz.prog 100 c100 = true := by decide +kernel
theorem k102 : chkF Tryz.prog 102 c102 = true := by decide +kernel
theorem k106 : chkF Tryz.prog 106 c106 = true := by decide +kernel
theorem k113 : chkF Tryz.prog 113 c113 = true := by decide +kernel
theorem k115 : chkF Tryz.prog 115 c115 = true := by decide +kernel
theorem k118 : chkF Tryz.prog 118 c118 = true := by decide +kernel
theorem k130 : chkF Tryz.prog 130 c130 = true := by decide +kernel
theorem k131 : chkF Tryz.prog 131 c131 = true := by decide +kernel
theorem k140 : chkF Tryz.prog 140 c140 = true := by decide +kernel
theorem k141 : chkF Tryz.prog 141 c141 = true := by decide +kernel
theorem k143 : chkF Tryz.prog 143 c143 = true := by decide +kernel
theorem k150 : chkF Tryz.prog 150 c150 = true := by decide +kernel
theorem k152 : chkF Tryz.prog 152 c152 = true := by decide +kernel
theorem k155 : chkF Tryz.prog 155 c155 = true := by decide +kernel
theorem k162 : chkF Tryz.prog 162 c162 = true := by decide +kernel
theorem k168 : chkF Tryz.prog 168 c168 = true := by decide +kernel
theorem k178 : chkF Tryz.prog 178 c178 = true := by decide +kernel
theorem k182 : chkF Tryz.prog 182 c182 = true := by decide +kernel
theorem k193 : chkF Tryz.prog 193 c193 = true := by decide +kernel
theorem k194 : chkF Tryz.prog 194 c194 = true := by decide +kernel
theorem k202 : chkF Tryz.prog 202 c202 = true := by decide +kernel
theorem k204 : chkF Tryz.prog 204 c204 = true := by decide +kernel
theorem k208 : chkF Tryz.prog 208 c208 = true := by decide +kernel
theorem k210 : chkF Tryz.prog 210 c210 = true := by decide +kernel
theorem k213 : chkF Tryz.prog 213 c213 = true := by decide +kernel
theorem k214 : chkF Tryz.prog 214 c214 = true := by decide +kernel
theorem k216 : chkF Tryz.prog 216 c216 = true := by decide +kernel
theorem k217 : chkF Tryz.prog 217 c217 = true := by decide +kernel
theorem k226 : chkF Tryz.prog 226 c226 = true := by decide +kernel
theorem k227 : chkF Tryz.prog 227 c227 = true := by decide +kernel
theorem k240 : chkF Tryz.prog 240 c240 = true := by decide +kernel
theorem k242 : chkF Tryz.prog 242 c242 = true := by decide +kernel
theorem k254 : chkF Tryz.prog 254 c254 = true := by decide +kernel
theorem k260 : chkF Tryz.prog 260 c260 = true := by decide +kernel
theorem k264 : chkF Tryz.prog 264 c264 = true := by decide +kernel
theorem k267 : chkF Tryz.prog 267 c267 = true := by decide +kernel
theorem k271 : chkF Tryz.prog 271 c271 = true := by decide +kernel
theorem k280 : chkF Tryz.prog 280 c280 = true := by decide +kernel
theorem k281 : chkF Tryz.prog 281 c281 = true := by decide +kernel
theorem k283 : chkF Tryz.prog 283 c283 = true := by decide +kernel
end Go.Vm.Code
