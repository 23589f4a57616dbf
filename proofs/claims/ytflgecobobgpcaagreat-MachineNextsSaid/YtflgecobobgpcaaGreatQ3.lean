/-
  The code is the program's, third part. Conditions: none beyond those that each statement names.
-/
import Derived.Test.YtflgecobobgpcaaGreatChecked
import Derived.Test.YtflgecobobgpcaaGreatVD
import Derived.Test.YtflgecobobgpcaaGreatCB
namespace Go.Vm.Code
open Go.Vm Go.Proofs
theorem k6 : chkF Tryz.prog 6 c6 = true := by decide +kernel
theorem k17 : chkF Tryz.prog 17 c17 = true := by decide +kernel
theorem k18 : chkF Tryz.prog 18 c18 = true := by decide +kernel
theorem k20 : chkF Tryz.prog 20 c20 = true := by decide +kernel
theorem k27 : chkF Tryz.prog 27 c27 = true := by decide +kernel
theorem k28 : chkF Tryz.prog 28 c28 = true := by decide +kernel
theorem k31 : chkF Tryz.prog 31 c31 = true := by decide +kernel
theorem k33 : chkF Tryz.prog 33 c33 = true := by decide +kernel
theorem k36 : chkF Tryz.prog 36 c36 = true := by decide +kernel
theorem k37 : chkF Tryz.prog 37 c37 = true := by decide +kernel
theorem k52 : chkF Tryz.prog 52 c52 = true := by decide +kernel
theorem k53 : chkF Tryz.prog 53 c53 = true := by decide +kernel
theorem k57 : chkF Tryz.prog 57 c57 = true := by decide +kernel
theorem k59 : chkF Tryz.prog 59 c59 = true := by decide +kernel
theorem k63 : chkF Tryz.prog 63 c63 = true := by decide +kernel
theorem k66 : chkF Tryz.prog 66 c66 = true := by decide +kernel
theorem k72 : chkF Tryz.prog 72 c72 = true := by decide +kernel
theorem k73 : chkF Tryz.prog 73 c73 = true := by decide +kernel
theorem k83 : chkF Tryz.prog 83 c83 = true := by decide +kernel
theorem k86 : chkF Tryz.prog 86 c86 = true := by decide +kernel
theorem k88 : chkF Tryz.prog 88 c88 = true := by decide +kernel
theorem k91 : chkF Tryz.prog 91 c91 = true := by decide +kernel
theorem k93 : chkF Tryz.prog 93 c93 = true := by decide +kernel
theorem k101 : chkF Tryz.prog 101 c101 = true := by decide +kernel
theorem k103 : chkF Tryz.prog 103 c103 = true := by decide +kernel
theorem k104 : chkF Tryz.prog 104 c104 = true := by decide +kernel
theorem k109 : chkF Tryz.prog 109 c109 = true := by decide +kernel
theorem k111 : chkF Tryz.prog 111 c111 = true := by decide +kernel
theorem k112 : chkF Tryz.prog 112 c112 = true := by decide +kernel
theorem k114 : chkF Tryz.prog 114 c114 = true := by decide +kernel
theorem k115 : chkF Tryz.prog 115 c115 = true := by decide +kernel
theorem k122 : chkF Tryz.prog 122 c122 = true := by decide +kernel
theorem k123 : chkF Tryz.prog 123 c123 = true := by decide +kernel
theorem k125 : chkF Tryz.prog 125 c125 = true := by decide +kernel
theorem k133 : chkF Tryz.prog 133 c133 = true := by decide +kernel
theorem k135 : chkF Tryz.prog 135 c135 = true := by decide +kernel
theorem k138 : chkF Tryz.prog 138 c138 = true := by decide +kernel
theorem k139 : chkF Tryz.prog 139 c139 = true := by decide +kernel
theorem k142 : chkF Tryz.prog 142 c142 = true := by decide +kernel
theorem k145 : chkF Tryz.prog 145 c145 = true := by decide +kernel
theorem k146 : chkF Tryz.prog 146 c146 = true := by decide +kernel
theorem k149 : chkF Tryz.prog 149 c149 = true := by decide +kernel
theorem k154 : chkF Tryz.prog 154 c154 = true := by decide +kernel
theorem k163 : chkF Tryz.prog 163 c163 = true := by decide +kernel
theorem k166 : chkF Tryz.prog 166 c166 = true := by decide +kernel
theorem k170 : chkF Tryz.prog 170 c170 = true := by decide +kernel
theorem k174 : chkF Tryz.prog 174 c174 = true := by decide +kernel
theorem k175 : chkF Tryz.prog 175 c175 = true := by decide +kernel
theorem k183 : chkF Tryz.prog 183 c183 = true := by decide +kernel
theorem k186 : chkF Tryz.prog 186 c186 = true := by decide +kernel
theorem k188 : chkF Tryz.prog 188 c188 = true := by decide +kernel
theorem k189 : chkF Tryz.prog 189 c189 = true := by decide +kernel
theorem k192 : chkF Tryz.prog 192 c192 = true := by decide +kernel
theorem k195 : chkF Tryz.prog 195 c195 = true := by decide +kernel
theorem k211 : chkF Tryz.prog 211 c211 = true := by decide +kernel
theorem k218 : chkF Tryz.prog 218 c218 = true := by decide +kernel
theorem k219 : chkF Tryz.prog 219 c219 = true := by decide +kernel
theorem k229 : chkF Tryz.prog 229 c229 = true := by decide +kernel
theorem k230 : chkF Tryz.prog 230 c230 = true := by decide +kernel
theorem k232 : chkF Tryz.prog 232 c232 = true := by decide +kernel
theorem k235 : chkF Tryz.prog 235 c235 = true := by decide +kernel
theorem k239 : chkF Tryz.prog 239 c239 = true := by decide +kernel
theorem k246 : chkF Tryz.prog 246 c246 = true := by decide +kernel
theorem k249 : chkF Tryz.prog 249 c249 = true := by decide +kernel
theorem k258 : chkF Tryz.prog 258 c258 = true := by decide +kernel
theorem k261 : chkF Tryz.prog 261 c261 = true := by decide +kernel
theorem k262 : chkF Tryz.prog 262 c262 = true := by decide +kernel
theorem k263 : chkF Tryz.prog 263 c263 = true := by decide +kernel
theorem k265 : chkF Tryz.prog 265 c265 = true := by decide +kernel
theorem k267 : chkF Tryz.prog 267 c267 = true := by decide +kernel
end Go.Vm.Code
