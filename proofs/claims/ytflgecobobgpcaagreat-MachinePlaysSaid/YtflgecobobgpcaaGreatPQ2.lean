/-
  The code is the program's, second part. Conditions: none beyond those that each statement names.
-/
import Derived.Test.YtflgecobobgpcaaGreatChecked
import Derived.Test.YtflgecobobgpcaaGreatPVD
import Derived.Test.YtflgecobobgpcaaGreatPCB
namespace Go.Vm.Code
open Go.Vm Go.Proofs
theorem k7 : chkF Tryz.prog 7 c7 = true := by decide +kernel
theorem k8 : chkF Tryz.prog 8 c8 = true := by decide +kernel
theorem k11 : chkF Tryz.prog 11 c11 = true := by decide +kernel
theorem k12 : chkF Tryz.prog 12 c12 = true := by decide +kernel
theorem k19 : chkF Tryz.prog 19 c19 = true := by decide +kernel
theorem k21 : chkF Tryz.prog 21 c21 = true := by decide +kernel
theorem k22 : chkF Tryz.prog 22 c22 = true := by decide +kernel
theorem k23 : chkF Tryz.prog 23 c23 = true := by decide +kernel
theorem k25 : chkF Tryz.prog 25 c25 = true := by decide +kernel
theorem k35 : chkF Tryz.prog 35 c35 = true := by decide +kernel
theorem k37 : chkF Tryz.prog 37 c37 = true := by decide +kernel
theorem k38 : chkF Tryz.prog 38 c38 = true := by decide +kernel
theorem k54 : chkF Tryz.prog 54 c54 = true := by decide +kernel
theorem k58 : chkF Tryz.prog 58 c58 = true := by decide +kernel
theorem k61 : chkF Tryz.prog 61 c61 = true := by decide +kernel
theorem k64 : chkF Tryz.prog 64 c64 = true := by decide +kernel
theorem k65 : chkF Tryz.prog 65 c65 = true := by decide +kernel
theorem k75 : chkF Tryz.prog 75 c75 = true := by decide +kernel
theorem k83 : chkF Tryz.prog 83 c83 = true := by decide +kernel
theorem k84 : chkF Tryz.prog 84 c84 = true := by decide +kernel
theorem k104 : chkF Tryz.prog 104 c104 = true := by decide +kernel
theorem k105 : chkF Tryz.prog 105 c105 = true := by decide +kernel
theorem k107 : chkF Tryz.prog 107 c107 = true := by decide +kernel
theorem k109 : chkF Tryz.prog 109 c109 = true := by decide +kernel
theorem k114 : chkF Tryz.prog 114 c114 = true := by decide +kernel
theorem k119 : chkF Tryz.prog 119 c119 = true := by decide +kernel
theorem k120 : chkF Tryz.prog 120 c120 = true := by decide +kernel
theorem k126 : chkF Tryz.prog 126 c126 = true := by decide +kernel
theorem k134 : chkF Tryz.prog 134 c134 = true := by decide +kernel
theorem k144 : chkF Tryz.prog 144 c144 = true := by decide +kernel
theorem k146 : chkF Tryz.prog 146 c146 = true := by decide +kernel
theorem k148 : chkF Tryz.prog 148 c148 = true := by decide +kernel
theorem k153 : chkF Tryz.prog 153 c153 = true := by decide +kernel
theorem k154 : chkF Tryz.prog 154 c154 = true := by decide +kernel
theorem k161 : chkF Tryz.prog 161 c161 = true := by decide +kernel
theorem k163 : chkF Tryz.prog 163 c163 = true := by decide +kernel
theorem k164 : chkF Tryz.prog 164 c164 = true := by decide +kernel
theorem k167 : chkF Tryz.prog 167 c167 = true := by decide +kernel
theorem k169 : chkF Tryz.prog 169 c169 = true := by decide +kernel
theorem k173 : chkF Tryz.prog 173 c173 = true := by decide +kernel
theorem k175 : chkF Tryz.prog 175 c175 = true := by decide +kernel
theorem k176 : chkF Tryz.prog 176 c176 = true := by decide +kernel
theorem k189 : chkF Tryz.prog 189 c189 = true := by decide +kernel
theorem k191 : chkF Tryz.prog 191 c191 = true := by decide +kernel
theorem k195 : chkF Tryz.prog 195 c195 = true := by decide +kernel
theorem k196 : chkF Tryz.prog 196 c196 = true := by decide +kernel
theorem k201 : chkF Tryz.prog 201 c201 = true := by decide +kernel
theorem k203 : chkF Tryz.prog 203 c203 = true := by decide +kernel
theorem k207 : chkF Tryz.prog 207 c207 = true := by decide +kernel
theorem k215 : chkF Tryz.prog 215 c215 = true := by decide +kernel
theorem k218 : chkF Tryz.prog 218 c218 = true := by decide +kernel
theorem k223 : chkF Tryz.prog 223 c223 = true := by decide +kernel
theorem k224 : chkF Tryz.prog 224 c224 = true := by decide +kernel
theorem k225 : chkF Tryz.prog 225 c225 = true := by decide +kernel
theorem k230 : chkF Tryz.prog 230 c230 = true := by decide +kernel
theorem k234 : chkF Tryz.prog 234 c234 = true := by decide +kernel
theorem k236 : chkF Tryz.prog 236 c236 = true := by decide +kernel
theorem k237 : chkF Tryz.prog 237 c237 = true := by decide +kernel
theorem k245 : chkF Tryz.prog 245 c245 = true := by decide +kernel
theorem k246 : chkF Tryz.prog 246 c246 = true := by decide +kernel
theorem k248 : chkF Tryz.prog 248 c248 = true := by decide +kernel
theorem k250 : chkF Tryz.prog 250 c250 = true := by decide +kernel
theorem k251 : chkF Tryz.prog 251 c251 = true := by decide +kernel
theorem k256 : chkF Tryz.prog 256 c256 = true := by decide +kernel
theorem k261 : chkF Tryz.prog 261 c261 = true := by decide +kernel
theorem k263 : chkF Tryz.prog 263 c263 = true := by decide +kernel
theorem k265 : chkF Tryz.prog 265 c265 = true := by decide +kernel
theorem k266 : chkF Tryz.prog 266 c266 = true := by decide +kernel
theorem k273 : chkF Tryz.prog 273 c273 = true := by decide +kernel
theorem k274 : chkF Tryz.prog 274 c274 = true := by decide +kernel
end Go.Vm.Code
