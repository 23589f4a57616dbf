/-
  The code is the program's, second part. Conditions: none beyond those that each statement names.
-/
import Derived.Test.YtflgecobobgpcaaGreatChecked
import Derived.Test.YtflgecobobgpcaaGreatVD
import Derived.Test.YtflgecobobgpcaaGreatCB
namespace Go.Vm.Code
open Go.Vm Go.Proofs
theorem k7 : chkF Tryz.prog 7 c7 = true := by decide +kernel
theorem k8 : chkF Tryz.prog 8 c8 = true := by decide +kernel
theorem k11 : chkF Tryz.prog 11 c11 = true := by decide +kernel
theorem k12 : chkF Tryz.prog 12 c12 = true := by decide +kernel
theorem k19 : chkF Tryz.prog 19 c19 = true := by decide +kernel
theorem k21 : chkF Tryz.prog 21 c21 = true := by decide +kernel
theorem k22 : chkF Tryz.prog 22 c22 = true := by decide +kernel
theorem k23 : chkF Tryz.prog 23 c23 = true := by decide +kernel
theorem k25 : chkF Tryz.prog 25 c25 = true := by decide +kernel
theorem k38 : chkF Tryz.prog 38 c38 = true := by decide +kernel
theorem k40 : chkF Tryz.prog 40 c40 = true := by decide +kernel
theorem k42 : chkF Tryz.prog 42 c42 = true := by decide +kernel
theorem k44 : chkF Tryz.prog 44 c44 = true := by decide +kernel
theorem k45 : chkF Tryz.prog 45 c45 = true := by decide +kernel
theorem k47 : chkF Tryz.prog 47 c47 = true := by decide +kernel
theorem k49 : chkF Tryz.prog 49 c49 = true := by decide +kernel
theorem k51 : chkF Tryz.prog 51 c51 = true := by decide +kernel
theorem k54 : chkF Tryz.prog 54 c54 = true := by decide +kernel
theorem k60 : chkF Tryz.prog 60 c60 = true := by decide +kernel
theorem k71 : chkF Tryz.prog 71 c71 = true := by decide +kernel
theorem k74 : chkF Tryz.prog 74 c74 = true := by decide +kernel
theorem k75 : chkF Tryz.prog 75 c75 = true := by decide +kernel
theorem k80 : chkF Tryz.prog 80 c80 = true := by decide +kernel
theorem k84 : chkF Tryz.prog 84 c84 = true := by decide +kernel
theorem k85 : chkF Tryz.prog 85 c85 = true := by decide +kernel
theorem k90 : chkF Tryz.prog 90 c90 = true := by decide +kernel
theorem k95 : chkF Tryz.prog 95 c95 = true := by decide +kernel
theorem k116 : chkF Tryz.prog 116 c116 = true := by decide +kernel
theorem k126 : chkF Tryz.prog 126 c126 = true := by decide +kernel
theorem k127 : chkF Tryz.prog 127 c127 = true := by decide +kernel
theorem k132 : chkF Tryz.prog 132 c132 = true := by decide +kernel
theorem k136 : chkF Tryz.prog 136 c136 = true := by decide +kernel
theorem k140 : chkF Tryz.prog 140 c140 = true := by decide +kernel
theorem k148 : chkF Tryz.prog 148 c148 = true := by decide +kernel
theorem k155 : chkF Tryz.prog 155 c155 = true := by decide +kernel
theorem k158 : chkF Tryz.prog 158 c158 = true := by decide +kernel
theorem k164 : chkF Tryz.prog 164 c164 = true := by decide +kernel
theorem k169 : chkF Tryz.prog 169 c169 = true := by decide +kernel
theorem k173 : chkF Tryz.prog 173 c173 = true := by decide +kernel
theorem k176 : chkF Tryz.prog 176 c176 = true := by decide +kernel
theorem k177 : chkF Tryz.prog 177 c177 = true := by decide +kernel
theorem k178 : chkF Tryz.prog 178 c178 = true := by decide +kernel
theorem k191 : chkF Tryz.prog 191 c191 = true := by decide +kernel
theorem k196 : chkF Tryz.prog 196 c196 = true := by decide +kernel
theorem k203 : chkF Tryz.prog 203 c203 = true := by decide +kernel
theorem k206 : chkF Tryz.prog 206 c206 = true := by decide +kernel
theorem k207 : chkF Tryz.prog 207 c207 = true := by decide +kernel
theorem k215 : chkF Tryz.prog 215 c215 = true := by decide +kernel
theorem k223 : chkF Tryz.prog 223 c223 = true := by decide +kernel
theorem k225 : chkF Tryz.prog 225 c225 = true := by decide +kernel
theorem k233 : chkF Tryz.prog 233 c233 = true := by decide +kernel
theorem k234 : chkF Tryz.prog 234 c234 = true := by decide +kernel
theorem k236 : chkF Tryz.prog 236 c236 = true := by decide +kernel
theorem k237 : chkF Tryz.prog 237 c237 = true := by decide +kernel
theorem k238 : chkF Tryz.prog 238 c238 = true := by decide +kernel
theorem k243 : chkF Tryz.prog 243 c243 = true := by decide +kernel
theorem k245 : chkF Tryz.prog 245 c245 = true := by decide +kernel
theorem k247 : chkF Tryz.prog 247 c247 = true := by decide +kernel
theorem k248 : chkF Tryz.prog 248 c248 = true := by decide +kernel
theorem k253 : chkF Tryz.prog 253 c253 = true := by decide +kernel
theorem k257 : chkF Tryz.prog 257 c257 = true := by decide +kernel
theorem k259 : chkF Tryz.prog 259 c259 = true := by decide +kernel
theorem k266 : chkF Tryz.prog 266 c266 = true := by decide +kernel
theorem k272 : chkF Tryz.prog 272 c272 = true := by decide +kernel
theorem k273 : chkF Tryz.prog 273 c273 = true := by decide +kernel
theorem k275 : chkF Tryz.prog 275 c275 = true := by decide +kernel
theorem k277 : chkF Tryz.prog 277 c277 = true := by decide +kernel
theorem k279 : chkF Tryz.prog 279 c279 = true := by decide +kernel
theorem k280 : chkF Tryz.prog 280 c280 = true := by decide +kernel
theorem k282 : chkF Tryz.prog 282 c282 = true := by decide +kernel
end Go.Vm.Code
