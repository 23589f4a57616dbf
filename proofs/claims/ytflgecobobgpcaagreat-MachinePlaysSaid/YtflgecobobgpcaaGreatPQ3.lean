/-
  The code is the program's, third part. Conditions: none beyond those that each statement names.
-/
import Derived.Test.YtflgecobobgpcaaGreatChecked
import Derived.Test.YtflgecobobgpcaaGreatPVD
import Derived.Test.YtflgecobobgpcaaGreatPCB
namespace Go.Vm.Code
open Go.Vm Go.Proofs
theorem k4 : chkF Tryz.prog 4 c4 = true := by decide +kernel
theorem k6 : chkF Tryz.prog 6 c6 = true := by decide +kernel
theorem k17 : chkF Tryz.prog 17 c17 = true := by decide +kernel
theorem k18 : chkF Tryz.prog 18 c18 = true := by decide +kernel
theorem k20 : chkF Tryz.prog 20 c20 = true := by decide +kernel
theorem k26 : chkF Tryz.prog 26 c26 = true := by decide +kernel
theorem k27 : chkF Tryz.prog 27 c27 = true := by decide +kernel
theorem k28 : chkF Tryz.prog 28 c28 = true := by decide +kernel
theorem k31 : chkF Tryz.prog 31 c31 = true := by decide +kernel
theorem k34 : chkF Tryz.prog 34 c34 = true := by decide +kernel
theorem k36 : chkF Tryz.prog 36 c36 = true := by decide +kernel
theorem k40 : chkF Tryz.prog 40 c40 = true := by decide +kernel
theorem k42 : chkF Tryz.prog 42 c42 = true := by decide +kernel
theorem k46 : chkF Tryz.prog 46 c46 = true := by decide +kernel
theorem k53 : chkF Tryz.prog 53 c53 = true := by decide +kernel
theorem k56 : chkF Tryz.prog 56 c56 = true := by decide +kernel
theorem k59 : chkF Tryz.prog 59 c59 = true := by decide +kernel
theorem k68 : chkF Tryz.prog 68 c68 = true := by decide +kernel
theorem k73 : chkF Tryz.prog 73 c73 = true := by decide +kernel
theorem k80 : chkF Tryz.prog 80 c80 = true := by decide +kernel
theorem k85 : chkF Tryz.prog 85 c85 = true := by decide +kernel
theorem k89 : chkF Tryz.prog 89 c89 = true := by decide +kernel
theorem k90 : chkF Tryz.prog 90 c90 = true := by decide +kernel
theorem k91 : chkF Tryz.prog 91 c91 = true := by decide +kernel
theorem k95 : chkF Tryz.prog 95 c95 = true := by decide +kernel
theorem k98 : chkF Tryz.prog 98 c98 = true := by decide +kernel
theorem k103 : chkF Tryz.prog 103 c103 = true := by decide +kernel
theorem k108 : chkF Tryz.prog 108 c108 = true := by decide +kernel
theorem k111 : chkF Tryz.prog 111 c111 = true := by decide +kernel
theorem k124 : chkF Tryz.prog 124 c124 = true := by decide +kernel
theorem k125 : chkF Tryz.prog 125 c125 = true := by decide +kernel
theorem k127 : chkF Tryz.prog 127 c127 = true := by decide +kernel
theorem k129 : chkF Tryz.prog 129 c129 = true := by decide +kernel
theorem k132 : chkF Tryz.prog 132 c132 = true := by decide +kernel
theorem k133 : chkF Tryz.prog 133 c133 = true := by decide +kernel
theorem k138 : chkF Tryz.prog 138 c138 = true := by decide +kernel
theorem k139 : chkF Tryz.prog 139 c139 = true := by decide +kernel
theorem k142 : chkF Tryz.prog 142 c142 = true := by decide +kernel
theorem k145 : chkF Tryz.prog 145 c145 = true := by decide +kernel
theorem k149 : chkF Tryz.prog 149 c149 = true := by decide +kernel
theorem k156 : chkF Tryz.prog 156 c156 = true := by decide +kernel
theorem k165 : chkF Tryz.prog 165 c165 = true := by decide +kernel
theorem k174 : chkF Tryz.prog 174 c174 = true := by decide +kernel
theorem k179 : chkF Tryz.prog 179 c179 = true := by decide +kernel
theorem k183 : chkF Tryz.prog 183 c183 = true := by decide +kernel
theorem k185 : chkF Tryz.prog 185 c185 = true := by decide +kernel
theorem k186 : chkF Tryz.prog 186 c186 = true := by decide +kernel
theorem k188 : chkF Tryz.prog 188 c188 = true := by decide +kernel
theorem k190 : chkF Tryz.prog 190 c190 = true := by decide +kernel
theorem k192 : chkF Tryz.prog 192 c192 = true := by decide +kernel
theorem k199 : chkF Tryz.prog 199 c199 = true := by decide +kernel
theorem k205 : chkF Tryz.prog 205 c205 = true := by decide +kernel
theorem k206 : chkF Tryz.prog 206 c206 = true := by decide +kernel
theorem k211 : chkF Tryz.prog 211 c211 = true := by decide +kernel
theorem k219 : chkF Tryz.prog 219 c219 = true := by decide +kernel
theorem k221 : chkF Tryz.prog 221 c221 = true := by decide +kernel
theorem k229 : chkF Tryz.prog 229 c229 = true := by decide +kernel
theorem k231 : chkF Tryz.prog 231 c231 = true := by decide +kernel
theorem k232 : chkF Tryz.prog 232 c232 = true := by decide +kernel
theorem k233 : chkF Tryz.prog 233 c233 = true := by decide +kernel
theorem k244 : chkF Tryz.prog 244 c244 = true := by decide +kernel
theorem k247 : chkF Tryz.prog 247 c247 = true := by decide +kernel
theorem k249 : chkF Tryz.prog 249 c249 = true := by decide +kernel
theorem k253 : chkF Tryz.prog 253 c253 = true := by decide +kernel
theorem k259 : chkF Tryz.prog 259 c259 = true := by decide +kernel
theorem k272 : chkF Tryz.prog 272 c272 = true := by decide +kernel
theorem k276 : chkF Tryz.prog 276 c276 = true := by decide +kernel
theorem k277 : chkF Tryz.prog 277 c277 = true := by decide +kernel
theorem k278 : chkF Tryz.prog 278 c278 = true := by decide +kernel
theorem k279 : chkF Tryz.prog 279 c279 = true := by decide +kernel
theorem k282 : chkF Tryz.prog 282 c282 = true := by decide +kernel
end Go.Vm.Code
