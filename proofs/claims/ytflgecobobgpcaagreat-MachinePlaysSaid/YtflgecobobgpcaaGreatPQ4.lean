/-
  The code is the program's, fourth part. Conditions: none beyond those that each statement names.
-/
import Derived.Test.YtflgecobobgpcaaGreatChecked
import Derived.Test.YtflgecobobgpcaaGreatPVD
import Derived.Test.YtflgecobobgpcaaGreatPCB
namespace Go.Vm.Code
open Go.Vm Go.Proofs
theorem k16 : chkF Tryz.prog 16 c16 = true := by decide +kernel
theorem k24 : chkF Tryz.prog 24 c24 = true := by decide +kernel
theorem k29 : chkF Tryz.prog 29 c29 = true := by decide +kernel
theorem k32 : chkF Tryz.prog 32 c32 = true := by decide +kernel
theorem k44 : chkF Tryz.prog 44 c44 = true := by decide +kernel
theorem k45 : chkF Tryz.prog 45 c45 = true := by decide +kernel
theorem k48 : chkF Tryz.prog 48 c48 = true := by decide +kernel
theorem k52 : chkF Tryz.prog 52 c52 = true := by decide +kernel
theorem k57 : chkF Tryz.prog 57 c57 = true := by decide +kernel
theorem k60 : chkF Tryz.prog 60 c60 = true := by decide +kernel
theorem k63 : chkF Tryz.prog 63 c63 = true := by decide +kernel
theorem k66 : chkF Tryz.prog 66 c66 = true := by decide +kernel
theorem k69 : chkF Tryz.prog 69 c69 = true := by decide +kernel
theorem k71 : chkF Tryz.prog 71 c71 = true := by decide +kernel
theorem k72 : chkF Tryz.prog 72 c72 = true := by decide +kernel
theorem k74 : chkF Tryz.prog 74 c74 = true := by decide +kernel
theorem k76 : chkF Tryz.prog 76 c76 = true := by decide +kernel
theorem k81 : chkF Tryz.prog 81 c81 = true := by decide +kernel
theorem k87 : chkF Tryz.prog 87 c87 = true := by decide +kernel
theorem k96 : chkF Tryz.prog 96 c96 = true := by decide +kernel
theorem k99 : chkF Tryz.prog 99 c99 = true := by decide +kernel
theorem k101 : chkF Tryz.prog 101 c101 = true := by decide +kernel
theorem k110 : chkF Tryz.prog 110 c110 = true := by decide +kernel
theorem k112 : chkF Tryz.prog 112 c112 = true := by decide +kernel
theorem k116 : chkF Tryz.prog 116 c116 = true := by decide +kernel
theorem k117 : chkF Tryz.prog 117 c117 = true := by decide +kernel
theorem k121 : chkF Tryz.prog 121 c121 = true := by decide +kernel
theorem k122 : chkF Tryz.prog 122 c122 = true := by decide +kernel
theorem k123 : chkF Tryz.prog 123 c123 = true := by decide +kernel
theorem k128 : chkF Tryz.prog 128 c128 = true := by decide +kernel
theorem k135 : chkF Tryz.prog 135 c135 = true := by decide +kernel
theorem k136 : chkF Tryz.prog 136 c136 = true := by decide +kernel
theorem k137 : chkF Tryz.prog 137 c137 = true := by decide +kernel
theorem k147 : chkF Tryz.prog 147 c147 = true := by decide +kernel
theorem k151 : chkF Tryz.prog 151 c151 = true := by decide +kernel
theorem k157 : chkF Tryz.prog 157 c157 = true := by decide +kernel
theorem k158 : chkF Tryz.prog 158 c158 = true := by decide +kernel
theorem k159 : chkF Tryz.prog 159 c159 = true := by decide +kernel
theorem k160 : chkF Tryz.prog 160 c160 = true := by decide +kernel
theorem k166 : chkF Tryz.prog 166 c166 = true := by decide +kernel
theorem k170 : chkF Tryz.prog 170 c170 = true := by decide +kernel
theorem k171 : chkF Tryz.prog 171 c171 = true := by decide +kernel
theorem k172 : chkF Tryz.prog 172 c172 = true := by decide +kernel
theorem k177 : chkF Tryz.prog 177 c177 = true := by decide +kernel
theorem k180 : chkF Tryz.prog 180 c180 = true := by decide +kernel
theorem k181 : chkF Tryz.prog 181 c181 = true := by decide +kernel
theorem k184 : chkF Tryz.prog 184 c184 = true := by decide +kernel
theorem k187 : chkF Tryz.prog 187 c187 = true := by decide +kernel
theorem k197 : chkF Tryz.prog 197 c197 = true := by decide +kernel
theorem k198 : chkF Tryz.prog 198 c198 = true := by decide +kernel
theorem k200 : chkF Tryz.prog 200 c200 = true := by decide +kernel
theorem k209 : chkF Tryz.prog 209 c209 = true := by decide +kernel
theorem k212 : chkF Tryz.prog 212 c212 = true := by decide +kernel
theorem k220 : chkF Tryz.prog 220 c220 = true := by decide +kernel
theorem k222 : chkF Tryz.prog 222 c222 = true := by decide +kernel
theorem k228 : chkF Tryz.prog 228 c228 = true := by decide +kernel
theorem k235 : chkF Tryz.prog 235 c235 = true := by decide +kernel
theorem k238 : chkF Tryz.prog 238 c238 = true := by decide +kernel
theorem k239 : chkF Tryz.prog 239 c239 = true := by decide +kernel
theorem k241 : chkF Tryz.prog 241 c241 = true := by decide +kernel
theorem k243 : chkF Tryz.prog 243 c243 = true := by decide +kernel
theorem k252 : chkF Tryz.prog 252 c252 = true := by decide +kernel
theorem k255 : chkF Tryz.prog 255 c255 = true := by decide +kernel
theorem k257 : chkF Tryz.prog 257 c257 = true := by decide +kernel
theorem k258 : chkF Tryz.prog 258 c258 = true := by decide +kernel
theorem k262 : chkF Tryz.prog 262 c262 = true := by decide +kernel
theorem k268 : chkF Tryz.prog 268 c268 = true := by decide +kernel
theorem k269 : chkF Tryz.prog 269 c269 = true := by decide +kernel
theorem k270 : chkF Tryz.prog 270 c270 = true := by decide +kernel
theorem k275 : chkF Tryz.prog 275 c275 = true := by decide +kernel
end Go.Vm.Code
