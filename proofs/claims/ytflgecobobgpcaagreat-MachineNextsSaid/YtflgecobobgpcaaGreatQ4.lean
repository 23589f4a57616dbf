/-
  The code is the program's, fourth part. Conditions: none beyond those that each statement names.
-/
import Derived.Test.YtflgecobobgpcaaGreatChecked
import Derived.Test.YtflgecobobgpcaaGreatVD
import Derived.Test.YtflgecobobgpcaaGreatCB
namespace Go.Vm.Code
open Go.Vm Go.Proofs
theorem k4 : chkF Tryz.prog 4 c4 = true := by decide +kernel
theorem k16 : chkF Tryz.prog 16 c16 = true := by decide +kernel
theorem k24 : chkF Tryz.prog 24 c24 = true := by decide +kernel
theorem k26 : chkF Tryz.prog 26 c26 = true := by decide +kernel
theorem k29 : chkF Tryz.prog 29 c29 = true := by decide +kernel
theorem k32 : chkF Tryz.prog 32 c32 = true := by decide +kernel
theorem k34 : chkF Tryz.prog 34 c34 = true := by decide +kernel
theorem k35 : chkF Tryz.prog 35 c35 = true := by decide +kernel
theorem k43 : chkF Tryz.prog 43 c43 = true := by decide +kernel
theorem k46 : chkF Tryz.prog 46 c46 = true := by decide +kernel
theorem k48 : chkF Tryz.prog 48 c48 = true := by decide +kernel
theorem k61 : chkF Tryz.prog 61 c61 = true := by decide +kernel
theorem k67 : chkF Tryz.prog 67 c67 = true := by decide +kernel
theorem k68 : chkF Tryz.prog 68 c68 = true := by decide +kernel
theorem k69 : chkF Tryz.prog 69 c69 = true := by decide +kernel
theorem k76 : chkF Tryz.prog 76 c76 = true := by decide +kernel
theorem k81 : chkF Tryz.prog 81 c81 = true := by decide +kernel
theorem k87 : chkF Tryz.prog 87 c87 = true := by decide +kernel
theorem k89 : chkF Tryz.prog 89 c89 = true := by decide +kernel
theorem k92 : chkF Tryz.prog 92 c92 = true := by decide +kernel
theorem k96 : chkF Tryz.prog 96 c96 = true := by decide +kernel
theorem k97 : chkF Tryz.prog 97 c97 = true := by decide +kernel
theorem k98 : chkF Tryz.prog 98 c98 = true := by decide +kernel
theorem k102 : chkF Tryz.prog 102 c102 = true := by decide +kernel
theorem k106 : chkF Tryz.prog 106 c106 = true := by decide +kernel
theorem k113 : chkF Tryz.prog 113 c113 = true := by decide +kernel
theorem k117 : chkF Tryz.prog 117 c117 = true := by decide +kernel
theorem k119 : chkF Tryz.prog 119 c119 = true := by decide +kernel
theorem k120 : chkF Tryz.prog 120 c120 = true := by decide +kernel
theorem k121 : chkF Tryz.prog 121 c121 = true := by decide +kernel
theorem k128 : chkF Tryz.prog 128 c128 = true := by decide +kernel
theorem k129 : chkF Tryz.prog 129 c129 = true := by decide +kernel
theorem k134 : chkF Tryz.prog 134 c134 = true := by decide +kernel
theorem k137 : chkF Tryz.prog 137 c137 = true := by decide +kernel
theorem k144 : chkF Tryz.prog 144 c144 = true := by decide +kernel
theorem k147 : chkF Tryz.prog 147 c147 = true := by decide +kernel
theorem k151 : chkF Tryz.prog 151 c151 = true := by decide +kernel
theorem k152 : chkF Tryz.prog 152 c152 = true := by decide +kernel
theorem k153 : chkF Tryz.prog 153 c153 = true := by decide +kernel
theorem k156 : chkF Tryz.prog 156 c156 = true := by decide +kernel
theorem k157 : chkF Tryz.prog 157 c157 = true := by decide +kernel
theorem k159 : chkF Tryz.prog 159 c159 = true := by decide +kernel
theorem k160 : chkF Tryz.prog 160 c160 = true := by decide +kernel
theorem k165 : chkF Tryz.prog 165 c165 = true := by decide +kernel
theorem k167 : chkF Tryz.prog 167 c167 = true := by decide +kernel
theorem k171 : chkF Tryz.prog 171 c171 = true := by decide +kernel
theorem k172 : chkF Tryz.prog 172 c172 = true := by decide +kernel
theorem k179 : chkF Tryz.prog 179 c179 = true := by decide +kernel
theorem k180 : chkF Tryz.prog 180 c180 = true := by decide +kernel
theorem k181 : chkF Tryz.prog 181 c181 = true := by decide +kernel
theorem k182 : chkF Tryz.prog 182 c182 = true := by decide +kernel
theorem k184 : chkF Tryz.prog 184 c184 = true := by decide +kernel
theorem k185 : chkF Tryz.prog 185 c185 = true := by decide +kernel
theorem k197 : chkF Tryz.prog 197 c197 = true := by decide +kernel
theorem k198 : chkF Tryz.prog 198 c198 = true := by decide +kernel
theorem k200 : chkF Tryz.prog 200 c200 = true := by decide +kernel
theorem k209 : chkF Tryz.prog 209 c209 = true := by decide +kernel
theorem k212 : chkF Tryz.prog 212 c212 = true := by decide +kernel
theorem k220 : chkF Tryz.prog 220 c220 = true := by decide +kernel
theorem k221 : chkF Tryz.prog 221 c221 = true := by decide +kernel
theorem k222 : chkF Tryz.prog 222 c222 = true := by decide +kernel
theorem k228 : chkF Tryz.prog 228 c228 = true := by decide +kernel
theorem k231 : chkF Tryz.prog 231 c231 = true := by decide +kernel
theorem k241 : chkF Tryz.prog 241 c241 = true := by decide +kernel
theorem k244 : chkF Tryz.prog 244 c244 = true := by decide +kernel
theorem k251 : chkF Tryz.prog 251 c251 = true := by decide +kernel
theorem k252 : chkF Tryz.prog 252 c252 = true := by decide +kernel
theorem k255 : chkF Tryz.prog 255 c255 = true := by decide +kernel
theorem k268 : chkF Tryz.prog 268 c268 = true := by decide +kernel
theorem k270 : chkF Tryz.prog 270 c270 = true := by decide +kernel
theorem k278 : chkF Tryz.prog 278 c278 = true := by decide +kernel
end Go.Vm.Code
