/-
  The table is the program's; the environment of a law. Conditions: none beyond those that each statement names.
-/
import Derived.Test.YtflgecobobgpcaaGreatPQ1
import Derived.Test.YtflgecobobgpcaaGreatPQ2
import Derived.Test.YtflgecobobgpcaaGreatPQ3
import Derived.Test.YtflgecobobgpcaaGreatPQ4
import Derived.Test.YtflgecobobgpcaaGreatPVG
import Derived.Test.YtflgecobobgpcaaGreatPCW
namespace Go.Vm.Code
open Go.Vm Go.Proofs
/-- every entry of a table is the program's function of its number -/
inductive Good : (Nat → Nat) → Tr AFunc → Prop where
  | gl {φ : Nat → Nat} : Good φ .lf
  | gn {φ : Nat → Nat} {l r : Tr AFunc} : Good (fun n => φ (2 * n + 1)) l → Good (fun n => φ (2 * n + 2)) r → Good φ (.nd l none r)
  | gs {φ : Nat → Nat} {A : AFunc} {l r : Tr AFunc} : chkF Tryz.prog (φ 0) A = true → Good (fun n => φ (2 * n + 1)) l → Good (fun n => φ (2 * n + 2)) r → Good φ (.nd l (some A) r)
theorem Good.get {φ : Nat → Nat} {t : Tr AFunc} (h : Good φ t) : ∀ (n : Nat) (A : AFunc), t.get n = some A → chkF Tryz.prog (φ n) A = true := by
  induction h with
  | gl => intro n A h; simp [Tr.get] at h
  | gn hl hr ihl ihr =>
    intro n A h
    rw [Tr.get_nd] at h
    split at h
    · cases h
    · split at h
      · have := ihl _ _ h
        simp only at this
        rwa [show 2 * (n / 2) + 1 = n from by omega] at this
      · have := ihr _ _ h
        simp only at this
        rwa [show 2 * (n / 2 - 1) + 2 = n from by omega] at this
  | gs hc hl hr ihl ihr =>
    intro n A h
    rw [Tr.get_nd] at h
    split at h
    · rename_i h0; cases h; rw [h0]; exact hc
    · split at h
      · have := ihl _ _ h
        simp only at this
        rwa [show 2 * (n / 2) + 1 = n from by omega] at this
      · have := ihr _ _ h
        simp only at this
        rwa [show 2 * (n / 2 - 1) + 2 = n from by omega] at this
theorem good : Good (fun n => n) tbl :=
  (.gn (.gn (.gs k3 (.gs k7 (.gs k15 (.gs k31 (.gs k63 (.gs k127 (.gs k255 .gl .gl) .gl) (.gs k191 .gl .gl)) (.gs k95 (.gs k159 .gl .gl) (.gs k223 .gl .gl))) (.gs k47 (.gs k79 (.gs k143 (.gs k271 .gl .gl) .gl) (.gs k207 .gl .gl)) (.gs k111 (.gs k175 .gl .gl) (.gs k239 .gl .gl)))) (.gs k23 (.gs k39 (.gs k71 (.gs k135 (.gs k263 .gl .gl) .gl) (.gs k199 .gl .gl)) (.gs k103 (.gs k167 .gl .gl) (.gs k231 .gl .gl))) (.gs k55 (.gs k87 (.gs k151 (.gs k279 .gl .gl) .gl) (.gs k215 .gl .gl)) (.gs k119 (.gs k183 .gl .gl) (.gs k247 .gl .gl))))) (.gs k11 (.gs k19 (.gs k35 (.gs k67 (.gs k131 (.gs k259 .gl .gl) .gl) (.gs k195 .gl .gl)) (.gs k99 (.gs k163 .gl .gl) (.gs k227 .gl .gl))) (.gs k51 (.gs k83 (.gs k147 (.gs k275 .gl .gl) .gl) (.gs k211 .gl .gl)) (.gs k115 (.gs k179 .gl .gl) (.gs k243 .gl .gl)))) (.gs k27 (.gs k43 (.gs k75 (.gs k139 (.gs k267 .gl .gl) .gl) (.gs k203 .gl .gl)) (.gs k107 (.gs k171 .gl .gl) (.gs k235 .gl .gl))) (.gs k59 (.gs k91 (.gs k155 (.gs k283 .gl .gl) .gl) (.gs k219 .gl .gl)) (.gs k123 (.gs k187 .gl .gl) (.gs k251 .gl .gl)))))) (.gs k5 (.gs k9 (.gs k17 (.gs k33 (.gs k65 (.gs k129 (.gs k257 .gl .gl) .gl) (.gs k193 .gl .gl)) (.gs k97 (.gs k161 .gl .gl) (.gs k225 .gl .gl))) (.gs k49 (.gs k81 (.gs k145 (.gs k273 .gl .gl) .gl) (.gs k209 .gl .gl)) (.gs k113 (.gs k177 .gl .gl) (.gs k241 .gl .gl)))) (.gs k25 (.gs k41 (.gs k73 (.gs k137 (.gs k265 .gl .gl) .gl) (.gs k201 .gl .gl)) (.gs k105 (.gs k169 .gl .gl) (.gs k233 .gl .gl))) (.gs k57 (.gs k89 (.gs k153 (.gs k281 .gl .gl) .gl) (.gs k217 .gl .gl)) (.gs k121 (.gs k185 .gl .gl) (.gs k249 .gl .gl))))) (.gs k13 (.gs k21 (.gs k37 (.gs k69 (.gs k133 (.gs k261 .gl .gl) .gl) (.gs k197 .gl .gl)) (.gs k101 (.gs k165 .gl .gl) (.gs k229 .gl .gl))) (.gs k53 (.gs k85 (.gs k149 (.gs k277 .gl .gl) .gl) (.gs k213 .gl .gl)) (.gs k117 (.gs k181 .gl .gl) (.gs k245 .gl .gl)))) (.gs k29 (.gs k45 (.gs k77 (.gs k141 (.gs k269 .gl .gl) .gl) (.gs k205 .gl .gl)) (.gs k109 (.gs k173 .gl .gl) (.gs k237 .gl .gl))) (.gs k61 (.gs k93 (.gs k157 .gl .gl) (.gs k221 .gl .gl)) (.gs k125 (.gs k189 .gl .gl) (.gs k253 .gl .gl))))))) (.gn (.gs k4 (.gs k8 (.gs k16 (.gs k32 (.gs k64 (.gs k128 (.gs k256 .gl .gl) .gl) (.gs k192 .gl .gl)) (.gs k96 (.gs k160 .gl .gl) (.gs k224 .gl .gl))) (.gs k48 (.gs k80 (.gs k144 (.gs k272 .gl .gl) .gl) (.gs k208 .gl .gl)) (.gs k112 (.gs k176 .gl .gl) (.gs k240 .gl .gl)))) (.gs k24 (.gs k40 (.gs k72 (.gs k136 (.gs k264 .gl .gl) .gl) (.gs k200 .gl .gl)) (.gs k104 (.gs k168 .gl .gl) (.gs k232 .gl .gl))) (.gs k56 (.gs k88 (.gs k152 (.gs k280 .gl .gl) .gl) (.gs k216 .gl .gl)) (.gs k120 (.gs k184 .gl .gl) (.gs k248 .gl .gl))))) (.gs k12 (.gs k20 (.gs k36 (.gs k68 (.gs k132 (.gs k260 .gl .gl) .gl) (.gs k196 .gl .gl)) (.gs k100 (.gs k164 .gl .gl) (.gs k228 .gl .gl))) (.gs k52 (.gs k84 (.gs k148 (.gs k276 .gl .gl) .gl) (.gs k212 .gl .gl)) (.gs k116 (.gs k180 .gl .gl) (.gs k244 .gl .gl)))) (.gs k28 (.gs k44 (.gs k76 (.gs k140 (.gs k268 .gl .gl) .gl) (.gs k204 .gl .gl)) (.gs k108 (.gs k172 .gl .gl) (.gs k236 .gl .gl))) (.gs k60 (.gs k92 (.gs k156 .gl .gl) (.gs k220 .gl .gl)) (.gs k124 (.gs k188 .gl .gl) (.gs k252 .gl .gl)))))) (.gs k6 (.gs k10 (.gs k18 (.gs k34 (.gs k66 (.gs k130 (.gs k258 .gl .gl) .gl) (.gs k194 .gl .gl)) (.gs k98 (.gs k162 .gl .gl) (.gs k226 .gl .gl))) (.gs k50 (.gs k82 (.gs k146 (.gs k274 .gl .gl) .gl) (.gs k210 .gl .gl)) (.gs k114 (.gs k178 .gl .gl) (.gs k242 .gl .gl)))) (.gs k26 (.gs k42 (.gs k74 (.gs k138 (.gs k266 .gl .gl) .gl) (.gs k202 .gl .gl)) (.gs k106 (.gs k170 .gl .gl) (.gs k234 .gl .gl))) (.gs k58 (.gs k90 (.gs k154 (.gs k282 .gl .gl) .gl) (.gs k218 .gl .gl)) (.gs k122 (.gs k186 .gl .gl) (.gs k250 .gl .gl))))) (.gs k14 (.gs k22 (.gs k38 (.gs k70 (.gs k134 (.gs k262 .gl .gl) .gl) (.gs k198 .gl .gl)) (.gs k102 (.gs k166 .gl .gl) (.gs k230 .gl .gl))) (.gs k54 (.gs k86 (.gs k150 (.gs k278 .gl .gl) .gl) (.gs k214 .gl .gl)) (.gs k118 (.gs k182 .gl .gl) (.gs k246 .gl .gl)))) (.gs k30 (.gs k46 (.gs k78 (.gs k142 (.gs k270 .gl .gl) .gl) (.gs k206 .gl .gl)) (.gs k110 (.gs k174 .gl .gl) (.gs k238 .gl .gl))) (.gs k62 (.gs k94 (.gs k158 .gl .gl) (.gs k222 .gl .gl)) (.gs k126 (.gs k190 .gl .gl) (.gs k254 .gl .gl))))))))
end Go.Vm.Code

namespace Go.Vm.Code
open Go.Vm Go.Proofs
theorem funcsA : Funcs Tryz.prog EA := by
  intro f A h
  have h : K.tget tbl f none some = some A := h
  rw [K.tget_eq] at h
  refine good.get f A ?_
  cases hx : tbl.get f with
  | none => rw [hx] at h; cases h
  | some B => rw [hx] at h; exact h

def primL (f : Nat) : Option (List V → Hp → Option (V × Hp)) := if f = 12 then some (fun args H => match args with | [] => some (.bool true, H) | _ => none) else none

/-- what a law's run leans on, by the memory that came in -/
def EL (ext : Nat → Nat → Option V) : Env := { funcs := tbl.get, ext := ext, prim := primL }

theorem funcsL (ext : Nat → Nat → Option V) : Funcs Tryz.prog (EL ext) := fun f A h => good.get f A h

theorem simPrimL (ext : Nat → Nat → Option V) (N0 : Nat) : SimPrim Tryz.prog (EL ext) N0 := by
  intro f g hg args H v H' he M w xs l m hrel hxs
  have hg : primL f = some g := hg
  unfold primL at hg
  split at hg
  · rename_i hf
    subst hf
    cases hg
    cases args with
    | cons a rest => cases he
    | nil =>
      simp only [Option.some.injEq, Prod.mk.injEq] at he
      obtain ⟨rfl, rfl⟩ := he
      cases hxs
      obtain ⟨H1, h1⟩ := awake_runs
      refine ⟨fun ar => ?_, prim_of_calls (fun _ => h1) funcsA (fun _ => rfl) (fun _ _ => rfl) (fun M M' x h => h) w l m hrel⟩
      have hck := k12
      unfold chkF at hck
      split at hck
      · rename_i fn hfn
        simp only [Bool.and_eq_true, Bool.not_eq_true'] at hck
        obtain ⟨⟨⟨⟨hbody, _⟩, _⟩, _⟩, hname⟩ := hck
        split at hbody
        · rename_i c hb
          exact run_callFunc hfn hb hname ar w
        · cases hbody
      · cases hck
  · cases hg
end Go.Vm.Code
