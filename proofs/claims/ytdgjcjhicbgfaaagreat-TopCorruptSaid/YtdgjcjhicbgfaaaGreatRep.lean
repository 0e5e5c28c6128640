/- strings.Repeat, laid off the shelf by its own command: count copies of a text. Conditions: the count is not below nought; the copies fit. -/
import Derived.Shelf.Strings.Repeat
import Derived.Test.YtdgjcjhicbgfaaaGreatProg
set_option linter.unusedVariables false
set_option linter.unusedSimpArgs false
namespace Go.Proofs
open Go.Shelf
def Tryz.lays105_ren : Go.Shelf.Ren := ⟨fun | 105 => 141 | 212 => 194 | 99 => 195 | 165 => 196 | 166 => 197 | 170 => 198 | 169 => 199 | 263 => 225 | 264 => 226 | 206 => 227 | 240 => 228 | 241 => 229 | 276 => 239 | 277 => 240 | n => n, fun | 9 => 9 | 3 => 3 | 4 => 4 | 20 => 20 | 0 => 0 | 46 => 150 | 109 => 350 | 5 => 5 | 72 => 355 | 76 => 358 | 51 => 330 | 146 => 390 | 53 => 300 | 148 => 392 | 70 => 353 | 37 => 45 | 75 => 357 | 127 => 394 | 164 => 410 | 80 => 320 | n => n, fun | n => n⟩
theorem Tryz.lays105 : Go.Proofs.Lays.n105 Tryz.prog Tryz.lays105_ren := {
  mixed := by kernel_rfl
  f99 := Tryz.func195.trans (congrArg some (by kernel_rfl))
  f105 := Tryz.func141.trans (congrArg some (by kernel_rfl))
  f165 := Tryz.func196.trans (congrArg some (by kernel_rfl))
  f166 := Tryz.func197.trans (congrArg some (by kernel_rfl))
  f169 := Tryz.func199.trans (congrArg some (by kernel_rfl))
  f170 := Tryz.func198.trans (congrArg some (by kernel_rfl))
  f206 := Tryz.func227.trans (congrArg some (by kernel_rfl))
  f212 := Tryz.func194.trans (congrArg some (by kernel_rfl))
  f240 := Tryz.func228.trans (congrArg some (by kernel_rfl))
  f241 := Tryz.func229.trans (congrArg some (by kernel_rfl))
  f263 := Tryz.func225.trans (congrArg some (by kernel_rfl))
  f264 := Tryz.func226.trans (congrArg some (by kernel_rfl))
  f276 := Tryz.func239.trans (congrArg some (by kernel_rfl))
  f277 := Tryz.func240.trans (congrArg some (by kernel_rfl))
  t0 := Tryz.underlying0
  a0 := Tryz.isAgg0
  z0 := Tryz.sizeOf0
  v0 := Tryz.zeroValue0
  t3 := Tryz.underlying3
  a3 := Tryz.isAgg3
  z3 := Tryz.sizeOf3
  v3 := Tryz.zeroValue3
  t4 := Tryz.underlying4
  a4 := Tryz.isAgg4
  z4 := Tryz.sizeOf4
  v4 := Tryz.zeroValue4
  t5 := Tryz.underlying5
  a5 := Tryz.isAgg5
  z5 := Tryz.sizeOf5
  v5 := Tryz.zeroValue5
  t9 := Tryz.underlying9
  a9 := Tryz.isAgg9
  z9 := Tryz.sizeOf9
  v9 := Tryz.zeroValue9
  t20 := Tryz.underlying20
  a20 := Tryz.isAgg20
  z20 := Tryz.sizeOf20
  v20 := Tryz.zeroValue20
  t37 := Tryz.underlying45
  a37 := Tryz.isAgg45
  z37 := Tryz.sizeOf45
  v37 := Tryz.zeroValue45
  t46 := Tryz.underlying150
  a46 := Tryz.isAgg150
  z46 := Tryz.sizeOf150
  v46 := Tryz.zeroValue150
  t51 := Tryz.underlying330
  a51 := Tryz.isAgg330
  z51 := Tryz.sizeOf330
  v51 := Tryz.zeroValue330
  t53 := Tryz.underlying300
  a53 := Tryz.isAgg300
  z53 := Tryz.sizeOf300
  v53 := Tryz.zeroValue300
  t70 := Tryz.underlying353
  a70 := Tryz.isAgg353
  z70 := Tryz.sizeOf353
  v70 := Tryz.zeroValue353
  t72 := Tryz.underlying355
  a72 := Tryz.isAgg355
  z72 := Tryz.sizeOf355
  v72 := Tryz.zeroValue355
  t75 := Tryz.underlying357
  a75 := Tryz.isAgg357
  z75 := Tryz.sizeOf357
  v75 := Tryz.zeroValue357
  t76 := Tryz.underlying358
  a76 := Tryz.isAgg358
  z76 := Tryz.sizeOf358
  v76 := Tryz.zeroValue358
  t109 := Tryz.underlying350
  a109 := Tryz.isAgg350
  z109 := Tryz.sizeOf350
  v109 := Tryz.zeroValue350
  t127 := Tryz.underlying394
  a127 := Tryz.isAgg394
  z127 := Tryz.sizeOf394
  v127 := Tryz.zeroValue394
  t146 := Tryz.underlying390
  a146 := Tryz.isAgg390
  z146 := Tryz.sizeOf390
  v146 := Tryz.zeroValue390
  t148 := Tryz.underlying392
  a148 := Tryz.isAgg392
  z148 := Tryz.sizeOf392
  v148 := Tryz.zeroValue392
  t164 := Tryz.underlying410
  a164 := Tryz.isAgg410
  z164 := Tryz.sizeOf410
  v164 := Tryz.zeroValue410 }
theorem Tryz.Builder_Extra_105 : Builder.Extra Tryz.prog Tryz.lays105_ren := {
  sizeBuilder := by kernel_rfl
  liesBuilder := by kernel_rfl
  t5 := Tryz.underlying5
  a5 := Tryz.isAgg5
  z5 := Tryz.sizeOf5
  v5 := Tryz.zeroValue5
  infoByte := by kernel_rfl
  cellsByte := by kernel_rfl
  sizeByte := by kernel_rfl
  neB5 := by decide }
open Go.RowKit Go.Lib in
/-- **strings.Repeat: count ≥ 0, the result within one allocation: count copies of s.** (LAID: no walk: one application.) -/
theorem Tryz.strings_Repeat (s : ByteArray) (c : Nat) (w : World) (hc : c ≤ 9223372036854775807) (hlen : s.size * c ≤ 140737488355328) :
    Calls Tryz.prog 141 #[.string s, .int .i64 c] w fun e w' => e = .returned (.string ⟨(Lib.repeatL s.data.toList c).toArray⟩) ∧ Below w.heap.size w w' := Any.strings_Repeat Tryz.lays105 Tryz.Builder_Extra_105 s c w hc hlen
end Go.Proofs
