/- Written by this repo's own program out of its texts. -/
import Derived.Shelf.Strings.Fields
import Derived.Shelf.Small.Strs
import Derived.Shelf.Strings.Explode
import Derived.Shelf.Strings.OnBuilder
import Derived.Shelf.Spec.SlicesGrow
import Derived.Test.YtlhagkbhojmjpaaGreatDoorPS1
import Derived.Test.YtlhagkbhojmjpaaGreatDoorPPlb
import Derived.Test.YtlhagkbhojmjpaaGreatDoorPSl
import Derived.Lib.SliceRun
import Derived.Lib.Walk
import Derived.RangeFuncNested
import Derived.RangeFuncBound
import Derived.Shelf.Abstract
import Derived.Shelf.RegionOpen
import Derived.WalkKit
import Derived.OwnWalkIn
import Derived.TacticsInMore
import Derived.LoopNIn
import Derived.LoopIn
set_option linter.unusedSimpArgs false
set_option linter.unusedVariables false
set_option linter.unusedSectionVars false
namespace Go.Proofs.YtlhagkbhojmjpaaGreatDoor
open Go.Shelf Go.RowKit Go.Lib
def ren_lower : Ren := ⟨fun n => if n = 118 then 202 else if n = 159 then 170 else if n = 165 then 177 else if n = 166 then 92 else if n = 167 then 178 else if n = 168 then 203 else if n = 169 then 93 else if n = 197 then 78 else if n = 204 then 193 else if n = 230 then 179 else if n = 240 then 118 else if n = 241 then 201 else if n = 242 then 168 else if n = 260 then 104 else if n = 262 then 205 else if n = 270 then 204 else if n = 274 then 220 else if n = 275 then 221 else if n = 276 then 143 else if n = 277 then 214 else if n = 278 then 192 else if n = 313 then 215 else 0, fun n => if n = 0 then 0 else if n = 3 then 3 else if n = 4 then 4 else if n = 5 then 5 else if n = 9 then 9 else if n = 20 then 20 else if n = 21 then 21 else if n = 37 then 51 else if n = 46 then 142 else if n = 51 then 237 else if n = 70 then 161 else if n = 72 then 163 else if n = 75 then 165 else if n = 76 then 166 else if n = 80 then 168 else if n = 105 then 136 else if n = 107 then 242 else if n = 119 then 138 else if n = 127 then 190 else if n = 138 then 140 else if n = 139 then 141 else if n = 160 then 287 else if n = 162 then 283 else if n = 164 then 203 else if n = 203 then 274 else if n = 206 then 291 else if n = 208 then 293 else 0, fun n => if n = 3 then 0 else if n = 4 then 1 else if n = 13 then 7 else 0⟩
set_option maxRecDepth 100000 in
theorem lays_lower : Lays.n159 Tryz.prog ren_lower where
 mixed := by kernel_rfl
 f118 := by kernel_rfl
 f159 := by kernel_rfl
 f165 := by kernel_rfl
 f166 := by kernel_rfl
 f167 := by kernel_rfl
 f168 := by kernel_rfl
 f169 := by kernel_rfl
 f197 := by kernel_rfl
 f204 := by kernel_rfl
 f230 := by kernel_rfl
 f240 := by kernel_rfl
 f241 := by kernel_rfl
 f242 := by kernel_rfl
 f260 := by kernel_rfl
 f262 := by kernel_rfl
 f270 := by kernel_rfl
 f274 := by kernel_rfl
 f275 := by kernel_rfl
 f276 := by kernel_rfl
 f277 := by kernel_rfl
 f278 := by kernel_rfl
 f313 := by kernel_rfl
 t0 := by kernel_rfl
 a0 := fun w => by kernel_rfl
 z0 := fun w => by kernel_rfl
 v0 := fun w => by kernel_rfl
 t3 := by kernel_rfl
 a3 := fun w => by kernel_rfl
 z3 := fun w => by kernel_rfl
 v3 := fun w => by kernel_rfl
 t4 := by kernel_rfl
 a4 := fun w => by kernel_rfl
 z4 := fun w => by kernel_rfl
 v4 := fun w => by kernel_rfl
 t5 := by kernel_rfl
 a5 := fun w => by kernel_rfl
 z5 := fun w => by kernel_rfl
 v5 := fun w => by kernel_rfl
 t9 := by kernel_rfl
 a9 := fun w => by kernel_rfl
 z9 := fun w => by kernel_rfl
 v9 := fun w => by kernel_rfl
 t20 := by kernel_rfl
 a20 := fun w => by kernel_rfl
 z20 := fun w => by kernel_rfl
 v20 := fun w => by kernel_rfl
 t21 := by kernel_rfl
 a21 := fun w => by kernel_rfl
 z21 := fun w => by kernel_rfl
 v21 := fun w => by kernel_rfl
 t37 := by kernel_rfl
 a37 := fun w => by kernel_rfl
 z37 := fun w => by kernel_rfl
 v37 := fun w => by kernel_rfl
 t46 := by kernel_rfl
 a46 := fun w => by kernel_rfl
 z46 := fun w => by kernel_rfl
 v46 := fun w => by kernel_rfl
 t51 := by kernel_rfl
 a51 := fun w => by kernel_rfl
 z51 := fun w => by kernel_rfl
 v51 := fun w => by kernel_rfl
 t70 := by kernel_rfl
 a70 := fun w => by kernel_rfl
 z70 := fun w => by kernel_rfl
 v70 := fun w => by kernel_rfl
 t72 := by kernel_rfl
 a72 := fun w => by kernel_rfl
 z72 := fun w => by kernel_rfl
 v72 := fun w => by kernel_rfl
 t75 := by kernel_rfl
 a75 := fun w => by kernel_rfl
 z75 := fun w => by kernel_rfl
 v75 := fun w => by kernel_rfl
 t76 := by kernel_rfl
 a76 := fun w => by kernel_rfl
 z76 := fun w => by kernel_rfl
 v76 := fun w => by kernel_rfl
 t105 := by kernel_rfl
 a105 := fun w => by kernel_rfl
 z105 := fun w => by kernel_rfl
 v105 := fun w => by kernel_rfl
 t107 := by kernel_rfl
 a107 := fun w => by kernel_rfl
 z107 := fun w => by kernel_rfl
 v107 := fun w => by kernel_rfl
 t119 := by kernel_rfl
 a119 := fun w => by kernel_rfl
 z119 := fun w => by kernel_rfl
 t127 := by kernel_rfl
 a127 := fun w => by kernel_rfl
 z127 := fun w => by kernel_rfl
 v127 := fun w => by kernel_rfl
 t138 := by kernel_rfl
 a138 := fun w => by kernel_rfl
 z138 := fun w => by kernel_rfl
 v138 := fun w => by kernel_rfl
 t139 := by kernel_rfl
 a139 := fun w => by kernel_rfl
 z139 := fun w => by kernel_rfl
 v139 := fun w => by kernel_rfl
 t160 := by kernel_rfl
 a160 := fun w => by kernel_rfl
 z160 := fun w => by kernel_rfl
 v160 := fun w => by kernel_rfl
 t162 := by kernel_rfl
 a162 := fun w => by kernel_rfl
 z162 := fun w => by kernel_rfl
 v162 := fun w => by kernel_rfl
 t164 := by kernel_rfl
 a164 := fun w => by kernel_rfl
 z164 := fun w => by kernel_rfl
 v164 := fun w => by kernel_rfl
 t203 := by kernel_rfl
 a203 := fun w => by kernel_rfl
 z203 := fun w => by kernel_rfl
 v203 := fun w => by kernel_rfl
 t206 := by kernel_rfl
 a206 := fun w => by kernel_rfl
 z206 := fun w => by kernel_rfl
 v206 := fun w => by kernel_rfl
 t208 := by kernel_rfl
 a208 := fun w => by kernel_rfl
 z208 := fun w => by kernel_rfl
 v208 := fun w => by kernel_rfl
 g3 := by kernel_rfl
 g4 := by kernel_rfl
 g13 := by kernel_rfl
set_option maxRecDepth 100000 in
theorem extra_lower : Builder.Extra Tryz.prog ren_lower where
 sizeBuilder := by kernel_rfl
 liesBuilder := by kernel_rfl
 t5 := by kernel_rfl
 a5 := fun w => by kernel_rfl
 z5 := fun w => by kernel_rfl
 v5 := fun w => by kernel_rfl
 infoByte := by kernel_rfl
 cellsByte := by kernel_rfl
 sizeByte := by kernel_rfl
 neB5 := by decide
def ren_upper : Ren := ⟨fun n => if n = 118 then 202 else if n = 158 then 151 else if n = 165 then 177 else if n = 166 then 92 else if n = 167 then 178 else if n = 168 then 203 else if n = 169 then 93 else if n = 197 then 78 else if n = 203 then 180 else if n = 230 then 179 else if n = 240 then 118 else if n = 241 then 201 else if n = 242 then 168 else if n = 260 then 104 else if n = 262 then 205 else if n = 270 then 204 else if n = 274 then 220 else if n = 275 then 221 else if n = 276 then 143 else if n = 277 then 214 else if n = 278 then 192 else if n = 313 then 215 else 0, fun n => if n = 0 then 0 else if n = 3 then 3 else if n = 4 then 4 else if n = 5 then 5 else if n = 9 then 9 else if n = 20 then 20 else if n = 21 then 21 else if n = 37 then 51 else if n = 46 then 142 else if n = 51 then 237 else if n = 70 then 161 else if n = 72 then 163 else if n = 75 then 165 else if n = 76 then 166 else if n = 80 then 168 else if n = 105 then 136 else if n = 107 then 242 else if n = 119 then 138 else if n = 127 then 190 else if n = 138 then 140 else if n = 139 then 141 else if n = 160 then 287 else if n = 162 then 283 else if n = 164 then 203 else if n = 203 then 274 else if n = 206 then 291 else if n = 208 then 293 else 0, fun n => if n = 3 then 0 else if n = 4 then 1 else if n = 13 then 7 else 0⟩
set_option maxRecDepth 100000 in
theorem lays_upper : Lays.n158 Tryz.prog ren_upper where
 mixed := by kernel_rfl
 f118 := by kernel_rfl
 f158 := by kernel_rfl
 f165 := by kernel_rfl
 f166 := by kernel_rfl
 f167 := by kernel_rfl
 f168 := by kernel_rfl
 f169 := by kernel_rfl
 f197 := by kernel_rfl
 f203 := by kernel_rfl
 f230 := by kernel_rfl
 f240 := by kernel_rfl
 f241 := by kernel_rfl
 f242 := by kernel_rfl
 f260 := by kernel_rfl
 f262 := by kernel_rfl
 f270 := by kernel_rfl
 f274 := by kernel_rfl
 f275 := by kernel_rfl
 f276 := by kernel_rfl
 f277 := by kernel_rfl
 f278 := by kernel_rfl
 f313 := by kernel_rfl
 t0 := by kernel_rfl
 a0 := fun w => by kernel_rfl
 z0 := fun w => by kernel_rfl
 v0 := fun w => by kernel_rfl
 t3 := by kernel_rfl
 a3 := fun w => by kernel_rfl
 z3 := fun w => by kernel_rfl
 v3 := fun w => by kernel_rfl
 t4 := by kernel_rfl
 a4 := fun w => by kernel_rfl
 z4 := fun w => by kernel_rfl
 v4 := fun w => by kernel_rfl
 t5 := by kernel_rfl
 a5 := fun w => by kernel_rfl
 z5 := fun w => by kernel_rfl
 v5 := fun w => by kernel_rfl
 t9 := by kernel_rfl
 a9 := fun w => by kernel_rfl
 z9 := fun w => by kernel_rfl
 v9 := fun w => by kernel_rfl
 t20 := by kernel_rfl
 a20 := fun w => by kernel_rfl
 z20 := fun w => by kernel_rfl
 v20 := fun w => by kernel_rfl
 t21 := by kernel_rfl
 a21 := fun w => by kernel_rfl
 z21 := fun w => by kernel_rfl
 v21 := fun w => by kernel_rfl
 t37 := by kernel_rfl
 a37 := fun w => by kernel_rfl
 z37 := fun w => by kernel_rfl
 v37 := fun w => by kernel_rfl
 t46 := by kernel_rfl
 a46 := fun w => by kernel_rfl
 z46 := fun w => by kernel_rfl
 v46 := fun w => by kernel_rfl
 t51 := by kernel_rfl
 a51 := fun w => by kernel_rfl
 z51 := fun w => by kernel_rfl
 v51 := fun w => by kernel_rfl
 t70 := by kernel_rfl
 a70 := fun w => by kernel_rfl
 z70 := fun w => by kernel_rfl
 v70 := fun w => by kernel_rfl
 t72 := by kernel_rfl
 a72 := fun w => by kernel_rfl
 z72 := fun w => by kernel_rfl
 v72 := fun w => by kernel_rfl
 t75 := by kernel_rfl
 a75 := fun w => by kernel_rfl
 z75 := fun w => by kernel_rfl
 v75 := fun w => by kernel_rfl
 t76 := by kernel_rfl
 a76 := fun w => by kernel_rfl
 z76 := fun w => by kernel_rfl
 v76 := fun w => by kernel_rfl
 t105 := by kernel_rfl
 a105 := fun w => by kernel_rfl
 z105 := fun w => by kernel_rfl
 v105 := fun w => by kernel_rfl
 t107 := by kernel_rfl
 a107 := fun w => by kernel_rfl
 z107 := fun w => by kernel_rfl
 v107 := fun w => by kernel_rfl
 t119 := by kernel_rfl
 a119 := fun w => by kernel_rfl
 z119 := fun w => by kernel_rfl
 t127 := by kernel_rfl
 a127 := fun w => by kernel_rfl
 z127 := fun w => by kernel_rfl
 v127 := fun w => by kernel_rfl
 t138 := by kernel_rfl
 a138 := fun w => by kernel_rfl
 z138 := fun w => by kernel_rfl
 v138 := fun w => by kernel_rfl
 t139 := by kernel_rfl
 a139 := fun w => by kernel_rfl
 z139 := fun w => by kernel_rfl
 v139 := fun w => by kernel_rfl
 t160 := by kernel_rfl
 a160 := fun w => by kernel_rfl
 z160 := fun w => by kernel_rfl
 v160 := fun w => by kernel_rfl
 t162 := by kernel_rfl
 a162 := fun w => by kernel_rfl
 z162 := fun w => by kernel_rfl
 v162 := fun w => by kernel_rfl
 t164 := by kernel_rfl
 a164 := fun w => by kernel_rfl
 z164 := fun w => by kernel_rfl
 v164 := fun w => by kernel_rfl
 t203 := by kernel_rfl
 a203 := fun w => by kernel_rfl
 z203 := fun w => by kernel_rfl
 v203 := fun w => by kernel_rfl
 t206 := by kernel_rfl
 a206 := fun w => by kernel_rfl
 z206 := fun w => by kernel_rfl
 v206 := fun w => by kernel_rfl
 t208 := by kernel_rfl
 a208 := fun w => by kernel_rfl
 z208 := fun w => by kernel_rfl
 v208 := fun w => by kernel_rfl
 g3 := by kernel_rfl
 g4 := by kernel_rfl
 g13 := by kernel_rfl
set_option maxRecDepth 100000 in
theorem extra_upper : Builder.Extra Tryz.prog ren_upper where
 sizeBuilder := by kernel_rfl
 liesBuilder := by kernel_rfl
 t5 := by kernel_rfl
 a5 := fun w => by kernel_rfl
 z5 := fun w => by kernel_rfl
 v5 := fun w => by kernel_rfl
 infoByte := by kernel_rfl
 cellsByte := by kernel_rfl
 sizeByte := by kernel_rfl
 neB5 := by decide
def ren_split : Ren := ⟨fun n => if n = 138 then 212 else if n = 143 then 213 else if n = 146 then 171 else if n = 195 then 217 else if n = 197 then 78 else if n = 217 then 222 else if n = 218 then 218 else if n = 219 then 219 else if n = 221 then 194 else if n = 224 then 224 else if n = 225 then 223 else if n = 260 then 104 else if n = 266 then 226 else if n = 267 then 225 else if n = 268 then 211 else if n = 314 then 227 else 0, fun n => if n = 0 then 0 else if n = 3 then 3 else if n = 4 then 4 else if n = 5 then 5 else if n = 9 then 9 else if n = 21 then 21 else if n = 31 then 109 else if n = 46 then 142 else if n = 51 then 237 else if n = 105 then 136 else if n = 119 then 138 else if n = 138 then 140 else if n = 139 then 141 else if n = 146 then 294 else 0, fun n => if n = 1 then 10 else if n = 3 then 0 else if n = 4 then 1 else 0⟩
set_option maxRecDepth 100000 in
theorem lays_split : Lays.n146 Tryz.prog ren_split where
 mixed := by kernel_rfl
 f138 := by kernel_rfl
 f143 := by kernel_rfl
 f146 := by kernel_rfl
 f195 := by kernel_rfl
 f197 := by kernel_rfl
 f217 := by kernel_rfl
 f218 := by kernel_rfl
 f219 := by kernel_rfl
 f221 := by kernel_rfl
 f224 := by kernel_rfl
 f225 := by kernel_rfl
 f260 := by kernel_rfl
 f266 := by kernel_rfl
 f267 := by kernel_rfl
 f268 := by kernel_rfl
 f314 := by kernel_rfl
 t0 := by kernel_rfl
 a0 := fun w => by kernel_rfl
 z0 := fun w => by kernel_rfl
 v0 := fun w => by kernel_rfl
 t3 := by kernel_rfl
 a3 := fun w => by kernel_rfl
 z3 := fun w => by kernel_rfl
 v3 := fun w => by kernel_rfl
 t4 := by kernel_rfl
 a4 := fun w => by kernel_rfl
 z4 := fun w => by kernel_rfl
 v4 := fun w => by kernel_rfl
 t5 := by kernel_rfl
 a5 := fun w => by kernel_rfl
 z5 := fun w => by kernel_rfl
 v5 := fun w => by kernel_rfl
 t9 := by kernel_rfl
 a9 := fun w => by kernel_rfl
 z9 := fun w => by kernel_rfl
 v9 := fun w => by kernel_rfl
 t21 := by kernel_rfl
 a21 := fun w => by kernel_rfl
 z21 := fun w => by kernel_rfl
 v21 := fun w => by kernel_rfl
 t31 := by kernel_rfl
 a31 := fun w => by kernel_rfl
 z31 := fun w => by kernel_rfl
 v31 := fun w => by kernel_rfl
 t46 := by kernel_rfl
 a46 := fun w => by kernel_rfl
 z46 := fun w => by kernel_rfl
 v46 := fun w => by kernel_rfl
 t51 := by kernel_rfl
 a51 := fun w => by kernel_rfl
 z51 := fun w => by kernel_rfl
 v51 := fun w => by kernel_rfl
 t105 := by kernel_rfl
 a105 := fun w => by kernel_rfl
 z105 := fun w => by kernel_rfl
 v105 := fun w => by kernel_rfl
 t119 := by kernel_rfl
 a119 := fun w => by kernel_rfl
 z119 := fun w => by kernel_rfl
 t138 := by kernel_rfl
 a138 := fun w => by kernel_rfl
 z138 := fun w => by kernel_rfl
 v138 := fun w => by kernel_rfl
 t139 := by kernel_rfl
 a139 := fun w => by kernel_rfl
 z139 := fun w => by kernel_rfl
 v139 := fun w => by kernel_rfl
 t146 := by kernel_rfl
 a146 := fun w => by kernel_rfl
 z146 := fun w => by kernel_rfl
 v146 := fun w => by kernel_rfl
 g1 := by kernel_rfl
 g3 := by kernel_rfl
 g4 := by kernel_rfl
def ren_fields : Ren := ⟨fun n => if n = 157 then 120 else if n = 199 then 146 else if n = 229 then 145 else if n = 261 then 175 else if n = 311 then 199 else if n = 312 then 200 else 0, fun n => if n = 0 then 0 else if n = 3 then 3 else if n = 4 then 4 else if n = 5 then 5 else if n = 9 then 9 else if n = 21 then 21 else if n = 31 then 109 else if n = 40 then 174 else if n = 46 then 142 else if n = 49 then 264 else if n = 51 then 237 else if n = 119 then 138 else if n = 141 then 239 else if n = 152 then 234 else if n = 154 then 236 else if n = 193 then 260 else if n = 194 then 261 else if n = 196 then 263 else if n = 198 then 266 else if n = 201 then 269 else if n = 226 then 279 else if n = 227 then 280 else 0, fun n => if n = 0 then 4 else if n = 6 then 5 else 0⟩
set_option maxRecDepth 100000 in
theorem lays_fields : Lays.n157 Tryz.prog ren_fields where
 mixed := by kernel_rfl
 f157 := by kernel_rfl
 f199 := by kernel_rfl
 f229 := by kernel_rfl
 f261 := by kernel_rfl
 f311 := by kernel_rfl
 f312 := by kernel_rfl
 t0 := by kernel_rfl
 a0 := fun w => by kernel_rfl
 z0 := fun w => by kernel_rfl
 v0 := fun w => by kernel_rfl
 t3 := by kernel_rfl
 a3 := fun w => by kernel_rfl
 z3 := fun w => by kernel_rfl
 v3 := fun w => by kernel_rfl
 t4 := by kernel_rfl
 a4 := fun w => by kernel_rfl
 z4 := fun w => by kernel_rfl
 v4 := fun w => by kernel_rfl
 t5 := by kernel_rfl
 a5 := fun w => by kernel_rfl
 z5 := fun w => by kernel_rfl
 v5 := fun w => by kernel_rfl
 t9 := by kernel_rfl
 a9 := fun w => by kernel_rfl
 z9 := fun w => by kernel_rfl
 v9 := fun w => by kernel_rfl
 t21 := by kernel_rfl
 a21 := fun w => by kernel_rfl
 z21 := fun w => by kernel_rfl
 v21 := fun w => by kernel_rfl
 t31 := by kernel_rfl
 a31 := fun w => by kernel_rfl
 z31 := fun w => by kernel_rfl
 v31 := fun w => by kernel_rfl
 t40 := by kernel_rfl
 a40 := fun w => by kernel_rfl
 z40 := fun w => by kernel_rfl
 v40 := fun w => by kernel_rfl
 t46 := by kernel_rfl
 a46 := fun w => by kernel_rfl
 z46 := fun w => by kernel_rfl
 v46 := fun w => by kernel_rfl
 t49 := by kernel_rfl
 a49 := fun w => by kernel_rfl
 z49 := fun w => by kernel_rfl
 v49 := fun w => by kernel_rfl
 t51 := by kernel_rfl
 a51 := fun w => by kernel_rfl
 z51 := fun w => by kernel_rfl
 v51 := fun w => by kernel_rfl
 t119 := by kernel_rfl
 a119 := fun w => by kernel_rfl
 z119 := fun w => by kernel_rfl
 t141 := by kernel_rfl
 a141 := fun w => by kernel_rfl
 z141 := fun w => by kernel_rfl
 v141 := fun w => by kernel_rfl
 t152 := by kernel_rfl
 a152 := fun w => by kernel_rfl
 z152 := fun w => by kernel_rfl
 v152 := fun w => by kernel_rfl
 t154 := by kernel_rfl
 a154 := fun w => by kernel_rfl
 z154 := fun w => by kernel_rfl
 v154 := fun w => by kernel_rfl
 t193 := by kernel_rfl
 a193 := fun w => by kernel_rfl
 z193 := fun w => by kernel_rfl
 v193 := fun w => by kernel_rfl
 t194 := by kernel_rfl
 a194 := fun w => by kernel_rfl
 z194 := fun w => by kernel_rfl
 v194 := fun w => by kernel_rfl
 t196 := by kernel_rfl
 a196 := fun w => by kernel_rfl
 z196 := fun w => by kernel_rfl
 v196 := fun w => by kernel_rfl
 t198 := by kernel_rfl
 a198 := fun w => by kernel_rfl
 z198 := fun w => by kernel_rfl
 v198 := fun w => by kernel_rfl
 t201 := by kernel_rfl
 a201 := fun w => by kernel_rfl
 z201 := fun w => by kernel_rfl
 v201 := fun w => by kernel_rfl
 t226 := by kernel_rfl
 a226 := fun w => by kernel_rfl
 z226 := fun w => by kernel_rfl
 v226 := fun w => by kernel_rfl
 t227 := by kernel_rfl
 a227 := fun w => by kernel_rfl
 z227 := fun w => by kernel_rfl
 v227 := fun w => by kernel_rfl
 g0 := by kernel_rfl
 g6 := by kernel_rfl
def ren_index : Ren := ⟨fun n => if n = 137 then 216 else if n = 217 then 222 else if n = 266 then 226 else 0, fun n => if n = 3 then 3 else if n = 5 then 5 else if n = 9 then 9 else 0, fun n => 0⟩
set_option maxRecDepth 100000 in
theorem lays_index : Lays.n137 Tryz.prog ren_index where
 mixed := by kernel_rfl
 f137 := by kernel_rfl
 f217 := by kernel_rfl
 f266 := by kernel_rfl
 t3 := by kernel_rfl
 a3 := fun w => by kernel_rfl
 z3 := fun w => by kernel_rfl
 v3 := fun w => by kernel_rfl
 t5 := by kernel_rfl
 a5 := fun w => by kernel_rfl
 z5 := fun w => by kernel_rfl
 v5 := fun w => by kernel_rfl
 t9 := by kernel_rfl
 a9 := fun w => by kernel_rfl
 z9 := fun w => by kernel_rfl
 v9 := fun w => by kernel_rfl
def ren_grow : Ren := ⟨fun n => if n = 4 then 144 else 0, fun n => if n = 0 then 0 else if n = 3 then 3 else if n = 4 then 4 else if n = 9 then 9 else if n = 20 then 20 else if n = 22 then 109 else if n = 25 then 9 else 0, fun n => 0⟩
set_option maxRecDepth 100000 in
theorem lays_grow : Lays8.n4 Tryz.prog ren_grow where
 mixed := by kernel_rfl
 f4 := ⟨Tryz.f144.name, by kernel_rfl, by kernel_rfl⟩
 t0 := by kernel_rfl
 a0 := fun w => by kernel_rfl
 z0 := fun w => by kernel_rfl
 v0 := fun w => by kernel_rfl
 t3 := by kernel_rfl
 a3 := fun w => by kernel_rfl
 z3 := fun w => by kernel_rfl
 v3 := fun w => by kernel_rfl
 t4 := by kernel_rfl
 a4 := fun w => by kernel_rfl
 z4 := fun w => by kernel_rfl
 v4 := fun w => by kernel_rfl
 t9 := by kernel_rfl
 a9 := fun w => by kernel_rfl
 z9 := fun w => by kernel_rfl
 v9 := fun w => by kernel_rfl
 t20 := by kernel_rfl
 a20 := fun w => by kernel_rfl
 z20 := fun w => by kernel_rfl
 v20 := fun w => by kernel_rfl
 t22 := by kernel_rfl
 a22 := fun w => by kernel_rfl
 z22 := fun w => by kernel_rfl
 v22 := fun w => by kernel_rfl
theorem baSize (s : By) : (⟨s.toArray⟩ : ByteArray).size = s.length := by
 show s.toArray.size = _
 simp
theorem own_wider {w : World} {base base' : Nat} {e : TypeId} {size n : Nat} {v : Value} {xs : List Value} (h : w.ownsRow base e size v n xs) (hb : base' ≤ base) : w.ownsRow base' e size v n xs := by
 refine ⟨h.1, h.2.imp id ?_⟩
 rintro ⟨g, cap, cur, h1, h2, h3⟩
 exact ⟨g, cap, cur, h1, Nat.le_trans hb h2, h3⟩
theorem lowerA_eq (s : By) : Lib.toLowerA s = s.map lowC := by
 unfold Lib.toLowerA
 refine List.map_congr_left fun c _ => ?_
 unfold Lib.lowerB lowC Lib.isUpperB
 simp only [Bool.and_eq_true, decide_eq_true_eq]
theorem upperA_eq (s : By) : Lib.toUpperA s = s.map upC := by
 unfold Lib.toUpperA
 refine List.map_congr_left fun c _ => ?_
 unfold Lib.upperB upC Lib.isLowerB
 simp only [Bool.and_eq_true, decide_eq_true_eq]
theorem q4g {s : By} (h : ∀ c ∈ s, c.toNat < 128) : ∀ (j : Nat) b, (⟨s.toArray⟩ : ByteArray).data.toList[j]? = some b → b.toNat < 128 := fun j b hb => h b (by
 have := List.mem_of_getElem? hb
 simpa using this)
def slowL : Law := ⟨fun ts => ∃ (s : By), ts = [.str s] ∧ ((∀ c ∈ s, c.toNat < 128) ∧ s.length ≤ 1000000), fun ts z₀ => ∀ (s : By), ts = [.str s] → z₀ = .str (s.map lowC)⟩
theorem slow_pre {s : By} (h : (∀ c ∈ s, c.toNat < 128) ∧ s.length ≤ 1000000) : slowL.pre [.str s] := ⟨s, rfl, h⟩
theorem slow_fin {s : By} {z₀ : TV} (h : z₀ = .str (s.map lowC)) : slowL.post [.str s] z₀ := fun s₁ e => by
 simp only [qy] at e; subst e
 exact h
theorem slow_all {s : By} {Q : TV → Prop} : (∀ z₀, slowL.post [.str s] z₀ → Q z₀) ↔ Q (.str (s.map lowC)) := ⟨fun h => h _ (slow_fin rfl), fun h z₀ hr => by rw [hr _ rfl]; exact h⟩
theorem slow_c (k : Nat) : Contract Tryz.prog (mkEnv globT []) gtabU (qtj k) slowL.pre slowL.post :=
 Contract.leaf ⟨_, Tryz.f170.body.getD .skip, Tryz.func170, by kernel_rfl, by kernel_rfl⟩ fun w ts vs hg ha hp => by
  obtain ⟨s, rfl, hp, hl⟩ := hp
  obtain ⟨v0, vs0, e0, h0, ha⟩ := zcl ha
  obtain ⟨_, e2⟩ := zgh ha
  have h0 := zrj h0
  subst h0 e2
  have ev : vs = #[.string ⟨s.toArray⟩] := by apply Array.toList_inj.1; rw [e0]
  subst ev
  refine ⟨.str (s.map lowC), .string ⟨(s.map lowC).toArray⟩, fun M => .str (.str _), slow_fin rfl, ?_⟩
  have := Any.strings_ToLower_ascii lays_lower extra_lower ⟨s.toArray⟩ w (by have := baSize s; omega) (q4g hp)
  rw [show (⟨s.toArray⟩ : ByteArray).data.toList = s from rfl, lowerA_eq] at this
  exact this
def suppL : Law := ⟨fun ts => ∃ (s : By), ts = [.str s] ∧ ((∀ c ∈ s, c.toNat < 128) ∧ s.length ≤ 1000000), fun ts z₀ => ∀ (s : By), ts = [.str s] → z₀ = .str (s.map upC)⟩
theorem supp_pre {s : By} (h : (∀ c ∈ s, c.toNat < 128) ∧ s.length ≤ 1000000) : suppL.pre [.str s] := ⟨s, rfl, h⟩
theorem supp_fin {s : By} {z₀ : TV} (h : z₀ = .str (s.map upC)) : suppL.post [.str s] z₀ := fun s₁ e => by
 simp only [qy] at e; subst e
 exact h
theorem supp_all {s : By} {Q : TV → Prop} : (∀ z₀, suppL.post [.str s] z₀ → Q z₀) ↔ Q (.str (s.map upC)) := ⟨fun h => h _ (supp_fin rfl), fun h z₀ hr => by rw [hr _ rfl]; exact h⟩
theorem supp_c (k : Nat) : Contract Tryz.prog (mkEnv globT []) gtabU (qq4 k) suppL.pre suppL.post :=
 Contract.leaf ⟨_, Tryz.f151.body.getD .skip, Tryz.func151, by kernel_rfl, by kernel_rfl⟩ fun w ts vs hg ha hp => by
  obtain ⟨s, rfl, hp, hl⟩ := hp
  obtain ⟨v0, vs0, e0, h0, ha⟩ := zcl ha
  obtain ⟨_, e2⟩ := zgh ha
  have h0 := zrj h0
  subst h0 e2
  have ev : vs = #[.string ⟨s.toArray⟩] := by apply Array.toList_inj.1; rw [e0]
  subst ev
  refine ⟨.str (s.map upC), .string ⟨(s.map upC).toArray⟩, fun M => .str (.str _), supp_fin rfl, ?_⟩
  have := Any.strings_ToUpper_ascii lays_upper extra_upper ⟨s.toArray⟩ w (by have := baSize s; omega) (q4g hp)
  rw [show (⟨s.toArray⟩ : ByteArray).data.toList = s from rfl, upperA_eq] at this
  exact this
def sibL : Law := ⟨fun ts => ∃ (s : By) (c : Int), ts = [.str s, .int c] ∧ (s.length ≤ 1000000), fun ts z₀ => ∀ (s : By) (c : Int), ts = [.str s, .int c] → z₀ = .int (Lib.indexByte s c.toNat.toUInt8)⟩
theorem sib_pre {s : By} {c : Int} (h : s.length ≤ 1000000) : sibL.pre [.str s, .int c] := ⟨s, c, rfl, h⟩
theorem z96 {s : By} {c : Int} {z₀ : TV} (h : z₀ = .int (Lib.indexByte s c.toNat.toUInt8)) : sibL.post [.str s, .int c] z₀ := fun s₁ c₁ e => by
 simp only [qy] at e; obtain ⟨rfl, rfl⟩ := e
 exact h
theorem sib_all {s : By} {c : Int} {Q : TV → Prop} : (∀ z₀, sibL.post [.str s, .int c] z₀ → Q z₀) ↔ Q (.int (Lib.indexByte s c.toNat.toUInt8)) := ⟨fun h => h _ (z96 rfl), fun h z₀ hr => by rw [hr _ _ rfl]; exact h⟩
theorem sib_c (k : Nat) : Contract Tryz.prog (mkEnv globT []) gtabU (zhg k) sibL.pre sibL.post :=
 Contract.leaf ⟨_, Tryz.f216.body.getD .skip, Tryz.func216, by kernel_rfl, by kernel_rfl⟩ fun w ts vs hg ha hp => by
  obtain ⟨s, c, rfl, hp⟩ := hp
  obtain ⟨v0, vs0, e0, h0, ha⟩ := zcl ha
  obtain ⟨v1, vs1, e1, h1, ha⟩ := zcl ha
  obtain ⟨_, e2⟩ := zgh ha
  have h0 := zrj h0
  have h1 := argRep_int h1
  subst h0 h1 e2 e1
  have ev : vs = #[.string ⟨s.toArray⟩, .int .u8 c] := by apply Array.toList_inj.1; rw [e0]
  subst ev
  refine ⟨.int (Lib.indexByte s c.toNat.toUInt8), .int .i64 (Lib.indexByte s c.toNat.toUInt8), fun M => .int _ (.int _), z96 rfl, ?_⟩
  exact (Any.strings_IndexByte lays_index ⟨s.toArray⟩ c w).mono fun e w' ⟨he, hw⟩ => ⟨by rw [he], by rw [hw]; exact Below.refl _ _⟩
theorem hi9S : (Tryz.prog.info? 9).map (fun i => (i.zero, i.size, i.bytes)) = some (some (.string ByteArray.empty), 1, 16) := by kernel_rfl
theorem own_lit (w : World) (l : List By) (hl : l.length ≤ 100000000) : (w.alloc (.cells (strC l).toArray 9)).ownsRow w.heap.size 9 1 (.slice (some ⟨w.heap.size, 0, none⟩) l.length l.length) l.length (strC l) := by
 have h := World.ownsRow_lit (base := w.heap.size) (e := 9) (size := 1) w (strC l).toArray l.length (Nat.le_refl _) (by unfold maxLen; omega) (by simp [strC_len])
 simpa [strC_len] using h
def ssplL : Law := ⟨fun ts => ∃ (s : By), ts = [.str s, .str []] ∧ ((∀ c ∈ s, c.toNat < 128) ∧ s.length ≤ 1000000), fun ts z₀ => ∀ (s : By), ts = [.str s, .str []] → z₀ = strs (s.map fun c => [c])⟩
theorem sspl_pre {s : By} (h : (∀ c ∈ s, c.toNat < 128) ∧ s.length ≤ 1000000) : ssplL.pre [.str s, .str []] := ⟨s, rfl, h⟩
theorem sspl_fin {s : By} {z₀ : TV} (h : z₀ = strs (s.map fun c => [c])) : ssplL.post [.str s, .str []] z₀ := fun s₁ e => by
 simp only [qy] at e; subst e
 exact h
theorem sspl_all {s : By} {Q : TV → Prop} : (∀ z₀, ssplL.post [.str s, .str []] z₀ → Q z₀) ↔ Q (strs (s.map fun c => [c])) := ⟨fun h => h _ (sspl_fin rfl), fun h z₀ hr => by rw [hr _ rfl]; exact h⟩
theorem chars_eq (s : By) : (Lib.charsB ⟨s.toArray⟩).map Value.string = strC (s.map fun c => [c]) := by
 unfold Lib.charsB Lib.charsUpTo strC strV
 rw [List.map_map, List.map_map]
 apply List.ext_getElem
 ·simp; exact baSize s
 ·intro i h1 h2
  have hi : i < s.length := by simpa using h2
  simp only [List.getElem_map, List.getElem_range, Function.comp_apply]
  congr 1
  apply ByteArray.ext
  rw [ByteArray.data_extract]
  apply Array.toList_inj.1
  simp [List.extract_eq_take_drop]
  rw [List.take_one, List.head?_drop, List.getElem?_eq_getElem hi]; rfl
theorem sspl_c (k : Nat) : Contract Tryz.prog (mkEnv globT []) gtabU (qt5 k) ssplL.pre ssplL.post :=
 Contract.leafS ⟨_, Tryz.f171.body.getD .skip, Tryz.func171, by kernel_rfl, by kernel_rfl⟩ fun w ts vs hg ha hp => by
  obtain ⟨s, rfl, hp, hl⟩ := hp
  obtain ⟨v0, vs0, e0, h0, ha⟩ := zcl ha
  obtain ⟨v1, vs1, e1, h1, ha⟩ := zcl ha
  obtain ⟨_, e2⟩ := zgh ha
  have h0 := zrj h0
  have h1 := zrj h1
  subst h0 h1 e2 e1
  have ev : vs = #[.string ⟨s.toArray⟩, .string ⟨#[]⟩] := by apply Array.toList_inj.1; rw [e0]
  subst ev
  refine ⟨s.map fun c => [c], sspl_fin rfl, ?_⟩
  have hsz := baSize s
  refine (Any.strings_Split_chars lays_split hi9S ⟨s.toArray⟩ ⟨#[]⟩ w rfl (by rw [hsz]; omega) (q4g hp)).mono fun e w' ⟨he, hw⟩ => ?_
  rw [hsz] at he hw
  rw [chars_eq] at hw
  have hn : (s.map fun c => [c]).length = s.length := List.length_map _
  have ho := own_lit (w.iter ⟨s.toArray⟩ s.length) (s.map fun c => [c]) (by rw [hn]; omega)
  rw [hn] at ho
  have hb : Below w.heap.size w (w.iter ⟨s.toArray⟩ s.length) := (Below.refl _ w).alloc (Nat.le_refl _) _
  subst he hw
  exact ⟨_, rfl, by rw [hn]; exact own_wider ho hb.size, hb.alloc hb.size _⟩
theorem strI : ∃ i0, Tryz.prog.info? 9 = some i0 ∧ i0.zero = some (.string ⟨#[]⟩) ∧ i0.size = 1 ∧ i0.bytes = 16 := info_parts (by kernel_rfl)
theorem grow_nil (n : Nat) (hn : n ≤ 1000000) (w : World) : Calls Tryz.prog 144 #[.slice none 0 0, .int .i64 n] w fun e w' => ∃ v, e = .returned v ∧ w'.ownsRow w.heap.size 9 1 v 0 [] ∧ Below w.heap.size w w' := by
 rcases Nat.eq_zero_or_pos n with rfl | hp
 ·refine (Any8.slices_Grow_room lays_grow none 0 0 0 w (Nat.le_refl _) (by omega) (by omega) (Nat.le_refl _)).mono ?_
  rintro e w' ⟨rfl, rfl⟩
  exact ⟨_, rfl, World.ownsRow_nil _ _ _ _, Below.refl _ _⟩
 ·obtain ⟨i0, hi, hz0, hz1, hz2⟩ := strI
  have hm : (1000000 : Nat) ≤ maxLen := by decide
  refine (Any8.slices_Grow_grow lays_grow i0 (.string ⟨#[]⟩) hi hz0 (by rw [hz1]; decide) none 0 0 n [] w (Nat.le_refl _) (by omega) (by rw [hz2]; omega) (by omega) (by simp) (fun _ => rfl) (fun a e => by cases e)).mono ?_
  rintro e w' ⟨rfl, rfl⟩
  have hge := grownCap_ge w (0 + n) 0 (ren_grow.t 25)
  have hle := grownCap_le_maxLen w (0 + n) 0 (ren_grow.t 25) (by omega)
  simp only [Nat.zero_add] at hge hle ⊢
  refine ⟨_, rfl, World.ownsRow_made w.drew _ _ (Nat.le_refl _) hle ?_, (Below.drew (Below.refl _ w)).alloc (Nat.le_refl _) _⟩
  simp [Builtin.zeroCells, Value.cells]
  omega
def StrRow (W : World) (v : Value) (l : List By) : Prop := ∃ b off cap, v = .slice (some ⟨b, off, none⟩) l.length cap ∧ b < W.heap.size ∧ ∀ j x, l[j]? = some x → W.cell? ⟨b, off + j, none⟩ = some (strV x)
theorem StrRow.below {W W' : World} {n : Nat} {v : Value} {l : List By} (h : StrRow W v l) (hb : Below n W W') (hn : W.heap.size ≤ n) : StrRow W' v l := by
 obtain ⟨b, off, cap, rfl, h1, h2⟩ := h
 exact ⟨b, off, cap, rfl, Nat.lt_of_lt_of_le h1 hb.size, fun j x hx => (hb.cell (p := ⟨b, off + j, none⟩) (by show b < n; omega)).trans (h2 j x hx)⟩
theorem strRow_of {W : World} {v : Value} {l : List By} (h : RepT (full W) (.slice false [.str]) (strs l) v) (hne : l ≠ []) : StrRow W v l := by
 have hl : (strs l).asList.length = l.length := by rw [zbc, List.length_map]
 generalize hct : CT.slice false [CT.str] = ct at h
 generalize hT : strs l = T at h
 cases h with
 | int => cases hct
 | bool => cases hct
 | str => cases hct
 | map => cases hct
 | empty ag cs _ a cap h0 _ _ =>
  subst hT
  rw [h0] at hl
  exact absurd (List.length_eq_zero_iff.1 hl.symm) hne
 | slice ag cs _ g off cap cur el fr vals hM hcap hmax hc hr =>
  subst hT
  injection hct with e1 e2
  subst e1 e2
  refine ⟨g, off, cap, by rw [hl], (Array.getElem?_eq_some_iff.1 (show W.heap[g]? = _ from hM)).1, fun j x hx => ?_⟩
  have hj := (List.getElem?_eq_some_iff.1 hx).1
  have h1 := hc j (by omega) 0 (by simp)
  have h2 := hr j (by omega) 0 (by simp)
  have e3 : (strs l).asList[j]'(by omega) = .str x := by
   simp only [zbc, List.getElem_map]
   rw [(List.getElem?_eq_some_iff.1 hx).2]
  have h3 : RepT (full W) .str (.str x) (vals j 0) := by
   have h4 : RepT (full W) .str (zbk false ((strs l).asList[j]'(by omega)) 0) (vals j 0) := h2
   rw [e3] at h4
   exact h4
  simp only [List.length_cons, List.length_nil, Nat.zero_add, Nat.mul_one, Nat.add_zero] at h1
  generalize vals j 0 = u at h1 h3
  cases h3
  simp [World.cell?, show W.heap[g]? = _ from hM, h1, strV, TV.asStr]
theorem strRow_own {W : World} {B : Nat} {v : Value} {l : List By} (h : W.ownsRow B 9 1 v l.length (strC l)) (hne : l ≠ []) : StrRow W v l := by
 rcases h.2 with ⟨_, h0⟩ | ⟨g, cap, cur, rfl, hb, hh, hk⟩
 ·exact absurd (List.length_eq_zero_iff.1 h0) hne
 ·have hlt := (Array.getElem?_eq_some_iff.1 hh).1
  refine ⟨g, 0, cap, rfl, hlt, fun j x hx => ?_⟩
  have := h.cells (g := g) rfl j _ (strC_get hx)
  rw [Addr.add_lit] at this
  exact this
theorem take_flat {ls : List (List By)} {i : Nat} {l : List By} (h : ls[i]? = some l) : (ls.take (i + 1)).flatten = (ls.take i).flatten ++ l := by
 rw [List.take_add_one, h]
 simp
theorem flat_le {ls : List (List By)} (i : Nat) : (ls.take i).flatten.length ≤ ls.flatten.length := by
 conv => rhs; rw [← List.take_append_drop i ls]
 rw [List.flatten_append, List.length_append]
 omega
set_option maxRecDepth 100000 in
set_option maxHeartbeats 4000000 in
theorem concat_in (w : World) (g off cap : Nat) (ls : List (List By)) (vs : Nat → Value) (hls : ls.length ≤ 100) (htot : ls.flatten.length ≤ 1000000) (hg : g < w.heap.size)
  (hcell : ∀ i, i < ls.length → w.cell? ⟨g, off + i, none⟩ = some (vs i)) (hrow : ∀ i l, ls[i]? = some l → StrRow w (vs i) l) :
  Calls Tryz.prog 119 #[.slice (some ⟨g, off, none⟩) ls.length cap] w fun e w' => ∃ v, e = .returned v ∧ w'.ownsRow w.heap.size 9 1 v ls.flatten.length (strC ls.flatten) ∧ Below w.heap.size w w' := by
 obtain ⟨i0, hi_, hz0, hz1, hz2⟩ := strI
 refine (callsIn_wide (n := 3)).1 ?_
 refine callsIn_of_wp Tryz.func119 rfl trivial ?_ rfl
 simp only [Tryz.ntmps119, List.size_toArray, List.length_cons, List.length_nil, Nat.reduceAdd, Nat.reduceSub, Array.replicate_succ, Array.replicate_zero, List.push_toArray, List.append_toArray, List.nil_append, List.cons_append]
 gi_wp2
 gi_loopw [3, 11] (fun s p wr => ∃ i : Nat, i ≤ ls.length ∧ p = .int .i64 i ∧ s = .int .i64 ((ls.take i).flatten.length : Nat) ∧ wr = w) (fun _ p _ => ls.length - (RowKit.intOf p).toNat)
 case atStart => exact ⟨0, Nat.zero_le _, rfl, rfl, rfl⟩
 case round =>
  obtain ⟨i, hi, rfl, rfl, hw⟩ := hrel
  have hw := hw.symm
  subst hw
  by_cases hlt : i < ls.length
  ·obtain ⟨l, hl⟩ : ∃ l, ls[i]? = some l := ⟨_, List.getElem?_eq_getElem hlt⟩
   have hc := hcell i hlt
   obtain ⟨b, of, cp, hv, _, _⟩ := hrow i l hl
   rw [hv] at hc
   have hf := take_flat hl
   have hfl := flat_le (ls := ls) (i + 1)
   rw [hf, List.length_append] at hfl
   have hlen : (ls.take (i + 1)).flatten.length = (ls.take i).flatten.length + l.length := by rw [hf, List.length_append]
   generalize (ls.take i).flatten.length = m at *
   gi_wp2
   go_roundw
   case rel => exact ⟨i + 1, by omega, by go_num, by rw [hlen]; go_num, trivial⟩
   case measure => simp [RowKit.intOf]; omega
  ·obtain rfl : i = ls.length := by omega
   rw [List.take_length]
   have hgr := grow_nil ls.flatten.length htot w
   have hK := hgr
   clear hgr
   generalize hm : ls.flatten.length = m at hK ⊢
   gi_wp2_with fail
   refine ⟨trivial, ?_⟩
   refine (callsIn_wide.2 hK).mono ?_
   rintro e w1 ⟨v1, rfl, ho1, hb1⟩
   clear hK
   gi_wp2_with fail
   gi_loopw [6, 27] (fun v p wr => ∃ i : Nat, i ≤ ls.length ∧ p = .int .i64 i ∧ wr.ownsRow w.heap.size 9 1 v (ls.take i).flatten.length (strC (ls.take i).flatten) ∧ Below w.heap.size w wr) (fun _ p _ => ls.length - (RowKit.intOf p).toNat)
   case atStart => exact ⟨0, Nat.zero_le _, rfl, ho1, hb1⟩
   case round =>
    obtain ⟨i, hi, rfl, ho, hb⟩ := hrel
    by_cases hlt : i < ls.length
    ·obtain ⟨l, hl⟩ : ∃ l, ls[i]? = some l := ⟨_, List.getElem?_eq_getElem hlt⟩
     obtain ⟨b, of, cp, hv, hbl, hcs⟩ := hrow i l hl
     have hc := (hb.cell (p := ⟨g, off + i, none⟩) hg).trans (hcell i hlt)
     rw [hv] at hc
     have hf := take_flat hl
     have hfl := flat_le (ls := ls) (i + 1)
     rw [hf, List.length_append] at hfl
     have hz := hb.size
     have hlen : (ls.take (i + 1)).flatten.length = (ls.take i).flatten.length + l.length := by rw [hf, List.length_append]
     have hcs2 : ∀ j u, (strC l)[j]? = some u → wr.cell? (Addr.add ⟨b, of, none⟩ j) = some u := by
      intro j u hj
      have hjl : j < l.length := by
       have := (List.getElem?_eq_some_iff.1 hj).1
       rwa [strC_len] at this
      have h1 : l[j]? = some (l[j]) := List.getElem?_eq_getElem hjl
      rw [strC_get h1] at hj
      cases hj
      rw [Addr.add_lit]
      exact (hb.cell (p := ⟨b, of + j, none⟩) hbl).trans (hcs j _ h1)
     have mx : (1000000 : Nat) ≤ maxLen := by decide
     gi_wp2_with (gi_at_builtin; refine wpListIn_append_own _ rfl _ _ 109 rfl w.heap.size 9 i0 _ 1 16 Tryz.underlying109 hi_ hz0 hz1 hz2 rfl (by decide) _ _ _ rfl ho ⟨b, of, none⟩ l.length cp (strC l) rfl (by rw [strC_len, Nat.mul_one]) hcs2 (strC_one l) (by omega) (by omega) hz ?_)
     intro v' w3 hown' hg3 hnil3
     gi_wp2_with fail
     go_roundw
     case rel =>
      refine ⟨i + 1, by omega, by go_num, by rw [hlen, hf, strC_app, show (ls.take i).flatten.length = ((ls.map List.length).take i).sum by simp [List.length_flatten, List.map_take]]; exact hown', hb.grown hg3 hz fun k hk => (ho.lt k hk).1⟩
     case measure => simp [RowKit.intOf]; omega
    ·obtain rfl : i = ls.length := by omega
     rw [List.take_length] at ho
     gi_wp2_with fail
     go_ret
     exact ⟨_, rfl, ho, hb⟩
end Go.Proofs.YtlhagkbhojmjpaaGreatDoor
