/-
  Where the library's functions lie in the program: for the shelf's contracts.
-/
import Derived.Test.YtdijmfdanbnppaaDoorQ06
import Derived.Test.YtdijmfdanbnppaaDoorQ04
import Derived.Shelf.Strconv.Itoa3
import Derived.Shelf.Strconv.AtoiAll
import Derived.Shelf.Strings.Split
import Derived.Shelf.Strings.Cut
import Derived.Shelf.Strings.Builder1
import Derived.HandedShaped
import Derived.Shelf.Vars
import Derived.LaidLaws
import Derived.Handed
import Derived.Test.YtdijmfdanbnppaaDoorTie
import Derived.Test.YtdijmfdanbnppaaDoorCards
import Derived.LaidMore
import Derived.LaidHandle
import Derived.MakeChecks
import Derived.Lib.LaidTab
import Derived.OpenShut
import Derived.SevenTiedAt
import Derived.Lay
import Derived.Shelf.Bits.Mul64

set_option linter.unusedSimpArgs false
set_option linter.unusedVariables false

namespace Go.Fw
open Go Go.Proofs

def ρ : Go.Shelf.Ren where
  f := fun n => if n = 129 then 92 else if n = 138 then 69 else if n = 143 then 70 else if n = 145 then 38 else if n = 146 then 39 else if n = 166 then 26 else if n = 169 then 29 else if n = 171 then 27 else if n = 172 then 71 else if n = 195 then 83 else if n = 197 then 84 else if n = 205 then 108 else if n = 217 then 79 else if n = 218 then 85 else if n = 219 then 67 else if n = 220 then 57 else if n = 221 then 58 else if n = 224 then 81 else if n = 225 then 80 else if n = 240 then 52 else if n = 243 then 53 else if n = 244 then 86 else if n = 245 then 87 else if n = 246 then 65 else if n = 247 then 99 else if n = 260 then 98 else if n = 266 then 96 else if n = 267 then 82 else if n = 268 then 68 else if n = 276 then 64 else if n = 279 then 100 else if n = 280 then 101 else if n = 281 then 102 else if n = 282 then 103 else if n = 283 then 75 else if n = 284 then 76 else if n = 285 then 77 else if n = 286 then 78 else if n = 287 then 106 else if n = 314 then 97 else if n = 316 then 107 else if n = 317 then 91 else if n = 318 then 93 else if n = 319 then 94 else if n = 320 then 95 else if n = 321 then 109 else if n = 322 then 110 else if n = 337 then 104 else if n = 338 then 105 else n
  t := fun n => if n = 31 then 86 else if n = 37 then 65 else if n = 46 then 113 else if n = 51 then 131 else if n = 53 then 120 else if n = 59 then 84 else if n = 70 then 64 else if n = 72 then 67 else if n = 75 then 69 else if n = 76 then 70 else if n = 80 then 74 else if n = 85 then 143 else if n = 105 then 128 else if n = 119 then 149 else if n = 127 then 97 else if n = 138 then 151 else if n = 139 then 152 else if n = 143 then 162 else if n = 145 then 164 else if n = 146 then 132 else if n = 164 then 108 else if n = 167 then 142 else if n = 168 then 145 else if n = 171 then 119 else if n = 173 then 123 else if n = 175 then 153 else if n = 210 then 157 else if n = 212 then 138 else if n = 213 then 139 else if n = 232 then 159 else if n = 233 then 160 else n
  g := fun n => if n = 1 then 0 else if n = 3 then 2 else if n = 4 then 3 else if n = 15 then 4 else if n = 16 then 5 else if n = 17 then 1 else if n = 18 then 6 else if n = 19 then 7 else n

set_option maxRecDepth 20000 in
theorem itoaLays : LaysM.n171 Tryd.prog ρ where
  mixed := by kernel_rfl
  f129 := by kernel_rfl
  f171 := by kernel_rfl
  f243 := by kernel_rfl
  f246 := by kernel_rfl
  f283 := by kernel_rfl
  f284 := by kernel_rfl
  f285 := by kernel_rfl
  f286 := by kernel_rfl
  f317 := by kernel_rfl
  f318 := by kernel_rfl
  f319 := by kernel_rfl
  f320 := by kernel_rfl
  f337 := by kernel_rfl
  f338 := by kernel_rfl
  t0 := by kernel_rfl
  a0 := fun w => by kernel_rfl
  z0 := fun w => by kernel_rfl
  v0 := fun w => by kernel_rfl
  t2 := by kernel_rfl
  a2 := fun w => by kernel_rfl
  z2 := fun w => by kernel_rfl
  v2 := fun w => by kernel_rfl
  t3 := by kernel_rfl
  a3 := fun w => by kernel_rfl
  z3 := fun w => by kernel_rfl
  v3 := fun w => by kernel_rfl
  t4 := by kernel_rfl
  a4 := fun w => by kernel_rfl
  z4 := fun w => by kernel_rfl
  v4 := fun w => by kernel_rfl
  t5 := by kernel_rfl
  a5 := fun w => by kernel_rfl
  z5 := fun w => by kernel_rfl
  v5 := fun w => by kernel_rfl
  t9 := by kernel_rfl
  a9 := fun w => by kernel_rfl
  z9 := fun w => by kernel_rfl
  v9 := fun w => by kernel_rfl
  t20 := by kernel_rfl
  a20 := fun w => by kernel_rfl
  z20 := fun w => by kernel_rfl
  v20 := fun w => by kernel_rfl
  t37 := by kernel_rfl
  a37 := fun w => by kernel_rfl
  z37 := fun w => by kernel_rfl
  v37 := fun w => by kernel_rfl
  t46 := by kernel_rfl
  a46 := fun w => by kernel_rfl
  z46 := fun w => by kernel_rfl
  v46 := fun w => by kernel_rfl
  t51 := by kernel_rfl
  a51 := fun w => by kernel_rfl
  z51 := fun w => by kernel_rfl
  v51 := fun w => by kernel_rfl
  t53 := by kernel_rfl
  a53 := fun w => by kernel_rfl
  z53 := fun w => by kernel_rfl
  v53 := fun w => by kernel_rfl
  t171 := by kernel_rfl
  a171 := fun w => by kernel_rfl
  z171 := fun w => by kernel_rfl
  v171 := fun w => by kernel_rfl
  t173 := by kernel_rfl
  a173 := fun w => by kernel_rfl
  z173 := fun w => by kernel_rfl
  v173 := fun w => by kernel_rfl
  t212 := by kernel_rfl
  a212 := fun w => by kernel_rfl
  z212 := fun w => by kernel_rfl
  v212 := fun w => by kernel_rfl
  t213 := by kernel_rfl
  a213 := fun w => by kernel_rfl
  z213 := fun w => by kernel_rfl
  t232 := by kernel_rfl
  a232 := fun w => by kernel_rfl
  z232 := fun w => by kernel_rfl
  v232 := fun w => by kernel_rfl
  t233 := by kernel_rfl
  a233 := fun w => by kernel_rfl
  z233 := fun w => by kernel_rfl
  v233 := fun w => by kernel_rfl
  g17 := by kernel_rfl
  g18 := by kernel_rfl
  g19 := by kernel_rfl
  i0 := by kernel_rfl
  i2 := by kernel_rfl
  i3 := by kernel_rfl
  i4 := by kernel_rfl
  i5 := by kernel_rfl
  i9 := by kernel_rfl
  i20 := by kernel_rfl
  i37 := by kernel_rfl
  i46 := by kernel_rfl
  i51 := by kernel_rfl
  i53 := by kernel_rfl
  i171 := by kernel_rfl
  i173 := by kernel_rfl
  i212 := by kernel_rfl
  i232 := by kernel_rfl
  i233 := by kernel_rfl
  m17 := by kernel_rfl
  m18 := by kernel_rfl
  m19 := by kernel_rfl

set_option maxRecDepth 20000 in
theorem cutLays : Lays.n145 Tryd.prog ρ where
  mixed := by kernel_rfl
  f145 := by kernel_rfl
  f217 := by kernel_rfl
  f219 := by kernel_rfl
  f220 := by kernel_rfl
  f224 := by kernel_rfl
  f225 := by kernel_rfl
  f266 := by kernel_rfl
  f267 := by kernel_rfl
  f314 := by kernel_rfl
  t3 := by kernel_rfl
  a3 := fun w => by kernel_rfl
  z3 := fun w => by kernel_rfl
  v3 := fun w => by kernel_rfl
  t4 := by kernel_rfl
  a4 := fun w => by kernel_rfl
  z4 := fun w => by kernel_rfl
  v4 := fun w => by kernel_rfl
  t5 := by kernel_rfl
  a5 := fun w => by kernel_rfl
  z5 := fun w => by kernel_rfl
  v5 := fun w => by kernel_rfl
  t9 := by kernel_rfl
  a9 := fun w => by kernel_rfl
  z9 := fun w => by kernel_rfl
  v9 := fun w => by kernel_rfl
  t46 := by kernel_rfl
  a46 := fun w => by kernel_rfl
  z46 := fun w => by kernel_rfl
  v46 := fun w => by kernel_rfl
  t51 := by kernel_rfl
  a51 := fun w => by kernel_rfl
  z51 := fun w => by kernel_rfl
  v51 := fun w => by kernel_rfl
  t59 := by kernel_rfl
  a59 := fun w => by kernel_rfl
  z59 := fun w => by kernel_rfl
  v59 := fun w => by kernel_rfl
  t146 := by kernel_rfl
  a146 := fun w => by kernel_rfl
  z146 := fun w => by kernel_rfl
  v146 := fun w => by kernel_rfl
  g1 := by kernel_rfl

set_option maxRecDepth 20000 in
theorem splitLays : Lays.n146 Tryd.prog ρ where
  mixed := by kernel_rfl
  f138 := by kernel_rfl
  f143 := by kernel_rfl
  f146 := by kernel_rfl
  f195 := by kernel_rfl
  f197 := by kernel_rfl
  f217 := by kernel_rfl
  f218 := by kernel_rfl
  f219 := by kernel_rfl
  f221 := by kernel_rfl
  f224 := by kernel_rfl
  f225 := by kernel_rfl
  f260 := by kernel_rfl
  f266 := by kernel_rfl
  f267 := by kernel_rfl
  f268 := by kernel_rfl
  f314 := by kernel_rfl
  t0 := by kernel_rfl
  a0 := fun w => by kernel_rfl
  z0 := fun w => by kernel_rfl
  v0 := fun w => by kernel_rfl
  t3 := by kernel_rfl
  a3 := fun w => by kernel_rfl
  z3 := fun w => by kernel_rfl
  v3 := fun w => by kernel_rfl
  t4 := by kernel_rfl
  a4 := fun w => by kernel_rfl
  z4 := fun w => by kernel_rfl
  v4 := fun w => by kernel_rfl
  t5 := by kernel_rfl
  a5 := fun w => by kernel_rfl
  z5 := fun w => by kernel_rfl
  v5 := fun w => by kernel_rfl
  t9 := by kernel_rfl
  a9 := fun w => by kernel_rfl
  z9 := fun w => by kernel_rfl
  v9 := fun w => by kernel_rfl
  t21 := by kernel_rfl
  a21 := fun w => by kernel_rfl
  z21 := fun w => by kernel_rfl
  v21 := fun w => by kernel_rfl
  t31 := by kernel_rfl
  a31 := fun w => by kernel_rfl
  z31 := fun w => by kernel_rfl
  v31 := fun w => by kernel_rfl
  t46 := by kernel_rfl
  a46 := fun w => by kernel_rfl
  z46 := fun w => by kernel_rfl
  v46 := fun w => by kernel_rfl
  t51 := by kernel_rfl
  a51 := fun w => by kernel_rfl
  z51 := fun w => by kernel_rfl
  v51 := fun w => by kernel_rfl
  t105 := by kernel_rfl
  a105 := fun w => by kernel_rfl
  z105 := fun w => by kernel_rfl
  v105 := fun w => by kernel_rfl
  t119 := by kernel_rfl
  a119 := fun w => by kernel_rfl
  z119 := fun w => by kernel_rfl
  t138 := by kernel_rfl
  a138 := fun w => by kernel_rfl
  z138 := fun w => by kernel_rfl
  v138 := fun w => by kernel_rfl
  t139 := by kernel_rfl
  a139 := fun w => by kernel_rfl
  z139 := fun w => by kernel_rfl
  v139 := fun w => by kernel_rfl
  t146 := by kernel_rfl
  a146 := fun w => by kernel_rfl
  z146 := fun w => by kernel_rfl
  v146 := fun w => by kernel_rfl
  g1 := by kernel_rfl
  g3 := by kernel_rfl
  g4 := by kernel_rfl

set_option maxRecDepth 20000 in
theorem atoiLays : LaysC.n172 Tryd.prog ρ where
  mixed := by kernel_rfl
  f129 := by kernel_rfl
  f171 := by kernel_rfl
  f172 := by kernel_rfl
  f205 := by kernel_rfl
  f243 := by kernel_rfl
  f244 := by kernel_rfl
  f245 := by kernel_rfl
  f246 := by kernel_rfl
  f247 := by kernel_rfl
  f279 := by kernel_rfl
  f280 := by kernel_rfl
  f281 := by kernel_rfl
  f282 := by kernel_rfl
  f283 := by kernel_rfl
  f284 := by kernel_rfl
  f285 := by kernel_rfl
  f286 := by kernel_rfl
  f287 := by kernel_rfl
  f316 := by kernel_rfl
  f317 := by kernel_rfl
  f318 := by kernel_rfl
  f319 := by kernel_rfl
  f320 := by kernel_rfl
  f321 := by kernel_rfl
  f322 := by kernel_rfl
  f337 := by kernel_rfl
  f338 := by kernel_rfl
  t0 := by kernel_rfl
  a0 := fun w => by kernel_rfl
  z0 := fun w => by kernel_rfl
  v0 := fun w => by kernel_rfl
  t2 := by kernel_rfl
  a2 := fun w => by kernel_rfl
  z2 := fun w => by kernel_rfl
  v2 := fun w => by kernel_rfl
  t3 := by kernel_rfl
  a3 := fun w => by kernel_rfl
  z3 := fun w => by kernel_rfl
  v3 := fun w => by kernel_rfl
  t4 := by kernel_rfl
  a4 := fun w => by kernel_rfl
  z4 := fun w => by kernel_rfl
  v4 := fun w => by kernel_rfl
  t5 := by kernel_rfl
  a5 := fun w => by kernel_rfl
  z5 := fun w => by kernel_rfl
  v5 := fun w => by kernel_rfl
  t9 := by kernel_rfl
  a9 := fun w => by kernel_rfl
  z9 := fun w => by kernel_rfl
  v9 := fun w => by kernel_rfl
  t20 := by kernel_rfl
  a20 := fun w => by kernel_rfl
  z20 := fun w => by kernel_rfl
  v20 := fun w => by kernel_rfl
  t21 := by kernel_rfl
  a21 := fun w => by kernel_rfl
  z21 := fun w => by kernel_rfl
  v21 := fun w => by kernel_rfl
  t37 := by kernel_rfl
  a37 := fun w => by kernel_rfl
  z37 := fun w => by kernel_rfl
  v37 := fun w => by kernel_rfl
  t46 := by kernel_rfl
  a46 := fun w => by kernel_rfl
  z46 := fun w => by kernel_rfl
  v46 := fun w => by kernel_rfl
  t51 := by kernel_rfl
  a51 := fun w => by kernel_rfl
  z51 := fun w => by kernel_rfl
  v51 := fun w => by kernel_rfl
  t53 := by kernel_rfl
  a53 := fun w => by kernel_rfl
  z53 := fun w => by kernel_rfl
  v53 := fun w => by kernel_rfl
  t75 := by kernel_rfl
  a75 := fun w => by kernel_rfl
  z75 := fun w => by kernel_rfl
  v75 := fun w => by kernel_rfl
  t76 := by kernel_rfl
  a76 := fun w => by kernel_rfl
  z76 := fun w => by kernel_rfl
  v76 := fun w => by kernel_rfl
  t85 := by kernel_rfl
  a85 := fun w => by kernel_rfl
  z85 := fun w => by kernel_rfl
  v85 := fun w => by kernel_rfl
  t127 := by kernel_rfl
  a127 := fun w => by kernel_rfl
  z127 := fun w => by kernel_rfl
  v127 := fun w => by kernel_rfl
  t143 := by kernel_rfl
  a143 := fun w => by kernel_rfl
  z143 := fun w => by kernel_rfl
  v143 := fun w => by kernel_rfl
  t145 := by kernel_rfl
  a145 := fun w => by kernel_rfl
  z145 := fun w => by kernel_rfl
  v145 := fun w => by kernel_rfl
  t167 := by kernel_rfl
  a167 := fun w => by kernel_rfl
  z167 := fun w => by kernel_rfl
  v167 := fun w => by kernel_rfl
  t168 := by kernel_rfl
  a168 := fun w => by kernel_rfl
  z168 := fun w => by kernel_rfl
  v168 := fun w => by kernel_rfl
  t171 := by kernel_rfl
  a171 := fun w => by kernel_rfl
  z171 := fun w => by kernel_rfl
  v171 := fun w => by kernel_rfl
  t173 := by kernel_rfl
  a173 := fun w => by kernel_rfl
  z173 := fun w => by kernel_rfl
  v173 := fun w => by kernel_rfl
  t175 := by kernel_rfl
  a175 := fun w => by kernel_rfl
  z175 := fun w => by kernel_rfl
  v175 := fun w => by kernel_rfl
  t210 := by kernel_rfl
  a210 := fun w => by kernel_rfl
  z210 := fun w => by kernel_rfl
  v210 := fun w => by kernel_rfl
  t212 := by kernel_rfl
  a212 := fun w => by kernel_rfl
  z212 := fun w => by kernel_rfl
  v212 := fun w => by kernel_rfl
  t213 := by kernel_rfl
  a213 := fun w => by kernel_rfl
  z213 := fun w => by kernel_rfl
  t232 := by kernel_rfl
  a232 := fun w => by kernel_rfl
  z232 := fun w => by kernel_rfl
  v232 := fun w => by kernel_rfl
  t233 := by kernel_rfl
  a233 := fun w => by kernel_rfl
  z233 := fun w => by kernel_rfl
  v233 := fun w => by kernel_rfl
  g15 := by kernel_rfl
  g16 := by kernel_rfl
  g17 := by kernel_rfl
  g18 := by kernel_rfl
  g19 := by kernel_rfl
  t80 := by kernel_rfl
  a80 := fun w => by kernel_rfl
  z80 := fun w => by kernel_rfl
  v80 := fun w => by kernel_rfl
  i0 := by kernel_rfl
  i2 := by kernel_rfl
  i3 := by kernel_rfl
  i4 := by kernel_rfl
  i5 := by kernel_rfl
  i9 := by kernel_rfl
  i20 := by kernel_rfl
  i21 := by kernel_rfl
  i37 := by kernel_rfl
  i46 := by kernel_rfl
  i51 := by kernel_rfl
  i53 := by kernel_rfl
  i75 := by kernel_rfl
  i76 := by kernel_rfl
  i80 := by kernel_rfl
  i85 := by kernel_rfl
  i127 := by kernel_rfl
  i143 := by kernel_rfl
  i145 := by kernel_rfl
  i167 := by kernel_rfl
  i168 := by kernel_rfl
  i171 := by kernel_rfl
  i173 := by kernel_rfl
  i175 := by kernel_rfl
  i210 := by kernel_rfl
  i212 := by kernel_rfl
  i232 := by kernel_rfl
  i233 := by kernel_rfl
  m15 := by kernel_rfl
  m16 := by kernel_rfl
  m17 := by kernel_rfl
  m18 := by kernel_rfl
  m19 := by kernel_rfl
  c0 := by kernel_rfl
  c2 := by kernel_rfl
  c3 := by kernel_rfl
  c4 := by kernel_rfl
  c5 := by kernel_rfl
  c9 := by kernel_rfl
  c20 := by kernel_rfl
  c21 := by kernel_rfl
  c37 := by kernel_rfl
  c46 := by kernel_rfl
  c51 := by kernel_rfl
  c53 := by kernel_rfl
  c75 := by kernel_rfl
  c76 := by kernel_rfl
  c80 := by kernel_rfl
  c85 := by kernel_rfl
  c127 := by kernel_rfl
  c143 := by kernel_rfl
  c145 := by kernel_rfl
  c167 := by kernel_rfl
  c168 := by kernel_rfl
  c171 := by kernel_rfl
  c173 := by kernel_rfl
  c175 := by kernel_rfl
  c210 := by kernel_rfl
  c212 := by kernel_rfl
  c213 := by kernel_rfl
  c232 := by kernel_rfl
  c233 := by kernel_rfl

set_option maxRecDepth 20000 in
theorem bldLays : Lays.n166 Tryd.prog ρ where
  mixed := by kernel_rfl
  f166 := by kernel_rfl
  f240 := by kernel_rfl
  f276 := by kernel_rfl
  t0 := by kernel_rfl
  a0 := fun w => by kernel_rfl
  z0 := fun w => by kernel_rfl
  v0 := fun w => by kernel_rfl
  t3 := by kernel_rfl
  a3 := fun w => by kernel_rfl
  z3 := fun w => by kernel_rfl
  v3 := fun w => by kernel_rfl
  t4 := by kernel_rfl
  a4 := fun w => by kernel_rfl
  z4 := fun w => by kernel_rfl
  v4 := fun w => by kernel_rfl
  t9 := by kernel_rfl
  a9 := fun w => by kernel_rfl
  z9 := fun w => by kernel_rfl
  v9 := fun w => by kernel_rfl
  t20 := by kernel_rfl
  a20 := fun w => by kernel_rfl
  z20 := fun w => by kernel_rfl
  v20 := fun w => by kernel_rfl
  t37 := by kernel_rfl
  a37 := fun w => by kernel_rfl
  z37 := fun w => by kernel_rfl
  v37 := fun w => by kernel_rfl
  t70 := by kernel_rfl
  a70 := fun w => by kernel_rfl
  z70 := fun w => by kernel_rfl
  v70 := fun w => by kernel_rfl
  t72 := by kernel_rfl
  a72 := fun w => by kernel_rfl
  z72 := fun w => by kernel_rfl
  v72 := fun w => by kernel_rfl
  t75 := by kernel_rfl
  a75 := fun w => by kernel_rfl
  z75 := fun w => by kernel_rfl
  v75 := fun w => by kernel_rfl
  t164 := by kernel_rfl
  a164 := fun w => by kernel_rfl
  z164 := fun w => by kernel_rfl
  v164 := fun w => by kernel_rfl

set_option maxRecDepth 20000 in
theorem strLays : Lays.n169 Tryd.prog ρ where
  mixed := by kernel_rfl
  f169 := by kernel_rfl
  t0 := by kernel_rfl
  a0 := fun w => by kernel_rfl
  z0 := fun w => by kernel_rfl
  v0 := fun w => by kernel_rfl
  t3 := by kernel_rfl
  a3 := fun w => by kernel_rfl
  z3 := fun w => by kernel_rfl
  v3 := fun w => by kernel_rfl
  t9 := by kernel_rfl
  a9 := fun w => by kernel_rfl
  z9 := fun w => by kernel_rfl
  v9 := fun w => by kernel_rfl
  t37 := by kernel_rfl
  a37 := fun w => by kernel_rfl
  z37 := fun w => by kernel_rfl
  v37 := fun w => by kernel_rfl
  t70 := by kernel_rfl
  a70 := fun w => by kernel_rfl
  z70 := fun w => by kernel_rfl
  v70 := fun w => by kernel_rfl
  t72 := by kernel_rfl
  a72 := fun w => by kernel_rfl
  z72 := fun w => by kernel_rfl
  v72 := fun w => by kernel_rfl
  t127 := by kernel_rfl
  a127 := fun w => by kernel_rfl
  z127 := fun w => by kernel_rfl
  v127 := fun w => by kernel_rfl

theorem bldX : Builder.Extra Tryd.prog ρ where
  sizeBuilder := by kernel_rfl
  liesBuilder := by kernel_rfl
  t5 := by kernel_rfl
  a5 := fun w => by kernel_rfl
  z5 := fun w => by kernel_rfl
  v5 := fun w => by kernel_rfl
  infoByte := by kernel_rfl
  cellsByte := by kernel_rfl
  sizeByte := by kernel_rfl
  neB5 := by decide
end Go.Fw

/-
  The library's functions on texts, by the shelf's contracts; the variables of the program that they read lie in an object of their own.
-/
namespace Go.Fw
open Go Go.Proofs

structure Glo where
  x0 : Obj
  x1 : Obj
  x4 : Obj
  x5 : Obj

/-- The variables' blocks. -/
abbrev gloO (g : Glo) : SO := .gen fun _ fp w => (fp 1 ∧ fp 4 ∧ fp 5) ∧ w.heap[0]? = some g.x0 ∧ w.heap[1]? = some g.x1 ∧ w.heap[4]? = some g.x4 ∧ w.heap[5]? = some g.x5

def TabX (x : Obj) : Prop := match x with
  | .cells cs _ _ => cs = (Lib.pow10Tab.map fun z => Value.int .u64 z).toArray
  | _ => False
def ErrX (x : Obj) : Prop := ∃ ev cs t f, x = .cells cs t f ∧ cs[0]? = some ev ∧ (ev = .nilIface ∨ ∃ te pe, ev = .iface te pe)

structure GloX (g : Glo) : Prop where
  max : ∃ m cs t f, g.x0 = .cells cs t f ∧ cs[0]? = some (Value.int .i64 m)
  tab : TabX g.x1
  e4 : ErrX g.x4
  e5 : ErrX g.x5

theorem tab_glob : Tryd.prog.globalNamed "internal/strconv.uint64pow10" = some 1 := by kernel_rfl

theorem tab_is {x : Obj} (hx : TabX x) {w : World} (h : w.heap[1]? = some x) : Lib.TabIs Tryd.prog w "internal/strconv.uint64pow10" .u64 Lib.pow10Tab := by
  unfold Lib.TabIs World.var?
  rw [tab_glob]
  simp only [Option.bind_some, h]
  cases x <;> simp only [TabX] at hx
  subst hx
  rfl

/-- A text's value. -/
abbrev stC (l : List UInt8) : SC := .v (.string (bs l))
abbrev stV (l : List UInt8) : SV := .c (stC l)

theorem kept_drew (w : World) (n : Nat) : Kept w (w.drewN n) := ⟨rfl, rfl, rfl, by simp [World.drewN], fun b hb => by simp [World.drewN]⟩

theorem itoa_c (g : Glo) (hg : GloX g) (n : Int) (h0 : -9223372036854775808 ≤ n) (h1 : n ≤ 9223372036854775807) :
    Ct Tryd.prog 27 [.i n] [] [(0, gloO g)] 1 (fun v s => v = stV (Lib.itoa n) ∧ s = ⟨[], [(0, gloO g)], 1⟩) := by
  intro β Z fp w hs
  have hobj := (hs.obj 0 _ rfl).1
  have key : Calls Tryd.prog 27 #[.int .i64 n] w _ := Any.strconv_Itoa itoaLays n h0 h1 w (tab_is hg.tab hobj.2.2.1)
  refine key.mono ?_
  rintro e w' ⟨rfl, k, os, rfl⟩
  have hk : Kept w (Sort.grow (w.drewN k) os) := ⟨rfl, rfl, rfl, by simp [Sort.grow, World.drewN], fun b hb => by simp [Sort.grow, World.drewN, Array.getElem?_append_left hb]⟩
  exact ⟨stV (Lib.itoa n), β, Z, fp, ⟨[], [(0, gloO g)], 1⟩, rfl, Nxt.kept hs hk (by simp [stV, SV.lt, SA.lt, SC.lt, Value.oneCell']), rfl, rfl⟩

theorem cut_c (g : Glo) (hg : GloX g) (l : List UInt8) (c : UInt8) (hl : l.length ≤ 1000000) :
    Ct Tryd.prog 38 [stV l, stV [c]] [] [(0, gloO g)] 1 (fun v s => v = .tup [.c (stC (cutL c l).1), .c (stC (cutL c l).2.1), .c (.b (cutL c l).2.2)] ∧ s = ⟨[], [(0, gloO g)], 1⟩) := by
  intro β Z fp w hs
  have hobj := (hs.obj 0 _ rfl).1
  obtain ⟨m, cs, t, f, hx, hm⟩ := hg.max
  have hc : w.cell? ⟨0, 0, none⟩ = some (.int .i64 m) := by
    unfold World.cell?
    rw [hobj.2.1, hx]
    exact hm
  have key : Calls Tryd.prog 38 #[.string (bs l), .string (bs [c])] w _ := Any.strings_Cut cutLays (bs l) (bs [c]) m w (by rw [bs_size]; omega) hc
  refine key.mono ?_
  rintro e w' ⟨rfl, n, rfl⟩
  rw [bs_data, bs_data, cut_eq]
  exact ⟨_, β, Z, fp, ⟨[], [(0, gloO g)], 1⟩, rfl, Nxt.kept hs (kept_drew w n) (by simp [stC, SV.lt, SA.lt, SC.lt, Value.oneCell']), rfl, rfl⟩

theorem HSat.cons_perm {β : Env} {Z : Nat → Prop} {fp : Nat → Nat → Prop} {hp hp' : List (Nat × SO)} {n : Nat} {W : World} (h : HSat β Z fp ⟨[], hp, n⟩ W) (hl : ∀ id, look hp' id = look hp id) : HSat β Z fp ⟨[], hp', n⟩ W :=
  ⟨h.zlt', fun id o e => h.flt id o (by rw [← hl]; exact e), fun i j o o' e e' => h.sep i j o o' (by rw [← hl]; exact e) (by rw [← hl]; exact e'), fun id o e => h.obj id o (by rw [← hl]; exact e), fun id o e => h.lto id o (by rw [← hl]; exact e)⟩

theorem flat_str (l : List ByteArray) : flat .str l = l.map Value.string := by
  induction l with
  | nil => rfl
  | cons a l ih =>
    rw [List.map_cons, ← ih]
    rfl

theorem alloc_oldB (w : World) (o : Obj) {b : Nat} (hb : b < w.heap.size) : (w.alloc o).heap[b]? = w.heap[b]? := by
  show (w.heap.push o)[b]? = w.heap[b]?
  rw [Array.getElem?_push, if_neg (Nat.ne_of_lt hb)]
theorem alloc_newB (w : World) (o : Obj) : (w.alloc o).heap[w.heap.size]? = some o := by
  show (w.heap.push o)[w.heap.size]? = some o
  simp

theorem split_c (g : Glo) (hg : GloX g) (l : List UInt8) (c : UInt8) (hl : l.length ≤ 1000000) :
    Ct Tryd.prog 39 [stV l, stV [c]] [] [(0, gloO g)] 1 (fun v s => v = .c (.sl 1 1 0 (spl c l).length (spl c l).length) ∧ s = ⟨[], [(0, gloO g), (1, .arr true 9 .str ((spl c l).map bs) 0)], 2⟩) := by
  intro β Z fp w hs
  have hobj := (hs.obj 0 _ rfl).1
  obtain ⟨m, cs, t, f, hx, hm⟩ := hg.max
  have hc : w.cell? ⟨0, 0, none⟩ = some (.int .i64 m) := by
    unfold World.cell?
    rw [hobj.2.1, hx]
    exact hm
  have key : Calls Tryd.prog 39 #[.string (bs l), .string (bs [c])] w _ := Any.strings_Split splitLays (by kernel_rfl) (bs l) (bs [c]) m w (by rw [bs_size]; omega) hc (by rw [bs_size]; exact Nat.le_refl _)
  refine key.mono ?_
  rintro e w' ⟨rfl, rfl⟩
  rw [split_eq]
  have hn : Lib.countB (bs l) (bs [c]) + 1 = (spl c l).length := by
    have := Lib.splitB_all (bs [c]) (by rw [bs_size]; exact Nat.le_refl _) 0 _ (bs l) rfl
    rw [split_eq, List.length_map] at this
    exact this.symm
  rw [hn, ← flat_str]
  have hk : Kept w (w.alloc (.cells (flat .str ((spl c l).map bs)).toArray 9)) := ⟨rfl, rfl, rfl, by simp, fun b hb => alloc_oldB w _ hb⟩
  have hs2 := hs.add (o := .arr true 9 .str ((spl c l).map bs) 0) (x := some ⟨w.heap.size, 0, none⟩) (q := fun b' => b' = w.heap.size) (fun b hb => hk.block b hb) hk.size (fun b hb => ⟨by rw [hb]; exact Nat.le_refl _, by rw [hb]; simp⟩)
    ⟨rfl, rfl, [], [], by rw [List.nil_append, List.append_nil]; exact alloc_newB w _, rfl, Nat.zero_le _⟩ trivial
  have hs3 := hs2.cons_perm (hp' := [(0, gloO g), (1, .arr true 9 .str ((spl c l).map bs) 0)]) (fun id => by
    simp only [look_cons]
    by_cases e0 : 0 = id
    · subst e0; simp
    · by_cases e1 : 1 = id
      · subst e1; simp
      · simp [e0, e1, look])
  exact ⟨.c (.sl 1 1 0 (spl c l).length (spl c l).length), β.add 1 (some ⟨w.heap.size, 0, none⟩), Z, _, ⟨[], [(0, gloO g), (1, .arr true 9 .str ((spl c l).map bs) 0)], 2⟩, by simp [SV.den, SA.den, SC.den, Env.add_at, Addr.add_lit],
    ⟨Env.add_lt, hk.mono hs.zlt, fun _ h => h, rfl, Nat.le_succ _, hs3, (show 1 < 2 by omega)⟩, rfl, rfl⟩

/-- What strconv.Atoi answers. -/
def AtoiIs (l : List UInt8) (n : Int) (e : Value) : Prop := (Lib.atoiAll l = .ok n ∧ e = .nilIface) ∨ ((∀ m, Lib.atoiAll l ≠ .ok m) ∧ ∃ t a, e = .iface t (.pointer a))

theorem kept_freeze {w w' : World} (h : Kept w w') {p : Addr} (hp : w.heap.size ≤ p.block) (n : Nat) : Kept w (w'.freeze p n) := by
  have := Lib.below_freeze (a := w) (w := w') (B := w.heap.size) ⟨h.os, h.tape, h.output, h.size, fun k hk => h.block k hk⟩ hp n
  exact ⟨this.os, this.tape, this.output, this.size, fun b hb => this.block b hb⟩

theorem atoi_c (g : Glo) (hg : GloX g) (l : List UInt8) (hl : l.length ≤ 1000000) :
    Ct Tryd.prog 71 [stV l] [] [(0, gloO g)] 1 (fun v s => ∃ n e, v = .tup [.c (.i n), .c (.v e)] ∧ AtoiIs l n e ∧ s = ⟨[], [(0, gloO g)], 1⟩) := by
  intro β Z fp w hs
  have hobj := (hs.obj 0 _ rfl).1
  obtain ⟨e4, c4, t4, f4, hx4, hc4, he4⟩ := hg.e4
  obtain ⟨e5, c5, t5, f5, hx5, hc5, he5⟩ := hg.e5
  have h4 : w.cell? ⟨4, 0, none⟩ = some e4 := by
    unfold World.cell?
    rw [hobj.2.2.2.1, hx4]
    exact hc4
  have h5 : w.cell? ⟨5, 0, none⟩ = some e5 := by
    unfold World.cell?
    rw [hobj.2.2.2.2, hx5]
    exact hc5
  have fin : ∀ (w' : World) (n : Int) (e : Value), Kept w w' → AtoiIs l n e → e.oneCell' = true → ∃ (v : SV) (β' : Env) (Z' : Nat → Prop) (fp' : Nat → Nat → Prop) (s' : S), Ending.returned (.tuple #[.int .i64 n, e]) = .returned (SV.den β' v) ∧ Nxt β Z ⟨[], [(0, gloO g)], 1⟩ w v w' β' Z' fp' ⟨[], s'.hp, s'.nx⟩ ∧ ∃ n e, v = .tup [.c (.i n), .c (.v e)] ∧ AtoiIs l n e ∧ s' = ⟨[], [(0, gloO g)], 1⟩ :=
    fun w' n e hk hi ho => ⟨.tup [.c (.i n), .c (.v e)], β, Z, fp, ⟨[], [(0, gloO g)], 1⟩, rfl, Nxt.kept hs hk (v := .tup [.c (.i n), .c (.v e)]) (by simp [SV.lt, SA.lt, SC.lt, ho]), n, e, rfl, hi, rfl⟩
  rcases hr : Lib.atoiAll l with n | _ | _
  · have key : Calls Tryd.prog 71 #[.string (bs l)] w _ := Any.strconv_Atoi_ok atoiLays (bs l) (by rw [bs_size]; omega) n (by rw [bs_data]; exact hr) w
    refine key.mono ?_
    rintro e w' ⟨rfl, hw⟩
    refine fin w' n .nilIface ?_ (.inl ⟨hr, rfl⟩) rfl
    rcases hw with rfl | ⟨t, rfl⟩
    · exact Ext.refl _ _
    · refine kept_freeze ?_ (Nat.le_refl _) 1
      exact ⟨rfl, rfl, rfl, by simp, fun b hb => alloc_oldB _ _ hb⟩
  · have key : Calls Tryd.prog 71 #[.string (bs l)] w _ := Any.strconv_Atoi_syntax atoiLays (bs l) (by rw [bs_size]; omega) (by rw [bs_data]; exact hr) e4 w h4 he4
    refine key.mono ?_
    rintro e w' ⟨N, rfl, _, _, hb⟩
    exact fin w' 0 _ ⟨hb.os, hb.tape, hb.output, hb.size, fun b h => hb.block b h⟩ (.inr ⟨fun m h => (by rw [hr] at h; cases h), _, _, rfl⟩) rfl
  · have key : Calls Tryd.prog 71 #[.string (bs l)] w _ := Any.strconv_Atoi_range atoiLays (bs l) (by rw [bs_size]; omega) (by rw [bs_data]; exact hr) e5 w h5 he5
    refine key.mono ?_
    rintro e w' ⟨N, rfl, _, _, hb⟩
    exact fin w' _ _ ⟨hb.os, hb.tape, hb.output, hb.size, fun b h => hb.block b h⟩ (.inr ⟨fun m h => (by rw [hr] at h; cases h), _, _, rfl⟩) rfl
end Go.Fw

/-
  What is handed in, with the library's variables in blocks of their own.
-/
namespace Go.Fw
open Go Go.Proofs Go.ChangeShapes Go.WideShapes Go.ChangeAt Go.RowKit Go.Deep Go.Joins

/-- The variables' blocks in a world. -/
structure GloW (g : Glo) (W : World) : Prop where
  x : GloX g
  h0 : W.heap[0]? = some g.x0
  h1 : W.heap[1]? = some g.x1
  h4 : W.heap[4]? = some g.x4
  h5 : W.heap[5]? = some g.x5
  s4 : ∃ u v t f, g.x4 = .cells #[.iface u v] t f
  s5 : ∃ u v t f, g.x5 = .cells #[.iface u v] t f

/-- No integer of the arguments' kind lies in the blocks 1, 4, 5. -/
theorem GloW.noint {g : Glo} {W : World} (h : GloW g W) {b o : Nat} (hb : b = 1 ∨ b = 4 ∨ b = 5) {n : Int} : W.cell? ⟨b, o, none⟩ ≠ some (.int .i64 n) := by
  intro hc
  unfold World.cell? at hc
  rcases hb with rfl | rfl | rfl
  · have ht := h.x.tab
    have h1 := h.h1
    generalize g.x1 = x at *
    cases x <;> simp only [TabX] at ht
    subst ht
    simp [h1] at hc
  · obtain ⟨u, v, t, f, e⟩ := h.s4
    have h1 := h.h4
    rw [e] at h1
    simp [h1] at hc
    cases o with
    | zero => simp at hc
    | succ o => simp at hc
  · obtain ⟨u, v, t, f, e⟩ := h.s5
    have h1 := h.h5
    rw [e] at h1
    simp [h1] at hc
    cases o with
    | zero => simp at hc
    | succ o => simp at hc

theorem Lent.offG {W : World} {oa : Option Addr} {k : EK} {xs : List k.ty} {g : Glo} (h : Lent W oa k xs) (hg : GloW g W) (hk : ∀ e : k.ty, ∃ n, (k.cells e)[0]? = some (.int .i64 n)) : ∀ a, oa = some a → xs ≠ [] → ¬ (a.block = 1 ∨ a.block = 4 ∨ a.block = 5) := by
  intro a ha hne
  subst ha
  obtain ⟨h1, h2, h3⟩ := h hne
  intro h0
  cases xs with
  | nil => exact hne rfl
  | cons e l =>
    obtain ⟨n, hn⟩ := hk e
    have h4 := h3 0 (.int .i64 n) (by
      show (flat k (e :: l))[0]? = _
      have : 0 < (k.cells e).length := (List.getElem?_eq_some_iff.1 hn).1
      show ((e :: l).flatMap k.cells)[0]? = _
      rw [List.flatMap_cons, List.getElem?_append_left this]
      exact hn)
    obtain ⟨b, o, sp⟩ := a
    simp only at h0 h1
    subst h1
    have e0 : (⟨b, o, none⟩ : Addr).add 0 = ⟨b, o, none⟩ := by simp [Addr.add]
    rw [e0] at h4
    exact hg.noint h0 h4

/-- The zone: all but those blocks. -/
def ZG (W : World) (b : Nat) : Prop := b < W.heap.size ∧ ¬ (b = 1 ∨ b = 4 ∨ b = 5)

theorem lentSatG {W : World} {hp : List (Nat × SO)} {n : Nat} (β : Env) {g : Glo} (hg : GloW g W) (h : ∀ id o, look hp id = some o → id < n ∧ ∃ (E : Nat) (k : EK) (xs : List k.ty), o = .arr false E k xs 0 ∧ Lent W (β id) k xs ∧ ∀ e : k.ty, ∃ n, (k.cells e)[0]? = some (.int .i64 n)) :
    HSat β (ZG W) (fun id b => id = n ∧ (b = 1 ∨ b = 4 ∨ b = 5)) ⟨[], (n, gloO g) :: hp, n + 1⟩ W := by
  have k0 := (Array.getElem?_eq_some_iff.1 hg.h0).1
  have k1 := (Array.getElem?_eq_some_iff.1 hg.h1).1
  have k4 := (Array.getElem?_eq_some_iff.1 hg.h4).1
  have k5 := (Array.getElem?_eq_some_iff.1 hg.h5).1
  have hlk : ∀ id o, look ((n, gloO g) :: hp) id = some o → (id = n ∧ o = gloO g) ∨ (id ≠ n ∧ look hp id = some o) := by
    intro id o hl
    rw [look_cons] at hl
    split at hl
    · rename_i e; cases hl; exact .inl ⟨e.symm, rfl⟩
    · rename_i e; exact .inr ⟨fun c => e c.symm, hl⟩
  refine ⟨⟨⟨k0, by omega⟩, fun b hb => hb.1⟩, fun id o hl b hb => ⟨by rcases hb.2 with rfl | rfl | rfl <;> assumption, fun c => c.2 hb.2⟩, fun id id' _ _ _ _ hne b hb hb' => hne (hb.1.trans hb'.1.symm), fun id o hl => ?_, fun id o hl => ?_⟩
  · rcases hlk id o hl with ⟨rfl, rfl⟩ | ⟨hne, hl⟩
    · refine ⟨⟨⟨⟨rfl, .inl rfl⟩, ⟨rfl, .inr (.inl rfl)⟩, ⟨rfl, .inr (.inr rfl)⟩⟩, hg.h0, hg.h1, hg.h4, hg.h5⟩, fun w' hw' hw0 => ⟨⟨⟨rfl, .inl rfl⟩, ⟨rfl, .inr (.inl rfl)⟩, ⟨rfl, .inr (.inr rfl)⟩⟩, by rw [hw0]; exact hg.h0, ?_, ?_, ?_⟩⟩
      · rw [hw' 1 ⟨rfl, .inl rfl⟩]; exact hg.h1
      · rw [hw' 4 ⟨rfl, .inr (.inl rfl)⟩]; exact hg.h4
      · rw [hw' 5 ⟨rfl, .inr (.inr rfl)⟩]; exact hg.h5
    · obtain ⟨_, E, k, xs, rfl, hxl, hk⟩ := h id o hl
      have hoff := hxl.offG hg hk
      show SO.ok β _ _ W (β id) _
      unfold Lent at hxl
      cases hb : β id with
      | none => rw [hb] at hxl; exact ⟨hxl, rfl⟩
      | some a =>
        rw [hb] at hxl
        intro hne
        obtain ⟨h1, h2, h3⟩ := hxl hne
        exact ⟨h1, ⟨h2, hoff a hb hne⟩, h2, h3⟩
  · rcases hlk id o hl with ⟨rfl, rfl⟩ | ⟨hne, hl⟩
    · exact ⟨Nat.lt_succ_self _, trivial⟩
    · obtain ⟨h1, E, k, xs, rfl, _⟩ := h id o hl
      exact ⟨Nat.lt_succ_of_lt h1, trivial⟩

theorem int_cell (e : EK.int.ty) : ∃ n, (EK.int.cells e)[0]? = some (.int .i64 n) := ⟨e, rfl⟩
theorem arc_cell (e : EK.arc.ty) : ∃ n, (EK.arc.cells e)[0]? = some (.int .i64 n) := ⟨Arc.f e, rfl⟩

/-- A call with what is handed in and the variables. -/
theorem glo_call {W : World} {g : Glo} (hg : GloW g W) {hp : List (Nat × SO)} {n : Nat} (β : Env) (hl : ∀ id o, look hp id = some o → id < n ∧ ∃ (E : Nat) (k : EK) (xs : List k.ty), o = .arr false E k xs 0 ∧ Lent W (β id) k xs ∧ ∀ e : k.ty, ∃ n, (k.cells e)[0]? = some (.int .i64 n))
    {hp' : List (Nat × SO)} (hperm : ∀ id, look hp' id = look ((n, gloO g) :: hp) id) {f : Nat} {avs : List SV} {args : Array Value} (ha : (avs.map (SV.den β) ++ ([] : List Value)).toArray = args)
    (hc : Ct Tryd.prog f avs [] hp' (n + 1) (fun v s => v = .b true ∧ s = ⟨[], [(n, gloO g)], n + 1⟩)) :
    Calls Tryd.prog f args W fun e W' => e = .returned (.bool true) ∧ Below W.heap.size W W' := by
  have hs := (lentSatG (W := W) β hg hl).cons_perm hperm
  have key := hc _ _ _ W hs
  rw [ha] at key
  refine key.mono ?_
  rintro e W' ⟨v', β', Z', fp', s', rfl, hn, rfl, rfl⟩
  have ho := (hn.sat.obj n (gloO g) (by simp [look_cons])).1.2
  refine ⟨rfl, hn.ext.os, hn.ext.tape, hn.ext.output, hn.ext.size, fun k hk => ?_⟩
  by_cases e : k = 1 ∨ k = 4 ∨ k = 5
  · rcases e with rfl | rfl | rfl
    · rw [ho.2.1, hg.h1]
    · rw [ho.2.2.1, hg.h4]
    · rw [ho.2.2.2, hg.h5]
  · exact hn.ext.block k ⟨hk, e⟩

theorem hid (o : Option Addr) : o.map (fun x => x.add 0) = o := by cases o <;> simp [add_zero]

/-- A call with one transducer. -/
theorem Hand.callG {W : World} {F : TF} {a0 a1 : Option Addr} {v : Value} (h : Hand W F a0 a1 v) {g : Glo} (hg : GloW g W) {f : Nat} (ex : List SV) (xs : List Value) (hx : ∀ β : Env, ex.map (SV.den β) = xs)
    (hc : Ct Tryd.prog f (fV F :: ex) [] (hpF F ++ [(2, gloO g)]) 3 (fun v s => v = .b true ∧ s = ⟨[], [(2, gloO g)], 3⟩)) :
    Calls Tryd.prog f (v :: xs).toArray W fun e W' => e = .returned (.bool true) ∧ Below W.heap.size W W' := by
  refine glo_call hg (hp := hpF F) (n := 2) (fun i => if i = 0 then a0 else a1) ?_ (fun id => ?_) ?_ hc
  · intro id o hl
    simp only [hpF, look_cons] at hl
    split at hl
    · rename_i e; subst e; cases hl; exact ⟨by omega, 3, .int, F.fin, rfl, h.l0, int_cell⟩
    · split at hl
      · rename_i e; subst e; cases hl; exact ⟨by omega, 35, .arc, F.arcs, rfl, h.l1, arc_cell⟩
      · cases hl
  · simp only [hpF, List.cons_append, List.nil_append, look_cons]
    by_cases e0 : 0 = id
    · subst e0; simp
    · by_cases e1 : 1 = id
      · subst e1; simp
      · by_cases e2 : 2 = id
        · subst e2; simp
        · simp [e0, e1, e2, look]
  · rw [List.map_cons, hx, List.append_nil, h.val]
    simp only [fV, SV.den, SA.den, SC.den, Nat.zero_mul, if_true, if_neg (show ¬ (1 = 0) by omega), hid, List.map_cons, List.map_nil]

/-- The plain wrap, with the world's shape and what is laid. -/
theorem handed_both {H : Type} {enc : TypeId × Value → H} {a : Assume} {C : Checked} {os : Os} {f : FuncId} {fn : Func} {s : ChangeSpec} {conds : List PathCond} {apart fresh handsOn again : Bool} {X : World → Array Value → Prop}
    (hX : ∀ (w w' : World) (args : Array Value), w.heap = w'.heap → X w args → X w' args)
    (own : ownKnob C.prog.godebug = none) (started : os.Started) (noInit : C.prog.inits.idxOf? f = none) (hfn : C.prog.funcs[f]? = some fn)
    (witness : ∃ (w : World) (tape : Tape) (i : Input), w.os = os ∧ (w.forCall tape i).Shaped C.prog ∧ i.vars = [] ∧ Input.okWide C.prog (w.forCall tape i) .any w.heap.size f i ∧
      ((s.pre enc C.prog fn conds apart (w.forCall tape i).memory i.args ∧ X (w.forCall tape i).memory i.args) ∧ sizedMet enc C.prog fn (OpenSpec.ofChange s) apart (w.forCall tape i).memory i.args) ∧ a.holds C.prog (lone (Frame.enter C.prog f i.args .normal) [] (w.forCall tape i)))
    (contract : ∀ (W : World) (base : Nat) (args : Array Value) (ds gs : List (DataW H)) (before : List MemPlace),
      (∀ (j : Nat) t v, fn.params[j]? = some t → args[j]? = some v → Value.okWide C.prog W .any base t v) →
      DataW.Whole enc C.prog fn.params.toList s.vars apart W args.toList ds gs before →
      W.ShapedOpen C.prog → X W args →
      Calls C.prog f args W fun e W' => ∃ v, e = .returned v ∧ s.post enc C.prog fn apart fresh handsOn again W args v W') :
    ReturnsInHanded a C os f .any (fun w args => (s.pre enc C.prog fn conds apart w args ∧ X w args) ∧ sizedMet enc C.prog fn (OpenSpec.ofChange s) apart w args) (s.post enc C.prog fn apart fresh handsOn again) := by
  refine returnsInHanded_of_calls own started noInit witness ?_
  intro w tape i _ hsh _ hok hpre hholds
  obtain ⟨_, _, _, fn', hfn', _, _, _, _, hval⟩ := hok
  have e : fn' = fn := Option.some.inj (hfn'.symm.trans hfn)
  subst e
  obtain ⟨⟨⟨ds, gs, before, hw, hc⟩, hx⟩, hz⟩ := hpre
  have hw' := DataW.Whole.of_heap (w' := w.forCall tape i) (by rfl) hw
  refine (contract (w.forCall tape i) w.heap.size i.args ds gs before hval hw' hsh (hX _ _ _ (by rfl) hx)).mono fun e W' ⟨v, he, hp⟩ => ?_
  subst he
  exact ChangeSpec.post_blind hp
end Go.Fw

/-
  What the rows' list of variables gives.
-/
namespace Go.Proofs.YtdijmfdanbnppaaDoor
open Go Go.Fw Go.ChangeShapes Go.WideShapes Go.ChangeAt Go.RowKit

theorem Tryd.own : ownKnob Go.Proofs.Tryd.prog.godebug = none := by kernel_rfl
theorem Tryd.laidOut : laidOutB Go.Proofs.Tryd.prog = true := by kernel_rfl

/-- What is listed. -/
abbrev laid7 : List (String × DataW Unit) := [("math/bits.deBruijn32tab", Rows.laid_math_bits_deBruijn32tab), ("math/bits.deBruijn64tab", Rows.laid_math_bits_deBruijn64tab), ("internal/strconv.uint64pow10", Rows.laid_internal_strconv_uint64pow10), ("unicode/utf8.acceptRanges", Rows.laid_unicode_utf8_acceptRanges), ("strconv.ErrRange", Rows.laid_strconv_ErrRange), ("strconv.ErrSyntax", Rows.laid_strconv_ErrSyntax), ("unicode/utf8.first", Rows.laid_unicode_utf8_first)]

theorem tab_data : (Rows.laid_internal_strconv_uint64pow10 : DataW Unit) = Lib.tabData .u64 Lib.pow10Tab := by kernel_rfl
theorem tab_type : (Go.Proofs.Tryd.prog.globals[1]?).map (·.type) = some 138 := by kernel_rfl
theorem e4_glob : Go.Proofs.Tryd.prog.globalNamed "strconv.ErrSyntax" = some 4 := by kernel_rfl
theorem e4_type : (Go.Proofs.Tryd.prog.globals[4]?).map (·.type) = some 69 := by kernel_rfl
theorem e5_glob : Go.Proofs.Tryd.prog.globalNamed "strconv.ErrRange" = some 5 := by kernel_rfl
theorem e5_type : (Go.Proofs.Tryd.prog.globals[5]?).map (·.type) = some 69 := by kernel_rfl

theorem var_cells {W : World} {n : String} {k : Nat} {cs : Array Value} (hg : Go.Proofs.Tryd.prog.globalNamed n = some k) (hv : W.var? Go.Proofs.Tryd.prog n = some cs) : ∃ t f, W.heap[k]? = some (.cells cs t f) := by
  unfold World.var? at hv
  rw [hg] at hv
  simp only [Option.bind_some] at hv
  split at hv
  · rename_i c t f hh
    cases hv
    exact ⟨t, f, hh⟩
  · cases hv

set_option maxRecDepth 100000 in
theorem of_laid {W : World} (h : laidMetH Go.Proofs.Tryd.prog laid7 W) (hs : W.ShapedOpen Go.Proofs.Tryd.prog) : ∃ g, GloW g W := by
  rw [MakeChecks.laidMetH_plain _ _ _ (by kernel_rfl)] at h
  obtain ⟨ps, ⟨g0, t0, cs0, f0, p0, q0, hg0, ht0, hv0, hd0, ⟨g1, t1, cs1, f1, p1, q1, hg1, ht1, hv1, hd1, ⟨g2, t2, cs2, f2, p2, q2, hg2, ht2, hv2, hd2, ⟨g3, t3, cs3, f3, p3, q3, hg3, ht3, hv3, hd3, ⟨g4, t4, cs4, f4, p4, q4, hg4, ht4, hv4, hd4, ⟨g5, t5, cs5, f5, p5, q5, hg5, ht5, hv5, hd5, _, _⟩, _⟩, _⟩, _⟩, _⟩, _⟩, _⟩ := h
  obtain rfl := Option.some.inj (tab_glob.symm.trans hg2)
  obtain rfl := Option.some.inj (tab_type.symm.trans ht2)
  obtain rfl := Option.some.inj (e5_glob.symm.trans hg4)
  obtain rfl := Option.some.inj (e5_type.symm.trans ht4)
  obtain rfl := Option.some.inj (e4_glob.symm.trans hg5)
  obtain rfl := Option.some.inj (e4_type.symm.trans ht5)
  obtain ⟨_, u5, v5, k5, _⟩ := iface_of_trod Go.Proofs.Tryd.underlying69 hd4
  obtain ⟨_, u4, v4, k4, _⟩ := iface_of_trod Go.Proofs.Tryd.underlying69 hd5
  rw [tab_data] at hd2
  have hc := Lib.cells_of_tab Go.Proofs.Tryd.underlying138 Go.Proofs.Tryd.underlying120 (by kernel_rfl) (by kernel_rfl) hd2
  obtain ⟨a1, b1, hh1⟩ := var_cells hg2 hv2
  obtain ⟨a5, b5, hh5⟩ := var_cells hg4 hv4
  obtain ⟨a4, b4, hh4⟩ := var_cells hg5 hv5
  obtain ⟨m, hm⟩ := cell_of_shapedOpen_int (P := Go.Proofs.Tryd.prog) (g := 0) (t := 3) (zero := #[.int .i64 0]) hs (of_decide_eq_true (by kernel_rfl)) (by kernel_rfl) rfl (by kernel_rfl) (by kernel_rfl) Go.Proofs.Tryd.underlying3
  have hm2 : ∃ cs t f, W.heap[0]? = some (.cells cs t f) ∧ cs[0]? = some (Value.int .i64 m) := by
    unfold World.cell? at hm
    split at hm
    · rename_i c t f hh
      exact ⟨c, t, f, hh, hm⟩
    · cases hm
  obtain ⟨cm, tm, fm, hh0, hm0⟩ := hm2
  have e4 : cs5 = #[.iface u4 v4] := by rw [← Array.toList_inj]; exact k4
  have e5 : cs4 = #[.iface u5 v5] := by rw [← Array.toList_inj]; exact k5
  subst e4 e5
  refine ⟨⟨_, _, _, _⟩, ⟨⟨m, cm, tm, fm, rfl, hm0⟩, ?_, ⟨_, _, _, _, rfl, rfl, .inr ⟨_, _, rfl⟩⟩, ⟨_, _, _, _, rfl, rfl, .inr ⟨_, _, rfl⟩⟩⟩, hh0, hh1, hh4, hh5, ⟨_, _, _, _, rfl⟩, ⟨_, _, _, _, rfl⟩⟩
  show cs2 = _
  rw [← hc]

theorem door_met (os : Os) (args : Array Value) : laidMetH Go.Proofs.Tryd.prog laid7 ((World.laidAll Go.Proofs.Tryd.prog os laid7).forCall (fun _ _ => 0) ⟨#[], args, []⟩).memory := by
  rw [MakeChecks.laidMetH_plain _ _ _ (by kernel_rfl)]
  exact laidMet_laidAll _ (by kernel_rfl) (by kernel_rfl)
end Go.Proofs.YtdijmfdanbnppaaDoor

namespace Go.Fw
open Go Go.Proofs

def rhoM : Go.Shelf.Ren where
  f := fun n => if n = 212 then 72 else if n = 263 then 88 else if n = 264 then 89 else n
  t := fun n => if n = 46 then 113 else if n = 51 then 131 else if n = 53 then 120 else if n = 146 then 132 else if n = 148 then 134 else n
  g := fun n => n

set_option maxRecDepth 20000 in
theorem mulLays : Lays.n212 Tryd.prog rhoM where
  mixed := by kernel_rfl
  f212 := by kernel_rfl
  f263 := by kernel_rfl
  f264 := by kernel_rfl
  t46 := by kernel_rfl
  a46 := fun w => by kernel_rfl
  z46 := fun w => by kernel_rfl
  v46 := fun w => by kernel_rfl
  t51 := by kernel_rfl
  a51 := fun w => by kernel_rfl
  z51 := fun w => by kernel_rfl
  v51 := fun w => by kernel_rfl
  t53 := by kernel_rfl
  a53 := fun w => by kernel_rfl
  z53 := fun w => by kernel_rfl
  v53 := fun w => by kernel_rfl
  t146 := by kernel_rfl
  a146 := fun w => by kernel_rfl
  z146 := fun w => by kernel_rfl
  v146 := fun w => by kernel_rfl
  t148 := by kernel_rfl
  a148 := fun w => by kernel_rfl
  z148 := fun w => by kernel_rfl
  v148 := fun w => by kernel_rfl

theorem mul_c (x y : Nat) (hx : x < 18446744073709551616) (hy : y < 18446744073709551616) (h : x * y < 18446744073709551616) : Ct Tryd.prog 72 [.c (.u x), .c (.u y)] [] [] 0 (Is 0 (.tup [.c (.u 0), .c (.u (x * y : Nat))])) := by
  intro β Z fp w hs
  have key : Calls Tryd.prog 72 #[.int .u64 x, .int .u64 y] w _ := Any.bits_Mul mulLays x y hx hy w
  rw [Nat.div_eq_of_lt h, Nat.mod_eq_of_lt h] at key
  refine key.mono ?_
  rintro e w' ⟨rfl, rfl⟩
  exact ⟨.tup [.c (.u 0), .c (.u (x * y : Nat))], β, Z, fp, ⟨[], [], 0⟩, rfl, Nxt.refl hs (by simp [SV.lt, SA.lt, SC.lt]), rfl, rfl⟩

end Go.Fw

namespace Go.Fw
open Go Go.Proofs

set_option maxHeartbeats 2000000 in
set_option maxRecDepth 20000 in
theorem ahead_c (a b : Arc) : Ct Tryd.prog 31 [arcV a, arcV b] [] [] 0 (Is 0 (.b (aheadB a b))) := by
  refine ctW Tryd.tyOk 8 [] Tryd.func31 rfl (by simp) (by simp) (fr := [(0, arcV a), (1, arcV b)]) rfl ?_
  (conv => whnf)
  refine dR ?_
  repeat' (first | exact rfl | ((conv => whnf); first | refine condP_mk (fun h => ?_) (fun h => ?_) | refine Ob.mk ?_ ?_ | refine Both.mk ?_ ?_))
  all_goals (conv => whnf)
  all_goals first | (refine loopI (fun k : Nat => ⟨[(4, .b false), (5, .c (.sl 2 1 0 4 4)), (6, .c (.sl 3 1 0 4 4)), (7, .i k)], [(2, .arr true 3 .int [a.f, a.i, a.o, a.t] 0), (3, .arr true 3 .int [b.f, b.i, b.o, b.t] 0)], 4⟩) (fun k => k ≤ 4 ∧ ∀ j, j < k → [a.f, a.i, a.o, a.t].getD j 0 = [b.f, b.i, b.o, b.t].getD j 0) (fun k => 4 - k) 0 [] ⟨by rfl, ?_, ?_⟩ (by simp) ?_; (focus simp); (focus simp)) | (refine loopI (fun k : Nat => ⟨[(4, .b false), (5, .c (.sl 2 1 0 4 4)), (6, .c (.sl 3 1 0 4 4)), (7, .i k)], [(2, .arr true 3 .int [a.f, a.i, a.o, a.t] 0), (3, .arr true 3 .int [b.f, b.i, b.o, b.t] 0)], 4⟩) (fun k => k ≤ 4 ∧ ∀ j, j < k → [a.f, a.i, a.o, a.t].getD j 0 = [b.f, b.i, b.o, b.t].getD j 0) (fun k => 4 - k) 0 [(2, some 3), (3, some 2)] ⟨by rfl, ?_, ?_⟩ (by simp) ?_; (focus simp); (focus simp))
  all_goals intro k hk
  all_goals obtain ⟨hk1, hk2⟩ := hk
  all_goals repeat' (first | exact rfl | ((conv => whnf); first | refine condP_mk (fun h => ?_) (fun h => ?_) | refine Ob.mk ?_ ?_ | refine Both.mk ?_ ?_))
  all_goals first | refine dR ?_ | skip
  all_goals repeat' (first | exact rfl | ((conv => whnf); first | refine condP_mk (fun h => ?_) (fun h => ?_) | refine Ob.mk ?_ ?_ | refine Both.mk ?_ ?_))
  all_goals simp only [decide_eq_true_eq, decide_eq_false_iff_not, bne_iff_ne, ne_eq, bne_eq_false_iff_eq, EK.dflt, Nat.zero_add, Int.toNat_natCast] at *
  all_goals first | (simp only [List.length_cons, List.length_nil]; omega) | (unfold InI; omega) | skip
  all_goals (conv => whnf)
  all_goals first | refine dR ?_ | skip
  all_goals repeat' (first | exact rfl | ((conv => whnf); first | refine condP_mk (fun h => ?_) (fun h => ?_) | refine Ob.mk ?_ ?_ | refine Both.mk ?_ ?_))
  all_goals first | (simp only [EK.dflt, Nat.zero_add, Int.toNat_natCast, List.length_cons, List.length_nil]; omega) | skip
  all_goals (conv => whnf)
  all_goals first | (refine Back.is ?_; have h4 : k = 4 := (by omega); subst h4; simp only [eqV, eqA, eqC]; exact aheadB_not a b hk2) | (refine Back.is ?_; simp only [eqV, eqA, eqC, EK.dflt, Nat.zero_add, Int.toNat_natCast]; exact aheadB_at a b k (by omega) hk2 h) | skip
  all_goals refine ⟨k + 1, [], ⟨by rfl, by simp, by simp⟩, ⟨by omega, fun j hj => ?_⟩, by omega⟩
  all_goals exact if e : j = k then e ▸ h else hk2 j (by omega)
end Go.Fw

namespace Go.Fw
open Go Go.Proofs

/-- What CheckFst keeps by it. -/
abbrev hpC (F : TF) : List (Nat × SO) := [(0, .arr false 3 .int F.fin 0), (1, .arr false 35 .arc F.arcs 0), (2, .box 25 [.i F.st, .i F.start, .sl 0 1 0 F.fin.length F.capF, .sl 1 5 0 F.arcs.length F.capA])]

set_option maxHeartbeats 4000000 in
set_option maxRecDepth 20000 in
theorem checkFst_c (F : TF) : Ct Tryd.prog 13 [fV F] [] (hpF F) 2 (Is 2 (.i (fstE F))) := by
  refine ctW Tryd.tyOk 6 [] Tryd.func13 rfl (by simp) (by simp) (fr := [(0, fV F)]) rfl ?_
  (conv => whnf)
  refine cI (between_c F.st 1 200) [] Tryd.call30 ?_
  repeat' (first | exact rfl | ((conv => whnf); first | refine condP_mk (fun h => ?_) (fun h => ?_) | refine Ob.mk ?_ ?_ | refine Both.mk ?_ ?_))
  · refine Back.is ?_
    simp only [Bool.not_eq_true', decide_eq_false_iff_not] at h
    simp only [eqV, eqA, eqC, fstE, if_pos h]
  · simp only [Bool.not_eq_false', decide_eq_true_eq] at h
    unfold InI; omega
  simp only [Bool.not_eq_false', decide_eq_true_eq] at h
  have h1 := h
  clear h
  (conv => whnf)
  refine cI (between_c F.start 0 (F.st - 1)) [] Tryd.call30 ?_
  repeat' (first | exact rfl | ((conv => whnf); first | refine condP_mk (fun h => ?_) (fun h => ?_) | refine Ob.mk ?_ ?_ | refine Both.mk ?_ ?_))
  · refine Back.is ?_
    simp only [Bool.not_eq_true', decide_eq_false_iff_not] at h
    simp only [eqV, eqA, eqC, fstE, if_neg (not_not_intro h1), if_pos h]
  · refine Back.is ?_
    rename_i h2
    simp only [Bool.not_eq_false', decide_eq_true_eq, bne_iff_ne] at h h2
    simp only [eqV, eqA, eqC, fstE, if_neg (not_not_intro h1), if_neg (not_not_intro h2), if_pos h]
  rename_i h2
  simp only [Bool.not_eq_false', decide_eq_true_eq, bne_eq_false_iff_eq] at h h2
  have h3 := h
  clear h
  (conv => whnf)
  refine loopI (fun k : Nat => ⟨[(1, .c (.ptr 2 0)), (2, .i 0), (3, .i k)], hpC F, 3⟩) (fun k => k ≤ F.fin.length ∧ ∀ n ∈ F.fin.take k, -1 ≤ n ∧ n ≤ 1000000000) (fun k => F.fin.length - k) 0 [] ⟨by rfl, ?_, ?_⟩ (by simp) ?_
  · simp
  · simp
  · intro k ⟨hk1, hk2⟩
    repeat' (first | exact rfl | ((conv => whnf); first | refine condP_mk (fun h => ?_) (fun h => ?_) | refine Ob.mk ?_ ?_ | refine Both.mk ?_ ?_))
    · simp only [decide_eq_true_eq] at h; omega
    · simp only [decide_eq_true_eq] at h; omega
    · simp only [decide_eq_true_eq] at h
      have hk : k < F.fin.length := by omega
      (conv => whnf)
      simp only [Nat.zero_add, Int.toNat_natCast, EK.dflt]
      refine cI (between_c (F.fin.getD k 0) (-1) 1000000000) [] Tryd.call30 ?_
      repeat' (first | exact rfl | ((conv => whnf); first | refine condP_mk (fun h => ?_) (fun h => ?_) | refine Ob.mk ?_ ?_ | refine Both.mk ?_ ?_))
      · refine Back.is ?_
        have hm := getD_mem F.fin k 0 hk
        simp only [Bool.not_eq_true', decide_eq_false_iff_not] at h
        have : ¬ ∀ n ∈ F.fin, -1 ≤ n ∧ n ≤ 1000000000 := fun H => h (H _ hm)
        simp only [eqV, eqA, eqC, fstE, if_neg (not_not_intro h1), if_neg (not_not_intro h2), if_neg (not_not_intro h3), if_pos this]
      · unfold InI; omega
      · (conv => whnf)
        refine ⟨k + 1, [], ⟨by rfl, ?_, ?_⟩, ⟨hk, ?_⟩, by omega⟩
        · simp
        · simp
        · rw [take_succ_getD F.fin k 0 hk]
          simp only [Bool.not_eq_false', decide_eq_true_eq] at h
          intro n hn
          simp only [List.mem_append, List.mem_singleton] at hn
          rcases hn with hn | rfl
          · exact hk2 n hn
          · exact h
    · rename_i hf
      simp only [decide_eq_false_iff_not, decide_eq_true_eq] at h hf
      rw [List.take_of_length_le (by omega)] at hk2
      refine Back.is ?_
      simp only [eqV, eqA, eqC, fstE, if_neg (not_not_intro h1), if_neg (not_not_intro h2), if_neg (not_not_intro h3), if_neg (not_not_intro hk2), if_pos (show 3000 < F.arcs.length by omega)]
    · rename_i hf
      simp only [decide_eq_false_iff_not, decide_eq_true_eq] at h hf
      rw [List.take_of_length_le (by omega)] at hk2
      have h4 : fstE F = arcsE F.st none F.arcs := by
        simp only [fstE, if_neg (not_not_intro h1), if_neg (not_not_intro h2), if_neg (not_not_intro h3), if_neg (not_not_intro hk2), if_neg (show ¬ 3000 < F.arcs.length by omega)]
      have h5 : F.arcs.length ≤ 3000 := by omega
      clear hf h hk2 hk1
      (conv => whnf)
      refine loopI (fun k : Nat => ⟨[(1, .c (.ptr 2 0)), (2, .i 0), (4, .i k)], hpC F, 3⟩) (fun k => k ≤ F.arcs.length ∧ fstE F = arcsE F.st (if k = 0 then none else some (F.arcs.getD (k - 1) EK.arc.dflt)) (F.arcs.drop k)) (fun k => F.arcs.length - k) 0 [] ⟨by rfl, ?_, ?_⟩ (by simp [h4]) ?_
      · simp
      · simp
      · intro j ⟨hj1, hj2⟩
        repeat' (first | exact rfl | ((conv => whnf); first | refine condP_mk (fun h => ?_) (fun h => ?_) | refine Ob.mk ?_ ?_ | refine Both.mk ?_ ?_))
        · simp only [decide_eq_true_eq] at h; omega
        · simp only [decide_eq_true_eq] at h; omega
        · unfold InI; omega
        · simp only [decide_eq_true_eq] at h
          have hj : j < F.arcs.length := by omega
          clear h
          (conv => whnf)
          simp only [Nat.zero_add, Int.toNat_natCast]
          have hd : F.arcs.drop j = F.arcs.getD j EK.arc.dflt :: F.arcs.drop (j + 1) := by
            rw [List.drop_eq_getElem_cons hj]; simp [List.getD, hj]
          rw [hd, arcsE_cons] at hj2
          have hnext : ∀ v : Int, fstE F = v → v = fstE F := fun _ h => h.symm
          generalize hx : F.arcs.getD j EK.arc.dflt = x at hj2 ⊢
          refine cI (between_c x.f 0 (F.st - 1)) [] Tryd.call30 ?_
          repeat' (first | exact rfl | ((conv => whnf); first | refine condP_mk (fun h => ?_) (fun h => ?_) | refine Ob.mk ?_ ?_ | refine Both.mk ?_ ?_))
          · refine Back.is ?_
            simp only [Bool.not_eq_true'] at h
            simp only [eqV, eqA, eqC, hj2, arcOk, h]
            rfl
          · unfold InI; omega
          simp only [Bool.not_eq_false'] at h
          have a1 := h
          clear h
          (conv => whnf)
          refine cI (between_c x.t 0 (F.st - 1)) [] Tryd.call30 ?_
          repeat' (first | exact rfl | ((conv => whnf); first | refine condP_mk (fun h => ?_) (fun h => ?_) | refine Ob.mk ?_ ?_ | refine Both.mk ?_ ?_))
          · refine Back.is ?_
            simp only [Bool.not_eq_true'] at h
            simp only [eqV, eqA, eqC, hj2, arcOk, a1, h]
            rfl
          simp only [Bool.not_eq_false'] at h
          have a2 : arcOk F.st x = true := by simp only [arcOk, a1, h]; rfl
          clear h
          (conv => whnf)
          refine cI (between_c x.i 0 9) [] Tryd.call30 ?_
          repeat' (first | exact rfl | ((conv => whnf); first | refine condP_mk (fun h => ?_) (fun h => ?_) | refine Ob.mk ?_ ?_ | refine Both.mk ?_ ?_))
          · refine Back.is ?_
            simp only [Bool.not_eq_true'] at h
            simp only [eqV, eqA, eqC, hj2, a2, arcIn, h]
            rfl
          simp only [Bool.not_eq_false'] at h
          have a3 := h
          clear h
          (conv => whnf)
          refine cI (between_c x.o 0 9) [] Tryd.call30 ?_
          repeat' (first | exact rfl | ((conv => whnf); first | refine condP_mk (fun h => ?_) (fun h => ?_) | refine Ob.mk ?_ ?_ | refine Both.mk ?_ ?_))
          · refine Back.is ?_
            simp only [Bool.not_eq_true'] at h
            simp only [eqV, eqA, eqC, hj2, a2, arcIn, a3, h]
            rfl
          simp only [Bool.not_eq_false'] at h
          have a4 := h
          clear h
          (conv => whnf)
          refine cI (between_c x.w 0 1000000000) [] Tryd.call30 ?_
          repeat' (first | exact rfl | ((conv => whnf); first | refine condP_mk (fun h => ?_) (fun h => ?_) | refine Ob.mk ?_ ?_ | refine Both.mk ?_ ?_))
          · refine Back.is ?_
            simp only [Bool.not_eq_true'] at h
            simp only [eqV, eqA, eqC, hj2, a2, arcIn, a3, a4, h]
            rfl
          simp only [Bool.not_eq_false'] at h
          have a5 : arcIn x = true := by simp only [arcIn, a3, a4, h]; rfl
          clear h
          (conv => whnf)
          refine dR ?_
          repeat' (first | exact rfl | ((conv => whnf); first | refine condP_mk (fun h => ?_) (fun h => ?_) | refine Ob.mk ?_ ?_ | refine Both.mk ?_ ?_))
          · unfold InI; omega
          · simp only [decide_eq_true_eq, gt_iff_lt] at h; omega
          · simp only [decide_eq_true_eq, gt_iff_lt] at h; omega
          · simp only [decide_eq_true_eq, gt_iff_lt] at h
            have hj0 : j ≠ 0 := by omega
            clear h
            have e : 0 + ((j : Int) - 1).toNat = j - 1 := by omega
            (conv => whnf)
            simp only [e, Nat.zero_add, Int.toNat_natCast]
            simp only [if_neg hj0] at hj2
            generalize hy : F.arcs.getD (j - 1) EK.arc.dflt = y at hj2 ⊢
            refine cI (ahead_c y x) [] Tryd.call31 ?_
            repeat' (first | exact rfl | ((conv => whnf); first | refine condP_mk (fun h => ?_) (fun h => ?_) | refine Ob.mk ?_ ?_ | refine Both.mk ?_ ?_))
            · refine Back.is ?_
              simp only [eqV, eqA, eqC, hj2, a2, a5, h]
              rfl
            · unfold InI; omega
            · simp only [Bool.not_eq_false'] at h
              (conv => whnf)
              refine ⟨j + 1, [], ⟨by rfl, ?_, ?_⟩, ⟨hj, ?_⟩, by omega⟩
              · simp
              · simp
              · simp only [a2, a5, h, Bool.not_true, Bool.false_eq_true, if_false] at hj2
                rw [if_neg (Nat.succ_ne_zero j), Nat.add_sub_cancel, hx]
                exact hj2
          · unfold InI; omega
          · simp only [decide_eq_false_iff_not, gt_iff_lt] at h
            have hj0 : j = 0 := by omega
            simp only [if_pos hj0] at hj2
            (conv => whnf)
            refine ⟨j + 1, [], ⟨by rfl, ?_, ?_⟩, ⟨hj, ?_⟩, by omega⟩
            · simp
            · simp
            · simp only [a2, a5, Bool.not_true, Bool.false_eq_true, if_false] at hj2
              rw [if_neg (Nat.succ_ne_zero j), Nat.add_sub_cancel, hx]
              exact hj2
        · refine Back.is ?_
          simp only [decide_eq_false_iff_not] at h
          rw [List.drop_eq_nil_of_le (by omega), arcsE_nil] at hj2
          simp only [eqV, eqA, eqC, hj2]
end Go.Fw

namespace Go.Fw
open Go Go.Proofs

set_option maxHeartbeats 2000000 in
set_option maxRecDepth 20000 in
theorem indexFunc_c (l : List Int) (cap : Nat) (hl : l.length ≤ 9223372036854775807) (g : Nat) (p : Int → Bool) (hg : ∀ x, Ct Tryd.prog g [.i x] [] [] 0 (Is 0 (.b (p x)))) (hcf : ∀ args w, (callFunc g args).run Tryd.prog w = .ok (.enter g args) w) :
    Ct Tryd.prog 54 [.c (.sl 0 1 0 l.length cap), .c (.fn g [])] [] [(0, .arr false 3 .int l 0)] 1 (Is 1 (.i (idx p 0 l))) := by
  refine ctW Tryd.tyOk 6 [7, 8] Tryd.func54 rfl (by simp) (by simp) (fr := [(0, .c (.sl 0 1 0 l.length cap)), (1, .c (.fn g []))]) rfl ?_
  (conv => whnf)
  refine loopI (fun k : Nat => ⟨[(0, .c (.sl 0 1 0 l.length cap)), (1, .c (.fn g [])), (4, .i 0), (7, .i l.length), (8, .i k)], [(0, .arr false 3 .int l 0)], 1⟩) (fun k => k ≤ l.length ∧ idx p 0 l = idx p k (l.drop k)) (fun k => l.length - k) 0 [] ⟨by rfl, ?_, ?_⟩ (by simp) ?_
  · simp
  · simp
  · intro k ⟨hk1, hk2⟩
    repeat' (first | exact rfl | ((conv => whnf); first | refine condP_mk (fun h => ?_) (fun h => ?_) | refine Ob.mk ?_ ?_ | refine Both.mk ?_ ?_))
    · simp only [decide_eq_true_eq] at h; omega
    · simp only [decide_eq_true_eq] at h; omega
    · simp only [decide_eq_true_eq] at h
      have hk : k < l.length := by omega
      clear h
      (conv => whnf)
      simp only [Nat.zero_add, Int.toNat_natCast, EK.dflt]
      rw [idx_drop p l k 0 hk] at hk2
      refine callI (hg (l.getD k 0)) [] hcf rfl trivial (by simp) (by simp) ?_
      repeat' (first | exact rfl | ((conv => whnf); first | refine condP_mk (fun h => ?_) (fun h => ?_) | refine Ob.mk ?_ ?_ | refine Both.mk ?_ ?_))
      · refine Back.is ?_
        simp only [eqV, eqA, eqC, hk2, h, if_pos]
      · unfold InI; omega
      · (conv => whnf)
        simp only [h, Bool.false_eq_true, if_false] at hk2
        refine ⟨k + 1, [], ⟨by rfl, ?_, ?_⟩, ⟨hk, hk2⟩, by omega⟩
        · simp
        · simp
    · refine Back.is ?_
      simp only [decide_eq_false_iff_not] at h
      rw [List.drop_eq_nil_of_le (by omega), idx] at hk2
      simp only [eqV, eqA, eqC, hk2]

theorem containsFunc_c (l : List Int) (cap : Nat) (hl : l.length ≤ 9223372036854775807) (g : Nat) (p : Int → Bool) (hg : ∀ x, Ct Tryd.prog g [.i x] [] [] 0 (Is 0 (.b (p x)))) (hcf : ∀ args w, (callFunc g args).run Tryd.prog w = .ok (.enter g args) w) :
    Ct Tryd.prog 35 [.c (.sl 0 1 0 l.length cap), .c (.fn g [])] [] [(0, .arr false 3 .int l 0)] 1 (Is 1 (.b (l.any p))) := by
  refine ctW Tryd.tyOk 5 [] Tryd.func35 rfl (by simp) (by simp) (fr := [(0, .c (.sl 0 1 0 l.length cap)), (1, .c (.fn g []))]) rfl ?_
  (conv => whnf)
  refine callI (indexFunc_c l cap hl g p hg hcf) [0] Tryd.call54 rfl (by simp) (by simp) (by simp) ?_
  repeat' (first | exact rfl | ((conv => whnf); first | refine condP_mk (fun h => ?_) (fun h => ?_) | refine Ob.mk ?_ ?_ | refine Both.mk ?_ ?_))
  refine Back.is ?_
  simp only [eqV, eqA, eqC]
  exact (idx_any p l 0).symm

end Go.Fw

namespace Go.Fw
open Go Go.Proofs

set_option maxHeartbeats 2000000 in
set_option maxRecDepth 20000 in
theorem or_c (l : List Int) (cap : Nat) (hl : l.length ≤ 9223372036854775807) : Ct Tryd.prog 55 [.c (.sl 0 1 0 l.length cap)] [] [(0, .arr true 3 .int l 0)] 1 (Is 1 (.i (orI l))) := by
  refine ctW Tryd.tyOk 6 [6, 7, 8] Tryd.func55 rfl (by simp) (by simp) (fr := [(0, .c (.sl 0 1 0 l.length cap))]) rfl ?_
  (conv => whnf)
  refine loopI (fun k : Nat => ⟨[(2, .i 0), (3, .i 0), (6, .c (.sl 0 1 0 l.length cap)), (7, .i l.length), (8, .i k)], [(0, .arr true 3 .int l 0)], 1⟩) (fun k => k ≤ l.length ∧ orI l = orI (l.drop k)) (fun k => l.length - k) 0 [] ⟨by rfl, ?_, ?_⟩ (by simp) ?_
  · simp
  · simp
  · intro k ⟨hk1, hk2⟩
    repeat' (first | exact rfl | ((conv => whnf); first | refine condP_mk (fun h => ?_) (fun h => ?_) | refine Ob.mk ?_ ?_ | refine Both.mk ?_ ?_))
    · simp only [decide_eq_true_eq] at h; omega
    · simp only [decide_eq_true_eq] at h; omega
    · simp only [bne_iff_ne, Nat.zero_add, Int.toNat_natCast, EK.dflt] at h
      rename_i hk
      simp only [decide_eq_true_eq] at hk
      rw [orI_drop l k (by omega), if_pos h] at hk2
      refine Back.is ?_
      simp only [eqV, eqA, eqC, hk2, Nat.zero_add, Int.toNat_natCast, EK.dflt]
    · rename_i hk
      simp only [decide_eq_true_eq] at hk
      unfold InI; omega
    · simp only [bne_eq_false_iff_eq, Nat.zero_add, Int.toNat_natCast, EK.dflt] at h
      rename_i hk
      simp only [decide_eq_true_eq] at hk
      rw [orI_drop l k (by omega), if_neg (by rw [h]; simp)] at hk2
      (conv => whnf)
      refine ⟨k + 1, [], ⟨by rfl, ?_, ?_⟩, ⟨by omega, hk2⟩, by omega⟩
      · simp
      · simp
    · refine Back.is ?_
      simp only [decide_eq_false_iff_not] at h
      rw [List.drop_eq_nil_of_le (by omega), orI] at hk2
      simp only [eqV, eqA, eqC, hk2]

set_option maxHeartbeats 4000000 in
set_option maxRecDepth 20000 in
theorem order_c (a b : Arc) : Ct Tryd.prog 37 [arcV a, arcV b] [] [] 0 (Is 0 (.i (orderI a b))) := by
  refine ctW Tryd.tyOk 5 [] Tryd.func37 rfl (by simp) (by simp) (fr := [(0, arcV a), (1, arcV b)]) rfl ?_
  (conv => whnf)
  refine dR ?_
  (conv => whnf)
  refine cI (compare_c a.f b.f) [] Tryd.call56 ?_
  repeat' (first | exact rfl | ((conv => whnf); first | refine condP_mk (fun h => ?_) (fun h => ?_) | refine Ob.mk ?_ ?_ | refine Both.mk ?_ ?_))
  (conv => whnf)
  refine cI (compare_c a.i b.i) [] Tryd.call56 ?_
  repeat' (first | exact rfl | ((conv => whnf); first | refine condP_mk (fun h => ?_) (fun h => ?_) | refine Ob.mk ?_ ?_ | refine Both.mk ?_ ?_))
  (conv => whnf)
  refine cI (compare_c a.o b.o) [] Tryd.call56 ?_
  repeat' (first | exact rfl | ((conv => whnf); first | refine condP_mk (fun h => ?_) (fun h => ?_) | refine Ob.mk ?_ ?_ | refine Both.mk ?_ ?_))
  (conv => whnf)
  refine cI (compare_c a.t b.t) [] Tryd.call56 ?_
  repeat' (first | exact rfl | ((conv => whnf); first | refine condP_mk (fun h => ?_) (fun h => ?_) | refine Ob.mk ?_ ?_ | refine Both.mk ?_ ?_))
  (conv => whnf)
  refine callI (or_c [cmpI a.f b.f, cmpI a.i b.i, cmpI a.o b.o, cmpI a.t b.t] 4 (by simp)) [2] Tryd.call55 rfl (by simp) (by simp) (by simp) ?_
  repeat' (first | exact rfl | ((conv => whnf); first | refine condP_mk (fun h => ?_) (fun h => ?_) | refine Ob.mk ?_ ?_ | refine Both.mk ?_ ?_))
  refine Back.is ?_
  simp only [eqV, eqA, eqC, orderI]
end Go.Fw

namespace Go.Fw
open Go Go.Proofs

theorem check1_c (F : TF) (n : Int) (hst : InI (F.st - 1)) : Ct Tryd.prog 33 [.i n, .c (.ptr 2 0)] [] (hpC F) 3 (fun v s => v = .b (decide (0 ≤ n ∧ n ≤ F.st - 1)) ∧ s = ⟨[], [(2, .box 25 [.i F.st, .i F.start, .sl 0 1 0 F.fin.length F.capF, .sl 1 5 0 F.arcs.length F.capA])], 3⟩) := by
  refine ctW Tryd.tyOk 4 [] Tryd.func33 rfl (by simp) (by simp) (fr := [(0, .i n), (1, .c (.ptr 2 0))]) rfl ?_
  repeat' (first | exact rfl | ((conv => whnf); first | refine condP_mk (fun h => ?_) (fun h => ?_) | refine Ob.mk ?_ ?_ | refine Both.mk ?_ ?_))
  · exact hst
  (conv => whnf)
  refine cI (within_c n 0 (F.st - 1)) [] Tryd.call34 ?_
  repeat' (first | exact rfl | ((conv => whnf); first | refine condP_mk (fun h => ?_) (fun h => ?_) | refine Ob.mk ?_ ?_ | refine Both.mk ?_ ?_))
  (conv => whnf)
  exact ⟨[], [(2, .box 25 [.i F.st, .i F.start, .sl 0 1 0 F.fin.length F.capF, .sl 1 5 0 F.arcs.length F.capA])], 3, .b (decide (0 ≤ n ∧ n ≤ F.st - 1)), ⟨by rfl, trivial, by simp⟩, by simp only [eqV, eqA, eqC], rfl, rfl⟩

/-- What Check keeps by it. -/
abbrev frC : List (Nat × SV) := [(1, .c (.ptr 2 0)), (2, .i 0), (3, .c (.fn 33 [(2, 0)]))]

set_option maxHeartbeats 4000000 in
set_option maxRecDepth 20000 in
theorem check_c (F : TF) (hl : F.fin.length ≤ 9223372036854775807) : Ct Tryd.prog 16 [fV F] [] (hpF F) 2 (Is 2 (.i (fstE F))) := by
  refine ctW Tryd.tyOk 6 [35, 36, 37] Tryd.func16 rfl (by simp) (by simp) (fr := [(0, fV F)]) rfl ?_
  (conv => whnf)
  refine cI (within_c F.st 1 200) [] Tryd.call34 ?_
  repeat' (first | exact rfl | ((conv => whnf); first | refine condP_mk (fun h => ?_) (fun h => ?_) | refine Ob.mk ?_ ?_ | refine Both.mk ?_ ?_))
  · refine Back.is ?_
    simp only [Bool.not_eq_true', decide_eq_false_iff_not] at h
    simp only [eqV, eqA, eqC, fstE, if_pos h]
  simp only [Bool.not_eq_false', decide_eq_true_eq] at h
  have h1 := h
  clear h
  have hst : InI (F.st - 1) := by unfold InI; omega
  (conv => whnf)
  refine callF (check1_c F F.start hst) [0, 1, 2] Tryd.call33 rfl (by simp) (by simp) (by simp) ?_
  rintro _ _ ⟨rfl, rfl⟩
  repeat' (first | exact rfl | ((conv => whnf); first | refine condP_mk (fun h => ?_) (fun h => ?_) | refine Ob.mk ?_ ?_ | refine Both.mk ?_ ?_))
  · refine Back.is ?_
    simp only [Bool.not_eq_true', decide_eq_false_iff_not] at h
    simp only [eqV, eqA, eqC, fstE, if_neg (not_not_intro h1), if_pos h]
  · refine Back.is ?_
    rename_i h2
    simp only [Bool.not_eq_false', decide_eq_true_eq, bne_iff_ne] at h h2
    simp only [eqV, eqA, eqC, fstE, if_neg (not_not_intro h1), if_neg (not_not_intro h2), if_pos h]
  rename_i h2
  simp only [Bool.not_eq_false', decide_eq_true_eq, bne_eq_false_iff_eq] at h h2
  have h3 := h
  clear h
  (conv => whnf)
  refine callI (containsFunc_c F.fin F.capF hl 36 (fun a => !decide (-1 ≤ a ∧ a ≤ 1000000000)) check2_c Tryd.call36) [0] Tryd.call35 rfl (by simp) (by simp) (by simp) ?_
  have hany : (F.fin.any fun a => !decide (-1 ≤ a ∧ a ≤ 1000000000)) = true ↔ ¬ ∀ n ∈ F.fin, -1 ≤ n ∧ n ≤ 1000000000 := by
    rw [List.any_eq_true]
    constructor
    · rintro ⟨x, hx, h⟩ H
      rw [decide_eq_true (H x hx)] at h
      cases h
    · intro H
      refine Classical.byContradiction fun hc => H fun n hn => Classical.byContradiction fun hnn => hc ⟨n, hn, ?_⟩
      rw [decide_eq_false hnn]; rfl
  repeat' (first | exact rfl | ((conv => whnf); first | refine condP_mk (fun h => ?_) (fun h => ?_) | refine Ob.mk ?_ ?_ | refine Both.mk ?_ ?_))
  · refine Back.is ?_
    rw [hany] at h
    simp only [eqV, eqA, eqC, fstE, if_neg (not_not_intro h1), if_neg (not_not_intro h2), if_neg (not_not_intro h3), if_pos h]
  · refine Back.is ?_
    rename_i hk2
    have hk2 : ∀ n ∈ F.fin, -1 ≤ n ∧ n ≤ 1000000000 := Classical.not_not.1 fun hc => by rw [hany.2 hc] at hk2; cases hk2
    simp only [decide_eq_true_eq] at h
    simp only [eqV, eqA, eqC, fstE, if_neg (not_not_intro h1), if_neg (not_not_intro h2), if_neg (not_not_intro h3), if_neg (not_not_intro hk2), if_pos (show 3000 < F.arcs.length by omega)]
  rename_i hk2
  have hk2 : ∀ n ∈ F.fin, -1 ≤ n ∧ n ≤ 1000000000 := Classical.not_not.1 fun hc => by rw [hany.2 hc] at hk2; cases hk2
  simp only [decide_eq_false_iff_not] at h
  have h5 : F.arcs.length ≤ 3000 := by omega
  have h4 : fstE F = arcsE F.st none F.arcs := by
    simp only [fstE, if_neg (not_not_intro h1), if_neg (not_not_intro h2), if_neg (not_not_intro h3), if_neg (not_not_intro hk2), if_neg (show ¬ 3000 < F.arcs.length by omega)]
  clear hk2 h hany
  (conv => whnf)
  refine loopI (fun k : Nat => ⟨[(1, .c (.ptr 2 0)), (2, .i 0), (3, .c (.fn 33 [(2, 0)])), (35, .c (.sl 1 5 0 F.arcs.length F.capA)), (36, .i F.arcs.length), (37, .i k)], hpC F, 3⟩) (fun k => k ≤ F.arcs.length ∧ fstE F = arcsE F.st (if k = 0 then none else some (F.arcs.getD (k - 1) EK.arc.dflt)) (F.arcs.drop k)) (fun k => F.arcs.length - k) 0 [] ⟨by rfl, ?_, ?_⟩ (by simp [h4]) ?_
  · simp
  · simp
  · intro j ⟨hj1, hj2⟩
    repeat' (first | exact rfl | ((conv => whnf); first | refine condP_mk (fun h => ?_) (fun h => ?_) | refine Ob.mk ?_ ?_ | refine Both.mk ?_ ?_))
    · simp only [decide_eq_true_eq] at h; omega
    · simp only [decide_eq_true_eq] at h; omega
    · simp only [decide_eq_true_eq] at h
      have hj : j < F.arcs.length := by omega
      clear h
      (conv => whnf)
      simp only [Nat.zero_add, Int.toNat_natCast]
      have hd : F.arcs.drop j = F.arcs.getD j EK.arc.dflt :: F.arcs.drop (j + 1) := by
        rw [List.drop_eq_getElem_cons hj]; simp [List.getD, hj]
      rw [hd, arcsE_cons] at hj2
      generalize hx : F.arcs.getD j EK.arc.dflt = x at hj2 ⊢
      refine callF (check1_c F x.f hst) [0, 1, 2] Tryd.call33 rfl (by simp) (by simp) (by simp) ?_
      rintro _ _ ⟨rfl, rfl⟩
      repeat' (first | exact rfl | ((conv => whnf); first | refine condP_mk (fun h => ?_) (fun h => ?_) | refine Ob.mk ?_ ?_ | refine Both.mk ?_ ?_))
      · refine Back.is ?_
        simp only [Bool.not_eq_true'] at h
        simp only [eqV, eqA, eqC, hj2, arcOk, h]
        rfl
      simp only [Bool.not_eq_false'] at h
      have a1 := h
      clear h
      (conv => whnf)
      refine callF (check1_c F x.t hst) [0, 1, 2] Tryd.call33 rfl (by simp) (by simp) (by simp) ?_
      rintro _ _ ⟨rfl, rfl⟩
      repeat' (first | exact rfl | ((conv => whnf); first | refine condP_mk (fun h => ?_) (fun h => ?_) | refine Ob.mk ?_ ?_ | refine Both.mk ?_ ?_))
      · refine Back.is ?_
        simp only [Bool.not_eq_true'] at h
        simp only [eqV, eqA, eqC, hj2, arcOk, a1, h]
        rfl
      simp only [Bool.not_eq_false'] at h
      have a2 : arcOk F.st x = true := by simp only [arcOk, a1, h]; rfl
      clear h
      (conv => whnf)
      refine cI (within_c x.i 0 9) [] Tryd.call34 ?_
      repeat' (first | exact rfl | ((conv => whnf); first | refine condP_mk (fun h => ?_) (fun h => ?_) | refine Ob.mk ?_ ?_ | refine Both.mk ?_ ?_))
      · refine Back.is ?_
        simp only [Bool.not_eq_true'] at h
        simp only [eqV, eqA, eqC, hj2, a2, arcIn, h]
        rfl
      simp only [Bool.not_eq_false'] at h
      have a3 := h
      clear h
      (conv => whnf)
      refine cI (within_c x.o 0 9) [] Tryd.call34 ?_
      repeat' (first | exact rfl | ((conv => whnf); first | refine condP_mk (fun h => ?_) (fun h => ?_) | refine Ob.mk ?_ ?_ | refine Both.mk ?_ ?_))
      · refine Back.is ?_
        simp only [Bool.not_eq_true'] at h
        simp only [eqV, eqA, eqC, hj2, a2, arcIn, a3, h]
        rfl
      simp only [Bool.not_eq_false'] at h
      have a4 := h
      clear h
      (conv => whnf)
      refine cI (within_c x.w 0 1000000000) [] Tryd.call34 ?_
      repeat' (first | exact rfl | ((conv => whnf); first | refine condP_mk (fun h => ?_) (fun h => ?_) | refine Ob.mk ?_ ?_ | refine Both.mk ?_ ?_))
      · refine Back.is ?_
        simp only [Bool.not_eq_true'] at h
        simp only [eqV, eqA, eqC, hj2, a2, arcIn, a3, a4, h]
        rfl
      simp only [Bool.not_eq_false'] at h
      have a5 : arcIn x = true := by simp only [arcIn, a3, a4, h]; rfl
      clear h
      (conv => whnf)
      refine dR ?_
      repeat' (first | exact rfl | ((conv => whnf); first | refine condP_mk (fun h => ?_) (fun h => ?_) | refine Ob.mk ?_ ?_ | refine Both.mk ?_ ?_))
      · unfold InI; omega
      · simp only [decide_eq_true_eq, gt_iff_lt] at h; omega
      · simp only [decide_eq_true_eq, gt_iff_lt] at h; omega
      · simp only [decide_eq_true_eq, gt_iff_lt] at h
        have hj0 : j ≠ 0 := by omega
        clear h
        have e : 0 + ((j : Int) - 1).toNat = j - 1 := by omega
        (conv => whnf)
        simp only [e, Nat.zero_add, Int.toNat_natCast]
        simp only [if_neg hj0] at hj2
        generalize hy : F.arcs.getD (j - 1) EK.arc.dflt = y at hj2 ⊢
        refine cI (order_c y x) [] Tryd.call37 ?_
        repeat' (first | exact rfl | ((conv => whnf); first | refine condP_mk (fun h => ?_) (fun h => ?_) | refine Ob.mk ?_ ?_ | refine Both.mk ?_ ?_))
        · refine Back.is ?_
          rw [orderI_ahead] at h
          simp only [eqV, eqA, eqC, hj2, a2, a5, h]
          rfl
        · unfold InI; omega
        · rw [orderI_ahead] at h
          simp only [Bool.not_eq_false'] at h
          (conv => whnf)
          refine ⟨j + 1, [], ⟨by rfl, ?_, ?_⟩, ⟨hj, ?_⟩, by omega⟩
          · simp
          · simp
          · simp only [a2, a5, h, Bool.not_true, Bool.false_eq_true, if_false] at hj2
            rw [if_neg (Nat.succ_ne_zero j), Nat.add_sub_cancel, hx]
            exact hj2
      · unfold InI; omega
      · simp only [decide_eq_false_iff_not, gt_iff_lt] at h
        have hj0 : j = 0 := by omega
        simp only [if_pos hj0] at hj2
        (conv => whnf)
        refine ⟨j + 1, [], ⟨by rfl, ?_, ?_⟩, ⟨hj, ?_⟩, by omega⟩
        · simp
        · simp
        · simp only [a2, a5, Bool.not_true, Bool.false_eq_true, if_false] at hj2
          rw [if_neg (Nat.succ_ne_zero j), Nat.add_sub_cancel, hx]
          exact hj2
    · refine Back.is ?_
      simp only [decide_eq_false_iff_not] at h
      rw [List.drop_eq_nil_of_le (by omega), arcsE_nil] at hj2
      simp only [eqV, eqA, eqC, hj2]
end Go.Fw

namespace Go.Fw
open Go Go.Proofs

/-- The answer: a slice of its own, numbered m. -/
def Sl (m E : Nat) (k : EK) (xs : List k.ty) (v : SV) (s : S) : Prop := ∃ sp, v = .c (.sl m k.sz 0 xs.length (xs.length + sp)) ∧ s = ⟨[], [(m, .arr true E k xs sp)], m + 1⟩

end Go.Fw

namespace Go.Fw
open Go Go.Proofs

end Go.Fw

namespace Go.Fw
open Go Go.Proofs

end Go.Fw
