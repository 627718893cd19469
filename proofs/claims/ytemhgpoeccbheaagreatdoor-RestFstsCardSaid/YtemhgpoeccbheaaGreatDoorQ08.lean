/-
  The types of the program as the executor sees them. (Printed by gentypes.py.)
-/
import Derived.Test.YtemhgpoeccbheaaGreatDoorQ04
import Derived.Test.YtemhgpoeccbheaaGreatDoorProg
import Derived.KernelRfl
import Derived.Deep.Slices
import Derived.Deep.Fields
import Derived.ChangeSame
import Derived.Lib.SmallJoins
import Derived.ProofKit
import Derived.SizedLaws
import Derived.Test.YtemhgpoeccbheaaGreatDoorQ03
import Derived.Shelf.Strconv.Itoa3
import Derived.Shelf.Strconv.AtoiAll
import Derived.Shelf.Strings.Split
import Derived.Shelf.Strings.Cut
import Derived.Shelf.Strings.Builder1
import Derived.HandedShaped
import Derived.Shelf.Vars
import Derived.LaidLaws
import Derived.Handed
import Derived.Test.YtemhgpoeccbheaaGreatDoorTie
import Derived.Test.YtemhgpoeccbheaaGreatDoorCards
import Derived.LaidMore
import Derived.LaidHandle
import Derived.MakeChecks
import Derived.Lib.LaidTab
import Derived.OpenShut
import Derived.SevenTiedAt
import Derived.Lay
import Derived.Shelf.Bits.Mul64
set_option linter.unusedSimpArgs false
set_option linter.unusedVariables false
set_option maxRecDepth 100000
set_option maxHeartbeats 16000000
namespace Go.Fw
open Go Go.Proofs
def Tryz.ty:List (Nat×STy):= [
 (3,⟨1,false,[],[.i 0],none,none⟩),
 (4,⟨2,false,[],[.b false],none,none⟩),
 (5,⟨9,false,[],[.v (.int .u8 0)],none,none⟩),
 (9,⟨3,false,[],[.v (.string ⟨#[]⟩)],none,none⟩),
 (22,⟨6,false,[],[.v (.slice none 0 0)],some (3,.int,8),none⟩),
 (23,⟨6,false,[],[.v (.slice none 0 0)],some (55,.arc,40),none⟩),
 (25,⟨5,true,[(0,1),(1,1),(2,1),(3,1)],[.i 0,.i 0,.v (.slice none 0 0),.v (.slice none 0 0)],none,none⟩),
 (28,⟨1,false,[],[.i 0],none,none⟩),
 (42,⟨6,false,[],[.v (.slice none 0 0)],some (25,.fst,64),none⟩),
 (55,⟨7,true,[(0,1),(1,1),(2,1),(3,1),(4,1)],[.i 0,.i 0,.i 0,.i 0,.i 0],none,none⟩),
 (62,⟨6,false,[],[.v (.slice none 0 0)],some (4,.bool,1),none⟩),
 (66,⟨0,false,[],[.v (.pointer none)],none,none⟩),
 (73,⟨0,false,[],[.v (.pointer none)],none,none⟩),
 (74,⟨0,false,[],[.v (.map none)],none,some (80,.trip,3,.int)⟩),
 (75,⟨6,false,[],[.v (.slice none 0 0)],some (80,.trip,24),none⟩),
 (77,⟨5,true,[(0,4),(4,4),(8,1),(9,1),(10,4),(14,1)],[.i 0,.i 0,.v (.slice none 0 0),.v (.slice none 0 0),.i 0,.i 0,.v (.slice none 0 0),.v (.slice none 0 0),.v (.map none),.v (.slice none 0 0),.i 0,.i 0,.v (.slice none 0 0),.v (.slice none 0 0),.b false],none,none⟩),
 (80,⟨7,true,[(0,1),(1,1),(2,1)],[.i 0,.i 0,.i 0],none,none⟩),
 (92,⟨0,false,[],[.v (.pointer none)],none,none⟩),
 (94,⟨7,true,[(0,1),(1,1),(2,1)],[.i 0,.i 0,.i 0],none,none⟩),
 (97,⟨0,false,[],[.v (.pointer none)],none,none⟩),
 (98,⟨6,false,[],[.v (.slice none 0 0)],some (22,.sli,24),none⟩),
 (99,⟨0,false,[],[.v (.map none)],none,some (94,.trip,97,.adr)⟩),
 (101,⟨5,true,[(0,4),(4,1),(5,1),(6,1),(7,1)],[.i 0,.i 0,.v (.slice none 0 0),.v (.slice none 0 0),.v (.slice none 0 0),.v (.slice none 0 0),.v (.slice none 0 0),.v (.map none)],none,none⟩),
 (103,⟨5,true,[(0,1),(1,1),(2,3),(5,1)],[.i 0,.i 0,.i 0,.i 0,.i 0,.b false],none,none⟩),
 (109,⟨5,true,[(0,1),(1,1)],[.v (.pointer none),.v (.slice none 0 0)],none,none⟩),
 (111,⟨10,false,[],[.v .nilIface],none,none⟩),
 (117,⟨0,false,[],[.v (.pointer none)],none,none⟩),
 (119,⟨5,true,[(0,4),(4,1),(5,1)],[.i 0,.i 0,.v (.slice none 0 0),.v (.slice none 0 0),.i 0,.b false],none,none⟩),
 (122,⟨6,false,[],[.v (.slice none 0 0)],some (9,.str,16),none⟩),
 (132,⟨5,true,[(0,4)],[.i 0,.i 0,.v (.slice none 0 0),.v (.slice none 0 0)],none,none⟩),
 (146,⟨0,false,[],[.v (.pointer none)],none,none⟩),
 (147,⟨0,false,[],[.v (.map none)],none,some (9,.str,3,.int)⟩),
 (148,⟨6,false,[],[.v (.slice none 0 0)],some (153,.sli,24),none⟩),
 (150,⟨5,true,[(0,4),(4,1),(5,1),(6,4)],[.i 0,.i 0,.v (.slice none 0 0),.v (.slice none 0 0),.v (.map none),.v (.slice none 0 0),.i 0,.i 0,.v (.slice none 0 0),.v (.slice none 0 0)],none,none⟩),
 (151,⟨7,true,[(0,1),(1,1)],[.i 0,.i 0],none,none⟩),
 (152,⟨6,false,[],[.v (.slice none 0 0)],some (151,.duo,16),none⟩),
 (153,⟨6,false,[],[.v (.slice none 0 0)],some (151,.duo,16),none⟩),
 (158,⟨0,false,[],[.v (.pointer none)],none,none⟩),
 (159,⟨0,false,[],[.v (.map none)],none,some (3,.int,3,.int)⟩),
 (161,⟨5,true,[(0,4),(4,1),(5,1),(6,1),(7,4)],[.i 0,.i 0,.v (.slice none 0 0),.v (.slice none 0 0),.v (.slice none 0 0),.v (.map none),.v (.slice none 0 0),.i 0,.i 0,.v (.slice none 0 0),.v (.slice none 0 0)],none,none⟩),
 (170,⟨4,false,[],[.u 0],none,none⟩),
 (180,⟨0,false,[],[.v (.pointer none)],none,none⟩),
 (191,⟨4,false,[],[.u 0],none,none⟩)]
theorem Tryz.cmp55:So Tryz.prog 55 5:=by
 refine⟨fun op x y xs ys w=>run_eqGuard_agg w op 55 x y xs ys (by kernel_rfl),fun l m w hl hm=>?_⟩
 have h3:Tryz.prog.underlying 3=some (.int .i64):=by kernel_rfl
 have hp: ∀(cs:Array Value) (i:Nat) (v:Value) (w:World),cs[i]?=some v->(part 3 cs i).run Tryz.prog w= .ok v w:=by
  intro cs i v w h
  simp[part,(by kernel_rfl:(isAgg 3).run Tryz.prog w= .ok false w),h]
 have hi: ∀(a b:Int) (w:World),(Op.equalIn 9999 3 (.int .i64 a) (.int .i64 b)).run Tryz.prog w= .ok (a==b) w:=fun a b w=>run_equalIn_int w 9998 3 .i64 .i64 a b h3
 match l,m,hl,hm with
 | [a0,a1,a2,a3,a4],[b0,b1,b2,b3,b4],_,_=>
   rw[run_equalIn_struct w 9999 55 _ _ (by kernel_rfl) (by kernel_rfl)]
   unfold Program.fieldsOf
   rw[Tryz.underlying55]
   generalize hA:(List.map (Value.int .i64) [a0,a1,a2,a3,a4]).toArray=A
   generalize hB:(List.map (Value.int .i64) [b0,b1,b2,b3,b4]).toArray=B
   have g: ∀(i:Nat) (x y:Int) (w:World) (r:Sem Bool),A[i]?=some (.int .i64 x)->B[i]?=some (.int .i64 y)->((do let a<-part 3 A i;let b<-part 3 B i;let r'<-Op.equalIn 9999 3 a b;if(!r')=true then pure false else r:Sem Bool)).run Tryz.prog w=if x=y then r.run Tryz.prog w else .ok false w:=by
    intro i x y w r h1 h2
    by_cases hxy:x=y<;>simp[hp A i _ w h1,hp B i _ w h2,hi,hxy]
   subst hA hB
   simp only[Op.eqFields,ne_eq,String.reduceEq,not_false_eq_true,if_true]
   rw[g 0 a0 b0 w _ rfl rfl,g 1 a1 b1 w _ rfl rfl,g 2 a2 b2 w _ rfl rfl,g 3 a3 b3 w _ rfl rfl,g 4 a4 b4 w _ rfl rfl]
   by_cases h0:a0=b0<;>by_cases h1:a1=b1<;>by_cases h2:a2=b2<;>by_cases h3:a3=b3<;>by_cases h4:a4=b4<;>simp[h0,h1,h2,h3,h4]
theorem Tryz.cmp80:So Tryz.prog 80 3:=by
 refine⟨fun op x y xs ys w=>run_eqGuard_agg w op 80 x y xs ys (by kernel_rfl),fun l m w hl hm=>?_⟩
 have h3:Tryz.prog.underlying 3=some (.int .i64):=by kernel_rfl
 have hp: ∀(cs:Array Value) (i:Nat) (v:Value) (w:World),cs[i]?=some v->(part 3 cs i).run Tryz.prog w= .ok v w:=by
  intro cs i v w h
  simp[part,(by kernel_rfl:(isAgg 3).run Tryz.prog w= .ok false w),h]
 have hi: ∀(a b:Int) (w:World),(Op.equalIn 9999 3 (.int .i64 a) (.int .i64 b)).run Tryz.prog w= .ok (a==b) w:=fun a b w=>run_equalIn_int w 9998 3 .i64 .i64 a b h3
 match l,m,hl,hm with
 | [a0,a1,a2],[b0,b1,b2],_,_=>
   rw[run_equalIn_struct w 9999 80 _ _ (by kernel_rfl) (by kernel_rfl)]
   unfold Program.fieldsOf
   rw[Tryz.underlying80]
   generalize hA:(List.map (Value.int .i64) [a0,a1,a2]).toArray=A
   generalize hB:(List.map (Value.int .i64) [b0,b1,b2]).toArray=B
   have g: ∀(i:Nat) (x y:Int) (w:World) (r:Sem Bool),A[i]?=some (.int .i64 x)->B[i]?=some (.int .i64 y)->((do let a<-part 3 A i;let b<-part 3 B i;let r'<-Op.equalIn 9999 3 a b;if(!r')=true then pure false else r:Sem Bool)).run Tryz.prog w=if x=y then r.run Tryz.prog w else .ok false w:=by
    intro i x y w r h1 h2
    by_cases hxy:x=y<;>simp[hp A i _ w h1,hp B i _ w h2,hi,hxy]
   subst hA hB
   simp only[Op.eqFields,ne_eq,String.reduceEq,not_false_eq_true,if_true]
   rw[g 0 a0 b0 w _ rfl rfl,g 1 a1 b1 w _ rfl rfl,g 2 a2 b2 w _ rfl rfl]
   by_cases h0:a0=b0<;>by_cases h1:a1=b1<;>by_cases h2:a2=b2<;>simp[h0,h1,h2]
theorem Tryz.cmp94:So Tryz.prog 94 3:=by
 refine⟨fun op x y xs ys w=>run_eqGuard_agg w op 94 x y xs ys (by kernel_rfl),fun l m w hl hm=>?_⟩
 have h3:Tryz.prog.underlying 3=some (.int .i64):=by kernel_rfl
 have hp: ∀(cs:Array Value) (i:Nat) (v:Value) (w:World),cs[i]?=some v->(part 3 cs i).run Tryz.prog w= .ok v w:=by
  intro cs i v w h
  simp[part,(by kernel_rfl:(isAgg 3).run Tryz.prog w= .ok false w),h]
 have hi: ∀(a b:Int) (w:World),(Op.equalIn 9999 3 (.int .i64 a) (.int .i64 b)).run Tryz.prog w= .ok (a==b) w:=fun a b w=>run_equalIn_int w 9998 3 .i64 .i64 a b h3
 match l,m,hl,hm with
 | [a0,a1,a2],[b0,b1,b2],_,_=>
   rw[run_equalIn_struct w 9999 94 _ _ (by kernel_rfl) (by kernel_rfl)]
   unfold Program.fieldsOf
   rw[Tryz.underlying94]
   generalize hA:(List.map (Value.int .i64) [a0,a1,a2]).toArray=A
   generalize hB:(List.map (Value.int .i64) [b0,b1,b2]).toArray=B
   have g: ∀(i:Nat) (x y:Int) (w:World) (r:Sem Bool),A[i]?=some (.int .i64 x)->B[i]?=some (.int .i64 y)->((do let a<-part 3 A i;let b<-part 3 B i;let r'<-Op.equalIn 9999 3 a b;if(!r')=true then pure false else r:Sem Bool)).run Tryz.prog w=if x=y then r.run Tryz.prog w else .ok false w:=by
    intro i x y w r h1 h2
    by_cases hxy:x=y<;>simp[hp A i _ w h1,hp B i _ w h2,hi,hxy]
   subst hA hB
   simp only[Op.eqFields,ne_eq,String.reduceEq,not_false_eq_true,if_true]
   rw[g 0 a0 b0 w _ rfl rfl,g 1 a1 b1 w _ rfl rfl,g 2 a2 b2 w _ rfl rfl]
   by_cases h0:a0=b0<;>by_cases h1:a1=b1<;>by_cases h2:a2=b2<;>simp[h0,h1,h2]
theorem Tryz.cmp151:So Tryz.prog 151 2:=by
 refine⟨fun op x y xs ys w=>run_eqGuard_agg w op 151 x y xs ys (by kernel_rfl),fun l m w hl hm=>?_⟩
 have h3:Tryz.prog.underlying 3=some (.int .i64):=by kernel_rfl
 have hp: ∀(cs:Array Value) (i:Nat) (v:Value) (w:World),cs[i]?=some v->(part 3 cs i).run Tryz.prog w= .ok v w:=by
  intro cs i v w h
  simp[part,(by kernel_rfl:(isAgg 3).run Tryz.prog w= .ok false w),h]
 have hi: ∀(a b:Int) (w:World),(Op.equalIn 9999 3 (.int .i64 a) (.int .i64 b)).run Tryz.prog w= .ok (a==b) w:=fun a b w=>run_equalIn_int w 9998 3 .i64 .i64 a b h3
 match l,m,hl,hm with
 | [a0,a1],[b0,b1],_,_=>
   rw[run_equalIn_struct w 9999 151 _ _ (by kernel_rfl) (by kernel_rfl)]
   unfold Program.fieldsOf
   rw[Tryz.underlying151]
   generalize hA:(List.map (Value.int .i64) [a0,a1]).toArray=A
   generalize hB:(List.map (Value.int .i64) [b0,b1]).toArray=B
   have g: ∀(i:Nat) (x y:Int) (w:World) (r:Sem Bool),A[i]?=some (.int .i64 x)->B[i]?=some (.int .i64 y)->((do let a<-part 3 A i;let b<-part 3 B i;let r'<-Op.equalIn 9999 3 a b;if(!r')=true then pure false else r:Sem Bool)).run Tryz.prog w=if x=y then r.run Tryz.prog w else .ok false w:=by
    intro i x y w r h1 h2
    by_cases hxy:x=y<;>simp[hp A i _ w h1,hp B i _ w h2,hi,hxy]
   subst hA hB
   simp only[Op.eqFields,ne_eq,String.reduceEq,not_false_eq_true,if_true]
   rw[g 0 a0 b0 w _ rfl rfl,g 1 a1 b1 w _ rfl rfl]
   by_cases h0:a0=b0<;>by_cases h1:a1=b1<;>simp[h0,h1]
theorem Tryz.tyOk3:bI Tryz.prog 3 ⟨1,false,[],[.i 0],none,none⟩where
theorem Tryz.tyOk4:bI Tryz.prog 4 ⟨2,false,[],[.b false],none,none⟩where
theorem Tryz.tyOk5:bI Tryz.prog 5 ⟨9,false,[],[.v (.int .u8 0)],none,none⟩where
theorem Tryz.tyOk9:bI Tryz.prog 9 ⟨3,false,[],[.v (.string ⟨#[]⟩)],none,none⟩where
theorem Tryz.tyOk22:bI Tryz.prog 22 ⟨6,false,[],[.v (.slice none 0 0)],some (3,.int,8),none⟩where
 sl _ _ _ h:=by cases h;exact⟨by kernel_rfl,fun _=>by kernel_rfl,Tryz.t3,_,by kernel_rfl,rfl,rfl,rfl,rfl⟩
theorem Tryz.tyOk23:bI Tryz.prog 23 ⟨6,false,[],[.v (.slice none 0 0)],some (55,.arc,40),none⟩where
 sl _ _ _ h:=by cases h;exact⟨by kernel_rfl,fun _=>by kernel_rfl,Tryz.t55,_,by kernel_rfl,rfl,rfl,rfl,rfl⟩
theorem Tryz.tyOk25:bI Tryz.prog 25 ⟨5,true,[(0,1),(1,1),(2,1),(3,1)],[.i 0,.i 0,.v (.slice none 0 0),.v (.slice none 0 0)],none,none⟩where
 str _:=lS Tryz.underlying25
theorem Tryz.tyOk28:bI Tryz.prog 28 ⟨1,false,[],[.i 0],none,none⟩where
theorem Tryz.tyOk42:bI Tryz.prog 42 ⟨6,false,[],[.v (.slice none 0 0)],some (25,.fst,64),none⟩where
 sl _ _ _ h:=by cases h;exact⟨by kernel_rfl,fun _=>by kernel_rfl,Tryz.t25,_,by kernel_rfl,rfl,rfl,rfl,rfl⟩
theorem Tryz.tyOk55:bI Tryz.prog 55 ⟨7,true,[(0,1),(1,1),(2,1),(3,1),(4,1)],[.i 0,.i 0,.i 0,.i 0,.i 0],none,none⟩where
 str _:=lS Tryz.underlying55
 cmp _:=Tryz.cmp55
theorem Tryz.tyOk62:bI Tryz.prog 62 ⟨6,false,[],[.v (.slice none 0 0)],some (4,.bool,1),none⟩where
 sl _ _ _ h:=by cases h;exact⟨by kernel_rfl,fun _=>by kernel_rfl,Tryz.t4,_,by kernel_rfl,rfl,rfl,rfl,rfl⟩
theorem Tryz.tyOk66:bI Tryz.prog 66 ⟨0,false,[],[.v (.pointer none)],none,none⟩where
theorem Tryz.tyOk73:bI Tryz.prog 73 ⟨0,false,[],[.v (.pointer none)],none,none⟩where
theorem Tryz.tyOk74:bI Tryz.prog 74 ⟨0,false,[],[.v (.map none)],none,some (80,.trip,3,.int)⟩where
 mp _ _ _ _ h:=by
  cases h
  refine zN (by kernel_rfl) Tryz.underlying80 ?_ (Tryz.cmp80).2 (fun _=>by kernel_rfl)
  intro x w e
  refine Rv e 9998 _ w Tryz.underlying80 ?_
  intro f hf
  simp only[List.mem_cons,List.not_mem_nil,or_false]at hf
  have h3:Tryz.prog.underlying 3=some (.int .i64):=by kernel_rfl
  have hp: ∀(cs:Array Value) (i:Nat) (v:Value) (w:World),cs[i]?=some v->(part 3 cs i).run Tryz.prog w= .ok v w:=by
   intro cs i v w h
   simp[part,(by kernel_rfl:(isAgg 3).run Tryz.prog w= .ok false w),h]
  rcases hf with rfl|rfl|rfl
  ·exact⟨_,hp _ 0 _ w rfl,h3⟩
  ·exact⟨_,hp _ 1 _ w rfl,h3⟩
  ·exact⟨_,hp _ 2 _ w rfl,h3⟩
theorem Tryz.tyOk75:bI Tryz.prog 75 ⟨6,false,[],[.v (.slice none 0 0)],some (80,.trip,24),none⟩where
 sl _ _ _ h:=by cases h;exact⟨by kernel_rfl,fun _=>by kernel_rfl,Tryz.t80,_,by kernel_rfl,rfl,rfl,rfl,rfl⟩
theorem Tryz.tyOk77:bI Tryz.prog 77 ⟨5,true,[(0,4),(4,4),(8,1),(9,1),(10,4),(14,1)],[.i 0,.i 0,.v (.slice none 0 0),.v (.slice none 0 0),.i 0,.i 0,.v (.slice none 0 0),.v (.slice none 0 0),.v (.map none),.v (.slice none 0 0),.i 0,.i 0,.v (.slice none 0 0),.v (.slice none 0 0),.b false],none,none⟩where
 str _:=lS Tryz.underlying77
theorem Tryz.tyOk80:bI Tryz.prog 80 ⟨7,true,[(0,1),(1,1),(2,1)],[.i 0,.i 0,.i 0],none,none⟩where
 str _:=lS Tryz.underlying80
 cmp _:=Tryz.cmp80
theorem Tryz.tyOk92:bI Tryz.prog 92 ⟨0,false,[],[.v (.pointer none)],none,none⟩where
theorem Tryz.tyOk94:bI Tryz.prog 94 ⟨7,true,[(0,1),(1,1),(2,1)],[.i 0,.i 0,.i 0],none,none⟩where
 str _:=lS Tryz.underlying94
 cmp _:=Tryz.cmp94
theorem Tryz.tyOk97:bI Tryz.prog 97 ⟨0,false,[],[.v (.pointer none)],none,none⟩where
theorem Tryz.tyOk98:bI Tryz.prog 98 ⟨6,false,[],[.v (.slice none 0 0)],some (22,.sli,24),none⟩where
 sl _ _ _ h:=by cases h;exact⟨by kernel_rfl,fun _=>by kernel_rfl,Tryz.t22,_,by kernel_rfl,rfl,rfl,rfl,rfl⟩
theorem Tryz.tyOk99:bI Tryz.prog 99 ⟨0,false,[],[.v (.map none)],none,some (94,.trip,97,.adr)⟩where
 mp _ _ _ _ h:=by
  cases h
  refine zN (by kernel_rfl) Tryz.underlying94 ?_ (Tryz.cmp94).2 (fun _=>by kernel_rfl)
  intro x w e
  refine Rv e 9998 _ w Tryz.underlying94 ?_
  intro f hf
  simp only[List.mem_cons,List.not_mem_nil,or_false]at hf
  have h3:Tryz.prog.underlying 3=some (.int .i64):=by kernel_rfl
  have hp: ∀(cs:Array Value) (i:Nat) (v:Value) (w:World),cs[i]?=some v->(part 3 cs i).run Tryz.prog w= .ok v w:=by
   intro cs i v w h
   simp[part,(by kernel_rfl:(isAgg 3).run Tryz.prog w= .ok false w),h]
  rcases hf with rfl|rfl|rfl
  ·exact⟨_,hp _ 0 _ w rfl,h3⟩
  ·exact⟨_,hp _ 1 _ w rfl,h3⟩
  ·exact⟨_,hp _ 2 _ w rfl,h3⟩
theorem Tryz.tyOk101:bI Tryz.prog 101 ⟨5,true,[(0,4),(4,1),(5,1),(6,1),(7,1)],[.i 0,.i 0,.v (.slice none 0 0),.v (.slice none 0 0),.v (.slice none 0 0),.v (.slice none 0 0),.v (.slice none 0 0),.v (.map none)],none,none⟩where
 str _:=lS Tryz.underlying101
theorem Tryz.tyOk103:bI Tryz.prog 103 ⟨5,true,[(0,1),(1,1),(2,3),(5,1)],[.i 0,.i 0,.i 0,.i 0,.i 0,.b false],none,none⟩where
 str _:=lS Tryz.underlying103
theorem Tryz.tyOk109:bI Tryz.prog 109 ⟨5,true,[(0,1),(1,1)],[.v (.pointer none),.v (.slice none 0 0)],none,none⟩where
 str _:=lS Tryz.underlying109
theorem Tryz.tyOk111:bI Tryz.prog 111 ⟨10,false,[],[.v .nilIface],none,none⟩where
 kd10 _:=⟨_,Tryz.underlying111⟩
theorem Tryz.tyOk117:bI Tryz.prog 117 ⟨0,false,[],[.v (.pointer none)],none,none⟩where
theorem Tryz.tyOk119:bI Tryz.prog 119 ⟨5,true,[(0,4),(4,1),(5,1)],[.i 0,.i 0,.v (.slice none 0 0),.v (.slice none 0 0),.i 0,.b false],none,none⟩where
 str _:=lS Tryz.underlying119
theorem Tryz.tyOk122:bI Tryz.prog 122 ⟨6,false,[],[.v (.slice none 0 0)],some (9,.str,16),none⟩where
 sl _ _ _ h:=by cases h;exact⟨by kernel_rfl,fun _=>by kernel_rfl,Tryz.t9,_,by kernel_rfl,rfl,rfl,rfl,rfl⟩
theorem Tryz.tyOk132:bI Tryz.prog 132 ⟨5,true,[(0,4)],[.i 0,.i 0,.v (.slice none 0 0),.v (.slice none 0 0)],none,none⟩where
 str _:=lS Tryz.underlying132
theorem Tryz.tyOk146:bI Tryz.prog 146 ⟨0,false,[],[.v (.pointer none)],none,none⟩where
theorem Tryz.tyOk147:bI Tryz.prog 147 ⟨0,false,[],[.v (.map none)],none,some (9,.str,3,.int)⟩where
 mp _ _ _ _ h:=by
  cases h
  exact Um (by kernel_rfl) (by kernel_rfl) (fun _=>by kernel_rfl)
theorem Tryz.tyOk148:bI Tryz.prog 148 ⟨6,false,[],[.v (.slice none 0 0)],some (153,.sli,24),none⟩where
 sl _ _ _ h:=by cases h;exact⟨by kernel_rfl,fun _=>by kernel_rfl,Tryz.t153,_,by kernel_rfl,rfl,rfl,rfl,rfl⟩
theorem Tryz.tyOk150:bI Tryz.prog 150 ⟨5,true,[(0,4),(4,1),(5,1),(6,4)],[.i 0,.i 0,.v (.slice none 0 0),.v (.slice none 0 0),.v (.map none),.v (.slice none 0 0),.i 0,.i 0,.v (.slice none 0 0),.v (.slice none 0 0)],none,none⟩where
 str _:=lS Tryz.underlying150
theorem Tryz.tyOk151:bI Tryz.prog 151 ⟨7,true,[(0,1),(1,1)],[.i 0,.i 0],none,none⟩where
 str _:=lS Tryz.underlying151
 cmp _:=Tryz.cmp151
theorem Tryz.tyOk152:bI Tryz.prog 152 ⟨6,false,[],[.v (.slice none 0 0)],some (151,.duo,16),none⟩where
 sl _ _ _ h:=by cases h;exact⟨by kernel_rfl,fun _=>by kernel_rfl,Tryz.t151,_,by kernel_rfl,rfl,rfl,rfl,rfl⟩
theorem Tryz.tyOk153:bI Tryz.prog 153 ⟨6,false,[],[.v (.slice none 0 0)],some (151,.duo,16),none⟩where
 sl _ _ _ h:=by cases h;exact⟨by kernel_rfl,fun _=>by kernel_rfl,Tryz.t151,_,by kernel_rfl,rfl,rfl,rfl,rfl⟩
theorem Tryz.tyOk158:bI Tryz.prog 158 ⟨0,false,[],[.v (.pointer none)],none,none⟩where
theorem Tryz.tyOk159:bI Tryz.prog 159 ⟨0,false,[],[.v (.map none)],none,some (3,.int,3,.int)⟩where
 mp _ _ _ _ h:=by
  cases h
  exact Un (by kernel_rfl) (by kernel_rfl) (fun _=>by kernel_rfl)
theorem Tryz.tyOk161:bI Tryz.prog 161 ⟨5,true,[(0,4),(4,1),(5,1),(6,1),(7,4)],[.i 0,.i 0,.v (.slice none 0 0),.v (.slice none 0 0),.v (.slice none 0 0),.v (.map none),.v (.slice none 0 0),.i 0,.i 0,.v (.slice none 0 0),.v (.slice none 0 0)],none,none⟩where
 str _:=lS Tryz.underlying161
theorem Tryz.tyOk170:bI Tryz.prog 170 ⟨4,false,[],[.u 0],none,none⟩where
theorem Tryz.tyOk180:bI Tryz.prog 180 ⟨0,false,[],[.v (.pointer none)],none,none⟩where
theorem Tryz.tyOk191:bI Tryz.prog 191 ⟨4,false,[],[.u 0],none,none⟩where
theorem Tryz.tyOk:cZ Tryz.prog Tryz.ty:=by
 intro t d h
 unfold Tryz.ty at h
 rw[aC]at h
 split at h
 ·rename_i e;subst e;cases h;exact Tryz.tyOk3
 rw[aC]at h
 split at h
 ·rename_i e;subst e;cases h;exact Tryz.tyOk4
 rw[aC]at h
 split at h
 ·rename_i e;subst e;cases h;exact Tryz.tyOk5
 rw[aC]at h
 split at h
 ·rename_i e;subst e;cases h;exact Tryz.tyOk9
 rw[aC]at h
 split at h
 ·rename_i e;subst e;cases h;exact Tryz.tyOk22
 rw[aC]at h
 split at h
 ·rename_i e;subst e;cases h;exact Tryz.tyOk23
 rw[aC]at h
 split at h
 ·rename_i e;subst e;cases h;exact Tryz.tyOk25
 rw[aC]at h
 split at h
 ·rename_i e;subst e;cases h;exact Tryz.tyOk28
 rw[aC]at h
 split at h
 ·rename_i e;subst e;cases h;exact Tryz.tyOk42
 rw[aC]at h
 split at h
 ·rename_i e;subst e;cases h;exact Tryz.tyOk55
 rw[aC]at h
 split at h
 ·rename_i e;subst e;cases h;exact Tryz.tyOk62
 rw[aC]at h
 split at h
 ·rename_i e;subst e;cases h;exact Tryz.tyOk66
 rw[aC]at h
 split at h
 ·rename_i e;subst e;cases h;exact Tryz.tyOk73
 rw[aC]at h
 split at h
 ·rename_i e;subst e;cases h;exact Tryz.tyOk74
 rw[aC]at h
 split at h
 ·rename_i e;subst e;cases h;exact Tryz.tyOk75
 rw[aC]at h
 split at h
 ·rename_i e;subst e;cases h;exact Tryz.tyOk77
 rw[aC]at h
 split at h
 ·rename_i e;subst e;cases h;exact Tryz.tyOk80
 rw[aC]at h
 split at h
 ·rename_i e;subst e;cases h;exact Tryz.tyOk92
 rw[aC]at h
 split at h
 ·rename_i e;subst e;cases h;exact Tryz.tyOk94
 rw[aC]at h
 split at h
 ·rename_i e;subst e;cases h;exact Tryz.tyOk97
 rw[aC]at h
 split at h
 ·rename_i e;subst e;cases h;exact Tryz.tyOk98
 rw[aC]at h
 split at h
 ·rename_i e;subst e;cases h;exact Tryz.tyOk99
 rw[aC]at h
 split at h
 ·rename_i e;subst e;cases h;exact Tryz.tyOk101
 rw[aC]at h
 split at h
 ·rename_i e;subst e;cases h;exact Tryz.tyOk103
 rw[aC]at h
 split at h
 ·rename_i e;subst e;cases h;exact Tryz.tyOk109
 rw[aC]at h
 split at h
 ·rename_i e;subst e;cases h;exact Tryz.tyOk111
 rw[aC]at h
 split at h
 ·rename_i e;subst e;cases h;exact Tryz.tyOk117
 rw[aC]at h
 split at h
 ·rename_i e;subst e;cases h;exact Tryz.tyOk119
 rw[aC]at h
 split at h
 ·rename_i e;subst e;cases h;exact Tryz.tyOk122
 rw[aC]at h
 split at h
 ·rename_i e;subst e;cases h;exact Tryz.tyOk132
 rw[aC]at h
 split at h
 ·rename_i e;subst e;cases h;exact Tryz.tyOk146
 rw[aC]at h
 split at h
 ·rename_i e;subst e;cases h;exact Tryz.tyOk147
 rw[aC]at h
 split at h
 ·rename_i e;subst e;cases h;exact Tryz.tyOk148
 rw[aC]at h
 split at h
 ·rename_i e;subst e;cases h;exact Tryz.tyOk150
 rw[aC]at h
 split at h
 ·rename_i e;subst e;cases h;exact Tryz.tyOk151
 rw[aC]at h
 split at h
 ·rename_i e;subst e;cases h;exact Tryz.tyOk152
 rw[aC]at h
 split at h
 ·rename_i e;subst e;cases h;exact Tryz.tyOk153
 rw[aC]at h
 split at h
 ·rename_i e;subst e;cases h;exact Tryz.tyOk158
 rw[aC]at h
 split at h
 ·rename_i e;subst e;cases h;exact Tryz.tyOk159
 rw[aC]at h
 split at h
 ·rename_i e;subst e;cases h;exact Tryz.tyOk161
 rw[aC]at h
 split at h
 ·rename_i e;subst e;cases h;exact Tryz.tyOk170
 rw[aC]at h
 split at h
 ·rename_i e;subst e;cases h;exact Tryz.tyOk180
 rw[aC]at h
 split at h
 ·rename_i e;subst e;cases h;exact Tryz.tyOk191
 cases h
theorem Tryz.mixed:Tryz.prog.follows .mixedOrders=true:=by kernel_rfl
attribute [simp] aBN aBM eqV eqA eqC eqO aAi Vd aC aE rn EK.cast EK.sz Gy Gx eqL fA jQ qR Nz SV.lt SA.lt SC.lt dN
theorem dR {N n0:_} {ops:Array Oper} {s:S} {kn:S->Prop} (h:pK Tryz.prog Tryz.ty N ops.toList kn 60 [] [] s) (hc:Am ops.toList=true:=by kernel_rfl):uP Tryz.prog N n0 ops s kn:=aBS Tryz.mixed Tryz.tyOk 60 hc h
theorem cF {f:Nat} {args:List SV} {ex:List Value} {s:S} {k:S->SV->Prop} {args0:List SV} {hp0:List (Nat×SO)} {m:Nat} {post:SV->S->Prop} (hc:Ct Tryz.prog f args0 ex hp0 m post) (ids:List Nat)
 (hcf: ∀args w,(callFunc f args).run Tryz.prog w= .ok (.enter f args) w)
 (hpost: ∀v s',post v s'->s.go fun fr hp nx=>s'.go fun _ hp' nx'=>uG ids hp0 hp fun hpb=>Bk (gOf ids m nx) (qOf hp0 m) hp' hpb fun hp2=>Uh (gOf ids m nx) v fun v2=>k ⟨fr,hp2,nx+(nx'-m)⟩ v2)
 (hok:(Nat.beq (dN ids) m&&ltB s.nx ids&&ndB ids&&mA hp0)=true:=by rfl) (hhp:Gx (fA 0 ids) m s.hp hp0:=by simp) (hargs:Nz (fA 0 ids) m args0 args:=by simp) (hlt: ∀v∈args,SV.lt s.nx v:=by simp):eH Tryz.prog f args ex s k:=aO hc ids hcf hok hhp hargs hlt hpost
theorem cI {f:Nat} {args:List SV} {s:S} {k:S->SV->Prop} {args0:List SV} {hp0:List (Nat×SO)} {m:Nat} {x:SV} (hc:Ct Tryz.prog f args0 [] hp0 m (Is m x)) (ids:List Nat)
 (hcf: ∀args w,(callFunc f args).run Tryz.prog w= .ok (.enter f args) w)
 (hpost:s.go fun fr hp nx=>uG ids hp0 hp fun hpb=>Uh (gOf ids m nx) x fun v2=>k ⟨fr,hpb,nx⟩ v2)
 (hok:(Nat.beq (dN ids) m&&ltB s.nx ids&&ndB ids&&mA hp0)=true:=by rfl) (hhp:Gx (fA 0 ids) m s.hp hp0:=by simp) (hargs:Nz (fA 0 ids) m args0 args:=by simp) (hlt: ∀v∈args,SV.lt s.nx v:=by simp):eH Tryz.prog f args [] s k:=pN hc ids hcf hok hhp hargs hlt hpost
structure Im (u p:Prop):Prop where
 im:u->p
@[simp] abbrev Lf (p:Prop):Prop:=p
theorem imI {p:Prop}:Im (Lf p) p:=⟨id⟩
theorem imT {p:Prop} (h:p):Im True p:=⟨fun _=>h⟩
theorem imX {b:Bool} {p q x y u v:Prop} [c:CB b p q] (h1:p->Im u x) (h2:q->Im v y):Im ((p->u)/\(q->v)) (mH b x y):=⟨fun k=>cP (fun h=>(h1 (c.yes h)).im (k.1 (c.yes h))) fun h=>(h2 (c.no h)).im (k.2 (c.no h))⟩
theorem imL {b:Bool} {p q x y v:Prop} [c:CB b p q] (h1:p->False) (h2:q->Im v y):Im (q->v) (mH b x y):=⟨fun k=>cP (fun h=>(h1 (c.yes h)).elim) fun h=>(h2 (c.no h)).im (k (c.no h))⟩
theorem imR {b:Bool} {p q x y u:Prop} [c:CB b p q] (h2:q->False) (h1:p->Im u x):Im (p->u) (mH b x y):=⟨fun k=>cP (fun h=>(h1 (c.yes h)).im (k (c.yes h))) fun h=>(h2 (c.no h)).elim⟩
theorem imO {p q u:Prop} (h1:p) (h2:Im u q):Im u (Ob p q):=⟨fun k=>Ob.mk h1 (h2.im k)⟩
theorem imP {p q u:Prop} (h:Im u q):Im (Lf p/\u) (Ob p q):=⟨fun k=>Ob.mk k.1 (h.im k.2)⟩
theorem imB {p q u v:Prop} (h1:Im u p) (h2:Im v q):Im (u/\v) (nX p q):=⟨fun k=>nX.mk (h1.im k.1) (h2.im k.2)⟩
theorem imD {N n0:_} {ops:Array Oper} {s:S} {kn:S->Prop} {u:Prop} (hc:Am ops.toList=true) (h:Im u (pK Tryz.prog Tryz.ty N ops.toList kn 60 [] [] s)):Im u (uP Tryz.prog N n0 ops s kn):=⟨fun k=>dR (h.im k) hc⟩
theorem imA {α:Sort _} {f g:α->Prop} (h: ∀x,Im (g x) (f x)):Im (∀x,g x) (∀x,f x):=⟨fun k x=>(h x).im (k x)⟩
theorem gO {p q:Prop} (k:q) (h:Im q p:=by repeat' first|exact imT rfl|((conv=>rhs;whnf);first|(apply imR;(focus (intro h;exact absurd h (by omega)));intro h)|(apply imL;(focus (intro h;exact absurd h (by omega)));intro h)|(apply imX<;>try intro h)|(apply imO;focus (first|exact rfl|omega|(simp only[nW,InI,nV,EK.sz];omega)|(simp only[nW,InI,nV,EK.sz]at*;omega)|(simp only[oY,cX,aZ,nW,InI];omega)))|apply imP|apply imB|(apply imD;focus kernel_rfl)|(exact imI))):p:=h.im k
theorem gI {p q:Prop} (k:q) (h:Im q p:=by repeat' first|exact imT rfl|((conv=>rhs;whnf);first|(apply imR;(focus (intro h;exact absurd h (by omega)));intro h)|(apply imL;(focus (intro h;exact absurd h (by omega)));intro h)|(apply imX<;>try intro h)|(apply imO;focus (first|exact rfl|omega|(simp only[nW,InI,nV,EK.sz];omega)|(simp only[nW,InI,nV,EK.sz]at*;omega)|(simp only[oY,cX,aZ,nW,InI];omega)))|apply imP|apply imB|(apply imD;focus kernel_rfl)|(apply imA;intro _)|(exact imI))):p:=h.im k
theorem gN {p q:Prop} (k:q) (h:Im q p:=by repeat' first|exact imT rfl|((conv=>rhs;whnf);first|(apply imR;(focus (intro h;exact absurd h (by omega)));intro h)|(apply imL;(focus (intro h;exact absurd h (by omega)));intro h)|(apply imX<;>try intro h)|(apply imO;focus (first|exact rfl|omega|(simp only[nW,InI,nV,EK.sz];omega)|(simp only[nW,InI,nV,EK.sz]at*;omega)|(simp only[oY,cX,aZ,nW,InI];omega)))|apply imP|apply imB|(apply imD;focus kernel_rfl)|((try simp only[Nat.reduceAdd,Nat.reduceSub]);exact imI))):p:=h.im k
theorem gM {p q:Prop} (k:q) (h:Im q p:=by repeat' first|exact imT rfl|((conv=>rhs;whnf);first|(apply imR;(focus (intro h;exact absurd h (by omega)));intro h)|(apply imL;(focus (intro h;exact absurd h (by omega)));intro h)|(apply imX<;>try intro h)|(apply imO;focus (first|exact rfl|omega|(simp only[nW,InI,nV,EK.sz];omega)|(simp only[nW,InI,nV,EK.sz]at*;omega)|(simp only[oY,cX,aZ,nW,InI];omega)))|apply imP|apply imB|(apply imD;focus kernel_rfl)|(apply imA;intro _)|((try simp only[Nat.reduceAdd,Nat.reduceSub]);exact imI))):p:=h.im k
theorem imQ {b:Bool} {x y u v:Prop} (h1:b=true->Im u x) (h2:b=false->Im v y):Im ((b=true->u)/\(b=false->v)) (mH b x y):=⟨fun k=>cP (fun h=>(h1 h).im (k.1 h)) fun h=>(h2 h).im (k.2 h)⟩
theorem gD {p q:Prop} (k:q) (h:Im q p:=by repeat' first|exact imT rfl|((conv=>rhs;whnf);first|(apply imR;(focus (intro h;exact absurd h (by omega)));intro h)|(apply imL;(focus (intro h;exact absurd h (by omega)));intro h)|(apply imX<;>try intro h)|(apply imO;focus (first|exact rfl|omega|(simp only[nW,InI,nV,EK.sz];omega)|(simp only[nW,InI,nV,EK.sz]at*;omega)|(simp only[oY,cX,aZ,nW,InI];omega)))|apply imP|apply imB|exact imI)):p:=h.im k
theorem gR {p q:Prop} (k:q) (h:Im q p:=by repeat' first|exact imT rfl|((conv=>rhs;whnf);first|(apply imQ<;>try intro h)|apply imP|apply imB|exact imI)):p:=h.im k
def aA (F:TF):List SC:= [.i F.st,.i F.start,.sl 0 1 0 F.fin.length F.capF,.sl 1 5 0 F.arcs.length F.capA]
@[simp] def fV (F:TF):SV:= .a (.agg [.i F.st,.i F.start,.sl 0 1 0 F.fin.length F.capF,.sl 1 5 0 F.arcs.length F.capA])
abbrev hpF (F:TF):List (Nat×SO):= [(0,.arr false 3 .int F.fin 0),(1,.arr false 55 .arc F.arcs 0)]
@[simp] def dK (a:Arc):SV:= .a (.agg [.i a.f,.i a.i,.i a.o,.i a.t,.i a.w])
theorem fS (n l m:Int):Ct Tryz.prog 46 [.i n,.i l,.i m] [] [] 0 (Is 0 (.b (decide (l<=n/\n<=m)))):=by
 refine ctW Tryz.tyOk 7 [] Tryz.func46 rfl (by simp) (by simp) (fr:= [(0,.i n),(1,.i l),(2,.i m)]) rfl ?_
 refine gR ?_
 refine⟨fun h=>?_,fun h=>?_⟩
 all_goals refine aQ.is ?_
 all_goals simp only[eqV,eqA,eqC]
 all_goals simp only[decide_eq_true_eq,decide_eq_false_iff_not]at*
 all_goals simp[*]
theorem kE (n l m:Int):Ct Tryz.prog 88 [.i n,.i l,.i m] [] [] 0 (Is 0 (.b (decide (l<=n/\n<=m)))):=by
 refine ctW Tryz.tyOk 7 [] Tryz.func88 rfl (by simp) (by simp) (fr:= [(0,.i n),(1,.i l),(2,.i m)]) rfl ?_
 refine gR ?_
 refine⟨fun h=>?_,fun h=>?_⟩
 all_goals refine aQ.is ?_
 all_goals simp only[eqV,eqA,eqC]
 all_goals simp only[decide_eq_true_eq,decide_eq_false_iff_not]at*
 all_goals simp[*]
theorem Lb (a b:Int):Ct Tryz.prog 71 [.i a,.i b] [] [] 0 (Is 0 (.b (better a b))):=by
 refine ctW Tryz.tyOk 5 [] Tryz.func71 rfl (by simp) (by simp) (fr:= [(0,.i a),(1,.i b)]) rfl ?_
 refine gR ?_
 refine⟨fun h=>⟨fun h=>?_,fun h=>?_⟩,fun h=>?_⟩
 all_goals refine aQ.is ?_
 all_goals simp only[eqV,eqA,eqC]
 all_goals simp only[bne_iff_ne,beq_iff_eq,bne_eq_false_iff_eq,beq_eq_false_iff_ne,ne_eq]at*
 all_goals simp[better, *]
theorem Rj (a:Int):Ct Tryz.prog 139 [.i a] [] [] 0 (Is 0 (.b false)):=by
 refine ctW Tryz.tyOk 3 [] Tryz.func139 rfl (by simp) (by simp) (fr:= [(0,.i a)]) rfl ?_
 refine gR ?_
 all_goals refine aQ.is ?_
 all_goals simp only[eqV,eqA,eqC]
 all_goals simp
theorem kB (a b:Int):Ct Tryz.prog 106 [.i a,.i b] [] [] 0 (Is 0 (.i (jB a b))):=by
 refine ctW Tryz.tyOk 7 [] Tryz.func106 rfl (by simp) (by simp) (fr:= [(0,.i a),(1,.i b)]) rfl ?_
 conv=>whnf
 refine cI (Rj a) [] Tryz.call139 ?_
 conv=>whnf
 refine cI (Rj b) [] Tryz.call139 ?_
 refine gR ?_
 refine⟨fun h=>?_,fun h=>⟨fun h=>?_,fun h=>?_⟩⟩
 all_goals refine aQ.is ?_
 all_goals simp only[eqV,eqA,eqC]
 all_goals simp only[decide_eq_true_eq,decide_eq_false_iff_not]at*
 all_goals simp[jB, *]
theorem aAr (a:Int):Ct Tryz.prog 90 [.i a] [] [] 0 (Is 0 (.b (!decide (-1<=a/\a<=1000000000)))):=by
 refine ctW Tryz.tyOk 3 [] Tryz.func90 rfl (by simp) (by simp) (fr:= [(0,.i a)]) rfl ?_
 conv=>whnf
 refine cI (kE a (-1) 1000000000) [] Tryz.call88 ?_
 conv=>whnf
 refine aQ.is ?_
 simp only[eqV,eqA,eqC]
theorem Qo (a:Arc):Ct Tryz.prog 68 [dK a] [] [] 0 (Is 0 (.b (decide (a.w>1000000000)))):=by
 refine ctW Tryz.tyOk 3 [] Tryz.func68 rfl (by simp) (by simp) (fr:= [(0,dK a)]) rfl ?_
 conv=>whnf
 refine aQ.is ?_
 simp
theorem aAz (a:Arc):Ct Tryz.prog 118 [dK a] [] [] 0 (Is 0 (.tup [.c (.i a.f),.c (.i a.t)])):=by
 refine ctW Tryz.tyOk 4 [] Tryz.func118 rfl (by simp) (by simp) (fr:= [(0,dK a)]) rfl ?_
 conv=>whnf
 refine dR ?_
 repeat' (first|exact rfl|((conv=>whnf);first|refine cP (fun h=>?_) (fun h=>?_)|refine Ob.mk ?_ ?_|refine nX.mk ?_ ?_))
 all_goals refine aQ.is ?_
 all_goals simp
theorem aDF (a:Arc):Ct Tryz.prog 117 [dK a] [] [] 0 (Is 0 (.tup [.c (.i a.t),.c (.i a.f)])):=by
 refine ctW Tryz.tyOk 4 [] Tryz.func117 rfl (by simp) (by simp) (fr:= [(0,dK a)]) rfl ?_
 conv=>whnf
 refine dR ?_
 repeat' (first|exact rfl|((conv=>whnf);first|refine cP (fun h=>?_) (fun h=>?_)|refine Ob.mk ?_ ?_|refine nX.mk ?_ ?_))
 all_goals refine aQ.is ?_
 simp only[eqV,eqA,eqC,Vd]
 simp
end Go.Fw
namespace Go.Fw
open Go Go.Proofs Go.ChangeShapes Go.WideShapes Go.ChangeAt Go.RowKit Go.Deep Go.Joins
def xK (W:World) (oa:Option Addr) (k:EK) (xs:List k.ty):Prop:=match oa with
 |none=>xs=[]
 |some a=>xs≠ []->a.spot=none/\a.block<W.heap.size/\ ∀j v,(aH k xs)[j]?=some v->W.cell? (a.add j)=some v
section
variable {H:Type} {enc:TypeId×Value->H} {P:Program} {w:World} {base:Nat} {spare:Nat->Bool} {held:Bool}
theorem aBU {a:Addr} {v:Value} (h:w.cell? a=some v):a.spot=none/\a.block<w.heap.size:=by
 refine⟨World.cell?_spot h,?_⟩
 unfold World.cell? at h
 split at h
 ·rename_i hb;exact(Array.getElem?_eq_some_iff.1 hb).1
 ·cases h
theorem wfI {n:Int} (h:(Lit.int .i64 n).wf=true):InI n:=by
 have h1:IntKind.i64.min= -9223372036854775808:=rfl
 have h2:IntKind.i64.max=9223372036854775807:=rfl
 simp only[Lit.wf,Bool.and_eq_true,decide_eq_true_eq,h1,h2]at h
 exact h
theorem Rc {oa:Option Addr} {k:EK} {xs:List k.ty} (a:Addr) (ho:oa=some a) (h: ∀j v,(aH k xs)[j]?=some v->w.cell? (a.add j)=some v):xK w oa k xs:=by
 subst ho
 intro hne
 have hpos:0<(aH k xs).length:=by
  rw[aP]
  have:0<xs.length:=List.length_pos_iff.2 hne
  have hk:0<k.sz:=by cases k<;>decide
  exact Nat.mul_pos this hk
 have h0:=h 0 _ (List.getElem?_eq_getElem hpos)
 have h1:=aBU h0
 rw[Addr.add]at h1
 simp only[if_true]at h1
 exact⟨h1.1,h1.2,h⟩
theorem Ad {k:EK} {xs:List k.ty} {j:Nat} {v:Value} (h:(aH k xs)[j]?=some v): ∃i off,j=i*k.sz+off/\i<xs.length/\off<k.sz/\(k.cells (xs.getD i k.dflt))[off]?=some v:=by
 have hk:0<k.sz:=by cases k<;>decide
 have hj:=(List.getElem?_eq_some_iff.1 h).1
 rw[aP]at hj
 have h1:j / k.sz<xs.length:=(Nat.div_lt_iff_lt_mul hk).2 hj
 have h2:j % k.sz<k.sz:=Nat.mod_lt _ hk
 have h3:j=j / k.sz*k.sz+j % k.sz:=by rw[Nat.mul_comm];exact(Nat.div_add_mod _ _).symm
 refine⟨j / k.sz,j % k.sz,h3,h1,h2,?_⟩
 rw[<-pI k xs _ _ h1 h2,<-h3]
 exact h
theorem rR {t e:TypeId} {fuel:Nat} {v:Value} {x:DataW H×List MemPlace} (ht:P.underlying t=some (.slice e)) (he:P.underlying e=some (.int .i64)) (hc:P.cellsOf e=1)
  (h:DataW.trod enc P w base spare held fuel t [v]=some x):
  ∃(oa:Option Addr) (xs:List Int) (cap:Nat),v= .slice oa xs.length cap/\xK w oa .int xs/\xs.length<=cap/\cap<=maxLen/\(oa=none->cap=0)/\ ∀n∈xs,InI n:=by
 rcases open_ints ht he hc h with⟨hcs,_⟩|⟨a,len,cap,zs,hcs,_,hl,hm,hz,_,hcell,hwz⟩
 ·simp only[List.cons.injEq,and_true]at hcs
  subst hcs
  exact⟨none,[],0,rfl,rfl,Nat.le_refl _,Nat.zero_le _,fun _=>rfl,fun n hn=>by cases hn⟩
 ·simp only[List.cons.injEq,and_true]at hcs
  subst hcs
  have hlz:len<=zs.length:=by rw[hz];split<;>omega
  have hlen:(zs.take len).length=len:=by rw[List.length_take];omega
  refine⟨some a,zs.take len,cap,by rw[hlen],Rc a rfl ?_,by rw[hlen];exact hl,hm,(fun h=>by cases h),fun n hn=>wfI (hwz n (List.mem_of_mem_take hn))⟩
  intro j v hj
  obtain⟨i,off,rfl,hi,ho,hv⟩:=Ad hj
  rw[hlen]at hi
  have ho:off<1:=ho
  have ho0:off=0:=by omega
  subst ho0
  have hcl:=hcell i (by omega)
  have e1:i*EK.int.sz+0=i:=by show i*1+0=i;omega
  rw[e1,hcl]
  have e2:(zs.take len).getD i EK.int.dflt=zs.getD i 0:=by
   have:i<zs.length:=by omega
   simp[List.getD,hi,this,EK.dflt]
  rw[e2]at hv
  exact hv
theorem aBx {α:Type} (n:Nat) (R:Nat->α->Prop) (d:α) (h: ∀i,i<n-> ∃x,R i x): ∃xs:List α,xs.length=n/\ ∀i,i<n->R i (xs.getD i d):=by
 induction n with
 |zero=>exact⟨[],rfl,fun i hi=>by omega⟩
 |succ n ih=>
  obtain⟨xs,h1,h2⟩:=ih fun i hi=>h i (by omega)
  obtain⟨x,hx⟩:=h n (by omega)
  refine⟨xs++[x],by simp[h1],fun i hi=>?_⟩
  by_cases e:i=n
  ·subst e
   have:(xs++[x]).getD i d=x:=by simp[List.getD,<-h1]
   rw[this];exact hx
  ·have:(xs++[x]).getD i d=xs.getD i d:=by
    have:i<xs.length:=by omega
    simp[List.getD,List.getElem?_append_left this]
   rw[this];exact h2 i (by omega)
theorem Nf {t e:TypeId} {fuel:Nat} {v:Value} {x:DataW H×List MemPlace} {f0 f1 f2 f3 f4:Field} (ht:P.underlying t=some (.slice e)) (he:P.underlying e=some (.struct #[f0,f1,f2,f3,f4]))
  (hone:oneCellFields P #[f0,f1,f2,f3,f4]=true) (hC:P.cellsOf e=5) (hf: ∀f∈ [f0,f1,f2,f3,f4],P.underlying f.type=some (.int .i64))
  (h:DataW.trod enc P w base spare held fuel t [v]=some x):
  ∃(oa:Option Addr) (xs:List Arc) (cap:Nat),v= .slice oa xs.length cap/\xK w oa .arc xs/\xs.length<=cap/\cap<=maxLen/\(oa=none->cap=0)/\ ∀a∈xs,InI a.f/\InI a.i/\InI a.o/\InI a.t/\InI a.w:=by
 rcases open_slice ht h with⟨hcs,_⟩|⟨a,len,cap,m,n,D,Pl,hcs,_,hl,hm,hmm,_,hi⟩
 ·simp only[List.cons.injEq,and_true]at hcs
  subst hcs
  exact⟨none,[],0,rfl,rfl,Nat.le_refl _,Nat.zero_le _,fun _=>rfl,fun n hn=>by cases hn⟩
 ·simp only[List.cons.injEq,and_true]at hcs
  subst hcs
  have hlm:len<=m:=by rw[hmm];split<;>omega
  obtain⟨xs,hx1,hx2⟩:=aBx len (fun i (x:Arc)=>(InI x.f/\InI x.i/\InI x.o/\InI x.t/\InI x.w)/\ ∀off v,(EK.arc.cells x)[off]?=some v->w.cell? (a.add (i*5+off))=some v) EK.arc.dflt (fun i hil=>by
   obtain⟨cs,hc,ht'⟩:=hi i (by omega)
   rw[hC]at hc
   obtain⟨ys,n',_,_,hlen,_,hg⟩:=DataW.trod_struct he ht'
   obtain⟨_,hcl,hat⟩:=World.cells?_some hc
   rw[hC]at hlen
   match cs,hlen with
   | [c0,c1,c2,c3,c4],_=>
     obtain⟨o0,k0⟩:=hone_of hone 0 f0 rfl
     obtain⟨o1,k1⟩:=hone_of hone 1 f1 rfl
     obtain⟨o2,k2⟩:=hone_of hone 2 f2 rfl
     obtain⟨o3,k3⟩:=hone_of hone 3 f3 rfl
     obtain⟨o4,k4⟩:=hone_of hone 4 f4 rfl
     have g0:=hg 0 f0 rfl
     have g1:=hg 1 f1 rfl
     have g2:=hg 2 f2 rfl
     have g3:=hg 3 f3 rfl
     have g4:=hg 4 f4 rfl
     rw[o0,k0]at g0
     rw[o1,k1]at g1
     rw[o2,k2]at g2
     rw[o3,k3]at g3
     rw[o4,k4]at g4
     have some_of: ∀ {l:List Value} {f:Field} {i:Nat},DataW.trod enc P w base spare held n' f.type l=ys[i]?->ys.length=5->i<5->P.underlying f.type=some (.int .i64)-> ∃q,l=[.int .i64 q]/\InI q:=by
      intro l f i hq hl hi5 hu
      rw[List.getElem?_eq_getElem (by omega)]at hq
      obtain⟨q,hq1,_,hq2⟩:=DataW.trod_int hu hq
      exact⟨q,hq1,wfI hq2⟩
     have hyl:ys.length=5:=by assumption
     obtain⟨q0,e0,i0⟩:=some_of g0 hyl (by omega) (hf f0 (by simp))
     obtain⟨q1,e1,i1⟩:=some_of g1 hyl (by omega) (hf f1 (by simp))
     obtain⟨q2,e2,i2⟩:=some_of g2 hyl (by omega) (hf f2 (by simp))
     obtain⟨q3,e3,i3⟩:=some_of g3 hyl (by omega) (hf f3 (by simp))
     obtain⟨q4,e4,i4⟩:=some_of g4 hyl (by omega) (hf f4 (by simp))
     simp only[List.drop_succ_cons,List.drop_zero,List.take_succ_cons,List.take_zero,List.cons.injEq,and_true]at e0 e1 e2 e3 e4
     subst e0 e1 e2 e3 e4
     refine⟨⟨q0,q1,q2,q3,q4⟩,⟨i0,i1,i2,i3,i4⟩,fun off v hv=>?_⟩
     have hoff:off<5:=by
      have:=(List.getElem?_eq_some_iff.1 hv).1
      rwa [EK.cells_length]at this
     have:=hat off (by omega)
     rw[<-Go.Deep.add_add,this]
     exact hv)
  have hsz:(EK.arc.sz)=5:=rfl
  refine⟨some a,xs,cap,by rw[hx1],Rc a rfl ?_,by omega,hm,(fun h=>by cases h),fun y hy=>?_⟩
  ·intro j v hj
   obtain⟨i,off,rfl,hil,ho,hv⟩:=Ad hj
   exact(hx2 i (by omega)).2 off v hv
  ·obtain⟨i,hil,rfl⟩:=List.getElem_of_mem hy
   have:=(hx2 i (by omega)).1
   have e:xs.getD i EK.arc.dflt=xs[i]:=by simp[List.getD,hil]
   rw[e]at this
   exact this
structure aAG (w:World) (F:TF) (a0 a1:Option Addr) (v:Value):Prop where
 val:v= .agg #[.int .i64 F.st,.int .i64 F.start,.slice a0 F.fin.length F.capF,.slice a1 F.arcs.length F.capA]
 l0:xK w a0 .int F.fin
 l1:xK w a1 .arc F.arcs
 c0:F.capF<=maxLen
 c1:F.capA<=maxLen
 k0:F.fin.length<=F.capF
 k1:F.arcs.length<=F.capA
 i0:InI F.st
 i1:InI F.start
 i2: ∀n∈F.fin,InI n
 i3: ∀a∈F.arcs,InI a.f/\InI a.i/\InI a.o/\InI a.t/\InI a.w
theorem Tw {r:Go.Reach} {b0:Nat} {v:Value} {d:DataW H} {p:List MemPlace} (hv:Value.okWide Tryz.prog w r b0 25 v) (h:DataW.Trod enc Tryz.prog w base spare held 25 v d p): ∃F a0 a1,aAG w F a0 a1 v:=by
 obtain⟨v0,v1,v2,v3,y0,y1,y2,y3,n,rfl,_,_,h0,h1,h2,h3⟩:=open_agg4 Tryz.underlying25 (by kernel_rfl) (by kernel_rfl) hv h
 obtain⟨q0,e0,_,w0⟩:=DataW.trod_int Tryz.underlying3 h0
 obtain⟨q1,e1,_,w1⟩:=DataW.trod_int Tryz.underlying3 h1
 simp only[List.cons.injEq,and_true]at e0 e1
 subst e0 e1
 obtain⟨a0,xs,c0,rfl,l0,k0,m0,_,i2⟩:=rR Tryz.underlying22 Tryz.underlying3 (by kernel_rfl) h2
 obtain⟨a1,ys,c1,rfl,l1,k1,m1,_,i3⟩:=Nf Tryz.underlying23 Tryz.underlying55 (by kernel_rfl) (by kernel_rfl) (by
  intro f hf
  simp only[List.mem_cons,List.not_mem_nil,or_false]at hf
  rcases hf with rfl|rfl|rfl|rfl|rfl<;>exact Tryz.underlying3) h3
 exact⟨⟨q0,q1,xs,ys,c0,c1⟩,a0,a1,rfl,l0,l1,m0,m1,k0,k1,wfI w0,wfI w1,i2,i3⟩
end
theorem add_zero (a:Addr):a.add 0=a:=by simp[Addr.add]
theorem Sz {H:Type} {enc:TypeId×Value->H} {P:Program} {w:World} {base:Nat} {spare:Nat->Bool} {held:Bool} {t:TypeId} {b:Bool} (ht:P.underlying t=some .bool):DataW.Trod enc P w base spare held t (.bool b) (.lit (.bool b)) []:=
 ⟨1,by simp[DataW.trod,Value.cells,ht]⟩
end Go.Fw
namespace Go.Fw
open Go Go.Proofs
def ρ:Go.Shelf.Ren where
 f:=fun n=>if n=129 then 175 else if n=138 then 150 else if n=143 then 151 else if n=145 then 82 else if n=146 then 83 else if n=166 then 78 else if n=169 then 81 else if n=171 then 79 else if n=172 then 152 else if n=195 then 167 else if n=197 then 168 else if n=205 then 192 else if n=217 then 163 else if n=218 then 169 else if n=219 then 148 else if n=220 then 132 else if n=221 then 133 else if n=224 then 165 else if n=225 then 164 else if n=240 then 130 else if n=243 then 131 else if n=244 then 170 else if n=245 then 171 else if n=246 then 147 else if n=247 then 182 else if n=260 then 181 else if n=266 then 179 else if n=267 then 166 else if n=268 then 149 else if n=276 then 146 else if n=279 then 183 else if n=280 then 184 else if n=281 then 185 else if n=282 then 186 else if n=283 then 159 else if n=284 then 160 else if n=285 then 161 else if n=286 then 162 else if n=287 then 190 else if n=314 then 180 else if n=316 then 191 else if n=317 then 174 else if n=318 then 176 else if n=319 then 177 else if n=320 then 178 else if n=321 then 193 else if n=322 then 194 else if n=337 then 188 else if n=338 then 189 else n
 t:=fun n=>if n=31 then 122 else if n=37 then 107 else if n=46 then 170 else if n=51 then 188 else if n=53 then 191 else if n=59 then 120 else if n=70 then 106 else if n=72 then 109 else if n=75 then 111 else if n=76 then 112 else if n=80 then 116 else if n=85 then 213 else if n=105 then 203 else if n=119 then 219 else if n=127 then 163 else if n=138 then 221 else if n=139 then 222 else if n=143 then 233 else if n=145 then 235 else if n=146 then 189 else if n=164 then 181 else if n=167 then 212 else if n=168 then 215 else if n=171 then 196 else if n=173 then 199 else if n=175 then 223 else if n=210 then 227 else if n=212 then 208 else if n=213 then 209 else if n=232 then 229 else if n=233 then 230 else n
 g:=fun n=>if n=1 then 0 else if n=3 then 2 else if n=4 then 3 else if n=15 then 4 else if n=16 then 5 else if n=17 then 1 else if n=18 then 6 else if n=19 then 7 else n
theorem Zs:LaysM.n171 Tryz.prog ρ where
 mixed:=by kernel_rfl
 f129:=by kernel_rfl
 f171:=by kernel_rfl
 f243:=by kernel_rfl
 f246:=by kernel_rfl
 f283:=by kernel_rfl
 f284:=by kernel_rfl
 f285:=by kernel_rfl
 f286:=by kernel_rfl
 f317:=by kernel_rfl
 f318:=by kernel_rfl
 f319:=by kernel_rfl
 f320:=by kernel_rfl
 f337:=by kernel_rfl
 f338:=by kernel_rfl
 t0:=by kernel_rfl
 a0:=fun w=>by kernel_rfl
 z0:=fun w=>by kernel_rfl
 v0:=fun w=>by kernel_rfl
 t2:=by kernel_rfl
 a2:=fun w=>by kernel_rfl
 z2:=fun w=>by kernel_rfl
 v2:=fun w=>by kernel_rfl
 t3:=by kernel_rfl
 a3:=fun w=>by kernel_rfl
 z3:=fun w=>by kernel_rfl
 v3:=fun w=>by kernel_rfl
 t4:=by kernel_rfl
 a4:=fun w=>by kernel_rfl
 z4:=fun w=>by kernel_rfl
 v4:=fun w=>by kernel_rfl
 t5:=by kernel_rfl
 a5:=fun w=>by kernel_rfl
 z5:=fun w=>by kernel_rfl
 v5:=fun w=>by kernel_rfl
 t9:=by kernel_rfl
 a9:=fun w=>by kernel_rfl
 z9:=fun w=>by kernel_rfl
 v9:=fun w=>by kernel_rfl
 t20:=by kernel_rfl
 a20:=fun w=>by kernel_rfl
 z20:=fun w=>by kernel_rfl
 v20:=fun w=>by kernel_rfl
 t37:=by kernel_rfl
 a37:=fun w=>by kernel_rfl
 z37:=fun w=>by kernel_rfl
 v37:=fun w=>by kernel_rfl
 t46:=by kernel_rfl
 a46:=fun w=>by kernel_rfl
 z46:=fun w=>by kernel_rfl
 v46:=fun w=>by kernel_rfl
 t51:=by kernel_rfl
 a51:=fun w=>by kernel_rfl
 z51:=fun w=>by kernel_rfl
 v51:=fun w=>by kernel_rfl
 t53:=by kernel_rfl
 a53:=fun w=>by kernel_rfl
 z53:=fun w=>by kernel_rfl
 v53:=fun w=>by kernel_rfl
 t171:=by kernel_rfl
 a171:=fun w=>by kernel_rfl
 z171:=fun w=>by kernel_rfl
 v171:=fun w=>by kernel_rfl
 t173:=by kernel_rfl
 a173:=fun w=>by kernel_rfl
 z173:=fun w=>by kernel_rfl
 v173:=fun w=>by kernel_rfl
 t212:=by kernel_rfl
 a212:=fun w=>by kernel_rfl
 z212:=fun w=>by kernel_rfl
 v212:=fun w=>by kernel_rfl
 t213:=by kernel_rfl
 a213:=fun w=>by kernel_rfl
 z213:=fun w=>by kernel_rfl
 t232:=by kernel_rfl
 a232:=fun w=>by kernel_rfl
 z232:=fun w=>by kernel_rfl
 v232:=fun w=>by kernel_rfl
 t233:=by kernel_rfl
 a233:=fun w=>by kernel_rfl
 z233:=fun w=>by kernel_rfl
 v233:=fun w=>by kernel_rfl
 g17:=by kernel_rfl
 g18:=by kernel_rfl
 g19:=by kernel_rfl
 i0:=by kernel_rfl
 i2:=by kernel_rfl
 i3:=by kernel_rfl
 i4:=by kernel_rfl
 i5:=by kernel_rfl
 i9:=by kernel_rfl
 i20:=by kernel_rfl
 i37:=by kernel_rfl
 i46:=by kernel_rfl
 i51:=by kernel_rfl
 i53:=by kernel_rfl
 i171:=by kernel_rfl
 i173:=by kernel_rfl
 i212:=by kernel_rfl
 i232:=by kernel_rfl
 i233:=by kernel_rfl
 m17:=by kernel_rfl
 m18:=by kernel_rfl
 m19:=by kernel_rfl
theorem aBT:Lays.n145 Tryz.prog ρ where
 mixed:=by kernel_rfl
 f145:=by kernel_rfl
 f217:=by kernel_rfl
 f219:=by kernel_rfl
 f220:=by kernel_rfl
 f224:=by kernel_rfl
 f225:=by kernel_rfl
 f266:=by kernel_rfl
 f267:=by kernel_rfl
 f314:=by kernel_rfl
 t3:=by kernel_rfl
 a3:=fun w=>by kernel_rfl
 z3:=fun w=>by kernel_rfl
 v3:=fun w=>by kernel_rfl
 t4:=by kernel_rfl
 a4:=fun w=>by kernel_rfl
 z4:=fun w=>by kernel_rfl
 v4:=fun w=>by kernel_rfl
 t5:=by kernel_rfl
 a5:=fun w=>by kernel_rfl
 z5:=fun w=>by kernel_rfl
 v5:=fun w=>by kernel_rfl
 t9:=by kernel_rfl
 a9:=fun w=>by kernel_rfl
 z9:=fun w=>by kernel_rfl
 v9:=fun w=>by kernel_rfl
 t46:=by kernel_rfl
 a46:=fun w=>by kernel_rfl
 z46:=fun w=>by kernel_rfl
 v46:=fun w=>by kernel_rfl
 t51:=by kernel_rfl
 a51:=fun w=>by kernel_rfl
 z51:=fun w=>by kernel_rfl
 v51:=fun w=>by kernel_rfl
 t59:=by kernel_rfl
 a59:=fun w=>by kernel_rfl
 z59:=fun w=>by kernel_rfl
 v59:=fun w=>by kernel_rfl
 t146:=by kernel_rfl
 a146:=fun w=>by kernel_rfl
 z146:=fun w=>by kernel_rfl
 v146:=fun w=>by kernel_rfl
 g1:=by kernel_rfl
theorem Sx:Lays.n146 Tryz.prog ρ where
 mixed:=by kernel_rfl
 f138:=by kernel_rfl
 f143:=by kernel_rfl
 f146:=by kernel_rfl
 f195:=by kernel_rfl
 f197:=by kernel_rfl
 f217:=by kernel_rfl
 f218:=by kernel_rfl
 f219:=by kernel_rfl
 f221:=by kernel_rfl
 f224:=by kernel_rfl
 f225:=by kernel_rfl
 f260:=by kernel_rfl
 f266:=by kernel_rfl
 f267:=by kernel_rfl
 f268:=by kernel_rfl
 f314:=by kernel_rfl
 t0:=by kernel_rfl
 a0:=fun w=>by kernel_rfl
 z0:=fun w=>by kernel_rfl
 v0:=fun w=>by kernel_rfl
 t3:=by kernel_rfl
 a3:=fun w=>by kernel_rfl
 z3:=fun w=>by kernel_rfl
 v3:=fun w=>by kernel_rfl
 t4:=by kernel_rfl
 a4:=fun w=>by kernel_rfl
 z4:=fun w=>by kernel_rfl
 v4:=fun w=>by kernel_rfl
 t5:=by kernel_rfl
 a5:=fun w=>by kernel_rfl
 z5:=fun w=>by kernel_rfl
 v5:=fun w=>by kernel_rfl
 t9:=by kernel_rfl
 a9:=fun w=>by kernel_rfl
 z9:=fun w=>by kernel_rfl
 v9:=fun w=>by kernel_rfl
 t21:=by kernel_rfl
 a21:=fun w=>by kernel_rfl
 z21:=fun w=>by kernel_rfl
 v21:=fun w=>by kernel_rfl
 t31:=by kernel_rfl
 a31:=fun w=>by kernel_rfl
 z31:=fun w=>by kernel_rfl
 v31:=fun w=>by kernel_rfl
 t46:=by kernel_rfl
 a46:=fun w=>by kernel_rfl
 z46:=fun w=>by kernel_rfl
 v46:=fun w=>by kernel_rfl
 t51:=by kernel_rfl
 a51:=fun w=>by kernel_rfl
 z51:=fun w=>by kernel_rfl
 v51:=fun w=>by kernel_rfl
 t105:=by kernel_rfl
 a105:=fun w=>by kernel_rfl
 z105:=fun w=>by kernel_rfl
 v105:=fun w=>by kernel_rfl
 t119:=by kernel_rfl
 a119:=fun w=>by kernel_rfl
 z119:=fun w=>by kernel_rfl
 t138:=by kernel_rfl
 a138:=fun w=>by kernel_rfl
 z138:=fun w=>by kernel_rfl
 v138:=fun w=>by kernel_rfl
 t139:=by kernel_rfl
 a139:=fun w=>by kernel_rfl
 z139:=fun w=>by kernel_rfl
 v139:=fun w=>by kernel_rfl
 t146:=by kernel_rfl
 a146:=fun w=>by kernel_rfl
 z146:=fun w=>by kernel_rfl
 v146:=fun w=>by kernel_rfl
 g1:=by kernel_rfl
 g3:=by kernel_rfl
 g4:=by kernel_rfl
theorem Bl:LaysC.n172 Tryz.prog ρ where
 mixed:=by kernel_rfl
 f129:=by kernel_rfl
 f171:=by kernel_rfl
 f172:=by kernel_rfl
 f205:=by kernel_rfl
 f243:=by kernel_rfl
 f244:=by kernel_rfl
 f245:=by kernel_rfl
 f246:=by kernel_rfl
 f247:=by kernel_rfl
 f279:=by kernel_rfl
 f280:=by kernel_rfl
 f281:=by kernel_rfl
 f282:=by kernel_rfl
 f283:=by kernel_rfl
 f284:=by kernel_rfl
 f285:=by kernel_rfl
 f286:=by kernel_rfl
 f287:=by kernel_rfl
 f316:=by kernel_rfl
 f317:=by kernel_rfl
 f318:=by kernel_rfl
 f319:=by kernel_rfl
 f320:=by kernel_rfl
 f321:=by kernel_rfl
 f322:=by kernel_rfl
 f337:=by kernel_rfl
 f338:=by kernel_rfl
 t0:=by kernel_rfl
 a0:=fun w=>by kernel_rfl
 z0:=fun w=>by kernel_rfl
 v0:=fun w=>by kernel_rfl
 t2:=by kernel_rfl
 a2:=fun w=>by kernel_rfl
 z2:=fun w=>by kernel_rfl
 v2:=fun w=>by kernel_rfl
 t3:=by kernel_rfl
 a3:=fun w=>by kernel_rfl
 z3:=fun w=>by kernel_rfl
 v3:=fun w=>by kernel_rfl
 t4:=by kernel_rfl
 a4:=fun w=>by kernel_rfl
 z4:=fun w=>by kernel_rfl
 v4:=fun w=>by kernel_rfl
 t5:=by kernel_rfl
 a5:=fun w=>by kernel_rfl
 z5:=fun w=>by kernel_rfl
 v5:=fun w=>by kernel_rfl
 t9:=by kernel_rfl
 a9:=fun w=>by kernel_rfl
 z9:=fun w=>by kernel_rfl
 v9:=fun w=>by kernel_rfl
 t20:=by kernel_rfl
 a20:=fun w=>by kernel_rfl
 z20:=fun w=>by kernel_rfl
 v20:=fun w=>by kernel_rfl
 t21:=by kernel_rfl
 a21:=fun w=>by kernel_rfl
 z21:=fun w=>by kernel_rfl
 v21:=fun w=>by kernel_rfl
 t37:=by kernel_rfl
 a37:=fun w=>by kernel_rfl
 z37:=fun w=>by kernel_rfl
 v37:=fun w=>by kernel_rfl
 t46:=by kernel_rfl
 a46:=fun w=>by kernel_rfl
 z46:=fun w=>by kernel_rfl
 v46:=fun w=>by kernel_rfl
 t51:=by kernel_rfl
 a51:=fun w=>by kernel_rfl
 z51:=fun w=>by kernel_rfl
 v51:=fun w=>by kernel_rfl
 t53:=by kernel_rfl
 a53:=fun w=>by kernel_rfl
 z53:=fun w=>by kernel_rfl
 v53:=fun w=>by kernel_rfl
 t75:=by kernel_rfl
 a75:=fun w=>by kernel_rfl
 z75:=fun w=>by kernel_rfl
 v75:=fun w=>by kernel_rfl
 t76:=by kernel_rfl
 a76:=fun w=>by kernel_rfl
 z76:=fun w=>by kernel_rfl
 v76:=fun w=>by kernel_rfl
 t85:=by kernel_rfl
 a85:=fun w=>by kernel_rfl
 z85:=fun w=>by kernel_rfl
 v85:=fun w=>by kernel_rfl
 t127:=by kernel_rfl
 a127:=fun w=>by kernel_rfl
 z127:=fun w=>by kernel_rfl
 v127:=fun w=>by kernel_rfl
 t143:=by kernel_rfl
 a143:=fun w=>by kernel_rfl
 z143:=fun w=>by kernel_rfl
 v143:=fun w=>by kernel_rfl
 t145:=by kernel_rfl
 a145:=fun w=>by kernel_rfl
 z145:=fun w=>by kernel_rfl
 v145:=fun w=>by kernel_rfl
 t167:=by kernel_rfl
 a167:=fun w=>by kernel_rfl
 z167:=fun w=>by kernel_rfl
 v167:=fun w=>by kernel_rfl
 t168:=by kernel_rfl
 a168:=fun w=>by kernel_rfl
 z168:=fun w=>by kernel_rfl
 v168:=fun w=>by kernel_rfl
 t171:=by kernel_rfl
 a171:=fun w=>by kernel_rfl
 z171:=fun w=>by kernel_rfl
 v171:=fun w=>by kernel_rfl
 t173:=by kernel_rfl
 a173:=fun w=>by kernel_rfl
 z173:=fun w=>by kernel_rfl
 v173:=fun w=>by kernel_rfl
 t175:=by kernel_rfl
 a175:=fun w=>by kernel_rfl
 z175:=fun w=>by kernel_rfl
 v175:=fun w=>by kernel_rfl
 t210:=by kernel_rfl
 a210:=fun w=>by kernel_rfl
 z210:=fun w=>by kernel_rfl
 v210:=fun w=>by kernel_rfl
 t212:=by kernel_rfl
 a212:=fun w=>by kernel_rfl
 z212:=fun w=>by kernel_rfl
 v212:=fun w=>by kernel_rfl
 t213:=by kernel_rfl
 a213:=fun w=>by kernel_rfl
 z213:=fun w=>by kernel_rfl
 t232:=by kernel_rfl
 a232:=fun w=>by kernel_rfl
 z232:=fun w=>by kernel_rfl
 v232:=fun w=>by kernel_rfl
 t233:=by kernel_rfl
 a233:=fun w=>by kernel_rfl
 z233:=fun w=>by kernel_rfl
 v233:=fun w=>by kernel_rfl
 g15:=by kernel_rfl
 g16:=by kernel_rfl
 g17:=by kernel_rfl
 g18:=by kernel_rfl
 g19:=by kernel_rfl
 t80:=by kernel_rfl
 a80:=fun w=>by kernel_rfl
 z80:=fun w=>by kernel_rfl
 v80:=fun w=>by kernel_rfl
 i0:=by kernel_rfl
 i2:=by kernel_rfl
 i3:=by kernel_rfl
 i4:=by kernel_rfl
 i5:=by kernel_rfl
 i9:=by kernel_rfl
 i20:=by kernel_rfl
 i21:=by kernel_rfl
 i37:=by kernel_rfl
 i46:=by kernel_rfl
 i51:=by kernel_rfl
 i53:=by kernel_rfl
 i75:=by kernel_rfl
 i76:=by kernel_rfl
 i80:=by kernel_rfl
 i85:=by kernel_rfl
 i127:=by kernel_rfl
 i143:=by kernel_rfl
 i145:=by kernel_rfl
 i167:=by kernel_rfl
 i168:=by kernel_rfl
 i171:=by kernel_rfl
 i173:=by kernel_rfl
 i175:=by kernel_rfl
 i210:=by kernel_rfl
 i212:=by kernel_rfl
 i232:=by kernel_rfl
 i233:=by kernel_rfl
 m15:=by kernel_rfl
 m16:=by kernel_rfl
 m17:=by kernel_rfl
 m18:=by kernel_rfl
 m19:=by kernel_rfl
 c0:=by kernel_rfl
 c2:=by kernel_rfl
 c3:=by kernel_rfl
 c4:=by kernel_rfl
 c5:=by kernel_rfl
 c9:=by kernel_rfl
 c20:=by kernel_rfl
 c21:=by kernel_rfl
 c37:=by kernel_rfl
 c46:=by kernel_rfl
 c51:=by kernel_rfl
 c53:=by kernel_rfl
 c75:=by kernel_rfl
 c76:=by kernel_rfl
 c80:=by kernel_rfl
 c85:=by kernel_rfl
 c127:=by kernel_rfl
 c143:=by kernel_rfl
 c145:=by kernel_rfl
 c167:=by kernel_rfl
 c168:=by kernel_rfl
 c171:=by kernel_rfl
 c173:=by kernel_rfl
 c175:=by kernel_rfl
 c210:=by kernel_rfl
 c212:=by kernel_rfl
 c213:=by kernel_rfl
 c232:=by kernel_rfl
 c233:=by kernel_rfl
theorem yA:Lays.n166 Tryz.prog ρ where
 mixed:=by kernel_rfl
 f166:=by kernel_rfl
 f240:=by kernel_rfl
 f276:=by kernel_rfl
 t0:=by kernel_rfl
 a0:=fun w=>by kernel_rfl
 z0:=fun w=>by kernel_rfl
 v0:=fun w=>by kernel_rfl
 t3:=by kernel_rfl
 a3:=fun w=>by kernel_rfl
 z3:=fun w=>by kernel_rfl
 v3:=fun w=>by kernel_rfl
 t4:=by kernel_rfl
 a4:=fun w=>by kernel_rfl
 z4:=fun w=>by kernel_rfl
 v4:=fun w=>by kernel_rfl
 t9:=by kernel_rfl
 a9:=fun w=>by kernel_rfl
 z9:=fun w=>by kernel_rfl
 v9:=fun w=>by kernel_rfl
 t20:=by kernel_rfl
 a20:=fun w=>by kernel_rfl
 z20:=fun w=>by kernel_rfl
 v20:=fun w=>by kernel_rfl
 t37:=by kernel_rfl
 a37:=fun w=>by kernel_rfl
 z37:=fun w=>by kernel_rfl
 v37:=fun w=>by kernel_rfl
 t70:=by kernel_rfl
 a70:=fun w=>by kernel_rfl
 z70:=fun w=>by kernel_rfl
 v70:=fun w=>by kernel_rfl
 t72:=by kernel_rfl
 a72:=fun w=>by kernel_rfl
 z72:=fun w=>by kernel_rfl
 v72:=fun w=>by kernel_rfl
 t75:=by kernel_rfl
 a75:=fun w=>by kernel_rfl
 z75:=fun w=>by kernel_rfl
 v75:=fun w=>by kernel_rfl
 t164:=by kernel_rfl
 a164:=fun w=>by kernel_rfl
 z164:=fun w=>by kernel_rfl
 v164:=fun w=>by kernel_rfl
theorem aAR:Lays.n169 Tryz.prog ρ where
 mixed:=by kernel_rfl
 f169:=by kernel_rfl
 t0:=by kernel_rfl
 a0:=fun w=>by kernel_rfl
 z0:=fun w=>by kernel_rfl
 v0:=fun w=>by kernel_rfl
 t3:=by kernel_rfl
 a3:=fun w=>by kernel_rfl
 z3:=fun w=>by kernel_rfl
 v3:=fun w=>by kernel_rfl
 t9:=by kernel_rfl
 a9:=fun w=>by kernel_rfl
 z9:=fun w=>by kernel_rfl
 v9:=fun w=>by kernel_rfl
 t37:=by kernel_rfl
 a37:=fun w=>by kernel_rfl
 z37:=fun w=>by kernel_rfl
 v37:=fun w=>by kernel_rfl
 t70:=by kernel_rfl
 a70:=fun w=>by kernel_rfl
 z70:=fun w=>by kernel_rfl
 v70:=fun w=>by kernel_rfl
 t72:=by kernel_rfl
 a72:=fun w=>by kernel_rfl
 z72:=fun w=>by kernel_rfl
 v72:=fun w=>by kernel_rfl
 t127:=by kernel_rfl
 a127:=fun w=>by kernel_rfl
 z127:=fun w=>by kernel_rfl
 v127:=fun w=>by kernel_rfl
theorem aBW:Builder.Extra Tryz.prog ρ where
 sizeBuilder:=by kernel_rfl
 liesBuilder:=by kernel_rfl
 t5:=by kernel_rfl
 a5:=fun w=>by kernel_rfl
 z5:=fun w=>by kernel_rfl
 v5:=fun w=>by kernel_rfl
 infoByte:=by kernel_rfl
 cellsByte:=by kernel_rfl
 sizeByte:=by kernel_rfl
 neB5:=by decide
structure Glo where
 x0:Obj
 x1:Obj
 x4:Obj
 x5:Obj
abbrev aF (g:Glo):SO:= .gen fun _ fp w=>(fp 1/\fp 4/\fp 5)/\w.heap[0]?=some g.x0/\w.heap[1]?=some g.x1/\w.heap[4]?=some g.x4/\w.heap[5]?=some g.x5
def aB8 (x:Obj):Prop:=match x with
 | .cells cs _ _=>cs=(Lib.pow10Tab.map fun z=>Value.int .u64 z).toArray
 |_=>False
def aDZ (x:Obj):Prop:= ∃ev cs t f,x= .cells cs t f/\cs[0]?=some ev/\(ev= .nilIface\/ ∃te pe,ev= .iface te pe)
structure gJ (g:Glo):Prop where
 max: ∃m cs t f,g.x0= .cells cs t f/\cs[0]?=some (Value.int .i64 m)
 tab:aB8 g.x1
 e4:aDZ g.x4
 e5:aDZ g.x5
theorem Hx:Tryz.prog.globalNamed "internal/strconv.uint64pow10" =some 1:=by kernel_rfl
theorem aCx {x:Obj} (hx:aB8 x) {w:World} (h:w.heap[1]?=some x):Lib.TabIs Tryz.prog w "internal/strconv.uint64pow10" .u64 Lib.pow10Tab:=by
 unfold Lib.TabIs World.var?
 rw[Hx]
 simp only[Option.bind_some,h]
 cases x<;>simp only[aB8]at hx
 subst hx
 rfl
abbrev stC (l:List UInt8):SC:= .v (.string (bs l))
abbrev stV (l:List UInt8):SV:= .c (stC l)
theorem Us (w:World) (n:Nat):Ly w (w.drewN n):=⟨rfl,rfl,rfl,by simp[World.drewN],fun b hb=>by simp[World.drewN]⟩
theorem iY (g:Glo) (hg:gJ g) (n:Int) (h0: -9223372036854775808<=n) (h1:n<=9223372036854775807):
  Ct Tryz.prog 79 [.i n] [] [(0,aF g)] 1 (fun v s=>v=stV (Lib.itoa n)/\s=⟨[],[(0,aF g)],1⟩):=by
 intro β Z fp w hs
 have hobj:=(hs.obj 0 _ rfl).1
 have key:Calls Tryz.prog 79 #[.int .i64 n] w _:=Any.strconv_Itoa Zs n h0 h1 w (aCx hg.tab hobj.2.2.1)
 refine key.mono ?_
 rintro e w' ⟨rfl,k,os,rfl⟩
 have hk:Ly w (Sort.grow (w.drewN k) os):=⟨rfl,rfl,rfl,by simp[Sort.grow,World.drewN],fun b hb=>by simp[Sort.grow,World.drewN,Array.getElem?_append_left hb]⟩
 exact⟨stV (Lib.itoa n),β,Z,fp,⟨[],[(0,aF g)],1⟩,rfl,Nxt.kept hs hk (by simp[stV,SV.lt,SA.lt,SC.lt,Value.oneCell']),rfl,rfl⟩
theorem aDP (g:Glo) (hg:gJ g) (l:List UInt8) (c:UInt8) (hl:l.length<=1000000):
  Ct Tryz.prog 82 [stV l,stV [c]] [] [(0,aF g)] 1 (fun v s=>v= .tup [.c (stC (cR c l).1),.c (stC (cR c l).2.1),.c (.b (cR c l).2.2)]/\s=⟨[],[(0,aF g)],1⟩):=by
 intro β Z fp w hs
 have hobj:=(hs.obj 0 _ rfl).1
 obtain⟨m,cs,t,f,hx,hm⟩:=hg.max
 have hc:w.cell? ⟨0,0,none⟩=some (.int .i64 m):=by
  unfold World.cell?
  rw[hobj.2.1,hx]
  exact hm
 have key:Calls Tryz.prog 82 #[.string (bs l),.string (bs [c])] w _:=Any.strings_Cut aBT (bs l) (bs [c]) m w (by rw[aZ];omega) hc
 refine key.mono ?_
 rintro e w' ⟨rfl,n,rfl⟩
 rw[bE,bE,aC1]
 exact⟨_,β,Z,fp,⟨[],[(0,aF g)],1⟩,rfl,Nxt.kept hs (Us w n) (by simp[stC,SV.lt,SA.lt,SC.lt,Value.oneCell']),rfl,rfl⟩
theorem aR.cons_perm {β:Env} {Z:Nat->Prop} {fp:Nat->Nat->Prop} {hp hp':List (Nat×SO)} {n:Nat} {W:World} (h:aR β Z fp ⟨[],hp,n⟩ W) (hl: ∀id,aE hp' id=aE hp id):aR β Z fp ⟨[],hp',n⟩ W:=
 ⟨h.zlt',fun id o e=>h.flt id o (by rw[<-hl];exact e),fun i j o o' e e'=>h.sep i j o o' (by rw[<-hl];exact e) (by rw[<-hl];exact e'),fun id o e=>h.obj id o (by rw[<-hl];exact e),fun id o e=>h.lto id o (by rw[<-hl];exact e)⟩
theorem aAc (l:List ByteArray):aH .str l=l.map Value.string:=by
 induction l with
 |nil=>rfl
 |cons a l ih=>
  rw[List.map_cons,<-ih]
  rfl
theorem Bo (w:World) (o:Obj) {b:Nat} (hb:b<w.heap.size):(w.alloc o).heap[b]?=w.heap[b]?:=by
 show(w.heap.push o)[b]?=w.heap[b]?
 rw[Array.getElem?_push,if_neg (Nat.ne_of_lt hb)]
theorem Oy (w:World) (o:Obj):(w.alloc o).heap[w.heap.size]?=some o:=by
 show(w.heap.push o)[w.heap.size]?=some o
 simp
theorem Pt (g:Glo) (hg:gJ g) (l:List UInt8) (c:UInt8) (hl:l.length<=1000000):
  Ct Tryz.prog 83 [stV l,stV [c]] [] [(0,aF g)] 1 (fun v s=>v= .c (.sl 1 1 0 (spl c l).length (spl c l).length)/\s=⟨[],[(0,aF g),(1,.arr true 9 .str ((spl c l).map bs) 0)],2⟩):=by
 intro β Z fp w hs
 have hobj:=(hs.obj 0 _ rfl).1
 obtain⟨m,cs,t,f,hx,hm⟩:=hg.max
 have hc:w.cell? ⟨0,0,none⟩=some (.int .i64 m):=by
  unfold World.cell?
  rw[hobj.2.1,hx]
  exact hm
 have key:Calls Tryz.prog 83 #[.string (bs l),.string (bs [c])] w _:=Any.strings_Split Sx (by kernel_rfl) (bs l) (bs [c]) m w (by rw[aZ];omega) hc (by rw[aZ];exact Nat.le_refl _)
 refine key.mono ?_
 rintro e w' ⟨rfl,rfl⟩
 rw[Id]
 have hn:Lib.countB (bs l) (bs [c])+1=(spl c l).length:=by
  have:=Lib.splitB_all (bs [c]) (by rw[aZ];exact Nat.le_refl _) 0 _ (bs l) rfl
  rw[Id,List.length_map]at this
  exact this.symm
 rw[hn,<-aAc]
 have hk:Ly w (w.alloc (.cells (aH .str ((spl c l).map bs)).toArray 9)):=⟨rfl,rfl,rfl,by simp,fun b hb=>Bo w _ hb⟩
 have hs2:=hs.add (o:= .arr true 9 .str ((spl c l).map bs) 0) (x:=some ⟨w.heap.size,0,none⟩) (q:=fun b'=>b'=w.heap.size) (fun b hb=>hk.block b hb) hk.size (fun b hb=>⟨by rw[hb];exact Nat.le_refl _,by rw[hb];simp⟩)
  ⟨rfl,rfl,[],[],by rw[List.nil_append,List.append_nil];exact Oy w _,rfl,Nat.zero_le _⟩ trivial
 have hs3:=hs2.cons_perm (hp':= [(0,aF g),(1,.arr true 9 .str ((spl c l).map bs) 0)]) (fun id=>by
  simp only[aC]
  by_cases e0:0=id
  ·subst e0;simp
  ·by_cases e1:1=id
   ·subst e1;simp
   ·simp[e0,e1,aE])
 exact⟨.c (.sl 1 1 0 (spl c l).length (spl c l).length),β.add 1 (some ⟨w.heap.size,0,none⟩),Z,_,⟨[],[(0,aF g),(1,.arr true 9 .str ((spl c l).map bs) 0)],2⟩,by simp[SV.den,SA.den,SC.den,Env.add_at,Addr.add_lit],
  ⟨Env.add_lt,hk.mono hs.zlt,fun _ h=>h,rfl,Nat.le_succ _,hs3,(show 1<2 by omega)⟩,rfl,rfl⟩
def Ph (l:List UInt8) (n:Int) (e:Value):Prop:=(Lib.atoiAll l= .ok n/\e= .nilIface)\/((∀m,Lib.atoiAll l≠ .ok m)/\ ∃t a,e= .iface t (.pointer a))
theorem Jp {w w':World} (h:Ly w w') {p:Addr} (hp:w.heap.size<=p.block) (n:Nat):Ly w (w'.freeze p n):=by
 have:=Lib.below_freeze (a:=w) (w:=w') (B:=w.heap.size) ⟨h.os,h.tape,h.output,h.size,fun k hk=>h.block k hk⟩ hp n
 exact⟨this.os,this.tape,this.output,this.size,fun b hb=>this.block b hb⟩
theorem aDg (g:Glo) (hg:gJ g) (l:List UInt8) (hl:l.length<=1000000):
  Ct Tryz.prog 152 [stV l] [] [(0,aF g)] 1 (fun v s=> ∃n e,v= .tup [.c (.i n),.c (.v e)]/\Ph l n e/\s=⟨[],[(0,aF g)],1⟩):=by
 intro β Z fp w hs
 have hobj:=(hs.obj 0 _ rfl).1
 obtain⟨e4,c4,t4,f4,hx4,hc4,he4⟩:=hg.e4
 obtain⟨e5,c5,t5,f5,hx5,hc5,he5⟩:=hg.e5
 have h4:w.cell? ⟨4,0,none⟩=some e4:=by
  unfold World.cell?
  rw[hobj.2.2.2.1,hx4]
  exact hc4
 have h5:w.cell? ⟨5,0,none⟩=some e5:=by
  unfold World.cell?
  rw[hobj.2.2.2.2,hx5]
  exact hc5
 have fin: ∀(w':World) (n:Int) (e:Value),Ly w w'->Ph l n e->e.oneCell'=true-> ∃(v:SV) (β':Env) (Z':Nat->Prop) (fp':Nat->Nat->Prop) (s':S),Ending.returned (.tuple #[.int .i64 n,e])= .returned (SV.den β' v)/\Nxt β Z ⟨[],[(0,aF g)],1⟩ w v w' β' Z' fp' ⟨[],s'.hp,s'.nx⟩/\ ∃n e,v= .tup [.c (.i n),.c (.v e)]/\Ph l n e/\s'=⟨[],[(0,aF g)],1⟩:=
  fun w' n e hk hi ho=>⟨.tup [.c (.i n),.c (.v e)],β,Z,fp,⟨[],[(0,aF g)],1⟩,rfl,Nxt.kept hs hk (v:= .tup [.c (.i n),.c (.v e)]) (by simp[SV.lt,SA.lt,SC.lt,ho]),n,e,rfl,hi,rfl⟩
 rcases hr:Lib.atoiAll l with n|_|_
 ·have key:Calls Tryz.prog 152 #[.string (bs l)] w _:=Any.strconv_Atoi_ok Bl (bs l) (by rw[aZ];omega) n (by rw[bE];exact hr) w
  refine key.mono ?_
  rintro e w' ⟨rfl,hw⟩
  refine fin w' n .nilIface ?_ (.inl ⟨hr,rfl⟩) rfl
  rcases hw with rfl|⟨t,rfl⟩
  ·exact Ext.refl _ _
  ·refine Jp ?_ (Nat.le_refl _) 1
   exact⟨rfl,rfl,rfl,by simp,fun b hb=>Bo _ _ hb⟩
 ·have key:Calls Tryz.prog 152 #[.string (bs l)] w _:=Any.strconv_Atoi_syntax Bl (bs l) (by rw[aZ];omega) (by rw[bE];exact hr) e4 w h4 he4
  refine key.mono ?_
  rintro e w' ⟨N,rfl,_,_,hb⟩
  exact fin w' 0 _ ⟨hb.os,hb.tape,hb.output,hb.size,fun b h=>hb.block b h⟩ (.inr ⟨fun m h=>(by rw[hr]at h;cases h),_,_,rfl⟩) rfl
 ·have key:Calls Tryz.prog 152 #[.string (bs l)] w _:=Any.strconv_Atoi_range Bl (bs l) (by rw[aZ];omega) (by rw[bE];exact hr) e5 w h5 he5
  refine key.mono ?_
  rintro e w' ⟨N,rfl,_,_,hb⟩
  exact fin w' _ _ ⟨hb.os,hb.tape,hb.output,hb.size,fun b h=>hb.block b h⟩ (.inr ⟨fun m h=>(by rw[hr]at h;cases h),_,_,rfl⟩) rfl
end Go.Fw
namespace Go.Fw
open Go Go.Proofs Go.ChangeShapes Go.WideShapes Go.ChangeAt Go.RowKit Go.Deep Go.Joins
structure Pf (g:Glo) (W:World):Prop where
 x:gJ g
 h0:W.heap[0]?=some g.x0
 h1:W.heap[1]?=some g.x1
 h4:W.heap[4]?=some g.x4
 h5:W.heap[5]?=some g.x5
 s4: ∃u v t f,g.x4= .cells #[.iface u v] t f
 s5: ∃u v t f,g.x5= .cells #[.iface u v] t f
theorem Pf.noint {g:Glo} {W:World} (h:Pf g W) {b o:Nat} (hb:b=1\/b=4\/b=5) {n:Int}:W.cell? ⟨b,o,none⟩≠some (.int .i64 n):=by
 intro hc
 unfold World.cell? at hc
 rcases hb with rfl|rfl|rfl
 ·have ht:=h.x.tab
  have h1:=h.h1
  generalize g.x1=x at*
  cases x<;>simp only[aB8]at ht
  subst ht
  simp[h1]at hc
 ·obtain⟨u,v,t,f,e⟩:=h.s4
  have h1:=h.h4
  rw[e]at h1
  simp[h1]at hc
  cases o with
  |zero=>simp at hc
  |succ o=>simp at hc
 ·obtain⟨u,v,t,f,e⟩:=h.s5
  have h1:=h.h5
  rw[e]at h1
  simp[h1]at hc
  cases o with
  |zero=>simp at hc
  |succ o=>simp at hc
theorem xK.offG {W:World} {oa:Option Addr} {k:EK} {xs:List k.ty} {g:Glo} (h:xK W oa k xs) (hg:Pf g W) (hk: ∀e:k.ty,∃n,(k.cells e)[0]?=some (.int .i64 n)): ∀a,oa=some a->xs≠ []-> ¬(a.block=1\/a.block=4\/a.block=5):=by
 intro a ha hne
 subst ha
 obtain⟨h1,h2,h3⟩:=h hne
 intro h0
 cases xs with
 |nil=>exact hne rfl
 |cons e l=>
  obtain⟨n,hn⟩:=hk e
  have h4:=h3 0 (.int .i64 n) (by
   show(aH k (e::l))[0]?=_
   have:0<(k.cells e).length:=(List.getElem?_eq_some_iff.1 hn).1
   show((e::l).flatMap k.cells)[0]?=_
   rw[List.flatMap_cons,List.getElem?_append_left this]
   exact hn)
  obtain⟨b,o,sp⟩:=a
  simp only at h0 h1
  subst h1
  have e0:(⟨b,o,none⟩:Addr).add 0=⟨b,o,none⟩:=by simp[Addr.add]
  rw[e0]at h4
  exact hg.noint h0 h4
def ZG (W:World) (b:Nat):Prop:=b<W.heap.size/\ ¬(b=1\/b=4\/b=5)
theorem Zi {W:World} {hp:List (Nat×SO)} {n:Nat} (β:Env) {g:Glo} (hg:Pf g W) (h: ∀id o,aE hp id=some o->id<n/\ ∃(E:Nat) (k:EK) (xs:List k.ty),o= .arr false E k xs 0/\xK W (β id) k xs/\ ∀e:k.ty,∃n,(k.cells e)[0]?=some (.int .i64 n)):
  aR β (ZG W) (fun id b=>id=n/\(b=1\/b=4\/b=5)) ⟨[],(n,aF g)::hp,n+1⟩ W:=by
 have k0:=(Array.getElem?_eq_some_iff.1 hg.h0).1
 have k1:=(Array.getElem?_eq_some_iff.1 hg.h1).1
 have k4:=(Array.getElem?_eq_some_iff.1 hg.h4).1
 have k5:=(Array.getElem?_eq_some_iff.1 hg.h5).1
 have hlk: ∀id o,aE ((n,aF g)::hp) id=some o->(id=n/\o=aF g)\/(id≠n/\aE hp id=some o):=by
  intro id o hl
  rw[aC]at hl
  split at hl
  ·rename_i e;cases hl;exact .inl ⟨e.symm,rfl⟩
  ·rename_i e;exact .inr ⟨fun c=>e c.symm,hl⟩
 refine⟨⟨⟨k0,by omega⟩,fun b hb=>hb.1⟩,fun id o hl b hb=>⟨by rcases hb.2 with rfl|rfl|rfl<;>assumption,fun c=>c.2 hb.2⟩,fun id id' _ _ _ _ hne b hb hb'=>hne (hb.1.trans hb'.1.symm),fun id o hl=>?_,fun id o hl=>?_⟩
 ·rcases hlk id o hl with⟨rfl,rfl⟩|⟨hne,hl⟩
  ·refine⟨⟨⟨⟨rfl,.inl rfl⟩,⟨rfl,.inr (.inl rfl)⟩,⟨rfl,.inr (.inr rfl)⟩⟩,hg.h0,hg.h1,hg.h4,hg.h5⟩,fun w' hw' hw0=>⟨⟨⟨rfl,.inl rfl⟩,⟨rfl,.inr (.inl rfl)⟩,⟨rfl,.inr (.inr rfl)⟩⟩,by rw[hw0];exact hg.h0,?_,?_,?_⟩⟩
   ·rw[hw' 1 ⟨rfl,.inl rfl⟩];exact hg.h1
   ·rw[hw' 4 ⟨rfl,.inr (.inl rfl)⟩];exact hg.h4
   ·rw[hw' 5 ⟨rfl,.inr (.inr rfl)⟩];exact hg.h5
  ·obtain⟨_,E,k,xs,rfl,hxl,hk⟩:=h id o hl
   have hoff:=hxl.offG hg hk
   show SO.ok β _ _ W (β id) _
   unfold xK at hxl
   cases hb:β id with
   |none=>rw[hb]at hxl;exact⟨hxl,rfl⟩
   |some a=>
    rw[hb]at hxl
    intro hne
    obtain⟨h1,h2,h3⟩:=hxl hne
    exact⟨h1,⟨h2,hoff a hb hne⟩,h2,h3⟩
 ·rcases hlk id o hl with⟨rfl,rfl⟩|⟨hne,hl⟩
  ·exact⟨Nat.lt_succ_self _,trivial⟩
  ·obtain⟨h1,E,k,xs,rfl,_⟩:=h id o hl
   exact⟨Nat.lt_succ_of_lt h1,trivial⟩
theorem uC (e:EK.int.ty): ∃n,(EK.int.cells e)[0]?=some (.int .i64 n):=⟨e,rfl⟩
theorem Lh (e:EK.arc.ty): ∃n,(EK.arc.cells e)[0]?=some (.int .i64 n):=⟨Arc.f e,rfl⟩
theorem Zx {W:World} {g:Glo} (hg:Pf g W) {hp:List (Nat×SO)} {n:Nat} (β:Env) (hl: ∀id o,aE hp id=some o->id<n/\ ∃(E:Nat) (k:EK) (xs:List k.ty),o= .arr false E k xs 0/\xK W (β id) k xs/\ ∀e:k.ty,∃n,(k.cells e)[0]?=some (.int .i64 n))
  {hp':List (Nat×SO)} (hperm: ∀id,aE hp' id=aE ((n,aF g)::hp) id) {f:Nat} {avs:List SV} {args:Array Value} (ha:(avs.map (SV.den β)++([]:List Value)).toArray=args)
  (hc:Ct Tryz.prog f avs [] hp' (n+1) (fun v s=>v= .b true/\s=⟨[],[(n,aF g)],n+1⟩)):
  Calls Tryz.prog f args W fun e W'=>e= .returned (.bool true)/\Below W.heap.size W W':=by
 have hs:=(Zi (W:=W) β hg hl).cons_perm hperm
 have key:=hc _ _ _ W hs
 rw[ha]at key
 refine key.mono ?_
 rintro e W' ⟨v',β',Z',fp',s',rfl,hn,rfl,rfl⟩
 have ho:=(hn.sat.obj n (aF g) (by simp[aC])).1.2
 refine⟨rfl,hn.ext.os,hn.ext.tape,hn.ext.output,hn.ext.size,fun k hk=>?_⟩
 by_cases e:k=1\/k=4\/k=5
 ·rcases e with rfl|rfl|rfl
  ·rw[ho.2.1,hg.h1]
  ·rw[ho.2.2.1,hg.h4]
  ·rw[ho.2.2.2,hg.h5]
 ·exact hn.ext.block k ⟨hk,e⟩
theorem hid (o:Option Addr):o.map (fun x=>x.add 0)=o:=by cases o<;>simp[add_zero]
end Go.Fw
namespace Go.Proofs.YtemhgpoeccbheaaGreatDoor
open Go Go.Fw Go.ChangeShapes Go.WideShapes Go.ChangeAt Go.RowKit
theorem Tryz.own:ownKnob Go.Proofs.Tryz.prog.godebug=none:=by kernel_rfl
theorem Tryz.laidOut:laidOutB Go.Proofs.Tryz.prog=true:=by kernel_rfl
abbrev zR:List (String×DataW Unit):= [("math/bits.deBruijn32tab",Rows.laid_math_bits_deBruijn32tab),("math/bits.deBruijn64tab",Rows.laid_math_bits_deBruijn64tab),("internal/strconv.uint64pow10",Rows.laid_internal_strconv_uint64pow10),("unicode/utf8.acceptRanges",Rows.laid_unicode_utf8_acceptRanges),("strconv.ErrRange",Rows.laid_strconv_ErrRange),("strconv.ErrSyntax",Rows.laid_strconv_ErrSyntax),("unicode/utf8.first",Rows.laid_unicode_utf8_first)]
theorem Wq:(Rows.laid_internal_strconv_uint64pow10:DataW Unit)=Lib.tabData .u64 Lib.pow10Tab:=by kernel_rfl
theorem Wp:(Go.Proofs.Tryz.prog.globals[1]?).map (·.type)=some 208:=by kernel_rfl
theorem aBR:Go.Proofs.Tryz.prog.globalNamed "strconv.ErrSyntax" =some 4:=by kernel_rfl
theorem aBQ:(Go.Proofs.Tryz.prog.globals[4]?).map (·.type)=some 111:=by kernel_rfl
theorem aBP:Go.Proofs.Tryz.prog.globalNamed "strconv.ErrRange" =some 5:=by kernel_rfl
theorem aBO:(Go.Proofs.Tryz.prog.globals[5]?).map (·.type)=some 111:=by kernel_rfl
theorem uR {W:World} {n:String} {k:Nat} {cs:Array Value} (hg:Go.Proofs.Tryz.prog.globalNamed n=some k) (hv:W.var? Go.Proofs.Tryz.prog n=some cs): ∃t f,W.heap[k]?=some (.cells cs t f):=by
 unfold World.var? at hv
 rw[hg]at hv
 simp only[Option.bind_some]at hv
 split at hv
 ·rename_i c t f hh
  cases hv
  exact⟨t,f,hh⟩
 ·cases hv
theorem aBm {W:World} (h:laidMetH Go.Proofs.Tryz.prog zR W) (hs:W.ShapedOpen Go.Proofs.Tryz.prog): ∃g,Pf g W:=by
 rw[MakeChecks.laidMetH_plain _ _ _ (by kernel_rfl)]at h
 obtain⟨ps,⟨g0,t0,cs0,f0,p0,q0,hg0,ht0,hv0,hd0,⟨g1,t1,cs1,f1,p1,q1,hg1,ht1,hv1,hd1,⟨g2,t2,cs2,f2,p2,q2,hg2,ht2,hv2,hd2,⟨g3,t3,cs3,f3,p3,q3,hg3,ht3,hv3,hd3,⟨g4,t4,cs4,f4,p4,q4,hg4,ht4,hv4,hd4,⟨g5,t5,cs5,f5,p5,q5,hg5,ht5,hv5,hd5,_,_⟩,_⟩,_⟩,_⟩,_⟩,_⟩,_⟩:=h
 obtain rfl:=Option.some.inj (Hx.symm.trans hg2)
 obtain rfl:=Option.some.inj (Wp.symm.trans ht2)
 obtain rfl:=Option.some.inj (aBP.symm.trans hg4)
 obtain rfl:=Option.some.inj (aBO.symm.trans ht4)
 obtain rfl:=Option.some.inj (aBR.symm.trans hg5)
 obtain rfl:=Option.some.inj (aBQ.symm.trans ht5)
 obtain⟨_,u5,v5,k5,_⟩:=iface_of_trod Go.Proofs.Tryz.underlying111 hd4
 obtain⟨_,u4,v4,k4,_⟩:=iface_of_trod Go.Proofs.Tryz.underlying111 hd5
 rw[Wq]at hd2
 have hc:=Lib.cells_of_tab Go.Proofs.Tryz.underlying208 Go.Proofs.Tryz.underlying191 (by kernel_rfl) (by kernel_rfl) hd2
 obtain⟨a1,b1,hh1⟩:=uR hg2 hv2
 obtain⟨a5,b5,hh5⟩:=uR hg4 hv4
 obtain⟨a4,b4,hh4⟩:=uR hg5 hv5
 obtain⟨m,hm⟩:=cell_of_shapedOpen_int (P:=Go.Proofs.Tryz.prog) (g:=0) (t:=3) (zero:= #[.int .i64 0]) hs (of_decide_eq_true (by kernel_rfl)) (by kernel_rfl) rfl (by kernel_rfl) (by kernel_rfl) Go.Proofs.Tryz.underlying3
 have hm2: ∃cs t f,W.heap[0]?=some (.cells cs t f)/\cs[0]?=some (Value.int .i64 m):=by
  unfold World.cell? at hm
  split at hm
  ·rename_i c t f hh
   exact⟨c,t,f,hh,hm⟩
  ·cases hm
 obtain⟨cm,tm,fm,hh0,hm0⟩:=hm2
 have e4:cs5= #[.iface u4 v4]:=by rw[<-Array.toList_inj];exact k4
 have e5:cs4= #[.iface u5 v5]:=by rw[<-Array.toList_inj];exact k5
 subst e4 e5
 refine⟨⟨_,_,_,_⟩,⟨⟨m,cm,tm,fm,rfl,hm0⟩,?_,⟨_,_,_,_,rfl,rfl,.inr ⟨_,_,rfl⟩⟩,⟨_,_,_,_,rfl,rfl,.inr ⟨_,_,rfl⟩⟩⟩,hh0,hh1,hh4,hh5,⟨_,_,_,_,rfl⟩,⟨_,_,_,_,rfl⟩⟩
 show cs2=_
 rw[<-hc]
theorem aAk (os:Os) (args:Array Value):laidMetH Go.Proofs.Tryz.prog zR ((World.laidAll Go.Proofs.Tryz.prog os zR).forCall (fun _ _=>0) ⟨#[],args,[]⟩).memory:=by
 rw[MakeChecks.laidMetH_plain _ _ _ (by kernel_rfl)]
 exact laidMet_laidAll _ (by kernel_rfl) (by kernel_rfl)
end Go.Proofs.YtemhgpoeccbheaaGreatDoor
namespace Go.Fw
open Go Go.Proofs
def aD3:Go.Shelf.Ren where
 f:=fun n=>if n=212 then 140 else if n=263 then 155 else if n=264 then 156 else n
 t:=fun n=>if n=46 then 170 else if n=51 then 188 else if n=53 then 191 else if n=146 then 189 else if n=148 then 192 else n
 g:=fun n=>n
theorem aBp:Lays.n212 Tryz.prog aD3 where
 mixed:=by kernel_rfl
 f212:=by kernel_rfl
 f263:=by kernel_rfl
 f264:=by kernel_rfl
 t46:=by kernel_rfl
 a46:=fun w=>by kernel_rfl
 z46:=fun w=>by kernel_rfl
 v46:=fun w=>by kernel_rfl
 t51:=by kernel_rfl
 a51:=fun w=>by kernel_rfl
 z51:=fun w=>by kernel_rfl
 v51:=fun w=>by kernel_rfl
 t53:=by kernel_rfl
 a53:=fun w=>by kernel_rfl
 z53:=fun w=>by kernel_rfl
 v53:=fun w=>by kernel_rfl
 t146:=by kernel_rfl
 a146:=fun w=>by kernel_rfl
 z146:=fun w=>by kernel_rfl
 v146:=fun w=>by kernel_rfl
 t148:=by kernel_rfl
 a148:=fun w=>by kernel_rfl
 z148:=fun w=>by kernel_rfl
 v148:=fun w=>by kernel_rfl
theorem aDG (x y:Nat) (hx:x<18446744073709551616) (hy:y<18446744073709551616) (h:x*y<18446744073709551616):Ct Tryz.prog 140 [.c (.u x),.c (.u y)] [] [] 0 (Is 0 (.tup [.c (.u 0),.c (.u (x*y:Nat))])):=by
 intro β Z fp w hs
 have key:Calls Tryz.prog 140 #[.int .u64 x,.int .u64 y] w _:=Any.bits_Mul aBp x y hx hy w
 rw[Nat.div_eq_of_lt h,Nat.mod_eq_of_lt h]at key
 refine key.mono ?_
 rintro e w' ⟨rfl,rfl⟩
 exact⟨.tup [.c (.u 0),.c (.u (x*y:Nat))],β,Z,fp,⟨[],[],0⟩,rfl,Nxt.refl hs (by simp[SV.lt,SA.lt,SC.lt]),rfl,rfl⟩
end Go.Fw
