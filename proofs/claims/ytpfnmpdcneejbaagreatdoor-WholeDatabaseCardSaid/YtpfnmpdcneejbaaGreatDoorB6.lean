/- Texts of the proof, part 6 of 8. -/
import Derived.Test.YtpfnmpdcneejbaaGreatDoorB2
import Derived.Test.YtpfnmpdcneejbaaGreatDoorB5
import Derived.Test.YtpfnmpdcneejbaaGreatDoorB4
import Derived.RangeFuncNested
import Derived.RangeFuncBound
import Derived.RangeFuncCalls
import Derived.RangeFuncLeaves
import Derived.RangeFuncBox
import Derived.Shelf.Abstract
import Derived.Shelf.RegionOpen
import Derived.WalkKit
import Derived.OwnWalkIn
import Derived.TacticsInMore
import Derived.LoopNIn
import Derived.LoopIn
import Derived.Test.YtpfnmpdcneejbaaGreatDoorProg
import Derived.Test.YtpfnmpdcneejbaaGreatDoorB1
import Derived.Test.YtpfnmpdcneejbaaGreatDoorB3
import Derived.Sort.OwnSortedInts
import Derived.Shelf.Slices.In.SortNone
import Derived.Laws.CopyRow
set_option linter.unusedVariables false
set_option linter.unusedSectionVars false
set_option linter.unusedSimpArgs false
open List renaming getElem?_eq_getElem→gE_, length_map→lM_, length_append→lA_, mem_cons_of_mem→mC_, length_cons→lC_, mem_cons_self→mS_, mem_of_getElem?→mG_, getElem?_eq_some_iff→gS_, getD_eq_getElem?_getD→gD_, mem_singleton→mI_, take_of_length_le→tL_
open Option.some renaming inj→sI_
open Bool renaming and_eq_true→bA_
open Array renaming getD_eq_getD_getElem?→aD_, getElem?_eq_getElem→aE_
namespace Go.Proofs.YtpfnmpdcneejbaaGreatDoor.Am
theorem bT3 {n m:Nat}(h:Nat.ble n m=true):n<=m:=Nat.le_of_ble_eq_true h
set_option maxHeartbeats 16000000
set_option maxRecDepth 100000
open Go.RowKit
def Zf8 (a0:List Int)(a1:List Int):Nat->Int->Int->Option (Int)|0,_,_=>none|k9+1,v7,v8=>sel (decide (v8<((a1.map cI).length:Int))) (ix a0 v8 (λy10=>ix a1 v8 (λy11=>Zf8 a0 a1 k9 (IntKind.i64.wrap ((IntKind.i64.wrap (v7*y10))+y11)) (IntKind.i64.wrap (v8+1))))) (some v7)
def Zqf (a0:List Int)(a1:List Int):Option (Int):=Zf8 a0 a1 ((((a1.map cI).length:Int)).toNat+1) 0 0
theorem Zai8 (a0:List Int)(a1:List Int){r1:Int}(h:Zqf a0 a1=some r1):ACall cx 30 [.sl 1 (a0.map cI),.sl 1 (a1.map cI)] (.c (.int .i64 r1)):=by
 refine aOf Tryz.func30 rfl (by decide) rfl (bT3 rfl) ?_;intro _;unfold Zqf at h;refine aSR λ_=>dr (aSR λ_=>dr (aSq (aSR λ_=>dr (aBk ?_))));refine Zaj (α:=Nat×Int×Int) (λx=>mkS 25 [(0,.sl 1 (a0.map cI)),(1,.sl 1 (a1.map cI)),(5,.c (.int .i64 x.2.1)),(8,.c (.int .i64 ((a1.map cI).length:Int))),(9,.c (.int .i64 x.2.2))] []) (λx=>Zf8 a0 a1 x.1 x.2.1 x.2.2=some r1) (λx=>x.1) ((((a1.map cI).length:Int)).toNat+1,0,0) h ?_ ?_
 ·exact Zas
 ·intro x1 h;intro _;obtain⟨k9,m2,h⟩:=Zak (f:=λn=>Zf8 a0 a1 n x1.2.1 x1.2.2) rfl h;replace h:Zf8 a0 a1 (k9+1) x1.2.1 x1.2.2=some r1:=h;rw[Zf8]at h;refine aSR λ_=>dr (aSq (aCd λ_=>?_));refine spl h (λc3 h=>?_) (λc3 h=>?_)
  ·refine aSk (aSq (aBk (aSR λ_=>dr (aRg λ_=>?_))));obtain⟨y10,w4,q5,h⟩:=Za9 h;refine Exists.intro (cI y10) (And.intro (Zad w4) λ_=>?_);obtain⟨y11,w6,q7,h⟩:=Za9 h;refine Exists.intro (cI y11) (And.intro (Zad w6) λ_=>pr (pr (dr (aRg λ_=>dr ⟨(k9,(IntKind.i64.wrap ((IntKind.i64.wrap (x1.2.1*y10))+y11)),(IntKind.i64.wrap (x1.2.2+1))),h,ltS m2,?_⟩))));exact Zas
  ·exact zz9
def Zfw (a0:Zah)(v68:Int)(y88:List Int):Nat->Int->(List GEdge)->Option (List GEdge)|0,_,_=>none|k99+1,v97,v98=>sel (decide (v97<((a0.Ops.map Za0).length:Int))) (ob2 (Zpi a0 y88 v97) (λz100 z101=>sel z101 (ob1 (Zqf a0.Vars z100) (λz102=>grd ((v98.length+1)*24<=140737488355328) (Zfw a0 v68 y88 k99 (IntKind.i64.wrap (v97+1)) (v98++[{ From:=v68,Op:=v97,To:=z102:GEdge }])))) (Zfw a0 v68 y88 k99 (IntKind.i64.wrap (v97+1)) v98))) (some v98)
def Ze6 (a0:Zah)(z1:List (List Int)):Nat->Int->(List GEdge)->Option (List GEdge)|0,_,_=>none|k70+1,v68,v69=>sel (decide (v68<((z1.map Zb4).length:Int))) (ob1 (ix z1 v68 (λy88=>Zfw a0 v68 y88 ((((a0.Ops.map Za0).length:Int)).toNat+1) 0 v69):Option (List GEdge)) (λv86=>Ze6 a0 z1 k70 (IntKind.i64.wrap (v68+1)) v86)) (grd (v69.length<=140737488355328) (some v69))
def Zmh (a0:Zah):Option (List GEdge):=ob1 (Znh a0.Vars) (λz1=>Ze6 a0 z1 ((((z1.map Zb4).length:Int)).toNat+1) 0 [])
theorem Zamy (a0:Zah){r1:List GEdge}(h:Zmh a0=some r1):ACall cx 55 [.agg [.sl 1 (a0.Vars.map cI),.sl 1 (a0.Init.map cI),.sl 2 (a0.Goal.map cF),.sl 4 (a0.Ops.map Za0)]] (.sl 3 (r1.map Zdm)):=by
 refine aOf Tryz.func55 rfl (by decide) rfl (bT3 rfl) ?_;intro _;unfold Zmh at h;refine aSR λ_=>dr (aSR λ_=>dr (aSq (aSR λ_=>?_)));obtain⟨z1,u1,h⟩:=Zae h;refine cl rfl (Zabs a0.Vars u1) λ_=>dr (aBk ?_);refine Zaj (α:=Nat×Int×(List GEdge)) (λx=>mkS 45 [(1,.ptr 1 0 0 0),(3,.own 41 0 0 x.2.2.length),(11,.sl 1 (z1.map Zb4)),(12,.c (.int .i64 ((z1.map Zb4).length:Int))),(13,.c (.int .i64 x.2.1))] [(1,⟨26,4,true,[[.sl 1 (a0.Vars.map cI),.sl 1 (a0.Init.map cI),.sl 2 (a0.Goal.map cF),.sl 4 (a0.Ops.map Za0)]]⟩),(41,⟨118,3,false,x.2.2.map Zdm⟩)]) (λx=>Ze6 a0 z1 x.1 x.2.1 x.2.2=some r1) (λx=>x.1) ((((z1.map Zb4).length:Int)).toNat+1,0,[]) h ?_ ?_
 ·exact Zas
 ·intro x2 h;intro _;obtain⟨k70,m3,h⟩:=Zak (f:=λn=>Ze6 a0 z1 n x2.2.1 x2.2.2) rfl h;replace h:Ze6 a0 z1 (k70+1) x2.2.1 x2.2.2=some r1:=h;rw[Ze6]at h;refine aSR λ_=>dr (aSq (aCd λ_=>?_));refine spl h (λc4 h=>?_) (λc4 h=>?_)
  ·refine aSk ?_;obtain⟨o5,h,hK6⟩:=Zae h;refine Zat (α:=List GEdge) (λv86=>mkS 45 [(1,.ptr 1 0 0 0),(3,.own 41 0 0 v86.length),(11,.sl 1 (z1.map Zb4)),(12,.c (.int .i64 ((z1.map Zb4).length:Int))),(13,.c (.int .i64 x2.2.1))] [(1,⟨26,4,true,[[.sl 1 (a0.Vars.map cI),.sl 1 (a0.Init.map cI),.sl 2 (a0.Goal.map cF),.sl 4 (a0.Ops.map Za0)]]⟩),(41,⟨118,3,false,v86.map Zdm⟩)]) (λv=>o5=v) ?_ ?_
   ·refine aBk (aSR λ_=>?_);obtain⟨y88,w7,q8,h⟩:=Za9 h;refine Exists.intro (Zb4 y88) (And.intro (Zad w7) λ_=>pr (dr (aSR λ_=>dr (aBk ?_))));refine Zaj (α:=Nat×Int×(List GEdge)) (λx=>mkS 45 [(1,.ptr 1 0 0 0),(3,.own 41 0 0 x.2.2.length),(4,.c (.int .i64 x2.2.1)),(5,.sl 1 (y88.map cI)),(11,.sl 1 (z1.map Zb4)),(12,.c (.int .i64 ((z1.map Zb4).length:Int))),(13,.c (.int .i64 x2.2.1)),(20,.c (.int .i64 ((a0.Ops.map Za0).length:Int))),(21,.c (.int .i64 x.2.1))] [(1,⟨26,4,true,[[.sl 1 (a0.Vars.map cI),.sl 1 (a0.Init.map cI),.sl 2 (a0.Goal.map cF),.sl 4 (a0.Ops.map Za0)]]⟩),(41,⟨118,3,false,x.2.2.map Zdm⟩)]) (λx=>Zfw a0 x2.2.1 y88 x.1 x.2.1 x.2.2=some o5) (λx=>x.1) ((((a0.Ops.map Za0).length:Int)).toNat+1,0,x2.2.2) h ?_ ?_
    ·exact Zas
    ·intro x9 h;intro _;obtain⟨k99,m10,h⟩:=Zak (f:=λn=>Zfw a0 x2.2.1 y88 n x9.2.1 x9.2.2) rfl h;replace h:Zfw a0 x2.2.1 y88 (k99+1) x9.2.1 x9.2.2=some o5:=h;rw[Zfw]at h;refine aSR λ_=>dr (aSq (aCd λ_=>?_));refine spl h (λc11 h=>?_) (λc11 h=>?_)
     ·refine aSk (aSq (aBk (aSR λ_=>dr (aSR λ_=>?_))));obtain⟨z100,z101,u12,h⟩:=Zdv h;refine cl rfl (Zamx a0 y88 x9.2.1 u12) λ_=>dr (aSR λ_=>dr (aCd λ_=>?_));refine spl h (λc13 h=>?_) (λc13 h=>?_)
      ·refine aRg λ_=>?_;obtain⟨z102,u14,h⟩:=Zae h;refine cl rfl (Zai8 a0.Vars z100 u14) λ_=>?_;obtain⟨q15,h⟩:=Zaf h;refine pl (pl ?_);refine And.intro (by first|with_reducible assumption|(show(x9.2.2.length+1)*24<=140737488355328;with_reducible assumption)|omega|(simp;omega)) ?_;refine pe (dr (aRg λ_=>dr ⟨(k99,(IntKind.i64.wrap (x9.2.1+1)),(x9.2.2++[{ From:=x2.2.1,Op:=x9.2.1,To:=z102:GEdge }])),h,ltS m10,?_⟩));exact Zas
      ·refine aSk (aRg λ_=>dr ⟨(k99,(IntKind.i64.wrap (x9.2.1+1)),x9.2.2),h,ltS m10,?_⟩);exact Zas
     ·refine aEx ⟨x9.2.2,(sI_ h).symm,?_⟩;exact Zas
   ·rintro v86 ho;have ho:=ho.symm;subst ho;intro _;replace h:=hK6;refine aRg λ_=>dr ⟨(k70,(IntKind.i64.wrap (x2.2.1+1)),v86),h,ltS m3,?_⟩;exact Zas
  ·refine aEx (aSR λ_=>dr (aRt ?_));obtain⟨q16,h⟩:=Zaf h;exact zz4
def Zdq (a0:Zah)(z1:List (List Int)):Nat->Int->(List Int)->Option (List Int)|0,_,_=>none|k33+1,v31,v32=>sel (decide (v31<((z1.map Zb4).length:Int))) (ix z1 v31 (λy34=>ixn v32 ((v31).toNat) (λ_=>grd (v31<((v32.length:Nat):Int)) (ob1 (Zky a0.Goal y34) (λz36=>sel z36 (ixn (v32.set ((v31).toNat) 1125899906842624) ((v31).toNat) (λ_=>Zdq a0 z1 k33 (IntKind.i64.wrap (v31+1)) ((v32.set ((v31).toNat) 1125899906842624).set ((v31).toNat) 0))) (Zdq a0 z1 k33 (IntKind.i64.wrap (v31+1)) (v32.set ((v31).toNat) 1125899906842624))))))) (some v32)
def Zdr (a0:Zah)(z38:List GEdge):Nat->Bool->Int->(List Int)->Option (Bool×(List Int))|0,_,_,_=>none|k315+1,v312,v313,v314=>sel (decide (v313<((z38.map Zdm).length:Int))) (ix z38 v313 (λy316=>ix a0.Ops y316.Op (λy317=>ob1 (some ():Option (Unit)) (λ_=>ob1 (ixn v314 ((y316.To).toNat) (λy324=>sel (decide (y324<1125899906842624)) (ixn v314 ((y316.To).toNat) (λy325=>ixn v314 ((y316.From).toNat) (λy326=>grd (0<=y316.To) (grd (y316.To<((v314.length:Nat):Int)) (grd (0<=y316.From) (grd (y316.From<((v314.length:Nat):Int)) (some (decide ((IntKind.i64.wrap (y325+y317.Cost))<y326))))))))) (grd (0<=y316.To) (grd (y316.To<((v314.length:Nat):Int)) (some false)))):Option (Bool)) (λv322=>sel v322 (ixn v314 ((y316.To).toNat) (λy327=>ixn v314 ((y316.From).toNat) (λ_=>grd (0<=y316.To) (grd (y316.To<((v314.length:Nat):Int)) (grd (0<=y316.From) (grd (y316.From<((v314.length:Nat):Int)) (Zdr a0 z38 k315 true (IntKind.i64.wrap (v313+1)) (v314.set ((y316.From).toNat) (IntKind.i64.wrap (y327+y317.Cost)))))))))) (Zdr a0 z38 k315 v312 (IntKind.i64.wrap (v313+1)) v314)))))) (some (v312,v314))
def Zbe (a0:Zah)(z38:List GEdge):Nat->Bool->(List Int)->Option (List Int)|0,_,_=>none|k233+1,v231,v232=>sel v231 (ob1 (Zdr a0 z38 ((((z38.map Zdm).length:Int)).toNat+1) false 0 v232:Option (Bool×(List Int))) (λ(v280,v281)=>Zbe a0 z38 k233 v280 v281)) (grd (v232.length<=140737488355328) (some v232))
def Zh4 (g:Nat)(a0:Zah)(_:List Int):Option (List Int):=ob1 (Znh a0.Vars) (λz1=>grd (0<=((z1.map Zb4).length:Int)) (grd (((z1.map Zb4).length:Int)*8<=281474976710656) (ob1 (Zdq a0 z1 ((((z1.map Zb4).length:Int)).toNat+1) 0 (List.replicate ((z1.map Zb4).length:Int).toNat 0):Option (List Int)) (λv19=>ob1 (Zmh a0) (λz38=>Zbe a0 z38 g true v19)))))
theorem Zacp (g:Nat)(a0:Zah)(a1:List Int){r1:List Int}(h:Zh4 g a0 a1=some r1):ACall cx 29 [.agg [.sl 1 (a0.Vars.map cI),.sl 1 (a0.Init.map cI),.sl 2 (a0.Goal.map cF),.sl 4 (a0.Ops.map Za0)],.c (.slice none 0 0)] (.sl 1 (r1.map cI)):=by
 refine aOf Tryz.func29 rfl (by decide) rfl (bT3 rfl) ?_;intro _;unfold Zh4 at h;refine aSR λ_=>dr (aSR λ_=>?_);obtain⟨z1,u1,h⟩:=Zae h;refine cl rfl (Zabs a0.Vars u1) λ_=>dr (aSR λ_=>?_);obtain⟨q2,h⟩:=Zaf h;obtain⟨q3,h⟩:=Zaf h;refine⟨_,Zsn rfl rfl (bT3 rfl) (Zbz 22 _ rfl) rfl (Zbz 3 _ rfl) rfl rfl rfl (by first|assumption|omega) (by first|assumption|(show _*(8:Int)<=_;omega)|omega) (by omega) rfl (by simp only[Value.cells];simp[Value.oneCell']) (by decide),?_⟩;intro _;refine dr ?_;obtain⟨o4,h,hK5⟩:=Zae h;refine Zat (α:=List Int) (λv19=>mkS 95 [(1,.c (.slice none 0 0)),(2,.ptr 2 0 0 0),(6,.own 19 0 0 v19.length)] [(2,⟨26,4,true,[[.sl 1 (a0.Vars.map cI),.sl 1 (a0.Init.map cI),.sl 2 (a0.Goal.map cF),.sl 4 (a0.Ops.map Za0)]]⟩),(19,⟨3,1,false,v19.map cI⟩)]) (λv=>o4=v) ?_ ?_
 ·refine aSR λ_=>dr (aBk ?_);refine Zaj (α:=Nat×Int×(List Int)) (λx=>mkS 95 [(1,.c (.slice none 0 0)),(2,.ptr 2 0 0 0),(6,.own 19 0 0 x.2.2.length),(20,.sl 1 (z1.map Zb4)),(21,.c (.int .i64 ((z1.map Zb4).length:Int))),(22,.c (.int .i64 x.2.1))] [(2,⟨26,4,true,[[.sl 1 (a0.Vars.map cI),.sl 1 (a0.Init.map cI),.sl 2 (a0.Goal.map cF),.sl 4 (a0.Ops.map Za0)]]⟩),(19,⟨3,1,false,x.2.2.map cI⟩)]) (λx=>Zdq a0 z1 x.1 x.2.1 x.2.2=some o4) (λx=>x.1) ((((z1.map Zb4).length:Int)).toNat+1,0,(List.replicate ((z1.map Zb4).length:Int).toNat 0)) h ?_ ?_
  ·exact Zas
  ·intro x6 h;intro _;obtain⟨k33,m7,h⟩:=Zak (f:=λn=>Zdq a0 z1 n x6.2.1 x6.2.2) rfl h;replace h:Zdq a0 z1 (k33+1) x6.2.1 x6.2.2=some o4:=h;rw[Zdq]at h;refine aSR λ_=>dr (aSq (aCd λ_=>?_));refine spl h (λc8 h=>?_) (λc8 h=>?_)
   ·refine aSk (aSq (aBk (aSR λ_=>?_)));obtain⟨y34,w9,q10,h⟩:=Za9 h;refine Exists.intro (Zb4 y34) (And.intro (Zad w9) λ_=>pr (dr (aSR λ_=>?_)));obtain⟨y35,w11,h⟩:=Zcm h;refine Exists.intro (cI y35) (And.intro (by first|exact Zad w11|(have w:=Zad (f:=cI) w11;simpa [cI,Value.cells] using w)) ?_);intro _;obtain⟨q12,h⟩:=Zaf h;refine pr (pr (dr (aSR λ_=>?_)));obtain⟨z36,u13,h⟩:=Zae h;refine cl rfl (Zy3 a0.Goal y34 u13) λ_=>dr (aCd λ_=>?_);refine spl h (λc14 h=>?_) (λc14 h=>?_)
    ·refine aRg λ_=>?_;obtain⟨y37,w15,h⟩:=Zcm h;refine Exists.intro (cI y37) (And.intro (by first|exact Zad w15|(have w:=Zad (f:=cI) w15;simpa [cI,Value.cells] using w)) ?_);intro _;refine pr (pr (dr (aRg λ_=>dr ⟨(k33,(IntKind.i64.wrap (x6.2.1+1)),((x6.2.2.set ((x6.2.1).toNat) 1125899906842624).set ((x6.2.1).toNat) 0)),h,ltS m7,?_⟩)));exact Zas
    ·refine aSk (aRg λ_=>dr ⟨(k33,(IntKind.i64.wrap (x6.2.1+1)),(x6.2.2.set ((x6.2.1).toNat) 1125899906842624)),h,ltS m7,?_⟩);exact Zas
   ·refine aEx ⟨x6.2.2,(sI_ h).symm,?_⟩;exact Zas
 ·rintro v19 ho;have ho:=ho.symm;subst ho;intro _;replace h:=hK5;refine aSR λ_=>?_;obtain⟨z38,u16,h⟩:=Zae h;refine cl rfl (Zamy a0 u16) λ_=>dr (aSq (aSR λ_=>dr (aBk ?_)));refine Zaj (α:=Nat×Bool×(List Int)) (λx=>mkS 95 [(1,.c (.slice none 0 0)),(2,.ptr 2 0 0 0),(6,.own 19 0 0 x.2.2.length),(9,.sl 3 (z38.map Zdm)),(10,.c (.bool x.2.1))] [(2,⟨26,4,true,[[.sl 1 (a0.Vars.map cI),.sl 1 (a0.Init.map cI),.sl 2 (a0.Goal.map cF),.sl 4 (a0.Ops.map Za0)]]⟩),(19,⟨3,1,false,x.2.2.map cI⟩)]) (λx=>Zbe a0 z38 x.1 x.2.1 x.2.2=some r1) (λx=>x.1) (g,true,v19) h ?_ ?_
  ·exact Zas
  ·intro x17 h;intro _;obtain⟨k233,m18,h⟩:=Zak (f:=λn=>Zbe a0 z38 n x17.2.1 x17.2.2) rfl h;replace h:Zbe a0 z38 (k233+1) x17.2.1 x17.2.2=some r1:=h;rw[Zbe]at h;refine aSq (aSR λ_=>dr (aCd λ_=>?_));refine spl h (λc19 h=>?_) (λc19 h=>?_)
   ·refine aSk (aBk (aSR λ_=>dr (aSR λ_=>dr ?_)));obtain⟨o20,h,hK21⟩:=Zae h;refine Zac5 (α:=Bool×(List Int)) (λ(v280,v281)=>mkS 95 [(1,.c (.slice none 0 0)),(2,.ptr 2 0 0 0),(6,.own 19 0 0 v281.length),(9,.sl 3 (z38.map Zdm)),(10,.c (.bool v280))] [(2,⟨26,4,true,[[.sl 1 (a0.Vars.map cI),.sl 1 (a0.Init.map cI),.sl 2 (a0.Goal.map cF),.sl 4 (a0.Ops.map Za0)]]⟩),(19,⟨3,1,false,v281.map cI⟩)]) (λv=>o20=v) ?_ ?_
    ·refine aBk ?_;refine Zaj (α:=Nat×Bool×Int×(List Int)) (λx=>mkS 95 [(1,.c (.slice none 0 0)),(2,.ptr 2 0 0 0),(6,.own 19 0 0 x.2.2.2.length),(9,.sl 3 (z38.map Zdm)),(10,.c (.bool x.2.1)),(41,.sl 3 (z38.map Zdm)),(42,.c (.int .i64 ((z38.map Zdm).length:Int))),(43,.c (.int .i64 x.2.2.1))] [(2,⟨26,4,true,[[.sl 1 (a0.Vars.map cI),.sl 1 (a0.Init.map cI),.sl 2 (a0.Goal.map cF),.sl 4 (a0.Ops.map Za0)]]⟩),(19,⟨3,1,false,x.2.2.2.map cI⟩)]) (λx=>Zdr a0 z38 x.1 x.2.1 x.2.2.1 x.2.2.2=some o20) (λx=>x.1) ((((z38.map Zdm).length:Int)).toNat+1,false,0,x17.2.2) h ?_ ?_
     ·exact Zas
     ·intro x22 h;intro _;obtain⟨k315,m23,h⟩:=Zak (f:=λn=>Zdr a0 z38 n x22.2.1 x22.2.2.1 x22.2.2.2) rfl h;replace h:Zdr a0 z38 (k315+1) x22.2.1 x22.2.2.1 x22.2.2.2=some o20:=h;rw[Zdr]at h;refine aSR λ_=>dr (aSq (aCd λ_=>?_));refine spl h (λc24 h=>?_) (λc24 h=>?_)
      ·refine aSk (aSq (aBk (aSR λ_=>?_)));obtain⟨y316,w25,q26,h⟩:=Za9 h;refine Exists.intro (Zdm y316) (And.intro (Zad w25) λ_=>pr (dr (aSR λ_=>?_)));obtain⟨y317,w27,q28,h⟩:=Za9 h;refine Exists.intro (Za0 y317) (And.intro (Zad w27) λ_=>pr (dr ?_));obtain⟨o29,h,hK30⟩:=Zae h;refine Zat (α:=Unit) (λ_=>mkS 95 [(1,.c (.slice none 0 0)),(2,.ptr 2 0 0 0),(6,.own 19 0 0 x22.2.2.2.length),(9,.sl 3 (z38.map Zdm)),(10,.c (.bool x22.2.1)),(12,.ptr 12 0 0 0),(13,.c (.int .i64 y317.Cost)),(41,.sl 3 (z38.map Zdm)),(42,.c (.int .i64 ((z38.map Zdm).length:Int))),(43,.c (.int .i64 x22.2.2.1))] [(2,⟨26,4,true,[[.sl 1 (a0.Vars.map cI),.sl 1 (a0.Init.map cI),.sl 2 (a0.Goal.map cF),.sl 4 (a0.Ops.map Za0)]]⟩),(12,⟨118,3,true,[[.c (.int .i64 y316.From),.c (.int .i64 y316.Op),.c (.int .i64 y316.To)]]⟩),(19,⟨3,1,false,x22.2.2.2.map cI⟩)]) (λv=>o29=v) ?_ ?_
       ·refine aSR λ_=>⟨_,Zaoo rfl (bT3 rfl) rfl rfl (Zbz 22 _ rfl) rfl,λ_=>dr (aCd λ_=>Znf ?_)⟩;exact zz10
       ·rintro _ ho;have ho:=ho.symm;subst ho;intro _;replace h:=hK30;obtain⟨o31,h,hK32⟩:=Zae h;refine Zat (α:=Bool) (λv322=>mkS 95 [(1,.c (.slice none 0 0)),(2,.ptr 2 0 0 0),(6,.own 19 0 0 x22.2.2.2.length),(9,.sl 3 (z38.map Zdm)),(10,.c (.bool x22.2.1)),(12,.ptr 12 0 0 0),(13,.c (.int .i64 y317.Cost)),(41,.sl 3 (z38.map Zdm)),(42,.c (.int .i64 ((z38.map Zdm).length:Int))),(43,.c (.int .i64 x22.2.2.1)),(81,.c (.bool v322))] [(2,⟨26,4,true,[[.sl 1 (a0.Vars.map cI),.sl 1 (a0.Init.map cI),.sl 2 (a0.Goal.map cF),.sl 4 (a0.Ops.map Za0)]]⟩),(12,⟨118,3,true,[[.c (.int .i64 y316.From),.c (.int .i64 y316.Op),.c (.int .i64 y316.To)]]⟩),(19,⟨3,1,false,x22.2.2.2.map cI⟩)]) (λv=>o31=v) ?_ ?_
        ·refine aRg λ_=>?_;obtain⟨y324,w33,h⟩:=Zcm h;refine Exists.intro (cI y324) (And.intro (by first|exact Zad w33|(have w:=Zad (f:=cI) w33;simpa [cI,Value.cells] using w)) ?_);intro _;refine spl h (λc34 h=>?_) (λc34 h=>?_)
         ·intro _;obtain⟨y325,w35,h⟩:=Zcm h;refine Exists.intro (cI y325) (And.intro (by first|exact Zad w35|(have w:=Zad (f:=cI) w35;simpa [cI,Value.cells] using w)) ?_);intro _;obtain⟨y326,w36,h⟩:=Zcm h;refine Exists.intro (cI y326) (And.intro (by first|exact Zad w36|(have w:=Zad (f:=cI) w36;simpa [cI,Value.cells] using w)) ?_);intro _;obtain⟨q37,h⟩:=Zaf h;obtain⟨q38,h⟩:=Zaf h;obtain⟨q39,h⟩:=Zaf h;obtain⟨q40,h⟩:=Zaf h;refine pr (pr (pr (pr (pr (pr (dr ⟨(decide ((IntKind.i64.wrap (y325+y317.Cost))<y326)),(sI_ h).symm,?_⟩))))));exact Zas
         ·intro _;obtain⟨q41,h⟩:=Zaf h;obtain⟨q42,h⟩:=Zaf h;refine pr (pr (dr ?_));exact zz15
        ·rintro v322 ho;have ho:=ho.symm;subst ho;intro _;replace h:=hK32;refine aCd λ_=>?_;refine spl h (λc43 h=>?_) (λc43 h=>?_)
         ·refine aSR λ_=>?_;obtain⟨y327,w44,h⟩:=Zcm h;refine Exists.intro (cI y327) (And.intro (by first|exact Zad w44|(have w:=Zad (f:=cI) w44;simpa [cI,Value.cells] using w)) ?_);intro _;obtain⟨y328,w45,h⟩:=Zcm h;refine Exists.intro (cI y328) (And.intro (by first|exact Zad w45|(have w:=Zad (f:=cI) w45;simpa [cI,Value.cells] using w)) ?_);intro _;obtain⟨q46,h⟩:=Zaf h;obtain⟨q47,h⟩:=Zaf h;obtain⟨q48,h⟩:=Zaf h;obtain⟨q49,h⟩:=Zaf h;refine pr (pr (pr (pr (dr (aRg λ_=>dr (aRg λ_=>dr ⟨(k315,true,(IntKind.i64.wrap (x22.2.2.1+1)),(x22.2.2.2.set ((y316.From).toNat) (IntKind.i64.wrap (y327+y317.Cost)))),h,ltS m23,?_⟩))))));exact Zas
         ·refine aSk (aRg λ_=>dr ⟨(k315,x22.2.1,(IntKind.i64.wrap (x22.2.2.1+1)),x22.2.2.2),h,ltS m23,?_⟩);exact Zas
      ·refine aEx ⟨(x22.2.1,x22.2.2.2),(sI_ h).symm,?_⟩;exact Zas
    ·rintro⟨v280,v281⟩ ho;have ho:=ho.symm;subst ho;intro _;replace h:=hK21;refine⟨(k233,v280,v281),h,ltS m18,?_⟩;exact Zas
   ·refine aEx (aSR λ_=>dr (aRt ?_));obtain⟨q50,h⟩:=Zaf h;exact zz4
def Zk0 (a0:List Int)(_:List Int)(_y11:Int)(v8:Int):((Int))->(((Int))->Option (Int))->Option (Int):=λv7 rc=>ix a0 v8 (λy10=>ixv _y11 (λy11=>rc ((IntKind.i64.wrap ((IntKind.i64.wrap (v7*y10))+y11)))))
def Zqg (_:List Int)(_:List Int):((Int))->Option (Int):=λv7=>some v7
theorem Zaa9 (a0:List Int)(a1:List Int)(v7:Int)(hl:a1.length<9223372036854775807):Zf8 a0 a1 (((a1.map cI).length:Int).toNat+1) v7 0=Rg (Zk0 a0 a1) (Zqg a0 a1) a1 0 v7:=Zxf (L:=λk i v7=>Zf8 a0 a1 k v7 i) hl (λk n p y hy h1 h2=>by first|(simp only[Zf8,Zk0,lM_,Zca h1,sel,Zfv hy,ixv,h2];done)|(simp only[lM_]at h1 hy;(simp only[Zf8,Zk0,lM_,Zca h1,sel,Zfv hy,ixv,h2];done))) (λk p=>by simp only[Zf8,Zqg,lM_,Zfh,sel]) v7
def Zhb (a0:Zah)(v68:Int)(y88:List Int)(v97:Int):((List GEdge))->(((List GEdge))->Option (List GEdge))->Option (List GEdge):=λv98 rc=>ob2 (Zpi a0 y88 v97) (λz100 z101=>sel z101 (ob1 (Zqf a0.Vars z100) (λz102=>grd ((v98.length+1)*24<=140737488355328) (rc ((v98++[{ From:=v68,Op:=v97,To:=z102:GEdge }]))))) (rc (v98)))
def Zkb (_:Zah)(_:Int)(_:List Int):((List GEdge))->Option (List GEdge):=λv98=>some v98
theorem Zrx (a0:Zah)(v68:Int)(y88:List Int)(v98:List GEdge){m:Nat}(hm:((a0.Ops.map Za0).length:Int)=(m:Int))(hl:m<9223372036854775807):Zfw a0 v68 y88 ((((a0.Ops.map Za0).length:Int)).toNat+1) 0 v98=Rn (Zhb a0 v68 y88) (Zkb a0 v68 y88) m 0 v98:=rn_e (L:=λk i v98=>Zfw a0 v68 y88 k i v98) hm hl (λ_ _ _=>rfl) v98
def Zhc (a0:Zah)(_:List (List Int))(_y88:List Int)(v68:Int):((List GEdge))->(((List GEdge))->Option (List GEdge))->Option (List GEdge):=λv69 rc=>ob1 (ixv _y88 (λy88=>Zfw a0 v68 y88 ((((a0.Ops.map Za0).length:Int)).toNat+1) 0 v69):Option (List GEdge)) (λv86=>rc (v86))
def Zif (_:Zah)(_:List (List Int)):((List GEdge))->Option (List GEdge):=λv69=>grd (v69.length<=140737488355328) (some v69)
theorem Zry (a0:Zah)(z1:List (List Int))(v69:List GEdge)(hl:z1.length<9223372036854775807):Ze6 a0 z1 (((z1.map Zb4).length:Int).toNat+1) 0 v69=Rg (Zhc a0 z1) (Zif a0 z1) z1 0 v69:=Zxf (L:=λk i v69=>Ze6 a0 z1 k i v69) hl (λk n p y hy h1 h2=>by first|(simp only[Ze6,Zhc,lM_,Zca h1,sel,Zfv hy,ixv,h2];done)|(simp only[lM_]at h1 hy;(simp only[Ze6,Zhc,lM_,Zca h1,sel,Zfv hy,ixv,h2];done))) (λk p=>by simp only[Ze6,Zif,lM_,Zfh,sel]) v69
def Zgy (a0:Zah)(_:List (List Int))(_y34:List Int)(v31:Int):((List Int))->(((List Int))->Option (List Int))->Option (List Int):=λv32 rc=>ixv _y34 (λy34=>ixn v32 ((v31).toNat) (λ_=>grd (v31<((v32.length:Nat):Int)) (ob1 (Zky a0.Goal y34) (λz36=>sel z36 (ixn (v32.set ((v31).toNat) 1125899906842624) ((v31).toNat) (λ_=>rc (((v32.set ((v31).toNat) 1125899906842624).set ((v31).toNat) 0)))) (rc ((v32.set ((v31).toNat) 1125899906842624)))))))
def Zgz (_:Zah)(_:List (List Int)):((List Int))->Option (List Int):=λv32=>some v32
theorem Znp (a0:Zah)(z1:List (List Int))(v32:List Int)(hl:z1.length<9223372036854775807):Zdq a0 z1 (((z1.map Zb4).length:Int).toNat+1) 0 v32=Rg (Zgy a0 z1) (Zgz a0 z1) z1 0 v32:=Zdy (L:=λk i v32=>Zdq a0 z1 k i v32) hl (λ_ _ _=>rfl) v32
def Zfj (a0:Zah)(_:List GEdge)(_y316:GEdge)(_:Int):((Bool)×(List Int))->(((Bool)×(List Int))->Option (Bool×(List Int)))->Option (Bool×(List Int)):=λ(v312,v314) rc=>ixv _y316 (λy316=>ix a0.Ops y316.Op (λy317=>ob1 (some ():Option (Unit)) (λ_=>ob1 (ixn v314 ((y316.To).toNat) (λy324=>sel (decide (y324<1125899906842624)) (ixn v314 ((y316.To).toNat) (λy325=>ixn v314 ((y316.From).toNat) (λy326=>grd (0<=y316.To) (grd (y316.To<((v314.length:Nat):Int)) (grd (0<=y316.From) (grd (y316.From<((v314.length:Nat):Int)) (some (decide ((IntKind.i64.wrap (y325+y317.Cost))<y326))))))))) (grd (0<=y316.To) (grd (y316.To<((v314.length:Nat):Int)) (some false)))):Option (Bool)) (λv322=>sel v322 (ixn v314 ((y316.To).toNat) (λy327=>ixn v314 ((y316.From).toNat) (λ_=>grd (0<=y316.To) (grd (y316.To<((v314.length:Nat):Int)) (grd (0<=y316.From) (grd (y316.From<((v314.length:Nat):Int)) (rc (true,(v314.set ((y316.From).toNat) (IntKind.i64.wrap (y327+y317.Cost))))))))))) (rc (v312,v314))))))
def Zix (_:Zah)(_:List GEdge):((Bool)×(List Int))->Option (Bool×(List Int)):=λ(v312,v314)=>some (v312,v314)
theorem Zh5 (a0:Zah)(z38:List GEdge)(v312:Bool)(v314:List Int)(hl:z38.length<9223372036854775807):Zdr a0 z38 (((z38.map Zdm).length:Int).toNat+1) v312 0 v314=Rg (Zfj a0 z38) (Zix a0 z38) z38 0 (v312,v314):=Zdy (L:=λk i p=>match p with|(v312,v314)=>Zdr a0 z38 k v312 i v314) hl (λ_ _ ⟨_,_⟩=>rfl) (v312,v314)
end Go.Proofs.YtpfnmpdcneejbaaGreatDoor.Am
namespace Go.Proofs.YtpfnmpdcneejbaaGreatDoor.Am
open Go.RowKit
def Zyn : List Int->List Int->Int->Int
 | k :: r,x :: t,v=>Zyn r t (v*k+x)
 | _,_,v=>v
theorem Zan8 (m:Nat):∀(out:List (List Int))(i x:Nat)(s:List Int),out[i]?=some s->x<m->(out.flatMap λs=>Zz0 s m 0)[i*m+x]?=some (s++[(x:Int)])
 | [],i,x,s,h,_=>by simp at h
 | u :: out,i,x,s,h,hx=>by
  have hext:∀(u:List Int) (m:Nat) (j:Int) (x:Nat),x<m->(Zz0 u m j)[x]?=some (u++[j+(x:Int)]):=by
   intro u m
   induction m with
   | zero=>intro j x hx;omega
   | succ m ih =>
    intro j x hx
    rw[Zz0]
    cases x with
    | zero=>simp
    | succ x=>rw[List.getElem?_cons_succ,ih (j+1) x (by omega)];congr 3;omega
  rw[List.flatMap_cons]
  cases i with
  | zero =>
   simp only[List.getElem?_cons_zero,Option.some.injEq]at h
   subst h
   rw[Nat.zero_mul,Nat.zero_add,List.getElem?_append_left (by rw[Zoi];exact hx),hext u m 0 x hx]
   congr 3;omega
  | succ i =>
   rw[List.getElem?_cons_succ]at h
   rw[List.getElem?_append_right (by rw[Zoi,Nat.add_mul];omega),Zoi,show(i+1)*m+x-m=i*m+x from by rw[Nat.add_mul];omega]
   exact Zan8 m out i x s h hx
theorem Zao7 : ∀(r:List Int)(out:List (List Int))(i:Nat)(s u:List Int),out[i]?=some s->Za6 r u=true->∃k:Nat,Zyn r u i=(k:Int)/\(Zlj r out)[k]?=some (s++u)
 | [],out,i,s,u,h,hu=>by
  cases u with
  | nil=>exact⟨i,rfl,by rw[Zlj,List.append_nil];exact h⟩
  | cons x u=>simp[Za6]at hu
 | k :: r,out,i,s,u,h,hu=>by
  cases u with
  | nil=>simp[Za6]at hu
  | cons x u =>
   rw[Za6,bA_,decide_eq_true_iff]at hu
   obtain⟨m,rfl⟩:∃m:Nat,k=m:=⟨k.toNat,by omega⟩
   obtain⟨y,rfl⟩:∃y:Nat,x=y:=⟨x.toNat,by omega⟩
   have h1:=Zan8 m out i y s h (by omega)
   obtain⟨q,e1,e2⟩:=Zao7 r _ (i*m+y) (s++[(y:Int)]) u h1 hu.2
   refine⟨q,?_,by rw[Zlj,Int.toNat_natCast,e2,List.append_assoc];rfl⟩
   rw[Zyn,<-e1,Int.natCast_add,Int.natCast_mul]
theorem Zarx {t:Zah}{s:List Int}(hs:Za6 t.Vars s=true):∃k:Nat,Zyn t.Vars s 0=(k:Int)/\(Zik t)[k]?=some s:=Zao7 t.Vars [[]] 0 [] s rfl hs
theorem Zagg (vars s:List Int)(B:Int)(hB:B<=1000000):∀(u r:List Int)(n:Nat)(v:Int),s.drop n=u->vars.drop n=r->u.length=r.length->0<=v->Za6 r u=true->(∀k∈r,1<=k/\k<=64)->Zyn r u v<=B ->
  Rg (Zk0 vars s) (Zqg vars s) u n v=some (Zyn r u v)
 | [],r,n,v,hs,hr,hl,hv,hst,_,_=>by
  cases r with
  | nil=>rfl
  | cons k r=>simp at hl
 | x :: u,r,n,v,hs,hr,hl,hv,hst,hk,hb=>by
  cases r with
  | nil=>simp at hl
  | cons k r =>
   obtain⟨hx,hs2,-⟩:=Zc5 hs
   obtain⟨hk1,hr2,-⟩:=Zc5 hr
   rw[Za6,bA_,decide_eq_true_iff]at hst
   obtain⟨k1,k2⟩:=hk k (mS_ ..)
   rw[Zyn]at hb ⊢
   have hmono:∀(r u:List Int) (v:Int),Za6 r u=true->0<=v->(∀k∈r,1<=k/\k<=64)->v<=Zyn r u v:=by
    intro r
    induction r with
    | nil=>intro u v _ _ _;cases u <;> exact Int.le_refl _
    | cons k r ih =>
     intro u v hu hv hk
     cases u with
     | nil=>simp[Za6]at hu
     | cons x u =>
      rw[Za6,bA_,decide_eq_true_iff]at hu
      have hk1:=hk k (mS_ ..)
      have hm:v*1<=v*k:=Int.mul_le_mul_of_nonneg_left hk1.1 hv
      have h2:=ih u (v*k+x) hu.2 (by omega) (λy hy=>hk y (mC_ _ hy))
      rw[Zyn];omega
   have hvk:0<=v*k:=Int.mul_nonneg hv (by omega)
   have hle:=hmono r u (v*k+x) hst.2 (by omega) (λy hy=>hk y (mC_ _ hy))
   have w1:IntKind.i64.wrap (v*k)=v*k:=Zpd (by omega) (by omega)
   have w2:IntKind.i64.wrap (v*k+x)=v*k+x:=Zpd (by omega) (by omega)
   rw[Rg,Zk0,Zfv hk1,ixv,w1,w2]
   exact Zagg vars s B hB u r (n+1) (v*k+x) hs2 hr2 (by simpa using hl) (by omega) hst.2 (λy hy=>hk y (mC_ _ hy)) hb
theorem Zad2 {t:Zah}(hsm:Zjl t=true){s:List Int}(hs:Za6 t.Vars s=true):∃k:Nat,Zqf t.Vars s=some (k:Int)/\(Zik t)[k]?=some s:=by
 obtain⟨k,e1,e2⟩:=Zarx hs
 have hlen:=(Zcs hs).len
 have hv:=(Zfo hsm).2.1
 have hk:k<(Zik t).length:=(gS_.1 e2).1
 have hal:=Zs3 t hsm
 refine⟨k,?_,e2⟩
 rw[Zqf,Zaa9 t.Vars s 0 (by omega)]
 have:=Zagg t.Vars s 1000000 (by decide) s t.Vars 0 0 rfl rfl hlen (by decide) hs (Ztb (Zfo hsm).1).dom (by rw[e1];omega)
 rw[e1]at this
 exact this
theorem Zth : ∀{v s:List Int},s.length=v.length->(∀i:Nat,i<v.length->0<=s.getD i 0/\s.getD i 0<v.getD i 0)->Za6 v s=true
 | [],[],_,_=>rfl
 | [],_ :: _,h,_=>by simp at h
 | _ :: _,[],h,_=>by simp at h
 | k :: r,x :: s,h,hr=>by
  have h0:=hr 0 (by simp)
  simp only[List.getD_cons_zero]at h0
  rw[Za6,bA_,decide_eq_true_iff]
  refine⟨h0,Zth (by simpa using h) (λi hi=>?_)⟩
  have:=hr (i+1) (by simpa using hi)
  simpa using this
theorem Zzp (vars:List Int)(s:List Int):∀(r:List Zaq)(v:List Int),v.length=vars.length->(∀i:Nat,i<vars.length->0<=v.getD i 0/\v.getD i 0<vars.getD i 0)->(∀e∈r,0<=e.Var/\0<=e.Val/\e.Val<vars.getD e.Var.toNat 0)->∀i:Nat,i<vars.length->0<=(Zoh s r v).getD i 0/\(Zoh s r v).getD i 0<vars.getD i 0
 | [],v,_,hv,_,i,hi=>hv i hi
 | e :: r,v,hl,hv,he,i,hi=>by
  have he2:∀e∈r,0<=e.Var/\0<=e.Val/\e.Val<vars.getD e.Var.toNat 0:=λu hu=>he u (mC_ _ hu)
  rw[Zoh]
  split
  ·obtain⟨e0,e1,e2⟩:=he e (mS_ ..)
   refine Zzp vars s r _ (by rw[List.length_set];exact hl) (λj hj=>?_) he2 i hi
   by_cases hej:e.Var.toNat=j
   ·subst hej
    rw[gD_,List.getElem?_set_self (by omega),Option.getD_some]
    exact⟨e1,e2⟩
   ·rw[gD_,List.getElem?_set_ne hej,<-gD_]
    exact hv j hj
  ·exact Zzp vars s r v hl hv he2 i hi
theorem Ztd {t:Zah}(hgood:Ze5 t=true){s:List Int}(hs:Za6 t.Vars s=true){o:GOp}(ho:o∈t.Ops):Za6 t.Vars (Zp8 s o)=true:=by
 have st:=Zcs hs
 refine Zth (by unfold Zp8;rw[Zww];exact st.len) (λi hi=>?_)
 exact Zzp t.Vars s o.Effs s st.len st.rng (λe he=>by obtain⟨h1,-,h3,h4⟩:=Zq0 hgood ho he;exact⟨h1,h3,h4⟩) i hi
structure EdgP (t:Zah)(e:GEdge):Prop where
 ex:∃(a b q:Nat) (s:List Int) (o:GOp),e.From=(a:Int)/\e.To=(b:Int)/\e.Op=(q:Int)/\(Zik t)[a]?=some s/\(Zik t)[b]?=some (Zp8 s o)/\t.Ops[q]?=some o/\Zay s o.Pre=true
theorem Zan2 {t:Zah}(hsm:Zjl t=true)(i:Nat)(s:List Int)(hi:(Zik t)[i]?=some s):∀(l:List GOp)(m j:Nat)(v:List GEdge),t.Ops.drop j=l->l.length=m->v.length+m<=100000->(∀e∈v,EdgP t e) ->
  ∃v',Rn (Zhb t i s) (Zkb t i s) m j v=some v'/\v'.length<=v.length+m/\∀e∈v',EdgP t e
 | [],m,j,v,_,hm,_,hv=>by subst hm;exact⟨v,rfl,Nat.le_refl _,hv⟩
 | o :: os,m,j,v,hdr,hm,hlen,hv=>by
  have hgood:=(Zfo hsm).1
  obtain⟨hj,hd',hlt⟩:=Zc5 hdr
  obtain⟨m,rfl⟩:∃k,m=k+1:=⟨os.length,hm.symm⟩
  have hst:=(Zs4 t s).1 (mG_ hi)
  have hm':os.length=m:=by simpa using hm
  rw[Rn,Zhb,Zajf t hgood s (Zcs hst) j o hj]
  by_cases hp:Zay s o.Pre=true
  ·obtain⟨k,e1,e2⟩:=Zad2 hsm (Ztd hgood hst (mG_ hj))
   rw[if_pos hp,Zc6,Zby,e1,Zac,Zan (by omega)]
   obtain⟨v',h1,h2,h3⟩:=Zan2 hsm i s hi os m (j+1) (v++[{ From:=(i:Int),Op:=(j:Int),To:=(k:Int) }]) hd' hm' (by simp;omega) (λe he=>by
    rcases List.mem_append.1 he with he|he
    ·exact hv e he
    ·rw[mI_.1 he];exact⟨⟨i,k,j,s,o,rfl,rfl,rfl,hi,e2,hj,hp⟩⟩)
   exact⟨v',h1,by simp at h2;omega,h3⟩
  ·rw[if_neg hp,Zc6,Zbb]
   obtain⟨v',h1,h2,h3⟩:=Zan2 hsm i s hi os m (j+1) v hd' hm' (by omega) hv
   exact⟨v',h1,by omega,h3⟩
theorem Zast {t:Zah}(hsm:Zjl t=true):∀(r:List (List Int))(i:Nat)(v:List GEdge),(Zik t).drop i=r->v.length+r.length*20<=100000->(∀e∈v,EdgP t e) ->
  ∃v',Rg (Zhc t (Zik t)) (Zif t (Zik t)) r i v=some v'/\v'.length<=100000/\∀e∈v',EdgP t e
 | [],i,v,_,hl,hv=>⟨v,by rw[Rg,Zif,Zan (by simp at hl;omega)],by simpa using hl,hv⟩
 | s :: r,i,v,hdr,hl,hv=>by
  obtain⟨hi,hd',hlt⟩:=Zc5 hdr
  have hops:=(Zfo hsm).2.2
  rw[lC_]at hl
  rw[Rg,Zhc,ixv,Zrx t i s v (m:=t.Ops.length) (by rw[lM_]) (by omega)]
  obtain⟨v1,h1,h2,h3⟩:=Zan2 hsm i s hi t.Ops t.Ops.length 0 v rfl rfl (by omega) hv
  have h1':Rn (Zhb t i s) (Zkb t i s) t.Ops.length 0 v=some v1:=h1
  rw[h1',Zac]
  exact Zast hsm r (i+1) v1 hd' (by omega) h3
theorem Zajr {t:Zah}(hsm:Zjl t=true):∃es,Zmh t=some es/\es.length<=100000/\∀e∈es,EdgP t e:=by
 have hal:=Zs3 t hsm
 obtain⟨es,h1,h2,h3⟩:=Zast hsm (Zik t) 0 [] rfl (by simp;omega) (λe he=>by cases he)
 refine⟨es,?_,h2,h3⟩
 rw[Zmh,Zv3 t hsm,Zac,Zry t (Zik t) [] (by omega)]
 exact h1
abbrev Zka : Int:=1125899906842624
theorem Zaec (x:Int):∀(l:List Int)(n:Nat),n<l.length->(l.set n x).take (n+1)=l.take n++[x]
 | [],n,h=>by simp at h
 | y :: l,0,_=>by simp
 | y :: l,n+1,h=>by
  rw[List.set_cons_succ,List.take_succ_cons,Zaec x l n (by simpa using h),List.take_succ_cons,List.cons_append]
theorem Zaiv (x:Int):∀(l:List Int)(n:Nat)(y:Int),l[n]?=some y->(l.set n x).sum=l.sum-y+x
 | [],n,y,h=>by simp at h
 | z :: l,0,y,h=>by
  simp only[List.getElem?_cons_zero,Option.some.injEq]at h
  subst h
  rw[List.set_cons_zero,List.sum_cons,List.sum_cons];omega
 | z :: l,n+1,y,h=>by
  rw[List.getElem?_cons_succ]at h
  rw[List.set_cons_succ,List.sum_cons,List.sum_cons,Zaiv x l n y h];omega
theorem Zaiu : ∀(l:List Int),(∀x∈l,0<=x)->0<=l.sum
 | [],_=>by simp
 | x :: l,h=>by
  have h0:=h x (mS_ ..)
  have:=Zaiu l (λy hy=>h y (mC_ _ hy))
  rw[List.sum_cons];omega
theorem Zap0 (B:Int):∀(l:List Int),(∀x∈l,x<=B)->l.sum<=B*l.length
 | [],_=>by simp
 | x :: l,h=>by
  have h0:=h x (mS_ ..)
  have:=Zap0 B l (λy hy=>h y (mC_ _ hy))
  rw[List.sum_cons,lC_,Int.natCast_add,Int.mul_add];omega
structure DInv (t:Zah)(Q:List Int->Int->Prop)(d:List Int):Prop where
 len:d.length=(Zik t).length
 ok:∀(i:Nat) (s:List Int) (x:Int),(Zik t)[i]?=some s->d[i]?=some x->0<=x/\x<=Zka/\(x≠Zka->Q s x)
theorem DInv.all {t:Zah}{Q:List Int->Int->Prop}{d:List Int}(h:DInv t Q d):∀x∈d,0<=x/\x<=Zka:=λx hx=>by
 obtain⟨i,hi⟩:=List.getElem?_of_mem hx
 have hlt:=(gS_.1 hi).1
 have hs:(Zik t)[i]?=some ((Zik t)[i]'(by rw[<-h.len];exact hlt)):=gE_ _
 obtain⟨h1,h2,-⟩:=h.ok i _ x hs hi
 exact⟨h1,h2⟩
structure DQ (t:Zah)(Q:List Int->Int->Prop):Prop where
 goal:∀s∈Zik t,Zay s t.Goal=true->Q s 0
 step:∀s∈Zik t,∀o∈t.Ops,Zay s o.Pre=true->∀x:Int,0<=x->Q (Zp8 s o) x->Q s (x+o.Cost)
theorem dis1 {t:Zah}(hgood:Ze5 t=true):∀(r:List (List Int))(n:Nat)(v:List Int),(Zik t).drop n=r->v.length=(Zik t).length ->
  Rg (Zgy t (Zik t)) (Zgz t (Zik t)) r n v=some (v.take n++r.map λs=>if Zay s t.Goal=true then 0 else Zka)
 | [],n,v,hd,hl=>by
  have hn:=congrArg List.length hd
  simp only[List.length_drop,List.length_nil]at hn
  rw[Rg,Zgz,List.map_nil,List.append_nil,tL_ (by omega)]
 | s :: r,n,v,hd,hl=>by
  obtain⟨hs,hd',hlt⟩:=Zc5 hd
  have hv:v[n]?=some (v[n]'(by omega)):=gE_ _
  have hv2:(v.set n 1125899906842624)[n]?=some 1125899906842624:=List.getElem?_set_self (by omega)
  rw[Rg,Zgy,ixv,Int.toNat_natCast,Zdp hv,Zan (by omega),Zadq t.Goal s (Zjj (Ztb hgood).len (Zvt hgood)),Zac,List.map_cons]
  have hcast:((n:Int)+1)=((n+1:Nat):Int):=rfl
  by_cases hh:Zay s t.Goal=true
  ·rw[hh,Zby,Zdp hv2,List.set_set,hcast,dis1 hgood r (n+1) _ hd' (by rw[List.length_set];exact hl),Zaec 0 v n (by omega),if_pos rfl,List.append_assoc];rfl
  ·rw[Bool.eq_false_iff.2 hh,Zbb,hcast,dis1 hgood r (n+1) _ hd' (by rw[List.length_set];exact hl),Zaec _ v n (by omega),if_neg (by decide),List.append_assoc];rfl
theorem dis2 {t:Zah}(hgood:Ze5 t=true){Q:List Int->Int->Prop}(hQ:DQ t Q)(es:List GEdge):∀(r:List GEdge)(i:Int)(b:Bool)(d:List Int),(∀e∈r,EdgP t e)->DInv t Q d ->
  ∃b' d',Rg (Zfj t es) (Zix t es) r i (b,d)=some (b',d')/\DInv t Q d'/\((b'=b/\d'=d)\/(b'=true/\d'.sum<d.sum))
 | [],i,b,d,_,hd=>⟨b,d,rfl,hd,.inl ⟨rfl,rfl⟩⟩
 | e :: r,i,b,d,he,hd=>by
  have her:∀e∈r,EdgP t e:=λu hu=>he u (mC_ _ hu)
  obtain⟨a,bb,q,s,o,e1,e2,e3,h1,h2,h3,h4⟩:=(he e (mS_ ..)).ex
  obtain⟨F,O,T⟩:=e
  simp only at e1 e2 e3
  subst e1 e2 e3
  have ho:=mG_ h3
  have hcost:=Zn5 hgood ho
  have hla:a<d.length:=by rw[hd.len];exact(gS_.1 h1).1
  have hlb:bb<d.length:=by rw[hd.len];exact(gS_.1 h2).1
  obtain⟨x,hx⟩:∃x,d[bb]?=some x:=⟨_,gE_ hlb⟩
  obtain⟨y,hy⟩:∃y,d[a]?=some y:=⟨_,gE_ hla⟩
  obtain⟨x0,x1,xq⟩:=hd.ok bb _ x h2 hx
  obtain⟨y0,y1,yq⟩:=hd.ok a s y h1 hy
  unfold Zka at x1 y1 xq
  have hw:IntKind.i64.wrap (x+o.Cost)=x+o.Cost:=Zpd (by omega) (by omega)
  rw[Rg,Zfj]
  simp only[ixv,Zfv h3,Zac,Int.toNat_natCast,Zdp hx,Zdp hy,Zar]
  by_cases hlt:x<1125899906842624
  ·rw[if_pos hlt,Zan (by omega),Zan (by omega),Zan (by omega),Zan (by omega),Zac,hw]
   by_cases hr:x+o.Cost<y
   ·rw[decide_eq_true hr,Zby,Zan (by omega),Zan (by omega),Zan (by omega),Zan (by omega)]
    have hd1:DInv t Q (d.set a (x+o.Cost)):=by
     refine⟨by rw[List.length_set];exact hd.len,λi s' z hs' hz=>?_⟩
     by_cases hai:a=i
     ·subst hai
      rw[List.getElem?_set_self hla]at hz
      injection hz with hz
      rw[h1]at hs'
      injection hs' with hs'
      subst hz hs'
      exact⟨by omega,by unfold Zka;omega,λ_=>hQ.step s (mG_ h1) o ho h4 x x0 (xq (by omega))⟩
     ·rw[List.getElem?_set_ne hai]at hz
      exact hd.ok i s' z hs' hz
    obtain⟨b',d',g1,g2,g3⟩:=dis2 hgood hQ es r (i+1) true _ her hd1
    have hsum:=Zaiv (x+o.Cost) d a y hy
    refine⟨b',d',g1,g2,.inr ?_⟩
    rcases g3 with⟨g3,g4⟩|⟨g3,g4⟩
    ·exact⟨g3,by rw[g4,hsum];omega⟩
    ·exact⟨g3,by rw[hsum]at g4;omega⟩
   ·rw[decide_eq_false hr,Zbb]
    exact dis2 hgood hQ es r (i+1) b d her hd
  ·rw[if_neg hlt,Zan (by omega),Zan (by omega),Zac,Zbb]
   exact dis2 hgood hQ es r (i+1) b d her hd
theorem dis3 {t:Zah}(hgood:Ze5 t=true){Q:List Int->Int->Prop}(hQ:DQ t Q)(es:List GEdge)(hes:∀e∈es,EdgP t e)(hlen:es.length<=100000)(hal:(Zik t).length<=512):∀(S k:Nat)(d:List Int),DInv t Q d->d.sum<=S->S+2<=k->∃d',Zbe t es k true d=some d'/\DInv t Q d':=by
 intro S
 induction S with
 | zero =>
  intro k d hd hs hk
  obtain⟨k,rfl⟩:∃j,k=j+2:=⟨k-2,by omega⟩
  obtain⟨b',d',g1,g2,g3⟩:=dis2 hgood hQ es es 0 false d hes hd
  have hpos:=Zaiu d' (λx hx=>(g2.all x hx).1)
  rcases g3 with⟨rfl,rfl⟩|⟨-,g4⟩
  ·refine⟨d',?_,g2⟩
   have hl:=g2.len
   rw[Zbe,Zby,Zh5 t es false d' (by omega),g1,Zac]
   simp only
   rw[Zbe,Zbb,Zan (by omega)]
  ·omega
 | succ S ih =>
  intro k d hd hs hk
  obtain⟨k,rfl⟩:∃j,k=j+2:=⟨k-2,by omega⟩
  obtain⟨b',d',g1,g2,g3⟩:=dis2 hgood hQ es es 0 false d hes hd
  rw[Zbe,Zby,Zh5 t es false d (by omega),g1,Zac]
  simp only
  rcases g3 with⟨rfl,rfl⟩|⟨rfl,g4⟩
  ·have hl:=g2.len
   exact⟨d',by rw[Zbe,Zbb,Zan (by omega)],g2⟩
  ·exact ih (k+1) d' g2 (by omega) (by omega)
theorem Zav3 {t:Zah}(hsm:Zjl t=true){Q:List Int->Int->Prop}(hQ:DQ t Q)(g:Nat)(hg:1000000000000000000<=g)(u:List Int):∃d,Zh4 g t u=some d/\DInv t Q d:=by
 have hgood:=(Zfo hsm).1
 have hal:=Zs3 t hsm
 obtain⟨es,h1,h2,h3⟩:=Zajr hsm
 have hd0:DInv t Q ((Zik t).map λs=>if Zay s t.Goal=true then 0 else Zka):=by
  refine⟨lM_ _,λi s x hs hx=>?_⟩
  rw[List.getElem?_map,hs]at hx
  simp only[Option.map_some,Option.some.injEq]at hx
  subst hx
  by_cases hh:Zay s t.Goal=true
  ·rw[if_pos hh];exact⟨by decide,by decide,λ_=>hQ.goal s (mG_ hs) hh⟩
  ·rw[if_neg hh];exact⟨by decide,by decide,λh=>absurd rfl h⟩
 have hsum:=Zap0 Zka _ (λx hx=>(hd0.all x hx).2)
 rw[hd0.len]at hsum
 have hle:Zka*((Zik t).length:Int)<=Zka*512:=Int.mul_le_mul_of_nonneg_left (by omega) (by decide)
 have hs2:((Zik t).map λs=>if Zay s t.Goal=true then 0 else Zka).sum<=(576460752303423488:Nat):=Int.le_trans hsum (Int.le_trans hle (by decide))
 obtain⟨d,e1,e2⟩:=dis3 hgood hQ es h3 h2 hal 576460752303423488 g _ hd0 hs2 (by omega)
 refine⟨d,?_,e2⟩
 have hrep:(List.replicate ((((Zik t).map Zb4).length:Int)).toNat (0:Int)).length=(Zik t).length:=by rw[List.length_replicate,lM_,Int.toNat_natCast]
 have hd1:=dis1 hgood (Zik t) 0 (List.replicate ((((Zik t).map Zb4).length:Int)).toNat 0) rfl hrep
 have hd1':Rg (Zgy t (Zik t)) (Zgz t (Zik t)) (Zik t) 0 (List.replicate ((((Zik t).map Zb4).length:Int)).toNat 0)=_:=hd1
 have hlm:((Zik t).map Zb4).length=(Zik t).length:=lM_ _
 rw[Zh4,Zv3 t hsm,Zac,Zan (by omega),Zan (by omega),Znp t (Zik t) _ (by omega),hd1',List.take_zero,List.nil_append,Zac,h1,Zac]
 exact e1
def Zahl (es:List Zaq):Nat:=(es.filter λe=>decide (0<e.When.length)).length
theorem Zaq0 (es:List Zaq):Zahl es<=es.length:=List.length_filter_le _ _
theorem Zalq (e:Zaq)(es:List Zaq):Zahl (e :: es)=(if 0<e.When.length then 1 else 0)+Zahl es:=by
 unfold Zahl
 rw[List.filter_cons]
 by_cases h:0<e.When.length
 ·rw[if_pos (decide_eq_true h),if_pos h,lC_];omega
 ·rw[if_neg (by simpa using h),if_neg h];omega
def twoF (es:List Zaq):Bool:=es.all λe=>decide (e.When.length<=2)
theorem Zavh (o:GOp):∀(r:List Zaq)(i:Int)(v:Nat),v+r.length<=1000000->Rg (Zm9 o) (Zqh o) r i v=some (if twoF r=true then .inl ((v+Zahl r:Nat):Int)else .inr false)
 | [],i,v,_=>rfl
 | e :: r,i,v,h=>by
  rw[lC_]at h
  rw[Rg,Zm9,ixv,Zar,Zar,lM_,twoF,List.all_cons,Zalq]
  by_cases h1:e.When.length>2
  ·rw[if_pos (by omega),decide_eq_false (by omega),Bool.false_and,if_neg (by decide)]
  ·rw[if_neg (by omega),decide_eq_true (p:=e.When.length<=2) (by omega),Bool.true_and]
   by_cases h2:0<e.When.length
   ·rw[if_pos (by omega),if_pos h2,Zpd (by omega) (by omega),show((v:Int)+1)=((v+1:Nat):Int)from rfl,Zavh o r _ (v+1) (by omega),Nat.add_assoc];rfl
   ·rw[if_neg (by omega),if_neg h2,Zavh o r _ v (by omega),Nat.zero_add];rfl
def Zasd (o:GOp):Bool:=twoF o.Effs&&decide (Zahl o.Effs<=3)
def Zai0 (t:Zah):Bool:=Zjl t&&(t.Vars.all (λn=>decide (2<=n/\n<=4))&&t.Ops.all Zasd)
theorem Zavi (t:Zah)(ht:ShT t):Zuv t=some (Zai0 t):=by
 rw[Zuv,Zar4 t ht,Zac,Zai0]
 cases hs:Zjl t with
 | false=>rfl
 | true =>
  obtain⟨hgood,hv,ho⟩:=Zfo hs
  have e1:=Zaba t (by omega)
  have e3:=Zabc t (by omega)
  rw[Bool.not_true,Zbb,e1,Zh1 (p:=λn:Int=>decide (2<=n/\n<=4)) (c:=some (.inr false))]
  ·cases t.Vars.all λn=>decide (2<=n/\n<=4)with
   | false=>rfl
   | true =>
    rw[if_pos rfl,Zux,Zac,Zbv,e3,Zh1 (p:=Zasd) (c:=some false),Zqi]
    ·cases t.Ops.all Zasd <;> rfl
    ·intro o hom i rc
     have hl:=(Zq1 hgood hom).effs
     have e2:=Zabb o 0 (show o.Effs.length<_ by omega)
     have e2':Rg (Zm9 o) (Zqh o) o.Effs 0 0=_:=Zavh o o.Effs 0 0 (by omega)
     have hc:=Zaq0 o.Effs
     rw[Zna,ixv,e2,e2',Nat.zero_add,Zac,Zasd]
     cases twoF o.Effs with
     | false=>rfl
     | true =>
      rw[if_pos rfl,Zbv,Zar,Bool.true_and]
      by_cases h3:Zahl o.Effs<=3
      ·rw[if_neg (by omega),if_pos (decide_eq_true h3)];rfl
      ·rw[if_pos (by omega),if_neg (by simpa using h3)];rfl
  ·intro n _ i rc
   rw[Zuw,ixv,Zar,Zar]
   by_cases h1:n<2
   ·rw[if_pos h1,if_neg (by rw[decide_eq_true_iff];omega)]
   ·rw[if_neg h1]
    by_cases h2:n>4
    ·rw[if_pos h2,if_neg (by rw[decide_eq_true_iff];omega)]
    ·rw[if_neg h2,if_pos (by rw[decide_eq_true_iff];omega)]
theorem Zack {t:Zah}(h:Zai0 t=true):Zjl t=true:=by
 unfold Zai0 at h
 rw[bA_]at h
 exact h.1
def Zb6 : List Int->Nat
 | []=>1
 | k :: r=>k.toNat*Zb6 r
theorem Zaan : ∀{l:List Int},(∀k∈l,1<=k/\k<=64)->0<Zb6 l
 | [],_=>Nat.one_pos
 | k :: r,h=>by
  have:=h k (mS_ ..)
  exact Nat.mul_pos (by omega) (Zaan λx hx=>h x (mC_ _ hx))
theorem Ztc (L:Nat):∀(r:List Int)(n:Nat),(∀k∈r,1<=k/\k<=64)->1<=n->n<=L+1->Zuk L r n=if n*Zb6 r<=L then((n*Zb6 r:Nat):Int)else(L:Int)+1
 | [],n,_,h1,h2=>by
  rw[Zuk,Zb6,Nat.mul_one]
  split <;> omega
 | k :: r,n,hk,h1,h2=>by
  obtain⟨k1,k2⟩:=hk k (mS_ ..)
  have hp:=Zaan λx hx=>hk x (mC_ _ hx)
  obtain⟨q,rfl⟩:∃q:Nat,k=q:=⟨k.toNat,by omega⟩
  rw[Zuk,Zb6,Int.toNat_natCast]
  by_cases hb:n*q<=L
  ·have hq:q<=L:=Nat.le_trans (Nat.le_mul_of_pos_left q (by omega)) hb
   rw[show min (max (q:Int) 0) ((L:Int)+1)=(q:Int)from by omega,<-Int.natCast_mul,if_neg (by omega),Ztc L r (n*q) (λx hx=>hk x (mC_ _ hx)) (Nat.mul_pos (by omega) (by omega)) (by omega),Nat.mul_assoc]
  ·have h3:¬ n*(q*Zb6 r)<=L:=λh=>hb (Nat.le_trans (by rw[<-Nat.mul_assoc];exact Nat.le_mul_of_pos_right _ hp) h)
   rw[if_neg h3]
   have h4:(n:Int)*min (max (q:Int) 0) ((L:Int)+1)>L:=by
    by_cases h5:(q:Int)<=(L:Int)+1
    ·rw[show min (max (q:Int) 0) ((L:Int)+1)=(q:Int)from by omega,<-Int.natCast_mul];omega
    ·rw[show min (max (q:Int) 0) ((L:Int)+1)=((L+1:Nat):Int)from by omega,<-Int.natCast_mul]
     have:=Nat.le_mul_of_pos_left (L+1) (show 0<n by omega)
     omega
   rw[if_pos h4]
def ptX (i:Int)(p:List Zaa):Nat->Int->List (List Zaa)
 | 0,_=>[]
 | m+1,x=>((i,x) :: p) :: ptX i p m (x+1)
def ptL : Int->List Int->List (List Zaa)
 | _,[]=>[[]]
 | i,n :: r=>ptL (i+1) r++(ptL (i+1) r).flatMap λp=>ptX i p n.toNat 0
def ptN : List Int->Nat
 | []=>1
 | n :: r=>(n.toNat+1)*ptN r
theorem Zao3 (i:Int)(p:List Zaa):∀(m:Nat)(x:Int),(ptX i p m x).length=m
 | 0,_=>rfl
 | m+1,x=>by rw[ptX,lC_,Zao3 i p m]
theorem Zao4 (i:Int)(p:List Zaa):∀(m:Nat)(x y:Int),x<=y->y<x+m->(i,y) :: p∈ptX i p m x
 | 0,x,y,h1,h2=>by omega
 | m+1,x,y,h1,h2=>by
  rw[ptX,List.mem_cons]
  by_cases h:y=x
  ·exact .inl (by rw[h])
  ·exact .inr (Zao4 i p m (x+1) y (by omega) (by omega))
theorem Zao1 : ∀(r:List Int)(i:Int),(ptL i r).length=ptN r
 | [],_=>rfl
 | n :: r,i=>by
  have h:∀l:List (List Zaa),(l.flatMap λp=>ptX i p n.toNat 0).length=l.length*n.toNat:=by
   intro l
   induction l with
   | nil=>simp
   | cons p l ih=>rw[List.flatMap_cons,lA_,Zao3,ih,lC_,Nat.succ_mul];omega
  rw[ptL,lA_,h,Zao1 r,ptN,Nat.succ_mul,Nat.mul_comm n.toNat]
  omega
theorem Zaru {vars:List Int}{last i:Int}{y:Zaa}{q:List Zaa}(h:Zbi vars last (y :: q)=true)(hi:i<y.1):Zbi vars i (y :: q)=true:=by
 rw[Zbi,bA_,decide_eq_true_iff]at h ⊢
 exact⟨⟨hi,h.1.2⟩,h.2⟩
theorem Zao2 {vars:List Int}:∀(r:List Int)(i:Nat),vars.drop i=r->∀(p:List Zaa)(last:Int),(i:Int)-1<=last->Zbi vars last p=true->p∈ptL i r
 | [],i,hd,[],last,h1,h2=>by rw[ptL];exact mI_.2 rfl
 | [],i,hd,y :: q,last,h1,h2=>by
  rw[Zbi,bA_,decide_eq_true_iff]at h2
  have:vars.length<=i:=by rw[<-List.drop_eq_nil_iff];exact hd
  omega
 | n :: r,i,hd,p,last,h1,h2=>by
  obtain⟨hn,hd',hlt⟩:=Zc5 hd
  have ih:=Zao2 r (i+1) hd'
  rw[show((i+1:Nat):Int)=(i:Int)+1 from rfl]at ih
  rw[ptL,List.mem_append]
  cases p with
  | nil=>exact .inl (ih [] (i:Int) (by omega) rfl)
  | cons y q =>
   have h3:=h2
   rw[Zbi,bA_,decide_eq_true_iff]at h3
   by_cases hy:y.1=i
   ·refine .inr (List.mem_flatMap.2 ⟨q,ih q y.1 (by omega) h3.2,?_⟩)
    have hg:vars.getD y.1.toNat 0=n:=by rw[hy,Int.toNat_natCast,gD_,hn];rfl
    have:=Zao4 i q n.toNat 0 y.2 h3.1.2.2.1 (by have:=h3.1.2.2.2;rw[hg]at this;omega)
    rw[<-hy]at this ⊢
    exact this
   ·exact .inl (ih (y :: q) (i:Int) (by omega) (Zaru h2 (by omega)))
theorem Zas5 : ∀{r:List Int},(∀k∈r,2<=k)->2 ^ r.length*ptN r<=3 ^ r.length*Zb6 r/\2 ^ r.length<=Zb6 r
 | [],_=>⟨Nat.le_refl _,Nat.le_refl _⟩
 | k :: r,h=>by
  obtain⟨h1,h2⟩:=Zas5 (r:=r) λx hx=>h x (mC_ _ hx)
  have hk:=h k (mS_ ..)
  obtain⟨q,rfl⟩:∃q:Nat,k=q:=⟨k.toNat,by omega⟩
  rw[lC_,ptN,Zb6,Int.toNat_natCast,Nat.pow_succ,Nat.pow_succ]
  have h3:2*(q+1)<=3*q:=by omega
  constructor
  ·calc 2 ^ r.length*2*((q+1)*ptN r)=(2*(q+1))*(2 ^ r.length*ptN r):=by ac_rfl
    _<=(3*q)*(3 ^ r.length*Zb6 r):=Nat.mul_le_mul h3 h1
    _=3 ^ r.length*3*(q*Zb6 r):=by ac_rfl
  ·rw[Nat.mul_comm]
   exact Nat.mul_le_mul (by omega) h2
theorem Zarv {v:List Int}(h2:∀k∈v,2<=k)(hp:Zb6 v<=81):ptN v<=1024:=by
 obtain⟨h1,h3⟩:=Zas5 h2
 have hk:v.length<7:=by
  refine Nat.lt_of_not_le λh=>?_
  have:=Nat.pow_le_pow_right (show 0<2 by decide) h
  omega
 have h4:2 ^ v.length*ptN v<=3 ^ v.length*81:=Nat.le_trans h1 (Nat.mul_le_mul_left _ hp)
 generalize v.length=k at hk h4
 have:k=0\/k=1\/k=2\/k=3\/k=4\/k=5\/k=6:=by omega
 rcases this with rfl|rfl|rfl|rfl|rfl|rfl|rfl <;> simp only[Nat.reducePow]at h4 <;> omega
theorem Zaf9 {α:Type} [DecidableEq α]:∀(l u:List α),l.Nodup->(∀x∈l,x∈u)->l.length<=u.length
 | [],_,_,_=>Nat.zero_le _
 | x :: l,u,h,hs=>by
  rw[List.nodup_cons]at h
  have:=Zaf9 l (u.erase x) h.2 λy hy=>(List.mem_erase_of_ne (λe=>h.1 (by rw[<-e];exact hy))).2 (hs y (mC_ _ hy))
  have hx:=hs x (mS_ ..)
  have hl:=List.length_erase_of_mem hx
  have hp:=List.length_pos_of_mem hx
  rw[lC_]
  omega
structure Cap (vars:List Int):Prop where
 cap:∀l:List (List Zaa),l.Nodup->Zfu vars l->l.length<=1024
 len:vars.length<=12
 dom:∀n∈vars,n<=64
theorem Zav1 {v:List Int}(h2:∀k∈v,2<=k/\k<=4)(hl:v.length<=12)(hp:Zb6 v<=81):Cap v:=by
 refine⟨λl hn hpr=>?_,hl,λn hn=>by have:=h2 n hn;omega⟩
 have:=Zaf9 l (ptL 0 v) hn λx hx=>Zao2 v 0 (List.drop_zero ..) x (-1) (by omega) (hpr x hx)
 rw[Zao1]at this
 exact Nat.le_trans this (Zarv (λk hk=>(h2 k hk).1) hp)
theorem Zug : ∀(l out:List (List Zaa)),out.Nodup->(l.foldl Zyk out).Nodup
 | [],_,h=>h
 | y :: r,_,h=>Zug r _ (Zabv h y)
section
variable {vars : List Int} (hc : Cap vars)
include hc
theorem capT {l:List (List Zaa)}(hn:l.Nodup)(hp:Zfu vars l):capO l=some l:=if_pos (hc.cap l hn hp)
theorem Zakv {f:Zaa}:∀(es:List Zaq)(l:List (List Zaa)),Zle vars es->Zfu vars l->∃j,Zjk vars f es l=some j/\Zfu vars j
 | [],l,_,h=>⟨l,rfl,h⟩
 | e :: r,l,hw,h=>by
  have hwr:Zle vars r:=λx hx=>hw x (mC_ _ hx)
  rw[Zjk]
  split
  ·exact Zakv r l hwr h
  ·have he:=hw e (mS_ ..)
   have h1:capO (silF vars e.When)=some (silF vars e.When):=if_pos (by
    have:=Zak0 hc.dom e.When
    have:=Ztg he
    have:=hc.len
    omega)
   have hpj:=Zjh h (Zv1 he)
   rw[h1,Option.bind_some,capT hc (Zsl _ _) hpj,Option.bind_some]
   exact Zakv r _ hwr hpj
theorem Zaso {f:Zaa}:∀(es:List Zaq),Zle vars es->∃out,Zjz vars f es=some out/\Zfu vars out/\out.Nodup
 | [],_=>⟨[],rfl,(λx hx=>by cases hx),List.nodup_nil⟩
 | e :: r,hw=>by
  have hwr:Zle vars r:=λx hx=>hw x (mC_ _ hx)
  obtain⟨out,h1,h2,h3⟩:=Zaso (f:=f) r hwr
  rw[Zjz,h1,Option.bind_some]
  split
  ·obtain⟨j,j1,j2⟩:=Zakv hc (f:=f) r [e.When] hwr (λx hx=>by rw[mI_.1 hx];exact hw e (mS_ ..))
   rw[j1,Option.map_some]
   exact⟨_,rfl,λx hx=>by rcases(Zmn x j out).1 hx with h|h;exact h2 x h;exact j2 x h,Zug _ _ h3⟩
  ·exact⟨out,rfl,h2,h3⟩
theorem Zat1 {o:GOp}{f:Zaa}(hw:Zle vars o.Effs)(hf:Zbi vars (-1) [f]=true):∃c,Zn0 vars o f=some c/\Zfu vars c:=by
 have hw2:Zle vars (o.Effs.filter (λe=>e.Var == f.1)):=λe he=>hw e (List.mem_filter.1 he).1
 obtain⟨out,h1,h2,h3⟩:=Zaso hc (f:=f) _ hw2
 obtain⟨j,j1,j2⟩:=Zakv hc (f:=f) _ [[f]] hw2 (λx hx=>by rw[mI_.1 hx];exact hf)
 have hp:Zfu vars (j.foldl Zyk out):=λx hx=>by rcases(Zmn x j out).1 hx with h|h;exact h2 x h;exact j2 x h
 rw[Zn0,Zvl,h1,Option.bind_some,j1,Option.map_some,Option.bind_some,capT hc (Zug _ _ h3) hp]
 exact⟨_,rfl,hp⟩
theorem Zawv {o:GOp}(hw:Zle vars o.Effs):∀(p:List Zaa)(l:List (List Zaa)),(∀f∈p,Zbi vars (-1) [f]=true)->Zfu vars l->∃j,regG vars o p l=some j
 | [],l,_,_=>⟨l,rfl⟩
 | f :: r,l,hp,hl=>by
  obtain⟨c,h1,h2⟩:=Zat1 hc hw (hp f (mS_ ..))
  have hj:=Zjh hl h2
  rw[regG,h1,Option.bind_some,capT hc (Zsl _ _) hj,Option.bind_some]
  exact Zawv hw r _ (λx hx=>hp x (mC_ _ hx)) hj
end
theorem regT {t:Zah}(hc:Cap t.Vars)(hgood:Ze5 t=true){p:List Zaa}(hp:Zbi t.Vars (-1) p=true){o:GOp}(ho:o∈t.Ops):∃l,regO t.Vars o p=some l/\Zfu t.Vars l/\l.length<=1024:=by
 have oo:=Zq1 hgood ho
 obtain⟨j,h1⟩:=Zawv hc oo.when p [o.Pre] (λf hf=>Zsq hp hf) (λx hx=>by rw[mI_.1 hx];exact oo.pre)
 obtain⟨l1,_,l3⟩:=Zyz hgood hp ho h1
 rw[regO,h1,Option.map_some]
 refine⟨_,rfl,λz hz=>l1 z (List.mem_filter.1 ((Zqb z _).1 hz)).1,?_⟩
 rw[Zjy]
 exact Nat.le_trans (List.length_filter_le _ _) l3
def fitF (t:Zah):Bool:=Zai0 t&&(decide (t.Ops.length<=10)&&decide (Zuk 81 t.Vars 1<=81))
structure Fit (t:Zah):Prop where
 good:Ze5 t=true
 cap:Cap t.Vars
 ops:t.Ops.length<=10
 small:Zjl t=true
 prod:Zb6 t.Vars<=81
 dom:∀k∈t.Vars,2<=k/\k<=4
theorem Zav6 {t:Zah}(h:fitF t=true):Fit t:=by
 unfold fitF at h
 rw[bA_,bA_,decide_eq_true_iff,decide_eq_true_iff]at h
 obtain⟨h1,h2,h3⟩:=h
 have hs:=Zack h1
 obtain⟨hg,hv,-⟩:=Zfo hs
 unfold Zai0 at h1
 simp only[bA_,List.all_eq_true,decide_eq_true_iff]at h1
 have hd:=h1.2.1
 have hp:Zb6 t.Vars<=81:=by
  have hm:=Ztc 81 t.Vars 1 (λk hk=>by have:=hd k hk;omega) (by decide) (by decide)
  rw[show((81:Nat):Int)=81 from rfl,show((1:Nat):Int)=1 from rfl,Nat.one_mul]at hm
  rw[hm]at h3
  split at h3 <;> omega
 exact⟨hg,Zav1 hd hv hp,h2,hs,hp,hd⟩
theorem Zasu (u:List Int):∀(m:Nat)(j:Int)(x:Nat)(z:List Int),(Zz0 u m j)[x]?=some z->x<m/\z=u++[j+(x:Int)]
 | 0,j,x,z,h=>by simp[Zz0]at h
 | m+1,j,0,z,h=>by
  simp only[Zz0,List.getElem?_cons_zero,Option.some.injEq]at h
  exact⟨by omega,by rw[<-h];simp⟩
 | m+1,j,x+1,z,h=>by
  rw[Zz0,List.getElem?_cons_succ]at h
  obtain⟨h1,h2⟩:=Zasu u m (j+1) x z h
  refine⟨by omega,?_⟩
  rw[h2,show j+1+(x:Int)=j+((x+1:Nat):Int)from by omega]
theorem Zajt (m:Nat):∀(out:List (List Int))(j:Nat)(z:List Int),(out.flatMap λs=>Zz0 s m 0)[j]?=some z->∃(i x:Nat)(s:List Int),j=i*m+x/\x<m/\out[i]?=some s/\z=s++[(x:Int)]
 | [],j,z,h=>by simp at h
 | u :: out,j,z,h=>by
  rw[List.flatMap_cons]at h
  by_cases hj:j<(Zz0 u m 0).length
  ·rw[List.getElem?_append_left hj]at h
   obtain⟨h1,h2⟩:=Zasu u m 0 j z h
   exact⟨0,j,u,by omega,h1,rfl,by rw[h2];congr 2;omega⟩
  ·rw[List.getElem?_append_right (by omega),Zoi]at h
   rw[Zoi]at hj
   obtain⟨i,x,s,e1,e2,e3,e4⟩:=Zajt m out (j-m) z h
   exact⟨i+1,x,s,by rw[Nat.add_mul];omega,e2,by rw[List.getElem?_cons_succ];exact e3,e4⟩
theorem Zakw : ∀(r:List Int)(out:List (List Int))(k:Nat)(z:List Int),(∀y∈r,1<=y)->(Zlj r out)[k]?=some z->∃(i:Nat)(s u:List Int),out[i]?=some s/\z=s++u/\Za6 r u=true/\Zyn r u i=(k:Int)
 | [],out,k,z,_,h=>⟨k,z,[],h,(List.append_nil z).symm,rfl,rfl⟩
 | y :: r,out,k,z,hy,h=>by
  rw[Zlj]at h
  obtain⟨j,s,u,h1,h2,h3,h4⟩:=Zakw r _ k z (λx hx=>hy x (mC_ _ hx)) h
  obtain⟨i,x,s0,e1,e2,e3,e4⟩:=Zajt y.toNat out j s h1
  have hy0:=hy y (mS_ ..)
  refine⟨i,s0,(x:Int) :: u,e3,by rw[h2,e4,List.append_assoc];rfl,?_,?_⟩
  ·rw[Za6,bA_,decide_eq_true_iff]
   exact⟨by omega,h3⟩
  ·rw[Zyn,<-h4,e1,Int.natCast_add,Int.natCast_mul,show((y.toNat:Nat):Int)=y from by omega]
theorem Zaoz {t:Zah}(hgood:Ze5 t=true){i j:Nat}{s:List Int}(hi:(Zik t)[i]?=some s)(hj:(Zik t)[j]?=some s):i=j:=by
 have key:∀k:Nat,(Zik t)[k]?=some s->Zyn t.Vars s 0=(k:Int):=λk hk=>by
  obtain⟨i0,s0,u,h1,h2,-,h4⟩:=Zakw t.Vars [[]] k s (λy hy=>((Ztb hgood).dom y hy).1) hk
  cases i0 with
  | zero =>
   simp only[List.getElem?_cons_zero,Option.some.injEq]at h1
   subst h1
   rw[List.nil_append]at h2
   subst h2
   exact h4
  | succ i0=>simp at h1
 have h1:=key i hi
 have h2:=key j hj
 omega
def EdgI (t:Zah)(i q:Nat)(o:GOp)(s:List Int)(e:GEdge):Prop:=∃k:Nat,e={ From:=(i:Int),Op:=(q:Int),To:=(k:Int) }/\(Zik t)[k]?=some (Zp8 s o)
theorem Zaho {t:Zah}(hsm:Zjl t=true)(i:Nat)(s:List Int)(hi:(Zik t)[i]?=some s):∀(l:List GOp)(m j:Nat)(v:List GEdge),t.Ops.drop j=l->l.length=m->v.length+m<=100000 ->
  ∃v',Rn (Zhb t i s) (Zkb t i s) m j v=some v'/\v'.length<=v.length+m/\(∀e∈v,e∈v')/\∀q o,j<=q->t.Ops[q]?=some o->Zay s o.Pre=true->∃e∈v',EdgI t i q o s e
 | [],m,j,v,hdr,hm,_=>by
  subst hm
  refine⟨v,rfl,Nat.le_refl _,λ_ h=>h,λq o hq ho _=>?_⟩
  have hlt:=(gS_.1 ho).1
  have hn:=congrArg List.length hdr
  simp only[List.length_drop,List.length_nil]at hn
  omega
 | o :: os,m,j,v,hdr,hm,hlen=>by
  have hgood:=(Zfo hsm).1
  obtain⟨hj,hd',hlt⟩:=Zc5 hdr
  obtain⟨m,rfl⟩:∃k,m=k+1:=⟨os.length,hm.symm⟩
  have hst:=(Zs4 t s).1 (mG_ hi)
  have hm':os.length=m:=by simpa using hm
  rw[Rn,Zhb,Zajf t hgood s (Zcs hst) j o hj]
  by_cases hp:Zay s o.Pre=true
  ·obtain⟨k,e1,e2⟩:=Zad2 hsm (Ztd hgood hst (mG_ hj))
   rw[if_pos hp,Zc6,Zby,e1,Zac,Zan (by omega)]
   obtain⟨v',h1,h2,h3,h4⟩:=Zaho hsm i s hi os m (j+1) (v++[{ From:=(i:Int),Op:=(j:Int),To:=(k:Int) }]) hd' hm' (by simp;omega)
   refine⟨v',h1,by simp at h2;omega,λe he=>h3 e (List.mem_append.2 (.inl he)),λq u hq hu hpu=>?_⟩
   rcases Nat.lt_or_ge j q with hjq|hjq
   ·exact h4 q u (by omega) hu hpu
   ·obtain rfl:q=j:=by omega
    rw[hj]at hu
    injection hu with hu
    subst hu
    exact⟨_,h3 _ (List.mem_append.2 (.inr (mI_.2 rfl))),k,rfl,e2⟩
  ·rw[if_neg hp,Zc6,Zbb]
   obtain⟨v',h1,h2,h3,h4⟩:=Zaho hsm i s hi os m (j+1) v hd' hm' (by omega)
   refine⟨v',h1,by omega,h3,λq u hq hu hpu=>?_⟩
   rcases Nat.lt_or_ge j q with hjq|hjq
   ·exact h4 q u (by omega) hu hpu
   ·obtain rfl:q=j:=by omega
    rw[hj]at hu
    injection hu with hu
    subst hu
    exact absurd hpu hp
theorem Zan3 {t:Zah}(hsm:Zjl t=true):∀(r:List (List Int))(i:Nat)(v:List GEdge),(Zik t).drop i=r->v.length+r.length*20<=100000 ->
  ∃v',Rg (Zhc t (Zik t)) (Zif t (Zik t)) r i v=some v'/\(∀e∈v,e∈v')/\∀k s q o,i<=k->(Zik t)[k]?=some s->t.Ops[q]?=some o->Zay s o.Pre=true->∃e∈v',EdgI t k q o s e
 | [],i,v,hdr,hl=>by
  refine⟨v,by rw[Rg,Zif,Zan (by simp at hl;omega)],λ_ h=>h,λk s q o hk hs _ _=>?_⟩
  have hlt:=(gS_.1 hs).1
  have hn:=congrArg List.length hdr
  simp only[List.length_drop,List.length_nil]at hn
  omega
 | s :: r,i,v,hdr,hl=>by
  obtain⟨hi,hd',hlt⟩:=Zc5 hdr
  have hops:=(Zfo hsm).2.2
  rw[lC_]at hl
  rw[Rg,Zhc,ixv,Zrx t i s v (m:=t.Ops.length) (by rw[lM_]) (by omega)]
  obtain⟨v1,h1,h2,h3,h4⟩:=Zaho hsm i s hi t.Ops t.Ops.length 0 v rfl rfl (by omega)
  have h1':Rn (Zhb t i s) (Zkb t i s) t.Ops.length 0 v=some v1:=h1
  rw[h1',Zac]
  obtain⟨v',g1,g2,g3⟩:=Zan3 hsm r (i+1) v1 hd' (by omega)
  refine⟨v',g1,λe he=>g2 e (h3 e he),λk u q o hk hu ho hp=>?_⟩
  rcases Nat.lt_or_ge i k with hik|hik
  ·exact g3 k u q o (by omega) hu ho hp
  ·obtain rfl:k=i:=by omega
   rw[hi]at hu
   injection hu with hu
   subst hu
   obtain⟨e,he,hx⟩:=h4 q o (Nat.zero_le _) ho hp
   exact⟨e,g2 e he,hx⟩
theorem Zan4 {t:Zah}(hsm:Zjl t=true):∃es,Zmh t=some es/\es.length<=100000/\(∀e∈es,EdgP t e)/\∀k s q o,(Zik t)[k]?=some s->t.Ops[q]?=some o->Zay s o.Pre=true->∃e∈es,EdgI t k q o s e:=by
 have hal:=Zs3 t hsm
 obtain⟨es,h1,h2,h3⟩:=Zajr hsm
 obtain⟨es',g1,-,g3⟩:=Zan3 hsm (Zik t) 0 [] rfl (by simp;omega)
 have he:Zmh t=some es':=by
  rw[Zmh,Zv3 t hsm,Zac,Zry t (Zik t) [] (by omega)]
  exact g1
 rw[h1]at he
 obtain rfl:=sI_ he
 exact⟨es,h1,h2,h3,λk s q o hk ho hp=>g3 k s q o (Nat.zero_le _) hk ho hp⟩
def finN (d:List Int):Nat:=(d.filter λx=>decide (x≠Zka)).length
theorem Zade : ∀(d:List Int)(a:Nat)(y v:Int),d[a]?=some y->v≠Zka->finN (d.set a v)=finN d+(if y=Zka then 1 else 0)
 | [],a,y,v,h,_=>by simp at h
 | z :: d,0,y,v,h,hv=>by
  simp only[List.getElem?_cons_zero,Option.some.injEq]at h
  subst h
  unfold finN
  rw[List.set_cons_zero,List.filter_cons,List.filter_cons,if_pos (decide_eq_true hv)]
  by_cases hz:z=Zka
  ·rw[if_neg (by simp[hz]),if_pos hz,lC_]
  ·rw[if_pos (decide_eq_true hz),if_neg hz,lC_,lC_,Nat.add_zero]
 | z :: d,a+1,y,v,h,hv=>by
  rw[List.getElem?_cons_succ]at h
  have ih:=Zade d a y v h hv
  unfold finN at ih ⊢
  rw[List.set_cons_succ,List.filter_cons,List.filter_cons]
  split
  ·rw[lC_,lC_,ih];omega
  ·exact ih
theorem Zahq (d:List Int):finN d<=d.length:=List.length_filter_le _ _
structure DG (t:Zah)(d:List Int):Prop where
 len:d.length=(Zik t).length
 ok:∀(i:Nat) (s:List Int) (x:Int),(Zik t)[i]?=some s->d[i]?=some x->0<=x/\x<=Zka/\(Zay s t.Goal=true->x=0)
 bnd:∀x∈d,x≠Zka->x<=1048576*(finN d:Int)
theorem DG.all {t:Zah}{d:List Int}(h:DG t d):∀x∈d,0<=x/\x<=Zka:=λx hx=>by
 obtain⟨i,hi⟩:=List.getElem?_of_mem hx
 have hlt:=(gS_.1 hi).1
 have hs:(Zik t)[i]?=some ((Zik t)[i]'(by rw[<-h.len];exact hlt)):=gE_ _
 obtain⟨h1,h2,-⟩:=h.ok i _ x hs hi
 exact⟨h1,h2⟩
def Calm (t:Zah)(d:List Int)(e:GEdge):Prop:=∀(a b q:Nat) (o:GOp) (x y:Int),e={ From:=(a:Int),Op:=(q:Int),To:=(b:Int) }->t.Ops[q]?=some o->d[b]?=some x->d[a]?=some y->x<Zka->y<=x+o.Cost
theorem Zaq2 {t:Zah}(hgood:Ze5 t=true)(es:List GEdge):∀(r:List GEdge)(i:Int)(b:Bool)(d:List Int),(∀e∈r,EdgP t e)->DG t d ->
  ∃b' d',Rg (Zfj t es) (Zix t es) r i (b,d)=some (b',d')/\DG t d'/\((b'=b/\d'=d/\∀e∈r,Calm t d e)\/(b'=true/\d'.sum<d.sum))
 | [],i,b,d,_,hd=>⟨b,d,rfl,hd,.inl ⟨rfl,rfl,λe he=>by cases he⟩⟩
 | e :: r,i,b,d,he,hd=>by
  have her:∀e∈r,EdgP t e:=λu hu=>he u (mC_ _ hu)
  obtain⟨a,bb,q,s,o,e1,e2,e3,h1,h2,h3,h4⟩:=(he e (mS_ ..)).ex
  obtain⟨F,O,T⟩:=e
  simp only at e1 e2 e3
  subst e1 e2 e3
  have ho:=mG_ h3
  have hcost:=Zn5 hgood ho
  have hla:a<d.length:=by rw[hd.len];exact(gS_.1 h1).1
  have hlb:bb<d.length:=by rw[hd.len];exact(gS_.1 h2).1
  obtain⟨x,hx⟩:∃x,d[bb]?=some x:=⟨_,gE_ hlb⟩
  obtain⟨y,hy⟩:∃y,d[a]?=some y:=⟨_,gE_ hla⟩
  obtain⟨x0,x1,-⟩:=hd.ok bb _ x h2 hx
  obtain⟨y0,y1,yq⟩:=hd.ok a s y h1 hy
  have hcalm:(x<Zka->y<=x+o.Cost)->Calm t d { From:=(a:Int),Op:=(q:Int),To:=(bb:Int) }:=λhh a' b' q' o' x' y' e ho' hx' hy' hlt=>by
   simp only[GEdge.mk.injEq]at e
   obtain⟨ea,eq,eb⟩:=e
   obtain rfl:a'=a:=by omega
   obtain rfl:b'=bb:=by omega
   obtain rfl:q'=q:=by omega
   rw[h3]at ho';rw[hx]at hx';rw[hy]at hy'
   injection ho' with ho';injection hx' with hx';injection hy' with hy'
   subst ho' hx' hy'
   exact hh hlt
  unfold Zka at x1 y1 hcalm
  have hw:IntKind.i64.wrap (x+o.Cost)=x+o.Cost:=Zpd (by omega) (by omega)
  have hcons:(x<1125899906842624->y<=x+o.Cost)->∃b' d',Rg (Zfj t es) (Zix t es) r (i+1) (b,d)=some (b',d')/\DG t d'/\((b'=b/\d'=d/\∀e∈({ From:=(a:Int),Op:=(q:Int),To:=(bb:Int) }:GEdge) :: r,Calm t d e)\/(b'=true/\d'.sum<d.sum)):=λhh=>by
   obtain⟨b',d',g1,g2,g3⟩:=Zaq2 hgood es r (i+1) b d her hd
   refine⟨b',d',g1,g2,g3.imp (λ⟨q1,q2,q3⟩=>⟨q1,q2,λe he=>?_⟩) id⟩
   rcases List.mem_cons.1 he with rfl|he
   ·exact hcalm hh
   ·exact q3 e he
  rw[Rg,Zfj]
  simp only[ixv,Zfv h3,Zac,Int.toNat_natCast,Zdp hx,Zdp hy,Zar]
  by_cases hlt:x<1125899906842624
  ·rw[if_pos hlt,Zan (by omega),Zan (by omega),Zan (by omega),Zan (by omega),Zac,hw]
   by_cases hr:x+o.Cost<y
   ·rw[decide_eq_true hr,Zby,Zan (by omega),Zan (by omega),Zan (by omega),Zan (by omega)]
    have hd1:DG t (d.set a (x+o.Cost)):=by
     have hbx:=hd.bnd x (mG_ hx) (by unfold Zka;omega)
     have hfin:=Zade d a y (x+o.Cost) hy (by unfold Zka;omega)
     refine⟨by rw[List.length_set];exact hd.len,λi s' z hs' hz=>?_,λz hz hne=>?_⟩
     rotate_left
     ·rw[hfin]
      rcases List.mem_or_eq_of_mem_set hz with hz|rfl
      ·have:=hd.bnd z hz hne
       split <;> omega
      ·by_cases hyi:y=Zka
       ·rw[if_pos hyi];omega
       ·have:=hd.bnd y (mG_ hy) hyi
        rw[if_neg hyi];omega
     by_cases hai:a=i
     ·subst hai
      rw[List.getElem?_set_self hla]at hz
      injection hz with hz
      rw[h1]at hs'
      injection hs' with hs'
      subst hz hs'
      exact⟨by omega,by unfold Zka;omega,λhg=>by have:=yq hg;omega⟩
     ·rw[List.getElem?_set_ne hai]at hz
      exact hd.ok i s' z hs' hz
    obtain⟨b',d',g1,g2,g3⟩:=Zaq2 hgood es r (i+1) true _ her hd1
    have hsum:=Zaiv (x+o.Cost) d a y hy
    refine⟨b',d',g1,g2,.inr ?_⟩
    rcases g3 with⟨g3,g4,-⟩|⟨g3,g4⟩
    ·exact⟨g3,by rw[g4,hsum];omega⟩
    ·exact⟨g3,by rw[hsum]at g4;omega⟩
   ·rw[decide_eq_false hr,Zbb]
    exact hcons (λ_=>by omega)
  ·rw[if_neg hlt,Zan (by omega),Zan (by omega),Zac,Zbb]
   exact hcons (λh=>absurd h hlt)
theorem Zayt {t:Zah}(hgood:Ze5 t=true)(es:List GEdge)(hes:∀e∈es,EdgP t e)(hlen:es.length<=100000)(hal:(Zik t).length<=512):∀(S k:Nat)(d:List Int),DG t d->d.sum<=S->S+2<=k->∃d',Zbe t es k true d=some d'/\DG t d'/\∀e∈es,Calm t d' e:=by
 intro S
 induction S with
 | zero =>
  intro k d hd hs hk
  obtain⟨k,rfl⟩:∃j,k=j+2:=⟨k-2,by omega⟩
  obtain⟨b',d',g1,g2,g3⟩:=Zaq2 hgood es es 0 false d hes hd
  have hpos:=Zaiu d' (λx hx=>(g2.all x hx).1)
  rcases g3 with⟨rfl,rfl,g5⟩|⟨-,g4⟩
  ·refine⟨d',?_,g2,g5⟩
   have hl:=g2.len
   rw[Zbe,Zby,Zh5 t es false d' (by omega),g1,Zac]
   simp only
   rw[Zbe,Zbb,Zan (by omega)]
  ·omega
 | succ S ih =>
  intro k d hd hs hk
  obtain⟨k,rfl⟩:∃j,k=j+2:=⟨k-2,by omega⟩
  obtain⟨b',d',g1,g2,g3⟩:=Zaq2 hgood es es 0 false d hes hd
  rw[Zbe,Zby,Zh5 t es false d (by omega),g1,Zac]
  simp only
  rcases g3 with⟨rfl,rfl,g5⟩|⟨rfl,g4⟩
  ·have hl:=g2.len
   exact⟨d',by rw[Zbe,Zbb,Zan (by omega)],g2,g5⟩
  ·exact ih (k+1) d' g2 (by omega) (by omega)
structure DFix (t:Zah)(d:List Int):Prop where
 g:DG t d
 step:∀(i k:Nat) (s:List Int) (o:GOp) (x y:Int),(Zik t)[i]?=some s->o∈t.Ops->Zay s o.Pre=true->(Zik t)[k]?=some (Zp8 s o)->d[k]?=some x->d[i]?=some y->x<Zka->y<=x+o.Cost
theorem Zav7 {t:Zah}(hsm:Zjl t=true)(g:Nat)(hg:1000000000000000000<=g)(u:List Int):∃d,Zh4 g t u=some d/\DFix t d:=by
 have hgood:=(Zfo hsm).1
 have hal:=Zs3 t hsm
 obtain⟨es,h1,h2,h3,h4⟩:=Zan4 hsm
 have hd0:DG t ((Zik t).map λs=>if Zay s t.Goal=true then 0 else Zka):=by
  refine⟨lM_ _,λi s x hs hx=>?_,λx hx hne=>?_⟩
  ·rw[List.getElem?_map,hs]at hx
   simp only[Option.map_some,Option.some.injEq]at hx
   subst hx
   by_cases hh:Zay s t.Goal=true
   ·rw[if_pos hh];exact⟨by decide,by decide,λ_=>rfl⟩
   ·rw[if_neg hh];exact⟨by decide,by decide,λh=>absurd h hh⟩
  ·obtain⟨s,-,rfl⟩:=List.mem_map.1 hx
   by_cases hh:Zay s t.Goal=true
   ·rw[if_pos hh];omega
   ·rw[if_neg hh]at hne;exact absurd rfl hne
 have hsum:=Zap0 Zka _ (λx hx=>(hd0.all x hx).2)
 rw[hd0.len]at hsum
 have hle:Zka*((Zik t).length:Int)<=Zka*512:=Int.mul_le_mul_of_nonneg_left (by omega) (by decide)
 have hs2:((Zik t).map λs=>if Zay s t.Goal=true then 0 else Zka).sum<=(576460752303423488:Nat):=Int.le_trans hsum (Int.le_trans hle (by decide))
 obtain⟨d,e1,e2,e3⟩:=Zayt hgood es h3 h2 hal 576460752303423488 g _ hd0 hs2 (by omega)
 refine⟨d,?_,e2,λi k s o x y hi ho hp hk hx hy hlt=>?_⟩
 ·have hrep:(List.replicate ((((Zik t).map Zb4).length:Int)).toNat (0:Int)).length=(Zik t).length:=by rw[List.length_replicate,lM_,Int.toNat_natCast]
  have hd1:=dis1 hgood (Zik t) 0 (List.replicate ((((Zik t).map Zb4).length:Int)).toNat 0) rfl hrep
  have hd1':Rg (Zgy t (Zik t)) (Zgz t (Zik t)) (Zik t) 0 (List.replicate ((((Zik t).map Zb4).length:Int)).toNat 0)=_:=hd1
  have hlm:((Zik t).map Zb4).length=(Zik t).length:=lM_ _
  rw[Zh4,Zv3 t hsm,Zac,Zan (by omega),Zan (by omega),Znp t (Zik t) _ (by omega),hd1',List.take_zero,List.nil_append,Zac,h1,Zac]
  exact e1
 ·obtain⟨q,hq⟩:=List.getElem?_of_mem ho
  obtain⟨e,he,kk,hee,hkk⟩:=h4 i s q o hi hq hp
  have:=Zaoz hgood hk hkk
  subst this
  exact e3 e he i k q o x y hee hq hx hy hlt
def runF (t:Zah):List Int->List Int->Int->Option (List Int×Int)
 | [],s,c=>some (s,c)
 | j :: r,s,c=>if 0<=j then match t.Ops[j.toNat]? with
  | some o=>if Zay s o.Pre=true then runF t r (Zp8 s o) (c+o.Cost)else none
  | none=>none
  else none
theorem Zaky {t:Zah}(hsm:Zjl t=true){d:List Int}(hd:DFix t d):∀(plan s:List Int)(c:Int)(s':List Int)(c':Int),plan.length<=1000->Za6 t.Vars s=true->runF t plan s c=some (s',c')->Zay s' t.Goal=true->c<=c'/\c'<=c+1048576*plan.length/\∀(k:Nat)(y:Int),(Zik t)[k]?=some s->d[k]?=some y->y<=c'-c
 | [],s,c,s',c',_,hs,h,hg=>by
  rw[runF]at h
  injection h with h
  injection h with h1 h2
  subst h1 h2
  refine⟨Int.le_refl _,by simp,λk y hk hy=>?_⟩
  have:=(hd.g.ok k s y hk hy).2.2 hg
  omega
 | j :: r,s,c,s',c',hl,hs,h,hg=>by
  have hgood:=(Zfo hsm).1
  rw[lC_]at hl
  rw[runF]at h
  split at h
  ·cases hj:t.Ops[j.toNat]? with
   | none=>rw[hj]at h;cases h
   | some o =>
    rw[hj]at h
    dsimp only at h
    have ho:o∈t.Ops:=mG_ hj
    have hc:=Zn5 hgood ho
    split at h
    ·rename_i hp
     have hs2:=Ztd hgood hs ho
     obtain⟨i1,i2,i3⟩:=Zaky hsm hd r (Zp8 s o) (c+o.Cost) s' c' (by omega) hs2 h hg
     obtain⟨k2,-,hk2⟩:=Zad2 hsm hs2
     obtain⟨x,hx⟩:∃x,d[k2]?=some x:=⟨_,gE_ (by rw[hd.g.len];exact(gS_.1 hk2).1)⟩
     have h3:=i3 k2 x hk2 hx
     rw[lC_]
     refine⟨by omega,by omega,λk y hk hy=>?_⟩
     have:=hd.step k k2 s o x y hk ho hp hk2 hx hy (by unfold Zka;omega)
     omega
    ·cases h
  ·cases h
def NF (e:Er):Prop:=e=.nil\/e=.no 10
theorem Zasi (t:Zah)(c:Zab)(p:List Zaa)(d r:Int):(askC t c p d r).2.1=.no 10\/((askC t c p d r).2.1=.nil/\(askC t c p d r).1=covB t c d p):=by
 unfold askC
 split
 ·exact .inr ⟨rfl,rfl⟩
 ·exact .inl rfl
theorem Zak1 (t:Zah)(c:Zab)(d:Int):∀(l:List (List Zaa))(r:Int),(∀p∈l,covB t c d p=true)->NF (Zabq t c d l r).1
 | [],r,_=>.inl rfl
 | p :: ps,r,h=>by
  have ha:=Zasi t c p d r
  have hp:=h p (mS_ ..)
  rw[Zabq]
  rcases hk:askC t c p d r with⟨b,e,r'⟩
  rw[hk]at ha
  rcases ha with ha|⟨ha,hb⟩
  ·simp only at ha
   subst ha
   cases b <;> exact .inr rfl
  ·simp only at ha hb
   subst ha
   rw[hp]at hb
   subst hb
   exact Zak1 t c d ps r' (λq hq=>h q (mC_ _ hq))
section
variable {t : Zah} (hf : Fit t) {c : Zab} (hc : Zwd t.Vars c) (ha : Acc t c)
include hf hc ha
theorem Zasa {n:Zaw}(hn:n∈c.Nogoods){o:GOp}(ho:o∈t.Ops)(r:Int):NF (Zul t c n o r).1:=by
 unfold Zul
 split
 ·exact .inl rfl
 ·rename_i hsk
  obtain⟨l,l1,l2,-⟩:=regT hf.cap hf.good (hc.prop n hn) ho
  rw[l1]
  refine Zak1 t c _ l r (λp hp=>(Zafb hf.good hc (l2 p hp) _).2 λs hs hh=>?_)
  exact ha.step n hn o ho (Bool.eq_false_iff.2 hsk) s ((Zs4 t s).2 hs) ((Zauf hf.good ho (Zcs hs) (hc.prop n hn) l1).1 ⟨p,hp,hh⟩)
theorem Zaow {n:Zaw}(hn:n∈c.Nogoods)(i:Int):∀(l:List GOp)(j r:Int),(∀o∈l,o∈t.Ops)->(∃r',opsC t c n i l j r=.inl r')\/∃x,opsC t c n i l j r=.inr x/\x.2.2=.no 10
 | [],j,r,_=>.inl ⟨r,rfl⟩
 | o :: os,j,r,h=>by
  have hs:=Zasa hf hc ha hn (h o (mS_ ..)) r
  rw[opsC]
  rcases hk:Zul t c n o r with⟨e,r'⟩
  rw[hk]at hs
  rcases hs with hs|hs <;> (simp only at hs;subst hs)
  ·exact Zaow hn i os (j+1) r' (λu hu=>h u (mC_ _ hu))
  ·exact .inr ⟨_,rfl,rfl⟩
theorem Zaia : ∀(l:List Zaw)(i r:Int),(∀n∈l,n∈c.Nogoods)->NF (nogC t c l i r).2.2
 | [],i,r,_=>.inl rfl
 | n :: ns,i,r,h=>by
  rw[nogC]
  rcases Zaow hf hc ha (h n (mS_ ..)) i t.Ops 0 r (λ_ h=>h)with⟨r',h1⟩|⟨x,h1,h2⟩
  ·rw[h1];exact Zaia ns (i+1) r' (λu hu=>h u (mC_ _ hu))
  ·rw[h1];exact .inr h2
theorem Zatp (steps:Int):NF (verF t c steps):=by
 unfold verF Zak8
 rw[(Znk t).1 hf.good]
 simp only
 rw[(Zaap t.Vars c).2 hc]
 simp only
 unfold Zap9
 have hi:¬ (c.Nogoods.any λn=>Zay t.Init n.1)=true:=λh=>by
  obtain⟨n,hn,h2⟩:=List.any_eq_true.1 h
  rw[ha.init n hn]at h2
  cases h2
 rw[if_neg hi]
 split
 ·exact Zaia hf hc ha _ _ _ λ_ h=>h
 ·rename_i hb
  have hk:=Zasi t c t.Goal 0 (max 0 (min steps 1048576))
  have hg:covB t c 0 t.Goal=true:=(Zafb hf.good hc (Zvt hf.good) 0).2 λs hs hh=>ha.goal hb s ((Zs4 t s).2 hs) hh
  rcases hk2:askC t c t.Goal 0 (max 0 (min steps 1048576))with⟨b,e,r'⟩
  rw[hk2]at hk
  rcases hk with hk|⟨hk,hb2⟩
  ·simp only at hk;subst hk
   cases b <;> exact .inr rfl
  ·simp only at hk hb2
   subst hk
   rw[hg]at hb2
   subst hb2
   exact Zaia hf hc ha _ _ _ λ_ h=>h
end
end Go.Proofs.YtpfnmpdcneejbaaGreatDoor.Am
namespace Go.Proofs.YtpfnmpdcneejbaaGreatDoor.Am
set_option maxHeartbeats 16000000
set_option maxRecDepth 100000
open Go.RowKit
def Zcw (a0:List Int)(a1:Int->Option Bool):Nat->Int->Option (Int)|0,_=>none|k7+1,v6=>sel (decide (v6<((a0.map cI).length:Int))) (ix a0 v6 (λy8=>ob1 (a1 y8) (λz9=>sel z9 (some v6) (Zcw a0 a1 k7 (IntKind.i64.wrap (v6+1)))))) (some (-1))
def Zju (a0:List Int)(a1:Int->Option Bool):Option (Int):=Zcw a0 a1 ((((a0.map cI).length:Int)).toNat+1) 0
theorem Zwc (a0:List Int)(a1:Int->Option Bool)(Fa1:AV)(hFa1:Fr Fa1)(ea1:∃f fs cap,Fa1=.clo (.func f) fs cap)(ha1:∀(x0:Int)(y0:Bool),a1 x0=some y0->CCl cx Fa1 [.c (.int .i64 x0)] (.c (.bool y0))){r1:Int}(h:Zju a0 a1=some r1):ACall cx 38 [.sl 1 (a0.map cI),Fa1] (.c (.int .i64 r1)):=by
 obtain⟨fa1,sa1,qa1,rfl⟩:=ea1;refine aOf Tryz.func38 rfl (by decide) rfl (bT3 rfl) ?_;intro _;unfold Zju at h;refine aSR λ_=>dr (aSq (aSR λ_=>dr (aBk ?_)));refine Zaj (α:=Nat×Int) (λx=>mkS 19 [(0,.sl 1 (a0.map cI)),(1,.clo (.func fa1) sa1 qa1),(7,.c (.int .i64 ((a0.map cI).length:Int))),(8,.c (.int .i64 x.2))] []) (λx=>Zcw a0 a1 x.1 x.2=some r1) (λx=>x.1) ((((a0.map cI).length:Int)).toNat+1,0) h ?_ ?_
 ·exact Zas
 ·intro x1 h;intro _;obtain⟨k7,m2,h⟩:=Zak (f:=λn=>Zcw a0 a1 n x1.2) rfl h;replace h:Zcw a0 a1 (k7+1) x1.2=some r1:=h;rw[Zcw]at h;refine aSR λ_=>dr (aSq (aCd λ_=>?_));refine spl h (λc3 h=>?_) (λc3 h=>?_)
  ·refine aSk (aSq (aBk (aSR λ_=>dr (aSR λ_=>?_))));obtain⟨y8,w4,q5,h⟩:=Za9 h;refine Exists.intro (cI y8) (And.intro (Zad w4) λ_=>?_);obtain⟨z9,u6,h⟩:=Zae h;refine clc rfl (ha1 _ _ u6) hFa1 λ_=>pr (dr (aCd λ_=>?_));refine spl h (λc7 h=>?_) (λc7 h=>?_)
   ·exact zz2
   ·refine aSk (aRg λ_=>dr ⟨(k7,(IntKind.i64.wrap (x1.2+1))),h,ltS m2,?_⟩);exact Zas
  ·exact zz9
def Zdg (a0:List Int)(a1:Int->Option Bool):Option (Bool):=ob1 (Zju a0 a1) (λz1=>some (decide (z1>=0)))
theorem Zm1 (a0:List Int)(a1:Int->Option Bool)(Fa1:AV)(hFa1:Fr Fa1)(ea1:∃f fs cap,Fa1=.clo (.func f) fs cap)(ha1:∀(x0:Int)(y0:Bool),a1 x0=some y0->CCl cx Fa1 [.c (.int .i64 x0)] (.c (.bool y0))){r1:Bool}(h:Zdg a0 a1=some r1):ACall cx 18 [.sl 1 (a0.map cI),Fa1] (.c (.bool r1)):=by
 obtain⟨fa1,sa1,qa1,rfl⟩:=ea1;refine aOf Tryz.func18 rfl (by decide) rfl (bT3 rfl) ?_;intro _;unfold Zdg at h;refine aSR λ_=>dr (aSR λ_=>?_);obtain⟨z1,u1,h⟩:=Zae h;refine cl rfl (Zwc a0 a1 (.clo (.func fa1) sa1 qa1) hFa1 ⟨_,_,_,rfl⟩ ha1 u1) ?_;exact zz0
def Ze7 (a0:Int):Option (Bool):=sel (decide (a0<0)) (some true) (some (decide (a0>1125899906842624)))
theorem Zrn (a0:Int){r1:Bool}(h:Ze7 a0=some r1):ACall cx 25 [.c (.int .i64 a0)] (.c (.bool r1)):=by
 refine aOf Tryz.func25 rfl (by decide) rfl (bT3 rfl) ?_;intro _;unfold Ze7 at h;refine aSR λ_=>dr (aSR λ_=>?_);refine spf h (λc1 h=>?_) (λc1 h=>?_)
 ·exact zz0
 ·exact zz0
def Zbj (a0:Zah)(a1:List Int):Nat->Int->Int->(List Zaa)->Option (List Zaa)|0,_,_,_=>none|k15+1,v12,v13,v14=>sel (decide (v13>=0)) (ix a1 v13 (λy16=>ix a0.Vars y16 (λy17=>ix a1 v13 (λy18=>ixn v14 ((v13).toNat) (λ_=>grd (y17≠0) (grd (v13<((v14.length:Nat):Int)) (Zbj a0 a1 k15 (IntKind.i64.wrap (v12.tdiv y17)) (IntKind.i64.wrap (v13-1)) (v14.set ((v13).toNat) (y18,(v12.tmod y17)))))))))) (grd (v14.length<=140737488355328) (some v14))
def Zcq (g:Nat)(a0:Zah)(a1:List Int)(a2:Int):Option (List Zaa):=grd (0<=((a1.map cI).length:Int)) (grd (((a1.map cI).length:Int)*16<=281474976710656) (Zbj a0 a1 g a2 (IntKind.i64.wrap (((a1.map cI).length:Int)-1)) (List.replicate ((a1.map cI).length:Int).toNat (0,0))))
theorem Zmf (g:Nat)(a0:Zah)(a1:List Int)(a2:Int){r1:List Zaa}(h:Zcq g a0 a1 a2=some r1):ACall cx 26 [.agg [.sl 1 (a0.Vars.map cI),.sl 1 (a0.Init.map cI),.sl 2 (a0.Goal.map cF),.sl 4 (a0.Ops.map Za0)],.sl 1 (a1.map cI),.c (.int .i64 a2)] (.sl 2 (r1.map cF)):=by
 refine aOf Tryz.func26 rfl (by decide) rfl (bT3 rfl) ?_;intro _;unfold Zcq at h;refine aSR λ_=>dr (aSR λ_=>?_);obtain⟨q1,h⟩:=Zaf h;obtain⟨q2,h⟩:=Zaf h;refine⟨_,Zsn rfl rfl (bT3 rfl) (Zbz 23 _ rfl) rfl (Zbz 53 _ rfl) rfl rfl rfl (by first|assumption|omega) (by first|assumption|(show _*(16:Int)<=_;omega)|omega) (by omega) rfl (by simp only[Value.cells];simp[Value.oneCell']) (by decide),?_⟩;intro _;refine dr (aSq (aSR λ_=>dr (aBk ?_)));refine Zaj (α:=Nat×Int×Int×(List Zaa)) (λx=>mkS 43 [(1,.sl 1 (a1.map cI)),(2,.c (.int .i64 x.2.1)),(3,.ptr 3 0 0 0),(7,.own 12 0 0 x.2.2.2.length),(8,.c (.int .i64 x.2.2.1))] [(3,⟨26,4,true,[[.sl 1 (a0.Vars.map cI),.sl 1 (a0.Init.map cI),.sl 2 (a0.Goal.map cF),.sl 4 (a0.Ops.map Za0)]]⟩),(12,⟨53,2,false,x.2.2.2.map cF⟩)]) (λx=>Zbj a0 a1 x.1 x.2.1 x.2.2.1 x.2.2.2=some r1) (λx=>x.1) (g,a2,(IntKind.i64.wrap (((a1.map cI).length:Int)-1)),(List.replicate ((a1.map cI).length:Int).toNat (0,0))) h ?_ ?_
 ·exact Zas
 ·intro x3 h;intro _;obtain⟨k15,m4,h⟩:=Zak (f:=λn=>Zbj a0 a1 n x3.2.1 x3.2.2.1 x3.2.2.2) rfl h;replace h:Zbj a0 a1 (k15+1) x3.2.1 x3.2.2.1 x3.2.2.2=some r1:=h;rw[Zbj]at h;refine aSq (aSR λ_=>dr (aCd λ_=>?_));refine spl h (λc5 h=>?_) (λc5 h=>?_)
  ·refine aSk (aSq (aBk (aSR λ_=>?_)));obtain⟨y16,w6,q7,h⟩:=Za9 h;refine Exists.intro (cI y16) (And.intro (Zad w6) λ_=>?_);obtain⟨y17,w8,q9,h⟩:=Za9 h;refine Exists.intro (cI y17) (And.intro (Zad w8) λ_=>pr (pr (dr (aSR λ_=>?_))));obtain⟨y18,w10,q11,h⟩:=Za9 h;refine Exists.intro (cI y18) (And.intro (Zad w10) λ_=>?_);obtain⟨y19,w12,h⟩:=Zcm h;refine Exists.intro (cF y19) (And.intro (by first|exact Zad w12|(have w:=Zad (f:=cF) w12;simpa [cF,Value.cells] using w)) ?_);intro _;obtain⟨q13,h⟩:=Zaf h;obtain⟨q14,h⟩:=Zaf h;refine pr ⟨rfl,(pr (pr (pr (dr (aRg λ_=>⟨rfl,(pr (dr (aRg λ_=>dr ⟨(k15,(IntKind.i64.wrap (x3.2.1.tdiv y17)),(IntKind.i64.wrap (x3.2.2.1-1)),(x3.2.2.2.set ((x3.2.2.1).toNat) (y18,(x3.2.1.tmod y17)))),h,ltS m4,?_⟩)))⟩)))))⟩;exact Zas
  ·refine aEx (aSR λ_=>dr (aRt ?_));obtain⟨q15,h⟩:=Zaf h;exact zz4
def Zbk (a0:Zah)(a1:List Int):Nat->Int->Int->Option (Int⊕(Zab×Er))|0,_,_=>none|k32+1,v30,v31=>sel (decide (v31<((a1.map cI).length:Int))) (ix a1 v31 (λy33=>sel (decide (y33<0)) (some (.inr ({ Bound:=0,Nogoods:=[]:Zab },(Er.no 2)))) (sel (decide (y33>=((a0.Vars.map cI).length:Int))) (some (.inr ({ Bound:=0,Nogoods:=[]:Zab },(Er.no 2)))) (sel (decide (v31>0)) (ix a1 (IntKind.i64.wrap (v31-1)) (λy34=>sel (decide (y34>=y33)) (some (.inr ({ Bound:=0,Nogoods:=[]:Zab },(Er.no 2)))) (ix a0.Vars y33 (λy35=>Zbk a0 a1 k32 (min (IntKind.i64.wrap (v30*y35)) 1125899906842624) (IntKind.i64.wrap (v31+1)))))) (ix a0.Vars y33 (λy36=>Zbk a0 a1 k32 (min (IntKind.i64.wrap (v30*y36)) 1125899906842624) (IntKind.i64.wrap (v31+1)))))))) (some (.inl v30))
def Zbl (a0:Zah)(a1:List Int)(a2:List Int)(a3:Int)(g:Nat):Nat->Int->(List Zaw)->Option (Zab×Er)|0,_,_=>none|k56+1,v54,v55=>sel (decide (v54<((a2.map cI).length:Int))) (ix a2 v54 (λy57=>ob1 (sel (decide (a3>=0)) (sel (decide (y57>=a3)) (some (.inr ())) (sel (y57 == 1125899906842624) (some (.inr ())) (some (.inl ())))) (sel (y57 == 1125899906842624) (some (.inr ())) (some (.inl ()))):Option (Unit⊕Unit)) (Zj9 (λ_=>sel (((v55.length:Nat):Int) == 4096) (some ({ Bound:=0,Nogoods:=[]:Zab },(Er.no 5))) (sel (decide (a3<0)) (ob1 (Zcq g a0 a1 v54) (λz59=>grd ((v55.length+1)*32<=140737488355328) (Zbl a0 a1 a2 a3 g k56 (IntKind.i64.wrap (v54+1)) (v55++[(z59,0)])))) (ob1 (Zcq g a0 a1 v54) (λz60=>grd ((v55.length+1)*32<=140737488355328) (Zbl a0 a1 a2 a3 g k56 (IntKind.i64.wrap (v54+1)) (v55++[(z60,y57)])))))) (λ_=>Zbl a0 a1 a2 a3 g k56 (IntKind.i64.wrap (v54+1)) v55)))) (grd (v55.length<=140737488355328) (some ({ Bound:=a3,Nogoods:=v55:Zab },Er.nil)))
def Zev (g:Nat)(a0:Zah)(a1:List Int)(a2:List Int)(a3:Int):Option (Zab×Er):=ob1 (Zf4 a0) (λz1=>erM z1 (ob1 (Zbk a0 a1 ((((a1.map cI).length:Int)).toNat+1) 1 0:Option (Int⊕(Zab×Er))) (Zj9 (λv18=>sel (v18 != ((a2.map cI).length:Int)) (some ({ Bound:=0,Nogoods:=[]:Zab },(Er.no 11))) (ob1 (ob1 (Zf5 a3) (λz42=>sel (!z42) (some (.inr ({ Bound:=0,Nogoods:=[]:Zab },(Er.no 1)))) (ob1 (Zdg a2 Ze7) (λz43=>sel z43 (some (.inr ({ Bound:=0,Nogoods:=[]:Zab },(Er.no 1)))) (some (.inl ()))))):Option (Unit⊕(Zab×Er))) (Zj9 (λ_=>Zbl a0 a1 a2 a3 g ((((a2.map cI).length:Int)).toNat+1) 0 []) (λ(r39,r40)=>some (r39,r40))))) (λ(r19,r20)=>some (r19,r20)))) (λe2=>some ({ Bound:=0,Nogoods:=[]:Zab },(Er.no e2))))
theorem Zt5 (g:Nat)(a0:Zah)(a1:List Int)(a2:List Int)(a3:Int){r1:Zab}{r2:Er}(h:Zev g a0 a1 a2 a3=some (r1,r2)):ACall cx 9 [.agg [.sl 1 (a0.Vars.map cI),.sl 1 (a0.Init.map cI),.sl 2 (a0.Goal.map cF),.sl 4 (a0.Ops.map Za0)],.sl 1 (a1.map cI),.sl 1 (a2.map cI),.c (.int .i64 a3)] (.tup [.agg [.c (.int .i64 r1.Bound),.sl 2 (r1.Nogoods.map cN)],eA r2]):=by
 refine aOf Tryz.func9 rfl (by decide) rfl (bT3 rfl) ?_;intro _;unfold Zev at h;refine aSR λ_=>dr (aSq (aSR λ_=>?_));obtain⟨z1,u1,h⟩:=Zae h;refine cl rfl (Zkp a0 u1) λ_=>dr (aSq ?_);rcases z1 with _|e2
 ·replace h:=Zdn h;refine aRg λ_=>dr (aCd λ_=>Znf (aSk (aSR λ_=>dr ?_)));obtain⟨o2,h,hK3⟩:=Zae h;refine Zat (α:=Int) (λv18=>mkS 119 [(1,.sl 1 (a1.map cI)),(2,.sl 1 (a2.map cI)),(3,.c (.int .i64 a3)),(4,.ptr 4 0 0 0),(8,.ptr 8 0 0 0),(11,.c (.int .i64 v18))] [(4,⟨26,4,true,[[.sl 1 (a0.Vars.map cI),.sl 1 (a0.Init.map cI),.sl 2 (a0.Goal.map cF),.sl 4 (a0.Ops.map Za0)]]⟩),(8,⟨38,2,true,[[.c (.int .i64 0),.c (.slice none 0 0)]]⟩)]) (λv=>o2=(.inl v)) ?_ ?_
  ·refine aSR λ_=>dr (aBk ?_);refine Zaj (α:=Nat×Int×Int) (λx=>mkS 119 [(1,.sl 1 (a1.map cI)),(2,.sl 1 (a2.map cI)),(3,.c (.int .i64 a3)),(4,.ptr 4 0 0 0),(8,.ptr 8 0 0 0),(11,.c (.int .i64 x.2.1)),(23,.sl 1 (a1.map cI)),(24,.c (.int .i64 ((a1.map cI).length:Int))),(25,.c (.int .i64 x.2.2))] [(4,⟨26,4,true,[[.sl 1 (a0.Vars.map cI),.sl 1 (a0.Init.map cI),.sl 2 (a0.Goal.map cF),.sl 4 (a0.Ops.map Za0)]]⟩),(8,⟨38,2,true,[[.c (.int .i64 0),.c (.slice none 0 0)]]⟩)]) (λx=>Zbk a0 a1 x.1 x.2.1 x.2.2=some o2) (λx=>x.1) ((((a1.map cI).length:Int)).toNat+1,1,0) h ?_ ?_
   ·exact Zas
   ·intro x4 h;intro _;obtain⟨k32,m5,h⟩:=Zak (f:=λn=>Zbk a0 a1 n x4.2.1 x4.2.2) rfl h;replace h:Zbk a0 a1 (k32+1) x4.2.1 x4.2.2=some o2:=h;rw[Zbk]at h;refine aSR λ_=>dr (aSq (aCd λ_=>?_));refine spl h (λc6 h=>?_) (λc6 h=>?_)
    ·refine aSk (aSq (aBk (aSR λ_=>?_)));obtain⟨y33,w7,q8,h⟩:=Za9 h;refine Exists.intro (cI y33) (And.intro (Zad w7) λ_=>pr (dr (aSq (aSR λ_=>?_))));refine spf h (λc9 h=>?_) (λc9 h=>?_)
     ·intro _;refine spf h (λc10 h=>?_) (λc10 h=>?_)
      ·intro _;refine spl h (λc11 h=>?_) (λc11 h=>?_)
       ·intro _;obtain⟨y34,w12,q13,h⟩:=Za9 h;refine Exists.intro (cI y34) (And.intro (Zad w12) λ_=>pr (dr (aCd λ_=>?_)));refine spl h (λc14 h=>?_) (λc14 h=>?_)
        ·refine aSR λ_=>dr (aRt ?_);have j15:=sI_ h;subst j15;replace h:=(Za4 hK3);exact zz1
        ·refine aSk (aRg λ_=>?_);obtain⟨y35,w16,q17,h⟩:=Za9 h;refine Exists.intro (cI y35) (And.intro (Zad w16) λ_=>⟨_,Zaf2 rfl (bT3 rfl) rfl rfl,λ_=>pr (dr (aRg λ_=>dr ⟨(k32,(min (IntKind.i64.wrap (x4.2.1*y35)) 1125899906842624),(IntKind.i64.wrap (x4.2.2+1))),h,ltS m5,?_⟩))⟩);exact Zas
       ·intro _;refine dr (aCd λ_=>Znf (aSk (aRg λ_=>?_)));obtain⟨y36,w18,q19,h⟩:=Za9 h;refine Exists.intro (cI y36) (And.intro (Zad w18) λ_=>⟨_,Zaf2 rfl (bT3 rfl) rfl rfl,λ_=>pr (dr (aRg λ_=>dr ⟨(k32,(min (IntKind.i64.wrap (x4.2.1*y36)) 1125899906842624),(IntKind.i64.wrap (x4.2.2+1))),h,ltS m5,?_⟩))⟩);exact Zas
      ·intro _;refine dr (aCd λ_=>Zll (aSR λ_=>dr (aRt ?_)));have j20:=sI_ h;subst j20;replace h:=(Za4 hK3);exact zz1
     ·intro _;refine dr (aCd λ_=>Zll (aSR λ_=>dr (aRt ?_)));have j21:=sI_ h;subst j21;replace h:=(Za4 hK3);exact zz1
    ·refine aEx ⟨x4.2.1,(sI_ h).symm,?_⟩;exact Zas
  ·rintro v18 ho;have ho:=ho.symm;subst ho;intro _;replace h:=(Zcx hK3);refine aSq (aSR λ_=>dr (aCd λ_=>?_));refine spl h (λc22 h=>?_) (λc22 h=>?_)
   ·exact zz6
   ·refine aSk ?_;obtain⟨o23,h,hK24⟩:=Zae h;refine Zat (α:=Unit) (λ_=>mkS 119 [(1,.sl 1 (a1.map cI)),(2,.sl 1 (a2.map cI)),(3,.c (.int .i64 a3)),(4,.ptr 4 0 0 0),(8,.ptr 8 0 0 0)] [(4,⟨26,4,true,[[.sl 1 (a0.Vars.map cI),.sl 1 (a0.Init.map cI),.sl 2 (a0.Goal.map cF),.sl 4 (a0.Ops.map Za0)]]⟩),(8,⟨38,2,true,[[.c (.int .i64 0),.c (.slice none 0 0)]]⟩)]) (λv=>o23=(.inl v)) ?_ ?_
    ·refine aSR λ_=>?_;obtain⟨z42,u25,h⟩:=Zae h;refine cl rfl (Zpf a3 u25) λ_=>?_;refine spf h (λc26 h=>?_) (λc26 h=>?_)
     ·intro _;obtain⟨z43,u27,h⟩:=Zae h;refine clb [] rfl rfl (Zm1 a2 Ze7 (.clo (.func 25) [] []) (Fr.clo Zd2 FrE.h) ⟨_,_,_,rfl⟩ (λx0 y0 hx=>⟨25,[],_,rfl,Zrn x0 hx⟩) u27) ?_;intro _;refine dr (aCd λ_=>?_);refine spl h (λc28 h=>?_) (λc28 h=>?_)
      ·refine aSR λ_=>dr (aRt ?_);have j29:=sI_ h;subst j29;replace h:=(Za4 hK24);exact zz1
      ·exact zz10
     ·intro _;refine dr (aCd λ_=>Zll (aSR λ_=>dr (aRt ?_)));have j30:=sI_ h;subst j30;replace h:=(Za4 hK24);exact zz1
    ·rintro _ ho;have ho:=ho.symm;subst ho;intro _;replace h:=(Zcx hK24);refine aSR λ_=>dr (aSq (aSR λ_=>dr (aBk ?_)));refine Zaj (α:=Nat×Int×(List Zaw)) (λx=>mkS 119 [(1,.sl 1 (a1.map cI)),(3,.c (.int .i64 a3)),(4,.ptr 4 0 0 0),(8,.ptr 8 0 0 0),(14,.ptr 14 0 0 0),(80,.sl 1 (a2.map cI)),(81,.c (.int .i64 ((a2.map cI).length:Int))),(82,.c (.int .i64 x.2.1))] [(4,⟨26,4,true,[[.sl 1 (a0.Vars.map cI),.sl 1 (a0.Init.map cI),.sl 2 (a0.Goal.map cF),.sl 4 (a0.Ops.map Za0)]]⟩),(8,⟨38,2,true,[[.c (.int .i64 0),.c (.slice none 0 0)]]⟩),(14,⟨38,2,true,[[.c (.int .i64 a3),.own 115 0 0 x.2.2.length]]⟩),(115,⟨70,2,false,x.2.2.map cN⟩)]) (λx=>Zbl a0 a1 a2 a3 g x.1 x.2.1 x.2.2=some (r1,r2)) (λx=>x.1) ((((a2.map cI).length:Int)).toNat+1,0,[]) h ?_ ?_
     ·exact Zas
     ·intro x31 h;intro _;obtain⟨k56,m32,h⟩:=Zak (f:=λn=>Zbl a0 a1 a2 a3 g n x31.2.1 x31.2.2) rfl h;replace h:Zbl a0 a1 a2 a3 g (k56+1) x31.2.1 x31.2.2=some (r1,r2):=h;rw[Zbl]at h;refine aSR λ_=>dr (aSq (aCd λ_=>?_));refine spl h (λc33 h=>?_) (λc33 h=>?_)
      ·refine aSk (aSq (aBk (aSR λ_=>?_)));obtain⟨y57,w34,q35,h⟩:=Za9 h;refine Exists.intro (cI y57) (And.intro (Zad w34) λ_=>pr (dr ?_));obtain⟨o36,h,hK37⟩:=Zae h;refine Zat (α:=Unit) (λ_=>mkS 119 [(1,.sl 1 (a1.map cI)),(3,.c (.int .i64 a3)),(4,.ptr 4 0 0 0),(8,.ptr 8 0 0 0),(14,.ptr 14 0 0 0),(15,.c (.int .i64 x31.2.1)),(16,.c (.int .i64 y57)),(80,.sl 1 (a2.map cI)),(81,.c (.int .i64 ((a2.map cI).length:Int))),(82,.c (.int .i64 x31.2.1)),(95,.c (.int .i64 y57)),(96,.c (.bool (y57 == 1125899906842624)))] [(4,⟨26,4,true,[[.sl 1 (a0.Vars.map cI),.sl 1 (a0.Init.map cI),.sl 2 (a0.Goal.map cF),.sl 4 (a0.Ops.map Za0)]]⟩),(8,⟨38,2,true,[[.c (.int .i64 0),.c (.slice none 0 0)]]⟩),(14,⟨38,2,true,[[.c (.int .i64 a3),.own 115 0 0 x31.2.2.length]]⟩),(115,⟨70,2,false,x31.2.2.map cN⟩)]) (λv=>o36=(.inl v)) ?_ ?_
       ·refine aSR λ_=>?_;refine spl h (λc38 h=>?_) (λc38 h=>?_)
        ·intro _;refine spf h (λc39 h=>?_) (λc39 h=>?_)
         ·intro _;refine dr (aCd λ_=>?_);refine spl h (λc40 h=>?_) (λc40 h=>?_)
          ·refine aEx ?_;have j41:=sI_ h;subst j41;replace h:=(Za4 hK37);refine aRg λ_=>dr ⟨(k56,(IntKind.i64.wrap (x31.2.1+1)),x31.2.2),h,ltS m32,?_⟩;exact Zas
          ·exact zz10
         ·intro _;refine dr (aCd λ_=>Zll (aEx ?_));have j42:=sI_ h;subst j42;replace h:=(Za4 hK37);refine aRg λ_=>dr ⟨(k56,(IntKind.i64.wrap (x31.2.1+1)),x31.2.2),h,ltS m32,?_⟩;exact Zas
        ·intro _;refine dr (aCd λ_=>?_);refine spl h (λc43 h=>?_) (λc43 h=>?_)
         ·refine aEx ?_;have j44:=sI_ h;subst j44;replace h:=(Za4 hK37);refine aRg λ_=>dr ⟨(k56,(IntKind.i64.wrap (x31.2.1+1)),x31.2.2),h,ltS m32,?_⟩;exact Zas
         ·exact zz10
       ·rintro _ ho;have ho:=ho.symm;subst ho;intro _;replace h:=(Zcx hK37);refine aSq (aSR λ_=>dr (aCd λ_=>?_));refine spl h (λc45 h=>?_) (λc45 h=>?_)
        ·exact zz6
        ·refine aSk (aSq (aSR λ_=>dr (aCd λ_=>?_)));refine spl h (λc46 h=>?_) (λc46 h=>?_)
         ·refine aRg λ_=>dr (aRg λ_=>?_);obtain⟨z59,u47,h⟩:=Zae h;refine cl rfl (Zmf g a0 a1 x31.2.1 u47) λ_=>?_;obtain⟨q48,h⟩:=Zaf h;refine pl (pl ?_);refine And.intro (by first|with_reducible assumption|(show(x31.2.2.length+1)*32<=140737488355328;with_reducible assumption)|omega|(simp;omega)) ?_;refine pe (dr (aRg λ_=>dr ⟨(k56,(IntKind.i64.wrap (x31.2.1+1)),(x31.2.2++[(z59,0)])),h,ltS m32,?_⟩));exact Zas
         ·refine aSk (aRg λ_=>?_);obtain⟨z60,u49,h⟩:=Zae h;refine cl rfl (Zmf g a0 a1 x31.2.1 u49) λ_=>?_;obtain⟨q50,h⟩:=Zaf h;refine pl (pl ?_);refine And.intro (by first|with_reducible assumption|(show(x31.2.2.length+1)*32<=140737488355328;with_reducible assumption)|omega|(simp;omega)) ?_;refine pe (dr (aRg λ_=>dr ⟨(k56,(IntKind.i64.wrap (x31.2.1+1)),(x31.2.2++[(z60,y57)])),h,ltS m32,?_⟩));exact Zas
      ·refine aEx (aSR λ_=>dr (aRt ?_));obtain⟨q51,h⟩:=Zaf h;exact zz1
 ·exact zz7
def Ziu (_:List Int)(a1:Int->Option Bool)(_y8:Int)(v6:Int):Unit->(Unit->Option (Int))->Option (Int):=λ_ rc=>ixv _y8 (λy8=>ob1 (a1 y8) (λz9=>sel z9 (some v6) (rc ())))
def Zlv (_:List Int)(_:Int->Option Bool):Unit->Option (Int):=λ_=>some (-1)
theorem Zqv (a0:List Int)(a1:Int->Option Bool)  (hl:a0.length<9223372036854775807):Zcw a0 a1 (((a0.map cI).length:Int).toNat+1) 0=Rg (Ziu a0 a1) (Zlv a0 a1) a0 0 ():=Zdy (L:=λk i _=>Zcw a0 a1 k i) hl (λ_ _ _=>rfl) ()
def Zfk (a0:Zah)(a1:List Int)(_y33:Int)(v31:Int):((Int))->(((Int))->Option (Int⊕(Zab×Er)))->Option (Int⊕(Zab×Er)):=λv30 rc=>ixv _y33 (λy33=>sel (decide (y33<0)) (some (.inr ({ Bound:=0,Nogoods:=[]:Zab },(Er.no 2)))) (sel (decide (y33>=((a0.Vars.map cI).length:Int))) (some (.inr ({ Bound:=0,Nogoods:=[]:Zab },(Er.no 2)))) (sel (decide (v31>0)) (ix a1 (IntKind.i64.wrap (v31-1)) (λy34=>sel (decide (y34>=y33)) (some (.inr ({ Bound:=0,Nogoods:=[]:Zab },(Er.no 2)))) (ix a0.Vars y33 (λy35=>rc ((min (IntKind.i64.wrap (v30*y35)) 1125899906842624)))))) (ix a0.Vars y33 (λy36=>rc ((min (IntKind.i64.wrap (v30*y36)) 1125899906842624)))))))
def Zhl (_:Zah)(_:List Int):((Int))->Option (Int⊕(Zab×Er)):=λv30=>some (.inl v30)
theorem Zo0 (a0:Zah)(a1:List Int)(v30:Int)(hl:a1.length<9223372036854775807):Zbk a0 a1 (((a1.map cI).length:Int).toNat+1) v30 0=Rg (Zfk a0 a1) (Zhl a0 a1) a1 0 v30:=Zdy (L:=λk i v30=>Zbk a0 a1 k v30 i) hl (λ_ _ _=>rfl) v30
def Zhm (a0:Zah)(a1:List Int)(_:List Int)(a3:Int)(g:Nat)(_y57:Int)(v54:Int):((List Zaw))->(((List Zaw))->Option (Zab×Er))->Option (Zab×Er):=λv55 rc=>ixv _y57 (λy57=>ob1 (sel (decide (a3>=0)) (sel (decide (y57>=a3)) (some (.inr ())) (sel (y57 == 1125899906842624) (some (.inr ())) (some (.inl ())))) (sel (y57 == 1125899906842624) (some (.inr ())) (some (.inl ()))):Option (Unit⊕Unit)) (Zj9 (λ_=>sel (((v55.length:Nat):Int) == 4096) (some ({ Bound:=0,Nogoods:=[]:Zab },(Er.no 5))) (sel (decide (a3<0)) (ob1 (Zcq g a0 a1 v54) (λz59=>grd ((v55.length+1)*32<=140737488355328) (rc ((v55++[(z59,0)]))))) (ob1 (Zcq g a0 a1 v54) (λz60=>grd ((v55.length+1)*32<=140737488355328) (rc ((v55++[(z60,y57)]))))))) (λ_=>rc (v55))))
def Zhn (_:Zah)(_:List Int)(_:List Int)(a3:Int)(_:Nat):((List Zaw))->Option (Zab×Er):=λv55=>grd (v55.length<=140737488355328) (some ({ Bound:=a3,Nogoods:=v55:Zab },Er.nil))
theorem Zo1 (a0:Zah)(a1:List Int)(a2:List Int)(a3:Int)(g:Nat)(v55:List Zaw)(hl:a2.length<9223372036854775807):Zbl a0 a1 a2 a3 g (((a2.map cI).length:Int).toNat+1) 0 v55=Rg (Zhm a0 a1 a2 a3 g) (Zhn a0 a1 a2 a3 g) a2 0 v55:=Zdy (L:=λk i v55=>Zbl a0 a1 a2 a3 g k i v55) hl (λ_ _ _=>rfl) v55
end Go.Proofs.YtpfnmpdcneejbaaGreatDoor.Am
namespace Go.Proofs.YtpfnmpdcneejbaaGreatDoor.Am
open Go.RowKit
def Zyl (V:Nat):Int->List Int->Bool
 | _,[]=>true
 | last,y :: r=>decide (last<y)&&(decide (y<V)&&Zyl V y r)
def szs (v p:List Int):List Int:=p.map λy=>v.getD y.toNat 0
theorem Ztk (v:List Int)(y:Int)(r:List Int):szs v (y :: r)=v.getD y.toNat 0 :: szs v r:=rfl
def Prev (p:List Int)(n:Nat)(last:Int):Prop:=(n=0/\last=-1)\/∃m,n=m+1/\p[m]?=some last/\0<=last
theorem Zaus {m k:Nat}(hk:1<=k):min (min (m:Int) 1125899906842624*(k:Int)) 1125899906842624=min ((m*k:Nat):Int) 1125899906842624:=by
 rw[Int.natCast_mul]
 by_cases h:(m:Int)<=1125899906842624
 ·rw[Int.min_eq_left h]
 ·rw[Int.min_eq_right (by omega:(1125899906842624:Int)<=m)]
  have h1:(1125899906842624:Int)*1<=1125899906842624*(k:Int):=Int.mul_le_mul_of_nonneg_left (by omega) (by decide)
  have h2:(1125899906842624:Int)*(k:Int)<=(m:Int)*(k:Int):=Int.mul_le_mul_of_nonneg_right (by omega) (by omega)
  omega
section
variable {t : Zah} {p : List Int} (hk : ∀k ∈ t.Vars, 1 <= k /\ k <= 64)
theorem Zvs {l:List Int}{i:Int}(h0:0<=i)(h1:i<l.length):l.getD i.toNat 0∈l:=by
 have h:i.toNat<l.length:=by omega
 rw[gD_,gE_ h]
 exact List.getElem_mem h
include hk in
theorem Zako : ∀(r:List Int)(n m:Nat)(last:Int),p.drop n=r->n<=200->Prev p n last->n+r.length<=200->Rg (Zfk t p) (Zhl t p) r n (min (m:Int) 1125899906842624) =
  some (if Zyl t.Vars.length last r=true then .inl (min ((m*Zb6 (szs t.Vars r):Nat):Int) 1125899906842624)else .inr ({ Bound:=0,Nogoods:=[] },.no 2))
 | [],n,m,last,_,_,_,_=>by rw[Rg,Zyl,if_pos rfl,szs,List.map_nil,Zb6,Nat.mul_one];rfl
 | y :: r,n,m,last,hd,hn,hp,hl=>by
  obtain⟨hy,hd',hlt⟩:=Zc5 hd
  rw[lC_]at hl
  rw[Rg,Zfk,ixv,Zar,Zar,lM_,Zyl]
  have hlast:-1<=last:=by rcases hp with⟨_,rfl⟩|⟨_,_,_,h⟩ <;> omega
  by_cases h0:y<0
  ·rw[if_pos h0,decide_eq_false (by omega:¬ last<y)];rfl
  ·rw[if_neg h0]
   by_cases h1:y>=(t.Vars.length:Int)
   ·rw[if_pos h1,decide_eq_false (by omega:¬ y<(t.Vars.length:Int)),Bool.false_and,Bool.and_false];rfl
   ·rw[if_neg h1,decide_eq_true (by omega:y<(t.Vars.length:Int)),Bool.true_and]
    have hk':=hk _ (Zvs (l:=t.Vars) (i:=y) (by omega) (by omega))
    obtain⟨k,hkk⟩:∃k:Nat,t.Vars.getD y.toNat 0=k:=⟨(t.Vars.getD y.toNat 0).toNat,by omega⟩
    have hstep:ix t.Vars y (λy36=>Rg (Zfk t p) (Zhl t p) r ((n:Int)+1) (min (IntKind.i64.wrap (min (m:Int) 1125899906842624*y36)) 1125899906842624)) =
      some (if Zyl t.Vars.length y r=true then .inl (min ((m*Zb6 (szs t.Vars (y :: r)):Nat):Int) 1125899906842624)else .inr ({ Bound:=0,Nogoods:=[] },.no 2)):=by
     rw[Zlh (d:=0) (by omega) (by omega),hkk]
     have hb:min (m:Int) 1125899906842624*(k:Int)<=1125899906842624*64:=Int.mul_le_mul (by omega) (by omega) (by omega) (by decide)
     have hb0:0<=min (m:Int) 1125899906842624*(k:Int):=Int.mul_nonneg (by omega) (by omega)
     rw[w64 (by omega) (by omega),Zaus (by omega)]
     have:=Zako r (n+1) (m*k) y hd' (by omega) (.inr ⟨n,rfl,hy,by omega⟩) (by omega)
     rw[show((n+1:Nat):Int)=(n:Int)+1 from rfl]at this
     rw[this,Ztk,Zb6,hkk,Int.toNat_natCast,Nat.mul_assoc]
    rw[Zar]
    rcases hp with⟨h3,h4⟩|⟨i,h3,h4,h5⟩
    ·rw[if_neg (by omega),hstep,decide_eq_true (by omega:last<y),Bool.true_and]
    ·rw[if_pos (by omega),w64 (by omega) (by omega),show(n:Int)-1=((i:Nat):Int)from by omega,Zfv h4,Zar]
     by_cases h6:last>=y
     ·rw[if_pos h6,decide_eq_false (by omega:¬ last<y)];rfl
     ·rw[if_neg h6,hstep,decide_eq_true (by omega:last<y),Bool.true_and]
end
theorem Zac3 {V:Nat}:∀{p:List Int}{last:Int},-1<=last->Zyl V last p=true->∀y∈p,0<=y/\y<V
 | [],_,_,_,y,hy=>by cases hy
 | x :: r,last,h0,h,y,hy=>by
  rw[Zyl,bA_,bA_,decide_eq_true_iff,decide_eq_true_iff]at h
  rcases List.mem_cons.1 hy with rfl|hy
  ·omega
  ·exact Zac3 (by omega) h.2.2 y hy
theorem Zajg {V:Nat}:∀{p:List Int}{last:Int},-1<=last->last<V->Zyl V last p=true->(p.length:Int)<=V-1-last
 | [],last,h0,h1,_=>by rw[List.length_nil];omega
 | x :: r,last,h0,h1,h=>by
  rw[Zyl,bA_,bA_,decide_eq_true_iff,decide_eq_true_iff]at h
  have:=Zajg (by omega) h.2.1 h.2.2
  rw[lC_]
  omega
def Zzw (v:List Int):List Int->Nat->List Zaa
 | [],_=>[]
 | y :: r,n=>(y,((n % (v.getD y.toNat 0).toNat:Nat):Int)) :: Zzw v r (n / (v.getD y.toNat 0).toNat)
def Ztq (v p:List Int)(n:Nat):List Zaa:=(Zzw v p.reverse n).reverse
theorem Zae4 {t:Zah}{p:List Int}(hk:∀k∈t.Vars,1<=k/\k<=64)(hp:∀y∈p,0<=y/\y<t.Vars.length)(hpl:p.length<=64):∀(j fuel n:Nat)(out:List Zaa),j<=p.length->out.length=p.length->j<fuel->n<=1000000 ->
  Zbj t p fuel (n:Int) ((j:Int)-1) out=some (Ztq t.Vars (p.take j) n++out.drop j)
 | j,0,n,out,_,_,h,_=>absurd h (Nat.not_lt_zero _)
 | 0,f+1,n,out,_,hl,_,_=>by
  rw[Zbj,Zar,if_neg (by omega),Zan (by omega)]
  rfl
 | j+1,f+1,n,out,hj,hl,hf,hn=>by
  have hy:p[j]?=some p[j]:=gE_ (by omega)
  obtain⟨y,hye⟩:∃y,p[j]=y:=⟨_,rfl⟩
  rw[hye]at hy
  obtain⟨y0,y1⟩:=hp y (mG_ hy)
  have hkk:=hk _ (Zvs y0 y1)
  obtain⟨k,hke⟩:∃k:Nat,t.Vars.getD y.toNat 0=k:=⟨(t.Vars.getD y.toNat 0).toNat,by omega⟩
  have ho:out[j]?=some out[j]:=gE_ (by omega)
  have hmod:(n:Int).tmod (k:Int)=((n % k:Nat):Int):=by rw[Int.tmod_eq_emod_of_nonneg (by omega)];rfl
  have hdiv:(n:Int).tdiv (k:Int)=((n / k:Nat):Int):=by rw[Int.tdiv_eq_ediv_of_nonneg (by omega)];rfl
  have hle:n / k<=n:=Nat.div_le_self _ _
  have w1:IntKind.i64.wrap ((n / k:Nat):Int)=((n / k:Nat):Int):=by
   generalize n / k=q at hle
   exact w64 (by omega) (by omega)
  rw[Zbj,Zar,if_pos (by omega),show((j+1:Nat):Int)-1=((j:Nat):Int)from by omega,Zfv hy,Zlh (d:=0) y0 y1,Zfv hy,Int.toNat_natCast,Zdp ho,hke,Zan (by omega),Zan (by omega),hmod,hdiv,w1,w64 (by omega) (by omega),
   Zae4 hk hp hpl j f (n / k) _ (by omega) (by rw[List.length_set];exact hl) (by omega) (Nat.le_trans hle hn)]
  congr 1
  have h1:(out.set j (y,((n % k:Nat):Int))).drop j=(y,((n % k:Nat):Int)) :: out.drop (j+1):=by
   rw[List.drop_eq_getElem_cons (by rw[List.length_set];omega),List.getElem_set_self,List.drop_set_of_lt (by omega)]
  rw[h1,Ztq,Ztq,List.take_add_one,hy,Option.toList_some,List.reverse_append,List.reverse_singleton,List.singleton_append,Zzw,hke,Int.toNat_natCast,List.reverse_cons,List.append_assoc,List.singleton_append]
theorem Zat3 {g:Nat}(hg:100<=g){t:Zah}{p:List Int}(hk:∀k∈t.Vars,1<=k/\k<=64)(hp:∀y∈p,0<=y/\y<t.Vars.length)(hpl:p.length<=64)(n:Nat)(hn:n<=1000000):Zcq g t p n=some (Ztq t.Vars p n):=by
 have:=Zae4 hk hp hpl p.length g n (List.replicate p.length (0,0)) (Nat.le_refl _) (by simp) (by omega) hn
 rw[List.take_length,List.drop_of_length_le (by simp),List.append_nil]at this
 rw[Zcq,lM_,Zan (by omega),Zan (by omega),w64 (by omega) (by omega),Int.toNat_natCast]
 exact this
theorem Zavd (v a b:List Int):szs v (a++b)=szs v a++szs v b:=List.map_append
def Zyo (b y:Int):Bool:=(decide (b>=0)&&decide (y>=b))||(y == 1125899906842624)
def tabL (v p:List Int)(b:Int):List Int->Nat->List Zaw
 | [],_=>[]
 | y :: r,n=>if Zyo b y=true then tabL v p b r (n+1)else(Ztq v p n,if b<0 then 0 else y) :: tabL v p b r (n+1)
theorem Zak3 (v p:List Int)(b:Int):∀(r:List Int)(n:Nat),(tabL v p b r n).length<=r.length
 | [],_=>Nat.le_refl _
 | y :: r,n=>by
  have:=Zak3 v p b r (n+1)
  rw[tabL]
  split
  ·rw[lC_];omega
  ·rw[lC_,lC_];omega
theorem Zak4 {g:Nat}(hg:100<=g){t:Zah}{p vals:List Int}{b:Int}(hk:∀k∈t.Vars,1<=k/\k<=64)(hp:∀y∈p,0<=y/\y<t.Vars.length)(hpl:p.length<=64):∀(r:List Int)(n:Nat)(v:List Zaw),n+r.length<=600->v.length<=n ->
  Rg (Zhm t p vals b g) (Zhn t p vals b g) r n v=some ({ Bound:=b,Nogoods:=v++tabL t.Vars p b r n },.nil)
 | [],n,v,h,hv=>by
  rw[Rg,Zhn,Zan (by omega),tabL,List.append_nil]
 | y :: r,n,v,h,hv=>by
  rw[lC_]at h
  have ih:=λ(w:List Zaw) (hw:w.length<=n+1)=>Zak4 (vals:=vals) (b:=b) hg hk hp hpl r (n+1) w (by omega) hw
  rw[show((n+1:Nat):Int)=(n:Int)+1 from rfl]at ih
  have hsk:(sel (decide (b>=0)) (sel (decide (y>=b)) (some (.inr ())) (sel (y == 1125899906842624) (some (.inr ())) (some (.inl ())))) (sel (y == 1125899906842624) (some (.inr ())) (some (.inl ()))):Option (Unit⊕Unit))=some (if Zyo b y=true then .inr ()else .inl ()):=by
   unfold Zyo
   cases decide (b>=0) <;> cases decide (y>=b) <;> cases (y == 1125899906842624) <;> rfl
  rw[Rg,Zhm,ixv,hsk,Zac,tabL]
  by_cases hs:Zyo b y=true
  ·rw[if_pos hs,if_pos hs,Ziz,ih v (by omega)]
  ·rw[if_neg hs,if_neg hs,Zbv,show(((v.length:Nat):Int) == 4096)=false from by rw[beq_eq_false_iff_ne];omega,Zbb,Zar,Zat3 hg hk hp hpl n (by omega),Zac,Zac,Zan (by omega)]
   by_cases hb:b<0
   ·rw[if_pos hb,if_pos hb,ih _ (by simp;omega),List.append_assoc];rfl
   ·rw[if_neg hb,if_neg hb,Zan (by omega),ih _ (by simp;omega),List.append_assoc];rfl
def badV (n:Int):Bool:=decide (n<0)||decide (n>1125899906842624)
theorem Zae9 {l:List Int}{f:Int->Option Bool}{q:Int->Bool}(hl:Sh l)(h:∀y,f y=some (q y)):Zdg l f=some (l.any q):=by
 have key:∀(r:List Int) (n:Nat),∃z,Rg (Ziu l f) (Zlv l f) r n ()=some z/\(0<=z↔r.any q=true):=by
  intro r
  induction r with
  | nil=>intro n;exact⟨-1,rfl,by simp⟩
  | cons y r ih =>
   intro n
   rw[Rg]
   simp only[Ziu,ixv,h y,Zac]
   cases hp:q y
   ·obtain⟨z,h1,h2⟩:=ih (n+1)
    exact⟨z,h1,by rw[h2,List.any_cons,hp,Bool.false_or]⟩
   ·exact⟨n,rfl,by simp[hp]⟩
 obtain⟨z,h1,h2⟩:=key l 0
 rw[Zdg,Zju,Zqv _ _ hl.lt]
 rw[show((0:Nat):Int)=0 from rfl]at h1
 rw[h1,Zac]
 congr 1
 rw[Bool.eq_iff_iff,decide_eq_true_iff,ge_iff_le,h2]
theorem Zalk (b:Int):Zf5 b=some (decide (-1<=b/\b<=1099511627776)):=by
 rw[Zf5,Zar]
 by_cases h:b>=-1
 ·rw[if_pos h];congr 1;rw[decide_eq_decide];omega
 ·rw[if_neg h,decide_eq_false (by omega)]
theorem Zahf {t:Zah}(h:Zty t=.nil):t.Vars.length<=64/\∀k∈t.Vars,1<=k/\k<=64:=by
 unfold Zty at h
 split at h
 ·cases h
 ·rename_i hl
  split at h
  ·rename_i hv
   rw[List.all_eq_true]at hv
   exact⟨(Zadx (Bool.eq_false_iff.2 hl)).1,λk hk=>of_decide_eq_true (hv k hk)⟩
  ·cases h
def pfF (v s:List Int):List Int->Int->Int
 | [],a=>a
 | y :: r,a=>pfF v s r (a*v.getD y.toNat 0+s.getD y.toNat 0)
theorem Zady (v s:List Int)(y:Int):∀(r:List Int)(a:Int),pfF v s (r++[y]) a=pfF v s r a*v.getD y.toNat 0+s.getD y.toNat 0
 | [],_=>rfl
 | x :: r,a=>by simp only[List.cons_append,pfF,Zady v s y r]
def InS (v s p:List Int):Prop:=∀y∈p,0<=s.getD y.toNat 0/\s.getD y.toNat 0<v.getD y.toNat 0
theorem InS.tail {v s:List Int}{y:Int}{r:List Int}(h:InS v s (y :: r)):InS v s r:=λu hu=>h u (mC_ _ hu)
theorem Zop {v s:List Int}:∀(r:List Int)(a:Int),InS v s r->0<=a->0<=pfF v s r a/\pfF v s r a+1<=(a+1)*((Zb6 (szs v r):Nat):Int)
 | [],a,_,h=>by
  show 0<=a/\a+1<=(a+1)*((1:Nat):Int)
  omega
 | y :: r,a,h,ha=>by
  obtain⟨h0,h1⟩:=h y (mS_ ..)
  obtain⟨k,hk⟩:∃k:Nat,v.getD y.toNat 0=k:=⟨(v.getD y.toNat 0).toNat,by omega⟩
  have hak:0<=a*(k:Int):=Int.mul_nonneg ha (by omega)
  have hb:(a+1)*(k:Int)=a*(k:Int)+k:=by rw[Int.add_mul,Int.one_mul]
  rw[pfF,Ztk,Zb6,hk,Int.toNat_natCast,Int.natCast_mul,<-Int.mul_assoc]
  rw[hk]at h1
  obtain⟨g0,g1⟩:=Zop r (a*(k:Int)+s.getD y.toNat 0) h.tail (by omega)
  exact⟨g0,Int.le_trans g1 (Int.mul_le_mul_of_nonneg_right (by omega) (Int.natCast_nonneg _))⟩
theorem Zajn {v s:List Int}:∀(q:List Int),InS v s q->Zzw v q (pfF v s q.reverse 0).toNat=q.map λy=>(y,s.getD y.toNat 0)
 | [],_=>rfl
 | y :: q,h=>by
  obtain⟨h0,h1⟩:=h y (mS_ ..)
  obtain⟨k,hk⟩:∃k:Nat,v.getD y.toNat 0=k:=⟨(v.getD y.toNat 0).toNat,by omega⟩
  have hb:=(Zop q.reverse 0 (λu hu=>h.tail u (List.mem_reverse.1 hu)) (Int.le_refl 0)).1
  obtain⟨P,hP⟩:∃P:Nat,pfF v s q.reverse 0=P:=⟨(pfF v s q.reverse 0).toNat,by omega⟩
  obtain⟨x,hx⟩:∃x:Nat,s.getD y.toNat 0=x:=⟨(s.getD y.toNat 0).toNat,by omega⟩
  have e:(pfF v s (y :: q).reverse 0).toNat=k*P+x:=by
   rw[List.reverse_cons,Zady,hP,hk,hx,<-Int.natCast_mul,<-Int.natCast_add,Int.toNat_natCast,Nat.mul_comm]
  have ih:=Zajn q h.tail
  rw[hP,Int.toNat_natCast]at ih
  rw[hk,hx]at h1
  rw[Zzw,e,hk,Int.toNat_natCast,List.map_cons,hx,Nat.mul_add_mod,Nat.mod_eq_of_lt (by omega),Nat.mul_add_div (by omega),Nat.div_eq_of_lt (by omega),Nat.add_zero,ih]
theorem Zaqy {v s p:List Int}(h:InS v s p):Ztq v p (pfF v s p 0).toNat=p.map λy=>(y,s.getD y.toNat 0):=by
 have:=Zajn p.reverse (λu hu=>h u (List.mem_reverse.1 hu))
 rw[List.reverse_reverse]at this
 rw[Ztq,this,List.map_reverse,List.reverse_reverse]
theorem Zagc : ∀(a b:List Int),Zb6 (a++b)=Zb6 a*Zb6 b
 | [],b=>by rw[List.nil_append,Zb6,Nat.one_mul]
 | k :: a,b=>by rw[List.cons_append,Zb6,Zb6,Zagc a b,Nat.mul_assoc]
theorem Zakp {v s:List Int}:∀(q:List Int)(n:Nat),(∀y∈q,1<=v.getD y.toNat 0)->n<Zb6 (szs v q.reverse)->(∀f∈Zzw v q n,s.getD f.1.toNat 0=f.2)->pfF v s q.reverse 0=n
 | [],n,_,hn,_=>by
  have:n<1:=hn
  show(0:Int)=n
  omega
 | y :: q,n,hk1,hn,h=>by
  have hky:=hk1 y (mS_ ..)
  obtain⟨k,hk⟩:∃k:Nat,v.getD y.toNat 0=k:=⟨(v.getD y.toNat 0).toNat,by omega⟩
  have hx:=h _ (mS_ ..)
  have hp1:Zb6 (szs v [y])=k:=by
   show(v.getD y.toNat 0).toNat*1=k
   omega
  rw[List.reverse_cons,Zavd,Zagc,hp1,Nat.mul_comm]at hn
  have ih:=Zakp q (n / k) (λu hu=>hk1 u (mC_ _ hu)) (Nat.div_lt_of_lt_mul hn) (λf hf=>h f (by rw[Zzw,hk,Int.toNat_natCast];exact mC_ _ hf))
  simp only[hk,Int.toNat_natCast]at hx
  rw[List.reverse_cons,Zady,ih,hk,hx,<-Int.natCast_mul,<-Int.natCast_add,Nat.div_add_mod']
theorem Zae3 {v:List Int}:∀(q:List Int)(n:Nat),(∀y∈q,1<=v.getD y.toNat 0)->∀f∈Zzw v q n,f.1∈q/\0<=f.2/\f.2<v.getD f.1.toNat 0
 | [],_,_,f,hf=>by cases hf
 | y :: q,n,hk,f,hf=>by
  rw[Zzw]at hf
  rcases List.mem_cons.1 hf with rfl|hf
  ·have:=hk y (mS_ ..)
   have hm:n % (v.getD y.toNat 0).toNat<(v.getD y.toNat 0).toNat:=Nat.mod_lt _ (by omega)
   refine⟨mS_ ..,Int.natCast_nonneg _,?_⟩
   show((n % (v.getD y.toNat 0).toNat:Nat):Int)<v.getD y.toNat 0
   omega
  ·obtain⟨h1,h2⟩:=Zae3 q _ (λu hu=>hk u (mC_ _ hu)) f hf
   exact⟨mC_ _ h1,h2⟩
theorem Zae2 (v:List Int):∀(q:List Int)(n:Nat),(Zzw v q n).map (·.1)=q
 | [],_=>rfl
 | y :: q,n=>by rw[Zzw,List.map_cons,Zae2 v q]
theorem Zanw (v p:List Int)(n:Nat):(Ztq v p n).map (·.1)=p:=by rw[Ztq,List.map_reverse,Zae2,List.reverse_reverse]
theorem Zakt {v:List Int}:∀(l:List Zaa)(last:Int),Zyl v.length last (l.map (·.1))=true->(∀f∈l,0<=f.2/\f.2<v.getD f.1.toNat 0)->Zbi v last l=true
 | [],_,_,_=>rfl
 | f :: l,last,h,hr=>by
  rw[List.map_cons,Zyl,bA_,bA_,decide_eq_true_iff,decide_eq_true_iff]at h
  obtain⟨h0,h1⟩:=hr f (mS_ ..)
  rw[Zbi,bA_,decide_eq_true_iff]
  exact⟨⟨h.1,h.2.1,h0,h1⟩,Zakt l f.1 h.2.2 λu hu=>hr u (mC_ _ hu)⟩
structure Pat (v p:List Int):Prop where
 asc:Zyl v.length (-1) p=true
 four:p.length<=4
 dom:∀k∈v,2<=k/\k<=4
section
variable {v p : List Int} (hp : Pat v p)
include hp
theorem Pat.mem {y:Int}(hy:y∈p):0<=y/\y<v.length:=Zac3 (by omega) hp.asc y hy
theorem Pat.get {y:Int}(hy:y∈p):2<=v.getD y.toNat 0/\v.getD y.toNat 0<=4:=hp.dom _ (Zvs (hp.mem hy).1 (hp.mem hy).2)
theorem Pat.prop (n:Nat):Zbi v (-1) (Ztq v p n)=true:=by
 refine Zakt _ _ (by rw[Zanw];exact hp.asc) λf hf=>?_
 exact(Zae3 p.reverse n (λy hy=>by have:=hp.get (List.mem_reverse.1 hy);omega) f (List.mem_reverse.1 hf)).2
theorem Pat.ins {s:List Int}(hs:Za6 v s=true):InS v s p:=λy hy=>by
 obtain⟨h0,h1⟩:=hp.mem hy
 exact(Zcs hs).rng y.toNat (by omega)
theorem Pat.holds {s:List Int}(hs:Za6 v s=true){n:Nat}(hn:n<Zb6 (szs v p)):Zay s (Ztq v p n)=true↔pfF v s p 0=n:=by
 have hl:=(Zcs hs).len
 constructor
 ·intro h
  have:=Zakp (v:=v) (s:=s) p.reverse n (λy hy=>by have:=hp.get (List.mem_reverse.1 hy);omega) (by rw[List.reverse_reverse];exact hn) (λf hf=>(Zes.1 (Za7.1 h f (by rw[Ztq];exact List.mem_reverse.2 hf))).2.2)
  rw[List.reverse_reverse]at this
  exact this
 ·intro h
  have hc:=Zaqy (hp.ins hs)
  rw[h,Int.toNat_natCast]at hc
  rw[hc,Za7]
  intro f hf
  obtain⟨y,hy,rfl⟩:=List.mem_map.1 hf
  obtain⟨h0,h1⟩:=hp.mem hy
  exact Zes.2 ⟨h0,by show y<s.length;omega,rfl⟩
theorem Pat.pf {s:List Int}(hs:Za6 v s=true):∃k:Nat,pfF v s p 0=k/\k<Zb6 (szs v p):=by
 obtain⟨h0,h1⟩:=Zop p 0 (hp.ins hs) (Int.le_refl 0)
 exact⟨(pfF v s p 0).toNat,by omega,by omega⟩
theorem Pat.sz {k:Int}(hk:k∈szs v p):2<=k/\k<=4:=by
 obtain⟨y,hy,rfl⟩:=List.mem_map.1 hk
 exact hp.get hy
end
theorem Zagd : ∀{a b:List Int},a.Sublist b->(∀k∈b,1<=k)->Zb6 a<=Zb6 b:=by
 intro a b h
 induction h with
 | slnil=>intro _;exact Nat.le_refl _
 | cons k h ih =>
  intro hk
  have h1:=hk k (mS_ ..)
  rw[Zb6]
  exact Nat.le_trans (ih λu hu=>hk u (mC_ _ hu)) (Nat.le_mul_of_pos_left _ (by omega))
 | cons_cons k h ih =>
  intro hk
  rw[Zb6,Zb6]
  exact Nat.mul_le_mul_left _ (ih λu hu=>hk u (mC_ _ hu))
theorem Zaiz (v:List Int):∀(p:List Int)(last:Int),-1<=last->Zyl v.length last p=true->(szs v p).Sublist (v.drop (last+1).toNat)
 | [],_,_,_=>List.nil_sublist _
 | y :: r,last,hl,h=>by
  rw[Zyl,bA_,bA_,decide_eq_true_iff,decide_eq_true_iff]at h
  have ih:=Zaiz v r y (by omega) h.2.2
  have hy:y.toNat<v.length:=by omega
  have e:v.drop y.toNat=v.getD y.toNat 0 :: v.drop (y+1).toNat:=by
   rw[List.drop_eq_getElem_cons hy,gD_,gE_ hy,Option.getD_some,show(y+1).toNat=y.toNat+1 from by omega]
  have h1:(szs v (y :: r)).Sublist (v.drop y.toNat):=by rw[e,Ztk];exact ih.cons_cons _
  refine h1.trans ?_
  rw[show y.toNat=(last+1).toNat+(y.toNat-(last+1).toNat)from by omega,<-List.drop_drop]
  exact List.drop_sublist _ _
theorem Pat.few {v p:List Int}(hp:Pat v p):Zb6 (szs v p)<=Zb6 v:=by
 have:=Zaiz v p (-1) (by omega) hp.asc
 exact Zagd this (λk hk=>by have:=hp.dom k hk;omega)
structure TG (t:Zah)(p d:List Int):Prop where
 len:d.length=Zb6 (szs t.Vars p)
 rng:∀x∈d,0<=x/\x<=Zka
 goal:∀s,Za6 t.Vars s=true->Zay s t.Goal=true->d[(pfF t.Vars s p 0).toNat]?=some 0
 bnd:∀x∈d,x≠Zka->x<=1048576*(finN d:Int)
structure TFix (t:Zah)(p d:List Int):Prop where
 g:TG t p d
 step:∀(s:List Int) (o:GOp) (x y:Int),Za6 t.Vars s=true->o∈t.Ops->Zay s o.Pre=true->d[(pfF t.Vars (Zp8 s o) p 0).toNat]?=some x->d[(pfF t.Vars s p 0).toNat]?=some y->x<Zka->y<=x+o.Cost
theorem Zaku {vars:List Int}(hl:vars.length<=64)(hd:∀n∈vars,n<=64):∀{p:List Zaa}{last:Int},Zbi vars last p=true->limF p=true
 | [],_,_=>rfl
 | y :: r,last,h=>by
  rw[Zbi,bA_,decide_eq_true_iff]at h
  rw[limF,List.all_cons,bA_,decide_eq_true_iff]
  have hi:=Zaku hl hd h.2
  refine⟨⟨by omega,?_⟩,hi⟩
  have hlt:y.1.toNat<vars.length:=by
   refine Nat.lt_of_not_le λhge=>?_
   have:vars.getD y.1.toNat 0=0:=by rw[gD_,List.getElem?_eq_none hge];rfl
   omega
  have hm:vars.getD y.1.toNat 0∈vars:=by
   rw[gD_,gE_ hlt]
   exact List.getElem_mem hlt
  have:=hd _ hm
  omega
theorem Zy1 (v p:List Int)(b:Int):∀(r:List Int)(m:Nat)(n:Zaw),n∈tabL v p b r m↔∃(j:Nat)(y:Int),r[j]?=some y/\Zyo b y=false/\n=(Ztq v p (m+j),if b<0 then 0 else y)
 | [],m,n=>by
  rw[tabL]
  constructor
  ·intro h;cases h
  ·rintro⟨j,y,h,-⟩;simp at h
 | x :: r,m,n=>by
  have ih:=Zy1 v p b r (m+1) n
  have tail:(∃(j:Nat) (y:Int),r[j]?=some y/\Zyo b y=false/\n=(Ztq v p (m+1+j),if b<0 then 0 else y))->∃(j:Nat) (y:Int),(x :: r)[j]?=some y/\Zyo b y=false/\n=(Ztq v p (m+j),if b<0 then 0 else y):=by
   rintro⟨j,y,h1,h2,h3⟩
   exact⟨j+1,y,by rw[List.getElem?_cons_succ];exact h1,h2,by rw[h3,show m+1+j=m+(j+1)from by omega]⟩
  rw[tabL]
  constructor
  ·intro h
   split at h
   ·exact tail (ih.1 h)
   ·rename_i hs
    rcases List.mem_cons.1 h with rfl|h
    ·exact⟨0,x,rfl,Bool.eq_false_iff.2 hs,rfl⟩
    ·exact tail (ih.1 h)
  ·rintro⟨j,y,h1,h2,h3⟩
   cases j with
   | zero =>
    simp only[List.getElem?_cons_zero,Option.some.injEq]at h1
    subst h1
    rw[h2,if_neg (by decide),h3,Nat.add_zero]
    exact mS_ ..
   | succ j =>
    rw[List.getElem?_cons_succ]at h1
    have hm:=ih.2 ⟨j,y,h1,h2,by rw[h3,show m+1+j=m+(j+1)from by omega]⟩
    split
    ·exact hm
    ·exact mC_ _ hm
theorem Zavf {g:Nat}(hg:100<=g)(t:Zah)(ht:ShT t)(hck:Zty t=.nil){p vals:List Int}(hp:Pat t.Vars p)(hP:Zb6 (szs t.Vars p)=vals.length)(hv:vals.length<=600){b:Int}(hb:-1<=b/\b<=1099511627776)(hr:∀x∈vals,0<=x/\x<=Zka) :
  Zev g t p vals b=some ({ Bound:=b,Nogoods:=tabL t.Vars p b vals 0 },.nil):=by
 have h4:=hp.four
 have hvs:=Zahf hck
 have hq:=Zako (p:=p) hvs.2 p 0 1 (-1) (List.drop_zero ..) (by omega) (.inl ⟨rfl,rfl⟩) (by omega)
 rw[show((0:Nat):Int)=0 from rfl]at hq
 rw[show(min ((1:Nat):Int) 1125899906842624)=1 from rfl,Nat.one_mul]at hq
 rw[Zev,Zvo t ht,hck,Zac]
 show ob1 (Zbk t p ((((p.map cI).length:Int)).toNat+1) 1 0) _=_
 rw[Zo0 t p 1 (by omega),hq,Zac,if_pos hp.asc,Zbv,lM_,hP,show(min ((vals.length:Nat):Int) 1125899906842624 != ((vals.length:Nat):Int))=false from by rw[bne_eq_false_iff_eq];omega,Zbb,Zalk,Zac,decide_eq_true hb]
 have hany:vals.any badV=false:=by
  rw[Bool.eq_false_iff]
  intro h
  obtain⟨x,hx,h2⟩:=List.any_eq_true.1 h
  have:=hr x hx
  unfold Zka at this
  unfold badV at h2
  rw[Bool.or_eq_true,decide_eq_true_iff,decide_eq_true_iff]at h2
  omega
 rw[Zae9 (q:=badV) (by unfold Sh;omega) (λy=>by rw[Ze7,Zar,badV];by_cases h:y<0 <;> simp[h]),hany]
 have htab:=Zak4 (vals:=vals) (b:=b) hg hvs.2 (λy hy=>hp.mem hy) (by omega) vals 0 [] (by omega) (by simp)
 rw[show((0:Nat):Int)=0 from rfl,List.nil_append]at htab
 have e2:=Zo1 t p vals b g [] (by omega)
 rw[lM_]at e2
 rw[Bool.not_true,Zbb,Zac,Zbb,Zac,Zbv,e2]
 exact htab
theorem Zw3 {t:Zah}(h:Ze5 t=true):Za6 t.Vars t.Init=true:=by
 unfold Ze5 at h
 simp only[bA_]at h
 exact h.2.2.1
section
variable {t : Zah} (hf : Fit t) {p d : List Int} (hp : Pat t.Vars p) (hd : TFix t p d)
include hf hp hd
theorem Zap2 {b:Int}(hb:b=-1\/(0<=b/\b<=1099511627776)):Zwd t.Vars { Bound:=b,Nogoods:=tabL t.Vars p b d 0 }:=by
 have hv:t.Vars.length<=64:=by have:=hf.cap.len;omega
 have hl:=Zak3 t.Vars p b d 0
 have hfew:=hp.few
 have h81:=hf.prod
 have hlen:=hd.g.len
 have hmem:=λn (hn:n∈tabL t.Vars p b d 0)=>(Zy1 t.Vars p b d 0 n).1 hn
 refine⟨by show -1<=b;omega,by show b<=_;omega,by show(tabL t.Vars p b d 0).length<=4096;omega,λn hn=>?_,λn hn=>?_,λn hn=>?_,λn hn hb0=>?_,λn hn hb0=>?_⟩
 ·obtain⟨j,y,-,-,rfl⟩:=hmem n hn
  exact hp.prop _
 ·obtain⟨j,y,-,-,rfl⟩:=hmem n hn
  rw[frmF,Zji (hp.prop _),Bool.true_and]
  exact Zaku hv hf.cap.dom (hp.prop _)
 ·obtain⟨j,y,h1,-,rfl⟩:=hmem n hn
  have:=(hd.g.rng y (mG_ h1)).1
  show 0<=if b<0 then 0 else y
  split <;> omega
 ·obtain⟨j,y,h1,h2,rfl⟩:=hmem n hn
  have hb0':0<=b:=hb0
  unfold Zyo at h2
  rw[Bool.or_eq_false_iff,Bool.and_eq_false_iff,decide_eq_false_iff_not,decide_eq_false_iff_not]at h2
  show(if b<0 then 0 else y)<b
  rw[if_neg (by omega)]
  omega
 ·have hb0':b<0:=hb0
  obtain⟨j,y,h1,h2,rfl⟩:=hmem n hn
  show(if b<0 then 0 else y)=0
  rw[if_pos hb0']
omit hf hd in
theorem Zata {b:Int}{s:List Int}(hs:Za6 t.Vars s=true){y:Int}(hy:d[(pfF t.Vars s p 0).toNat]?=some y)(h:Zyo b y=false):∃n∈tabL t.Vars p b d 0,n.2=(if b<0 then 0 else y)/\Zay s n.1=true:=by
 obtain⟨k,hk,hkl⟩:=hp.pf hs
 rw[hk,Int.toNat_natCast]at hy
 refine⟨(Ztq t.Vars p (0+k),if b<0 then 0 else y),(Zy1 t.Vars p b d 0 _).2 ⟨k,y,hy,h,rfl⟩,rfl,?_⟩
 rw[Nat.zero_add]
 exact(hp.holds hs hkl).2 hk
omit hf in
theorem Zas9 {b:Int}{n:Zaw}(hn:n∈tabL t.Vars p b d 0){s:List Int}(hs:Za6 t.Vars s=true)(hh:Zay s n.1=true):∃y,d[(pfF t.Vars s p 0).toNat]?=some y/\Zyo b y=false/\n.2=if b<0 then 0 else y:=by
 obtain⟨j,y,h1,h2,rfl⟩:=(Zy1 t.Vars p b d 0 n).1 hn
 have hj:j<Zb6 (szs t.Vars p):=by rw[<-hd.g.len];exact(gS_.1 h1).1
 rw[Nat.zero_add]at hh
 have:=(hp.holds hs hj).1 hh
 exact⟨y,by rw[this,Int.toNat_natCast];exact h1,h2,rfl⟩
theorem Zave {b:Int}(hb:b=-1\/(0<=b/\b<=1099511627776)){y0:Int}(hy0:d[(pfF t.Vars t.Init p 0).toNat]?=some y0)(hat:(b=-1->y0=Zka)/\(0<=b->b<=y0)):Acc t { Bound:=b,Nogoods:=tabL t.Vars p b d 0 }:=by
 have hin:=Zw3 hf.good
 have hskip:∀y,Zyo b y=false↔(0<=b->y<b)/\y≠Zka:=λy=>by
  unfold Zyo Zka
  rw[Bool.or_eq_false_iff,Bool.and_eq_false_iff,decide_eq_false_iff_not,decide_eq_false_iff_not,beq_eq_false_iff_ne]
  constructor
  ·rintro⟨h1,h2⟩;exact⟨λ_=>by omega,h2⟩
  ·rintro⟨h1,h2⟩;exact⟨by by_cases h:b>=0;exact .inr (by have:=h1 h;omega);exact .inl h,h2⟩
 refine⟨λn hn=>?_,λhb0 s hs hh=>?_,λn hn o ho hsk s hs hi=>?_⟩
 ·rw[Bool.eq_false_iff]
  intro hh
  obtain⟨y,h1,h2,-⟩:=Zas9 hp hd hn hin hh
  rw[hy0]at h1
  obtain rfl:=sI_ h1
  have:=(hskip _).1 h2
  rcases hb with rfl|hb
  ·exact this.2 (hat.1 rfl)
  ·have:=this.1 (by omega)
   have:=hat.2 hb.1
   omega
 ·have hst:=(Zs4 t s).1 hs
  have hb0':b≠0:=hb0
  obtain⟨n,hn,h1,h2⟩:=Zata hp (b:=b) hst (hd.g.goal s hst hh) ((hskip 0).2 ⟨by omega,by decide⟩)
  refine List.any_eq_true.2 ⟨n,hn,?_⟩
  rw[h2,Bool.and_true,decide_eq_true_iff,h1]
  split <;> omega
 ·have hst:=(Zs4 t s).1 hs
  unfold inF at hi
  rw[bA_]at hi
  have hnx:=Ztd hf.good hst ho
  have hcost:=Zn5 hf.good ho
  obtain⟨x,x1,x2,x3⟩:=Zas9 hp hd hn hnx hi.2
  obtain⟨k,hk,hkl⟩:=hp.pf hst
  obtain⟨y,hy⟩:∃y,d[(pfF t.Vars s p 0).toNat]?=some y:=⟨_,gE_ (by rw[hk,Int.toNat_natCast,hd.g.len];exact hkl)⟩
  have hxr:=hd.g.rng x (mG_ x1)
  have hxs:=(hskip x).1 x2
  have hxlt:x<Zka:=by unfold Zka at hxr hxs ⊢;omega
  have hstep:=hd.step s o x y hst ho hi.1 x1 hy hxlt
  have hbx:=hd.g.bnd x (mG_ x1) hxs.2
  have hfin:=Zahq d
  have hfew:=hp.few
  have h81:=hf.prod
  have hlen:=hd.g.len
  unfold Zamo at hsk
  rw[decide_eq_false_iff_not]at hsk
  have hsk':¬ (0<=b/\b<=n.2+o.Cost):=hsk
  have hy2:(0<=b->y<b)/\y≠Zka:=by
   refine⟨λh=>?_,by unfold Zka;omega⟩
   rw[if_neg (by omega)]at x3
   omega
  obtain⟨m,hm,m1,m2⟩:=Zata hp (b:=b) hst hy ((hskip y).2 hy2)
  refine List.any_eq_true.2 ⟨m,hm,?_⟩
  rw[m2,Bool.and_true,decide_eq_true_iff,m1]
  show _<=if 0<=b then n.2+o.Cost else 0
  by_cases h:b<0
  ·rw[if_pos h,if_neg (by omega)];exact Int.le_refl _
  ·rw[if_neg h]at x3 ⊢
   rw[if_pos (by omega),x3]
   exact hstep
end
end Go.Proofs.YtpfnmpdcneejbaaGreatDoor.Am
namespace Go.Proofs.YtpfnmpdcneejbaaGreatDoor
open Go.RowKit Go.Shelf
attribute [local go_sem] Oper.semAt_some
def Pv (ok:Int->Prop):Type:={ p:Int×Int // ok p.2 }
structure KeepX (X:Nat->Prop)(W W':World):Prop where
 size:W.heap.size<=W'.heap.size
 same:∀k,X k->k<W.heap.size->W'.heap[k]?=W.heap[k]?
theorem KeepX.refl (X:Nat->Prop)(W:World):KeepX X W W:=⟨Nat.le_refl _,λ_ _ _=>rfl⟩
theorem KeepX.trans {X:Nat->Prop}{A B C:World}(h:KeepX X A B)(k:KeepX X B C):KeepX X A C :=
 ⟨Nat.le_trans h.size k.size,λi hi hl=>(k.same i hi (Nat.lt_of_lt_of_le hl h.size)).trans (h.same i hi hl)⟩
theorem KeepX.cell {X:Nat->Prop}{A B:World}(h:KeepX X A B){b o:Nat}{v:Value}(hX:X b)(hc:A.cell? ⟨b,o,none⟩=some v):B.cell? ⟨b,o,none⟩=some v:=by
 obtain⟨ob,ho,_⟩:=cells_of_cell hc
 exact(World.cell?_of_block (h.same b hX (Array.getElem?_eq_some_iff.1 ho).1)).trans hc
theorem Zaui {X:Nat->Prop}{n:Nat}(hX:∀k,X k->k<n)(W:World)(l:Nat)(o o':Obj)(hl:n<=l)(_:W.heap[l]?=some o)(_:o.isCells=false)(_:o.isWalk=false):KeepX X W (W.putObj l o') :=
 ⟨by simp,λk hk _=>World.putObj_heap_other (by have:=hX k hk;omega)⟩
set_option maxRecDepth 100000 in
set_option maxHeartbeats 2000000 in
theorem Zaqs (F:Fence)(n:Nat)(hf:F.fn 95)(hro:F.round=none)(hn:1<=n)(l Bs b off cap:Nat)(X:Nat->Prop)(hXs:X Bs)(hXb:X b)(ok:Int->Prop)(zs:List Int)(hok:∀z∈zs,ok z)(hreach:zs.length<=140737488355328)(J Jx:List (Pv ok)->World->Prop)
  (hY:∀pre (x:Pv ok) W,J pre W->pre.length<zs.length->YieldAt F (n-1) Tryz.prog l #[.int .i64 x.1.1,.int .i64 x.1.2] W λe W' =>
   (e=.returned (.bool true)/\J (pre++[x]) W'/\KeepX X W W')\/(e=.returned (.bool false)/\Jx (pre++[x]) W'))
  (W:World) (hBs:W.cell? ⟨Bs,0,none⟩=some (.slice (some ⟨b,off,none⟩) zs.length cap)) (hc:∀j,j<zs.length->W.cell? ⟨b,off+j,none⟩=some (.int .i64 (zs[j]?.getD 0))) (h0:J [] W) :
  CallsIn F n Tryz.prog 95 #[.func (.yield l) #[] #[],.pointer (some ⟨Bs,0,none⟩)] W λe W'=>(∃v,e=.returned v) /\
   ((∃ys,ys.map (λx:Pv ok=>x.1.2)=zs.reverse/\J ys W')\/(∃pre,True/\Jx pre W')):=by
 refine callsIn_of_wp Tryz.func95 rfl hf ?_ hro
 simp only[Tryz.ntmps95,List.size_toArray,lC_,List.length_nil,Nat.reduceAdd,Nat.reduceSub,Array.replicate_succ,Array.replicate_zero,List.push_toArray,List.append_toArray,List.nil_append,List.cons_append]
 gi_wp2
 gi_loopw [3] (λi wr=>∃k:Nat,k<=zs.length/\i=.int .i64 ((zs.length:Int)-1-k)/\(∃pre:List (Pv ok),pre.map (λx=>x.1.2)=zs.reverse.take k/\J pre wr)/\KeepX X W wr)
  (λi _=>(intOf i+1).toNat)
 case atStart=>exact⟨0,Nat.zero_le _,by simp,⟨[],rfl,h0⟩,KeepX.refl _ _⟩
 case round =>
  obtain⟨k,hk,rfl,⟨pre,hpre,hJs⟩,hnx⟩:=hrel
  have hBs':=hnx.cell hXs hBs
  by_cases hlt:k<zs.length
  ·have hkk:zs.length-1-k<zs.length:=by omega
   have hz:=hnx.cell hXb (hc _ hkk)
   have hgz:zs[zs.length-1-k]?.getD 0=zs[zs.length-1-k]:=by rw[gE_ hkk];rfl
   have hpl:pre.length=k:=by
    have:=congrArg List.length hpre
    simp at this;omega
   obtain⟨x,hx⟩:∃x:Pv ok,x=⟨((zs.length:Int)-1-k,zs[zs.length-1-k]),hok _ (List.getElem_mem _)⟩:=⟨_,rfl⟩
   obtain⟨fn,tmps,assign,body,hy,hR⟩:=hY pre x wr hJs (by omega)
   have hx1:x.1.1=(zs.length:Int)-1-k:=by rw[hx]
   have hx2:x.1.2=zs[zs.length-1-k]:=by rw[hx]
   rw[hx1,hx2]at hy
   have hoff:((zs.length:Int)-1-k).toNat=zs.length-1-k:=by omega
   rw[hgz]at hz
   have hpre':(pre++[x]).map (λx=>x.1.2)=zs.reverse.take (k+1):=by
    rw[List.map_append,hpre,List.take_add_one,List.getElem?_reverse (by omega),gE_ hkk]
    simp[hx]
    exact⟨_,rfl,rfl⟩
   gi_wp2
   refine hR.mono ?_
   rintro e W3 (⟨rfl,hJ3,hk3⟩|⟨rfl,hJx3⟩)
   ·gi_wp2
    go_roundw
    case rel=>exact⟨k+1,by omega,by simp;omega,⟨_,hpre',hJ3⟩,hnx.trans hk3⟩
    case measure=>simp[intOf];omega
   ·gi_wp2
    refine bodyPost_ret (results_none rfl _ _ _) rfl ?_
    exact⟨⟨_,rfl⟩,.inr ⟨_,trivial,hJx3⟩⟩
  ·obtain rfl:k=zs.length:=by omega
   gi_wp2
   go_end0
   rw[tL_ (by simp)]at hpre
   exact⟨⟨_,rfl⟩,.inl ⟨_,hpre,hJs⟩⟩
set_option maxRecDepth 100000 in
set_option maxHeartbeats 1000000 in
theorem Zaet (F:Fence)(n:Nat)(hf:F.fn 95)(hro:F.round=none)(l Bs:Nat)(A:Option Addr)(cap:Nat)(J:World->Prop)(W:World)(hBs:W.cell? ⟨Bs,0,none⟩=some (.slice A 0 cap))(h0:J W) :
  CallsIn F n Tryz.prog 95 #[.func (.yield l) #[] #[],.pointer (some ⟨Bs,0,none⟩)] W λe W'=>(∃v,e=.returned v)/\J W':=by
 refine callsIn_of_wp Tryz.func95 rfl hf ?_ hro
 simp only[Tryz.ntmps95,List.size_toArray,lC_,List.length_nil,Nat.reduceAdd,Nat.reduceSub,Array.replicate_succ,Array.replicate_zero,List.push_toArray,List.append_toArray,List.nil_append,List.cons_append]
 gi_wp2
 gi_loopw [3] (λi wr=>i=.int .i64 (-1)/\J wr) (λ_ _=>0)
 case atStart=>exact⟨rfl,h0⟩
 case round =>
  obtain⟨rfl,hJs⟩:=hrel
  gi_wp2
  go_end0
  exact⟨⟨_,rfl⟩,hJs⟩
set_option maxHeartbeats 1000000 in
theorem Zatu (F:Fence)(n:Nat)(hf:F.fn 72)(hro:F.round=none)(a:Option Addr)(len cap:Nat)(w:World) :
  CallsIn F n Tryz.prog 72 #[.slice a len cap] w λe w'=>e=.returned (.func (.func 95) #[] #[.pointer (some ⟨w.heap.size,0,none⟩)])/\w'=w.alloc (.cells #[.slice a len cap] 22):=by
 refine callsIn_of_wp Tryz.func72 rfl hf ?_ hro
 simp only[Tryz.ntmps72,List.size_toArray,lC_,List.length_nil,Nat.reduceAdd,Nat.reduceSub,Array.replicate_succ,Array.replicate_zero,List.push_toArray,List.append_toArray,List.nil_append,List.cons_append]
 gi_wp2
 go_ret
 exact⟨rfl,rfl⟩
def IntsX (X:Nat->Prop)(W:World)(sv:Value)(zs:List Int):Prop :=
 (∃A cap,sv=.slice A 0 cap/\zs=[])\/∃b off cap,sv=.slice (some ⟨b,off,none⟩) zs.length cap/\X b/\∀j,j<zs.length->W.cell? ⟨b,off+j,none⟩=some (.int .i64 (zs[j]?.getD 0))
theorem IntsX.below {X:Nat->Prop}{A B:World}(h:Below A.heap.size A B){sv:Value}{zs:List Int}:IntsX X A sv zs->IntsX X B sv zs
 | .inl e=>.inl e
 | .inr ⟨b,off,cap,e,hX,hc⟩=>.inr ⟨b,off,cap,e,hX,λj hj=>by
   have h1:=hc j hj
   obtain⟨ob,ho,_⟩:=cells_of_cell h1
   exact(h.cell (p:=⟨b,off+j,none⟩) (Array.getElem?_eq_some_iff.1 ho).1).trans h1⟩
theorem Zalj (F:Fence)(n:Nat)(hf:F.fn 95)(hro:F.round=none)(hn:1<=n)(Bs:Nat)(X:Nat->Prop)(hXs:X Bs)(ok:Int->Prop)(sv:Value)(zs:List Int)(hok:∀z∈zs,ok z)(hreach:zs.length<=140737488355328)(w:World)(hBs:Bs<w.heap.size)
  (hc:w.cell? ⟨Bs,0,none⟩=some sv) (hI:IntsX X w sv zs) :
  SeqStopsK F n Tryz.prog 95 #[.pointer (some ⟨Bs,0,none⟩)] (λx:Pv ok=>#[.int .i64 x.1.1,.int .i64 x.1.2]) (KeepX X) (λys=>ys.map (λx:Pv ok=>x.1.2)=zs.reverse) (λ_=>True) zs.length w:=λl J Jx W hW _ _ hY h0=>by
 have hc':=(hW.cell (p:=⟨Bs,0,none⟩) hBs).trans hc
 rcases hI.below hW with⟨A,cap,rfl,rfl⟩|⟨b,off,cap,rfl,hXb,hcs⟩
 ·exact(Zaet F n hf hro l Bs A cap (J []) W hc' h0).mono λe W' ⟨he,hj⟩=>⟨he,.inl ⟨[],rfl,hj⟩⟩
 ·exact Zaqs F n hf hro hn l Bs b off cap X hXs hXb ok zs hok hreach J Jx hY W hc' hcs h0
end Go.Proofs.YtpfnmpdcneejbaaGreatDoor
namespace Go.Proofs.YtpfnmpdcneejbaaGreatDoor
open Go.RowKit Am
theorem Zar0 {listed:Array Bool}{i:Nat}(hi:i<listed.size)(h2:Zg9 listed i=false):(listed.setIfInBounds i true).toList.countP id=listed.toList.countP id+1:=by
 have hlt:i<listed.toList.length:=by simpa using hi
 have hfalse:listed.toList[i]=false:=by
  simp only[Zg9,aD_,aE_ hi,Option.getD_some]at h2
  simpa using h2
 rw[Array.toList_setIfInBounds,List.countP_set hlt]
 simp[hfalse]
theorem Zas7 {listed:Array Bool}{i:Nat}(hi:i<listed.size)(j:Nat):Zg9 (listed.setIfInBounds i true) j=(decide (j=i)||Zg9 listed j):=by
 simp only[Zg9,aD_,Array.getElem?_setIfInBounds]
 by_cases h:i=j
 ·subst h;simp[hi]
 ·simp[h,Ne.symm h,show ¬ j=i from λe=>h e.symm]
section
variable {F : Fence} {n : Nat} {P : Program} {ops : Array Oper} {Q : Exit -> Act -> World -> Prop}
theorem Zas6 {listed:Array Bool}(hback:Zsf ops.toList 0=true)(hs:listed.size=ops.size)(hr:Region.ready .any ops listed=[]):∀i,i<ops.size->Zg9 listed i=true:=by
 intro i
 induction i using Nat.strongRecOn with
 | _ i ih =>
  intro hi
  cases hd:Zg9 listed i
  ·exfalso
   have:i∈Region.ready .any ops listed:=(Zn8 hs).2 ⟨_,aE_ hi,hd,λe he hb=>by
    have:=Zzr _ 0 hback i ops[i] (by simp) e he hb
    exact ih e.on (by omega) (by omega)⟩
   rw[hr]at this
   cases this
  ·rfl
theorem Zh1 {listed:Array Bool}(hs:listed.size=ops.size)(hf:ops.size<=listed.toList.countP id):Region.ready .any ops listed=[]:=by
 cases h:Region.ready .any ops listed with
 | nil=>rfl
 | cons i r =>
  exfalso
  obtain⟨o,h1,h2,_⟩:=(Zn8 hs).1 (by rw[h];simp:i∈Region.ready .any ops listed)
  have hi:=(Array.getElem?_eq_some_iff.1 h1).1
  have hcnt:listed.toList.countP id=listed.toList.length:=by
   have:=List.countP_le_length (p:=id) (l:=listed.toList)
   rw[Array.length_toList]at this ⊢
   omega
  have:=List.countP_eq_length.1 hcnt listed[i] (by simp)
  simp only[id]at this
  simp only[Zg9,aD_,aE_ (show i<listed.size from by omega),Option.getD_some]at h2
  rw[this]at h2
  cases h2
def stL (base:Array Value)(D:List Deferred)(V:Nat->Value)(d0 m:Nat)(L:Nat->Bool):Act :=
 { tmps:=Array.ofFn (n:=base.size) (λj=>if d0<=j.1/\j.1<d0+m/\L (j.1-d0)=true then V (j.1-d0)else base[j]),defers:=D }
theorem Zavb {base:Array Value}{D:List Deferred}{V:Nat->Value}{d0 m:Nat}{L:Nat->Bool}{k:Nat}(hk:k<m)(hs:d0+m<=base.size):(stL base D V d0 m L).put (some (d0+k)) (V k)=stL base D V d0 m (λi=>decide (i=k)||L i):=by
 unfold stL Act.put
 simp only
 congr 1
 apply Array.ext
 ·simp
 ·intro j h1 h2
  simp only[Array.size_setIfInBounds,Array.size_ofFn]at h1
  rw[Array.getElem_setIfInBounds (by simpa using h1),Array.getElem_ofFn,Array.getElem_ofFn]
  by_cases e:d0+k=j
  ·subst e
   simp[hk]
  ·rw[if_neg e]
   by_cases q:d0<=j/\j<d0+m
   ·have:¬ j-d0=k:=by omega
    simp[q.1,q.2,this]
   ·rw[if_neg (λh=>q ⟨h.1,h.2.1⟩),if_neg (λh=>q ⟨h.1,h.2.1⟩)]
theorem Zapr {base:Array Value}{D:List Deferred}{V:Nat->Value}{d0 m:Nat}{L L':Nat->Bool}(h:∀k,k<m->L k=L' k):stL base D V d0 m L=stL base D V d0 m L':=by
 unfold stL
 congr 1
 congr 1
 funext j
 by_cases q:d0<=j.1/\j.1<d0+m
 ·rw[h (j.1-d0) (by omega)]
 ·rw[if_neg (λh=>q ⟨h.1,h.2.1⟩),if_neg (λh=>q ⟨h.1,h.2.1⟩)]
theorem Zar8 {base:Array Value}{D:List Deferred}{V:Nat->Value}{d0 m:Nat}:stL base D V d0 m (λ_=>false)={ tmps:=base,defers:=D }:=by
 unfold stL
 congr 1
 apply Array.ext
 ·simp
 ·intro j h1 h2
  simp
variable {base : Array Value} {D : List Deferred} {V : Nat -> Value} {d0 m : Nat} {w : World}
theorem Zawx {om:Oper}(hback:Zsf ops.toList 0=true)(hsz:ops.size=m+1)(hb:d0+m<=base.size)(hg:∀(i:Nat)(o:Oper),ops[i]?=some o->o.guard=none)(hom:ops[m]?=some om)
  (hlast:∀k,k<m->∃e∈om.after.toList,Region.binds .any e=true/\e.on=k)
  (hop:∀(k:Nat) (o:Oper),k<m->ops[k]?=some o->∀L:Nat->Bool,(∀e∈o.after.toList,Region.binds .any e=true->L e.on=true)->∀(K:Act->World->Prop),K ((stL base D V d0 m L).put (some (d0+k)) (V k)) w->o.wpIn F n P (stL base D V d0 m L) w K Q)
  (hfin:∀(K:Act->World->Prop),(∀a' w',Q .normal a' w'->K a' w')->om.wpIn F n P (stL base D V d0 m (λ_=>true)) w K Q) :
  ∀(fuel:Nat) (listed:Array Bool),listed.size=ops.size->Zg9 listed m=false->ops.size<=listed.toList.countP id+fuel->wpAnyIn F n P .any ops Q fuel listed (stL base D V d0 m (Zg9 listed)) w:=by
 have hend:∀(fuel:Nat) (listed:Array Bool) (a:Act) (w:World),listed.size=ops.size->(∀i,i<ops.size->Zg9 listed i=true)->Q .normal a w->wpAnyIn F n P .any ops Q fuel listed a w:=by
  intro fuel listed a w hs hall hq
  have hr:Region.ready .any ops listed=[]:=by
   cases h:Region.ready .any ops listed with
   | nil=>rfl
   | cons i r =>
    obtain⟨o,h1,h2,_⟩:=(Zn8 hs).1 (by rw[h];simp:i∈Region.ready .any ops listed)
    rw[hall i (Array.getElem?_eq_some_iff.1 h1).1]at h2
    cases h2
  cases fuel with
  | zero=>exact⟨hr,hq⟩
  | succ f=>exact⟨λ_=>hq,λi hi=>by rw[hr]at hi;cases hi⟩
 intro fuel
 induction fuel with
 | zero =>
  intro listed hs hm hf
  have:=Zas6 hback hs (Zh1 hs (by omega)) m (by omega)
  rw[hm]at this
  cases this
 | succ fuel ih =>
  intro listed hs hm hf
  refine⟨λhr=>?_,λi hi=>?_⟩
  ·have:=Zas6 hback hs hr m (by omega)
   rw[hm]at this
   cases this
  ·obtain⟨o,h1,h2,h3⟩:=(Zn8 hs).1 hi
   have hil:=(Array.getElem?_eq_some_iff.1 h1).1
   have hw:∀y,Region.wanted o y=true:=λy=>by simp[Region.wanted,hg i o h1]
   unfold wpOpIn
   rw[h1]
   simp only[hw,if_true]
   by_cases him:i=m
   ·subst him
    rw[hom]at h1
    cases h1
    have hall:∀k,k<i->Zg9 listed k=true:=λk hk=>by
     obtain⟨e,he,hb',rfl⟩:=hlast k hk
     exact h3 e he hb'
    rw[Zapr (L':=λ_=>true) hall]
    refine hfin _ (λa' w' hq=>hend fuel _ a' w' (by simp[hs]) (λj hj=>?_) hq)
    rw[Zas7 (by omega)]
    by_cases e:j=i
    ·simp[e]
    ·simp[e,hall j (by omega)]
   ·have hi':i<m:=by omega
    refine hop i o hi' h1 _ h3 _ ?_
    rw[Zavb hi' hb]
    have hset:(λj=>decide (j=i)||Zg9 listed j)=Zg9 (listed.setIfInBounds i true):=by
     funext j
     rw[Zas7 (by omega)]
    rw[hset]
    refine ih _ (by simp[hs]) ?_ ?_
    ·rw[<-hset]
     simp[hm,show ¬ m=i from λe=>him e.symm]
    ·rw[Zar0 (by omega) h2]
     omega
theorem Zagi {om:Oper}{id:Nat}(hm:P.follows .mixedOrders=true)(hback:Zsf ops.toList 0=true)(hsz:ops.size=m+1)(hb:d0+m<=base.size)(hg:∀(i:Nat)(o:Oper),ops[i]?=some o->o.guard=none)(hom:ops[m]?=some om)
  (hlast:∀k,k<m->∃e∈om.after.toList,Region.binds .any e=true/\e.on=k)
  (hop:∀(k:Nat) (o:Oper),k<m->ops[k]?=some o->∀L:Nat->Bool,(∀e∈o.after.toList,Region.binds .any e=true->L e.on=true)->∀(K:Act->World->Prop),K ((stL base D V d0 m L).put (some (d0+k)) (V k)) { w with drawn:=w.drawn+1 }->o.wpIn F n P (stL base D V d0 m L) { w with drawn:=w.drawn+1 } K Q)
  (hfin:∀(K:Act->World->Prop),(∀a' w',Q .normal a' w'->K a' w')->om.wpIn F n P (stL base D V d0 m (λ_=>true)) { w with drawn:=w.drawn+1 } K Q) :
  (Code.region id ops true).wpIn F n P Q { tmps:=base,defers:=D } w:=by
 refine wpIn_region_any hm ?_
 have h0:Zg9 (Array.replicate ops.size false)=λ_=>false:=by
  funext j
  simp only[Zg9,aD_]
  rcases Nat.lt_or_ge j ops.size with h|h
  ·simp[h]
  ·simp[Nat.not_lt.2 h]
 have:=Zawx hback hsz hb hg hom hlast hop hfin ops.size (Array.replicate ops.size false) (by simp) (by rw[h0]) (by omega)
 rw[h0,Zar8]at this
 exact this
end
end Go.Proofs.YtpfnmpdcneejbaaGreatDoor
namespace Go.Proofs.YtpfnmpdcneejbaaGreatDoor
open Go.RowKit Go.Shelf Am
attribute [local go_sem] Oper.semAt_some
theorem upV {F:Fence}{n:Nat}{P:Program}{o:Oper}{a:Act}{K:Act->World->Prop}{Q:Exit->Act->World->Prop}{r:Result Next}{v:Value}{w:World}(h:r=.ok (.value v) w)(k:K (a.put o.dst v) w):o.uponIn F n P a K Q r:=by subst h;exact k
theorem upS {F:Fence}{n:Nat}{P:Program}{o:Oper}{a:Act}{K:Act->World->Prop}{Q:Exit->Act->World->Prop}{r:Result Next}{w:World}(h:r=.ok .skip w)(k:K (a.put o.dst undef) w):o.uponIn F n P a K Q r:=by subst h;exact k
theorem Zsv {base:Array Value}{D:List Deferred}{V:Nat->Value}{d0 m:Nat}{L:Nat->Bool}{j:Nat}(hj:j<d0)(hs:d0<=base.size):(stL base D V d0 m L).tmps[j]?=base[j]?:=by
 have h:j<base.size:=by omega
 simp[stL,show ¬ d0<=j from by omega,h]
theorem Zjn {base:Array Value}{D:List Deferred}{V:Nat->Value}{d0 m:Nat}{L:Nat->Bool}{k:Nat}(hk:k<m)(hs:d0+m<=base.size)(hL:L k=true):(stL base D V d0 m L).tmps[d0+k]?=some (V k):=by
 simp[stL,show d0+k<base.size from by omega,hk,hL]
def v3 (B0 bt ot len ct g lv vc:Nat)(x nn y:Int):Nat->Value:=λk=>#[.slice (some ⟨g,0,none⟩) lv vc,.int .i64 x,.int .i64 nn,.pointer (some ⟨B0,0,none⟩),.slice (some ⟨bt,ot,none⟩) len ct,.int .i64 x,.pointer (some ⟨bt,ot+x.toNat,none⟩),.int .i64 y,.int .i64 (nn.tmod y),.pointer (some ⟨g,x.toNat,none⟩)].getD k undef
def v4 (B0 bt ot len ct:Nat)(x nn y:Int):Nat->Value:=λk=>#[.int .i64 nn,.pointer (some ⟨B0,0,none⟩),.slice (some ⟨bt,ot,none⟩) len ct,.int .i64 x,.pointer (some ⟨bt,ot+x.toNat,none⟩),.int .i64 y,.int .i64 (IntKind.i64.wrap (nn.tdiv y))].getD k undef
set_option maxRecDepth 100000 in
set_option maxHeartbeats 2000000 in
theorem reg3 {Q:Exit->Act->World->Prop}{n l':Nat}{w:World}{T:Array Value}{B0 B1 B2 g bt ot len ct lv vc:Nat}{x y nn:Int}{u:Value}(hT:T.size=31)(h4:T[4]?=some (.pointer (some ⟨B0,0,none⟩)))(h6:T[6]?=some (.pointer (some ⟨B1,0,none⟩)))(h7:T[7]?=some (.pointer (some ⟨B2,0,none⟩)))(h9:T[9]?=some (.int .i64 x))(c0:w.cell? ⟨B0,0,none⟩=some (.slice (some ⟨bt,ot,none⟩) len ct))(c1:w.cell? ⟨B1,0,none⟩=some (.slice (some ⟨g,0,none⟩) lv vc))(c2:w.cell? ⟨B2,0,none⟩=some (.int .i64 nn))(cy:w.cell? ⟨bt,ot+x.toNat,none⟩=some (.int .i64 y))(hy:y≠0)(x0:0<=x)(x1:x<len)(x2:x<lv)(cg:w.cell? ⟨g,x.toNat,none⟩=some u)(fg:w.frozen? ⟨g,x.toNat,none⟩=false)
  (hq:∀T':Array Value,T'.size=31->(∀j,j<14->T'[j]?=T[j]?)->Q .normal { tmps:=T',defers:=[] } (World.setCell w.drew ⟨g,x.toNat,none⟩ (.int .i64 (nn.tmod y)))) :
  (Code.region 3 #[{ dst:=some 14,op:=Op.load 22 (Operand.tmp 6),type:=22,pos:="project.go:45",after:=#[],guard:=none },{ dst:=some 15,op:=Op.move (Operand.tmp 9),type:=3,pos:="project.go:45",after:=#[],guard:=none },{ dst:=some 16,op:=Op.load 3 (Operand.tmp 7),type:=3,pos:="project.go:45",after:=#[],guard:=none },{ dst:=some 17,op:=Op.fieldAddr 26 (Operand.tmp 4) 0,type:=0,pos:="project.go:45",after:=#[],guard:=none },{ dst:=some 18,op:=Op.load 22 (Operand.tmp 17),type:=22,pos:="project.go:45",after:=#[{ on:=3,ground:=Ground.data }],guard:=none },{ dst:=some 19,op:=Op.move (Operand.tmp 9),type:=3,pos:="project.go:45",after:=#[],guard:=none },{ dst:=some 20,op:=Op.indexAddr 22 (Operand.tmp 18) (Operand.tmp 19),type:=0,pos:="project.go:45",after:=#[{ on:=4,ground:=Ground.data },{ on:=5,ground:=Ground.data }],guard:=none },{ dst:=some 21,op:=Op.load 3 (Operand.tmp 20),type:=3,pos:="project.go:45",after:=#[{ on:=6,ground:=Ground.data }],guard:=none },{ dst:=some 22,op:=Op.binOp BinOp.rem 3 (Operand.tmp 16) (Operand.tmp 21) 3,type:=3,pos:="project.go:45",after:=#[{ on:=2,ground:=Ground.data },{ on:=7,ground:=Ground.data }],guard:=none },{ dst:=some 23,op:=Op.indexAddr 22 (Operand.tmp 14) (Operand.tmp 15),type:=0,pos:="project.go:45",after:=#[{ on:=0,ground:=Ground.data },{ on:=1,ground:=Ground.data },{ on:=0,ground:=Ground.phase },{ on:=1,ground:=Ground.phase },{ on:=2,ground:=Ground.phase },{ on:=3,ground:=Ground.phase },{ on:=4,ground:=Ground.phase },{ on:=5,ground:=Ground.phase },{ on:=6,ground:=Ground.phase },{ on:=7,ground:=Ground.phase },{ on:=8,ground:=Ground.phase }],guard:=none },{ dst:=none,op:=Op.store 3 (Operand.tmp 23) (Operand.tmp 22),type:=0,pos:="project.go:45",after:=#[{ on:=9,ground:=Ground.data },{ on:=8,ground:=Ground.data },{ on:=0,ground:=Ground.phase },{ on:=1,ground:=Ground.phase },{ on:=2,ground:=Ground.phase },{ on:=3,ground:=Ground.phase },{ on:=4,ground:=Ground.phase },{ on:=5,ground:=Ground.phase },{ on:=6,ground:=Ground.phase },{ on:=7,ground:=Ground.phase },{ on:=8,ground:=Ground.phase }],guard:=none }] true).wpIn (Fence.wide.inRound l') n Tryz.prog Q { tmps:=T,defers:=[] } w:=by
 refine Zagi (d0:=14) (m:=10) (V:=v3 B0 bt ot len ct g lv vc x nn y) (by kernel_rfl) (by decide) rfl (by rw[hT];decide) (λi o ho=>?_) rfl (λk hk=>?_) (λk o hk ho L hL K hK=>?_) (λK hK=>?_)
 ·match i,ho with
  | 0,ho=>cases ho;rfl
  | 1,ho=>cases ho;rfl
  | 2,ho=>cases ho;rfl
  | 3,ho=>cases ho;rfl
  | 4,ho=>cases ho;rfl
  | 5,ho=>cases ho;rfl
  | 6,ho=>cases ho;rfl
  | 7,ho=>cases ho;rfl
  | 8,ho=>cases ho;rfl
  | 9,ho=>cases ho;rfl
  | 10,ho=>cases ho;rfl
  | i+11,ho=>simp at ho
 ·match k,hk with
  | 0,_=>exact⟨⟨0,.phase⟩,by simp,rfl,rfl⟩
  | 1,_=>exact⟨⟨1,.phase⟩,by simp,rfl,rfl⟩
  | 2,_=>exact⟨⟨2,.phase⟩,by simp,rfl,rfl⟩
  | 3,_=>exact⟨⟨3,.phase⟩,by simp,rfl,rfl⟩
  | 4,_=>exact⟨⟨4,.phase⟩,by simp,rfl,rfl⟩
  | 5,_=>exact⟨⟨5,.phase⟩,by simp,rfl,rfl⟩
  | 6,_=>exact⟨⟨6,.phase⟩,by simp,rfl,rfl⟩
  | 7,_=>exact⟨⟨7,.phase⟩,by simp,rfl,rfl⟩
  | 8,_=>exact⟨⟨8,.phase⟩,by simp,rfl,rfl⟩
  | 9,_=>exact⟨⟨9,.data⟩,by simp,rfl,rfl⟩
  | k+10,hk=>omega
 ·match k,hk with
  | 0,_ =>
   simp at ho
   subst ho
   refine⟨λ_ _=>trivial,?_⟩
   have e6:=(Zsv (base:=T) (D:=[]) (V:=v3 B0 bt ot len ct g lv vc x nn y) (d0:=14) (m:=10) (L:=L) (j:=6) (by decide) (by rw[hT];decide)).trans h6
   generalize stL T [] _ 14 10 L=S at *
   refine upV (v:=(.slice (some ⟨g,0,none⟩) lv vc)) (w:=w.drew) ?_ hK
   simp[Oper.semAt,go_sem,e6,show World.cell? w.drew ⟨B1,0,none⟩=_ from c1]
  | 1,_ =>
   simp at ho
   subst ho
   refine⟨λ_ _=>trivial,?_⟩
   have e9:=(Zsv (base:=T) (D:=[]) (V:=v3 B0 bt ot len ct g lv vc x nn y) (d0:=14) (m:=10) (L:=L) (j:=9) (by decide) (by rw[hT];decide)).trans h9
   generalize stL T [] _ 14 10 L=S at *
   refine upV (v:=(.int .i64 x)) (w:=w.drew) ?_ hK
   simp[Oper.semAt,go_sem,e9]
  | 2,_ =>
   simp at ho
   subst ho
   refine⟨λ_ _=>trivial,?_⟩
   have e7:=(Zsv (base:=T) (D:=[]) (V:=v3 B0 bt ot len ct g lv vc x nn y) (d0:=14) (m:=10) (L:=L) (j:=7) (by decide) (by rw[hT];decide)).trans h7
   generalize stL T [] _ 14 10 L=S at *
   refine upV (v:=(.int .i64 nn)) (w:=w.drew) ?_ hK
   simp[Oper.semAt,go_sem,e7,show World.cell? w.drew ⟨B2,0,none⟩=_ from c2]
  | 3,_ =>
   simp at ho
   subst ho
   refine⟨λ_ _=>trivial,?_⟩
   have e4:=(Zsv (base:=T) (D:=[]) (V:=v3 B0 bt ot len ct g lv vc x nn y) (d0:=14) (m:=10) (L:=L) (j:=4) (by decide) (by rw[hT];decide)).trans h4
   generalize stL T [] _ 14 10 L=S at *
   refine upV (v:=(.pointer (some ⟨B0,0,none⟩))) (w:=w.drew) ?_ hK
   simp[Oper.semAt,go_sem,e4]
  | 4,_ =>
   simp at ho
   subst ho
   refine⟨λ_ _=>trivial,?_⟩
   have f3:=Zjn (base:=T) (D:=[]) (V:=v3 B0 bt ot len ct g lv vc x nn y) (d0:=14) (m:=10) (L:=L) (k:=3) (by decide) (by rw[hT];decide) (hL ⟨3,.data⟩ (by simp) rfl)
   generalize stL T [] _ 14 10 L=S at *
   simp[v3]at f3
   refine upV (v:=(.slice (some ⟨bt,ot,none⟩) len ct)) (w:=w.drew) ?_ hK
   simp[Oper.semAt,go_sem,f3,show World.cell? w.drew ⟨B0,0,none⟩=_ from c0]
  | 5,_ =>
   simp at ho
   subst ho
   refine⟨λ_ _=>trivial,?_⟩
   have e9:=(Zsv (base:=T) (D:=[]) (V:=v3 B0 bt ot len ct g lv vc x nn y) (d0:=14) (m:=10) (L:=L) (j:=9) (by decide) (by rw[hT];decide)).trans h9
   generalize stL T [] _ 14 10 L=S at *
   refine upV (v:=(.int .i64 x)) (w:=w.drew) ?_ hK
   simp[Oper.semAt,go_sem,e9]
  | 6,_ =>
   simp at ho
   subst ho
   refine⟨λ_ _=>trivial,?_⟩
   have f4:=Zjn (base:=T) (D:=[]) (V:=v3 B0 bt ot len ct g lv vc x nn y) (d0:=14) (m:=10) (L:=L) (k:=4) (by decide) (by rw[hT];decide) (hL ⟨4,.data⟩ (by simp) rfl)
   have f5:=Zjn (base:=T) (D:=[]) (V:=v3 B0 bt ot len ct g lv vc x nn y) (d0:=14) (m:=10) (L:=L) (k:=5) (by decide) (by rw[hT];decide) (hL ⟨5,.data⟩ (by simp) rfl)
   generalize stL T [] _ 14 10 L=S at *
   simp[v3]at f4 f5
   refine upV (v:=(.pointer (some ⟨bt,ot+x.toNat,none⟩))) (w:=w.drew) ?_ hK
   simp[Oper.semAt,go_sem,f4,f5,x0,x1]
  | 7,_ =>
   simp at ho
   subst ho
   refine⟨λ_ _=>trivial,?_⟩
   have f6:=Zjn (base:=T) (D:=[]) (V:=v3 B0 bt ot len ct g lv vc x nn y) (d0:=14) (m:=10) (L:=L) (k:=6) (by decide) (by rw[hT];decide) (hL ⟨6,.data⟩ (by simp) rfl)
   generalize stL T [] _ 14 10 L=S at *
   simp[v3]at f6
   refine upV (v:=(.int .i64 y)) (w:=w.drew) ?_ hK
   simp[Oper.semAt,go_sem,f6,show World.cell? w.drew ⟨bt,ot+x.toNat,none⟩=_ from cy]
  | 8,_ =>
   simp at ho
   subst ho
   refine⟨λ_ _=>trivial,?_⟩
   have f2:=Zjn (base:=T) (D:=[]) (V:=v3 B0 bt ot len ct g lv vc x nn y) (d0:=14) (m:=10) (L:=L) (k:=2) (by decide) (by rw[hT];decide) (hL ⟨2,.data⟩ (by simp) rfl)
   have f7:=Zjn (base:=T) (D:=[]) (V:=v3 B0 bt ot len ct g lv vc x nn y) (d0:=14) (m:=10) (L:=L) (k:=7) (by decide) (by rw[hT];decide) (hL ⟨7,.data⟩ (by simp) rfl)
   generalize stL T [] _ 14 10 L=S at *
   simp[v3]at f2 f7
   refine upV (v:=(.int .i64 (nn.tmod y))) (w:=w.drew) ?_ hK
   simp[Oper.semAt,go_sem,f2,f7,hy]
  | 9,_ =>
   simp at ho
   subst ho
   refine⟨λ_ _=>trivial,?_⟩
   have f0:=Zjn (base:=T) (D:=[]) (V:=v3 B0 bt ot len ct g lv vc x nn y) (d0:=14) (m:=10) (L:=L) (k:=0) (by decide) (by rw[hT];decide) (hL ⟨0,.data⟩ (by simp) rfl)
   have f1:=Zjn (base:=T) (D:=[]) (V:=v3 B0 bt ot len ct g lv vc x nn y) (d0:=14) (m:=10) (L:=L) (k:=1) (by decide) (by rw[hT];decide) (hL ⟨1,.data⟩ (by simp) rfl)
   generalize stL T [] _ 14 10 L=S at *
   simp[v3]at f0 f1
   refine upV (v:=(.pointer (some ⟨g,x.toNat,none⟩))) (w:=w.drew) ?_ hK
   simp[Oper.semAt,go_sem,f0,f1,x0,x2]
  | k+10,hk=>omega
 ·refine⟨λ_ _=>trivial,?_⟩
  have f9:=Zjn (base:=T) (D:=[]) (V:=v3 B0 bt ot len ct g lv vc x nn y) (d0:=14) (m:=10) (L:=λ_=>true) (k:=9) (by decide) (by rw[hT];decide) rfl
  have f8:=Zjn (base:=T) (D:=[]) (V:=v3 B0 bt ot len ct g lv vc x nn y) (d0:=14) (m:=10) (L:=λ_=>true) (k:=8) (by decide) (by rw[hT];decide) rfl
  have hQ:Q .normal (stL T [] (v3 B0 bt ot len ct g lv vc x nn y) 14 10 (λ_=>true)) (World.setCell w.drew ⟨g,x.toNat,none⟩ (.int .i64 (nn.tmod y))):=hq (stL T [] (v3 B0 bt ot len ct g lv vc x nn y) 14 10 (λ_=>true)).tmps (by simp[stL,hT]) (λj hj=>Zsv (by omega) (by rw[hT];decide))
  generalize stL T [] _ 14 10 _=S at *
  simp[v3]at f9 f8
  refine upS (w:=(World.setCell w.drew ⟨g,x.toNat,none⟩ (.int .i64 (nn.tmod y)))) ?_ (hK _ _ hQ)
  simp[Oper.semAt,go_sem,f9,f8,show World.cell? w.drew ⟨g,x.toNat,none⟩=_ from cg,show World.frozen? w.drew ⟨g,x.toNat,none⟩=_ from fg]
set_option maxRecDepth 100000 in
set_option maxHeartbeats 2000000 in
theorem reg4 {Q:Exit->Act->World->Prop}{n l':Nat}{w:World}{T:Array Value}{B0 B2 bt ot len ct:Nat}{x y nn:Int}(hT:T.size=31)(h4:T[4]?=some (.pointer (some ⟨B0,0,none⟩)))(h7:T[7]?=some (.pointer (some ⟨B2,0,none⟩)))(h9:T[9]?=some (.int .i64 x))(c0:w.cell? ⟨B0,0,none⟩=some (.slice (some ⟨bt,ot,none⟩) len ct))(c2:w.cell? ⟨B2,0,none⟩=some (.int .i64 nn))(f2:w.frozen? ⟨B2,0,none⟩=false)(cy:w.cell? ⟨bt,ot+x.toNat,none⟩=some (.int .i64 y))(hy:y≠0)(x0:0<=x)(x1:x<len)
  (hq:∀T':Array Value,T'.size=31->(∀j,j<14->T'[j]?=T[j]?)->Q .normal { tmps:=T',defers:=[] } (World.setCell w.drew ⟨B2,0,none⟩ (.int .i64 (IntKind.i64.wrap (nn.tdiv y))))) :
  (Code.region 4 #[{ dst:=some 24,op:=Op.load 3 (Operand.tmp 7),type:=3,pos:="project.go:46",after:=#[],guard:=none },{ dst:=some 25,op:=Op.fieldAddr 26 (Operand.tmp 4) 0,type:=0,pos:="project.go:46",after:=#[],guard:=none },{ dst:=some 26,op:=Op.load 22 (Operand.tmp 25),type:=22,pos:="project.go:46",after:=#[{ on:=1,ground:=Ground.data }],guard:=none },{ dst:=some 27,op:=Op.move (Operand.tmp 9),type:=3,pos:="project.go:46",after:=#[],guard:=none },{ dst:=some 28,op:=Op.indexAddr 22 (Operand.tmp 26) (Operand.tmp 27),type:=0,pos:="project.go:46",after:=#[{ on:=2,ground:=Ground.data },{ on:=3,ground:=Ground.data }],guard:=none },{ dst:=some 29,op:=Op.load 3 (Operand.tmp 28),type:=3,pos:="project.go:46",after:=#[{ on:=4,ground:=Ground.data }],guard:=none },{ dst:=some 30,op:=Op.binOp BinOp.quo 3 (Operand.tmp 24) (Operand.tmp 29) 3,type:=3,pos:="project.go:46",after:=#[{ on:=0,ground:=Ground.data },{ on:=5,ground:=Ground.data }],guard:=none },{ dst:=none,op:=Op.store 3 (Operand.tmp 7) (Operand.tmp 30),type:=0,pos:="project.go:46",after:=#[{ on:=6,ground:=Ground.data },{ on:=0,ground:=Ground.phase },{ on:=1,ground:=Ground.phase },{ on:=2,ground:=Ground.phase },{ on:=3,ground:=Ground.phase },{ on:=4,ground:=Ground.phase },{ on:=5,ground:=Ground.phase },{ on:=6,ground:=Ground.phase }],guard:=none }] true).wpIn (Fence.wide.inRound l') n Tryz.prog Q { tmps:=T,defers:=[] } w:=by
 refine Zagi (d0:=24) (m:=7) (V:=v4 B0 bt ot len ct x nn y) (by kernel_rfl) (by decide) rfl (by rw[hT];decide) (λi o ho=>?_) rfl (λk hk=>?_) (λk o hk ho L hL K hK=>?_) (λK hK=>?_)
 ·match i,ho with
  | 0,ho=>cases ho;rfl
  | 1,ho=>cases ho;rfl
  | 2,ho=>cases ho;rfl
  | 3,ho=>cases ho;rfl
  | 4,ho=>cases ho;rfl
  | 5,ho=>cases ho;rfl
  | 6,ho=>cases ho;rfl
  | 7,ho=>cases ho;rfl
  | i+8,ho=>simp at ho
 ·match k,hk with
  | 0,_=>exact⟨⟨0,.phase⟩,by simp,rfl,rfl⟩
  | 1,_=>exact⟨⟨1,.phase⟩,by simp,rfl,rfl⟩
  | 2,_=>exact⟨⟨2,.phase⟩,by simp,rfl,rfl⟩
  | 3,_=>exact⟨⟨3,.phase⟩,by simp,rfl,rfl⟩
  | 4,_=>exact⟨⟨4,.phase⟩,by simp,rfl,rfl⟩
  | 5,_=>exact⟨⟨5,.phase⟩,by simp,rfl,rfl⟩
  | 6,_=>exact⟨⟨6,.data⟩,by simp,rfl,rfl⟩
  | k+7,hk=>omega
 ·match k,hk with
  | 0,_ =>
   simp at ho
   subst ho
   refine⟨λ_ _=>trivial,?_⟩
   have e7:=(Zsv (base:=T) (D:=[]) (V:=v4 B0 bt ot len ct x nn y) (d0:=24) (m:=7) (L:=L) (j:=7) (by decide) (by rw[hT];decide)).trans h7
   generalize stL T [] _ 24 7 L=S at *
   refine upV (v:=(.int .i64 nn)) (w:=w.drew) ?_ hK
   simp[Oper.semAt,go_sem,e7,show World.cell? w.drew ⟨B2,0,none⟩=_ from c2]
  | 1,_ =>
   simp at ho
   subst ho
   refine⟨λ_ _=>trivial,?_⟩
   have e4:=(Zsv (base:=T) (D:=[]) (V:=v4 B0 bt ot len ct x nn y) (d0:=24) (m:=7) (L:=L) (j:=4) (by decide) (by rw[hT];decide)).trans h4
   generalize stL T [] _ 24 7 L=S at *
   refine upV (v:=(.pointer (some ⟨B0,0,none⟩))) (w:=w.drew) ?_ hK
   simp[Oper.semAt,go_sem,e4]
  | 2,_ =>
   simp at ho
   subst ho
   refine⟨λ_ _=>trivial,?_⟩
   have f1:=Zjn (base:=T) (D:=[]) (V:=v4 B0 bt ot len ct x nn y) (d0:=24) (m:=7) (L:=L) (k:=1) (by decide) (by rw[hT];decide) (hL ⟨1,.data⟩ (by simp) rfl)
   generalize stL T [] _ 24 7 L=S at *
   simp[v4]at f1
   refine upV (v:=(.slice (some ⟨bt,ot,none⟩) len ct)) (w:=w.drew) ?_ hK
   simp[Oper.semAt,go_sem,f1,show World.cell? w.drew ⟨B0,0,none⟩=_ from c0]
  | 3,_ =>
   simp at ho
   subst ho
   refine⟨λ_ _=>trivial,?_⟩
   have e9:=(Zsv (base:=T) (D:=[]) (V:=v4 B0 bt ot len ct x nn y) (d0:=24) (m:=7) (L:=L) (j:=9) (by decide) (by rw[hT];decide)).trans h9
   generalize stL T [] _ 24 7 L=S at *
   refine upV (v:=(.int .i64 x)) (w:=w.drew) ?_ hK
   simp[Oper.semAt,go_sem,e9]
  | 4,_ =>
   simp at ho
   subst ho
   refine⟨λ_ _=>trivial,?_⟩
   have f2:=Zjn (base:=T) (D:=[]) (V:=v4 B0 bt ot len ct x nn y) (d0:=24) (m:=7) (L:=L) (k:=2) (by decide) (by rw[hT];decide) (hL ⟨2,.data⟩ (by simp) rfl)
   have f3:=Zjn (base:=T) (D:=[]) (V:=v4 B0 bt ot len ct x nn y) (d0:=24) (m:=7) (L:=L) (k:=3) (by decide) (by rw[hT];decide) (hL ⟨3,.data⟩ (by simp) rfl)
   generalize stL T [] _ 24 7 L=S at *
   simp[v4]at f2 f3
   refine upV (v:=(.pointer (some ⟨bt,ot+x.toNat,none⟩))) (w:=w.drew) ?_ hK
   simp[Oper.semAt,go_sem,f2,f3,x0,x1]
  | 5,_ =>
   simp at ho
   subst ho
   refine⟨λ_ _=>trivial,?_⟩
   have f4:=Zjn (base:=T) (D:=[]) (V:=v4 B0 bt ot len ct x nn y) (d0:=24) (m:=7) (L:=L) (k:=4) (by decide) (by rw[hT];decide) (hL ⟨4,.data⟩ (by simp) rfl)
   generalize stL T [] _ 24 7 L=S at *
   simp[v4]at f4
   refine upV (v:=(.int .i64 y)) (w:=w.drew) ?_ hK
   simp[Oper.semAt,go_sem,f4,show World.cell? w.drew ⟨bt,ot+x.toNat,none⟩=_ from cy]
  | 6,_ =>
   simp at ho
   subst ho
   refine⟨λ_ _=>trivial,?_⟩
   have f0:=Zjn (base:=T) (D:=[]) (V:=v4 B0 bt ot len ct x nn y) (d0:=24) (m:=7) (L:=L) (k:=0) (by decide) (by rw[hT];decide) (hL ⟨0,.data⟩ (by simp) rfl)
   have f5:=Zjn (base:=T) (D:=[]) (V:=v4 B0 bt ot len ct x nn y) (d0:=24) (m:=7) (L:=L) (k:=5) (by decide) (by rw[hT];decide) (hL ⟨5,.data⟩ (by simp) rfl)
   generalize stL T [] _ 24 7 L=S at *
   simp[v4]at f0 f5
   refine upV (v:=(.int .i64 (IntKind.i64.wrap (nn.tdiv y)))) (w:=w.drew) ?_ hK
   simp[Oper.semAt,go_sem,f0,f5,hy]
  | k+7,hk=>omega
 ·refine⟨λ_ _=>trivial,?_⟩
  have e7:=(Zsv (base:=T) (D:=[]) (V:=v4 B0 bt ot len ct x nn y) (d0:=24) (m:=7) (L:=λ_=>true) (j:=7) (by decide) (by rw[hT];decide)).trans h7
  have f6:=Zjn (base:=T) (D:=[]) (V:=v4 B0 bt ot len ct x nn y) (d0:=24) (m:=7) (L:=λ_=>true) (k:=6) (by decide) (by rw[hT];decide) rfl
  have hQ:Q .normal (stL T [] (v4 B0 bt ot len ct x nn y) 24 7 (λ_=>true)) (World.setCell w.drew ⟨B2,0,none⟩ (.int .i64 (IntKind.i64.wrap (nn.tdiv y)))):=hq (stL T [] (v4 B0 bt ot len ct x nn y) 24 7 (λ_=>true)).tmps (by simp[stL,hT]) (λj hj=>Zsv (by omega) (by rw[hT];decide))
  generalize stL T [] _ 24 7 _=S at *
  simp[v4]at f6
  refine upS (w:=(World.setCell w.drew ⟨B2,0,none⟩ (.int .i64 (IntKind.i64.wrap (nn.tdiv y))))) ?_ (hK _ _ hQ)
  simp[Oper.semAt,go_sem,e7,f6,show World.cell? w.drew ⟨B2,0,none⟩=_ from c2,show World.frozen? w.drew ⟨B2,0,none⟩=_ from f2]
end Go.Proofs.YtpfnmpdcneejbaaGreatDoor
namespace Go.Proofs.YtpfnmpdcneejbaaGreatDoor.Am
open Go.RowKit
def Znb (l:List Int):Option (List Int):=grd (l.length*8<=140737488355328) (some l)
theorem Zs6 {w:World}{vs:Shp}{m:MM}{l:List Int}(k:Nat)(e:List AV)(he:(l.map cI)[k]?=some e):e.length=1/\∀(j:Nat)(y:AV),e[j]?=some y->Fr y/\∃u,(l.map (Value.int .i64))[k*1+j]?=some u/\u.oneCell'=true/\RV w vs m y u:=by
 obtain⟨x,hx,rfl⟩:=Zsk he
 refine⟨rfl,λj y hy=>?_⟩
 match j,hy with
 | 0,hy=>simp[cI]at hy;subst hy;exact⟨.c _,_,by rw[Nat.mul_one,Nat.add_zero,List.getElem?_map,hx];rfl,rfl,.c _⟩
 | j+1,hy=>simp[cI]at hy
theorem Zro (l:List Int){r:List Int}(h:Znb l=some r):Zc8 cx 21 [.sl 1 (l.map cI)] [] [] (.own 0 0 0 r.length) [(0,⟨3,1,false,r.map cI⟩)]:=by
 obtain⟨h0,h⟩:=Zaf h
 obtain rfl:=sI_ h
 refine⟨Zma Tryz.func21 rfl (by decide),λw m cargs hg hM hsz hargs=>?_⟩
 obtain⟨v,rfl⟩:=Zaex hsz
 obtain⟨A,cap,b,off,f,rfl,hA,hcap,_,_,hc,hv,_⟩:=Zxj (hargs 0 _ v rfl rfl)
 have hlen:(l.map cI).length=l.length:=lM_ _
 have done:∀(w':World) (v':Value),w'.ownsRow w.heap.size 3 1 v' l.length (l.map (Value.int .i64))->Below w.heap.size w w' ->
   ∃m',GR cx w m [] [] (.own 0 0 0 l.length) [(0,⟨3,1,false,l.map cI⟩)] v' m' w':=λw' v' ho hb=>by
  have hge:∀b,v'.ownBlock=some b->w.heap.size<=b:=λb hb=>by
   rcases ho.2 with⟨rfl,_⟩|⟨g,cap,cur,rfl,hbase,_⟩
   ·cases hb
   ·simp[Value.ownBlock]at hb;omega
  exact⟨_,Zafq (i0:=0) (v:=.slice none 0 0) (row:=none) hM hg (.inl rfl) (Zoo ho (Nat.zero_le _)) ⟨hb.os,hb.tape,hb.output,hb.size,λb hb' _=>hb.block b hb'⟩ (.inl rfl) (.inr hge) (lM_ _) (λk e he=>Zs6 k e he)⟩
 have fin:∀(w':World) (v':Value),w'.ownsRow w.heap.size 3 1 v' l.length (l.map (Value.int .i64))->Below w.heap.size w w'->_:=λw' v' ho hb=>(done w' v' ho hb)
 by_cases hl:l=[]
 ·subst hl
  cases A with
  | none =>
   refine(Tryz.slices_Clone_int_nil _ cap w).mono ?_
   rintro e w' ⟨rfl,rfl⟩
   obtain⟨m',hm'⟩:=done w' (.slice none 0 0) ⟨rfl,.inl ⟨rfl,rfl⟩⟩ (Below.refl _ _)
   exact⟨_,m',rfl,hm'⟩
  | some a =>
   refine(Tryz.slices_Clone_int_zero a cap w).mono ?_
   rintro e w' ⟨v',rfl,ho,_,hb⟩
   obtain⟨m',hm'⟩:=done w' v' ho hb
   exact⟨_,m',rfl,hm'⟩
 ·obtain⟨rfl,_,_⟩:=hA (by simpa using hl)
  rw[hlen]
  refine(Tryz.slices_Clone_int b off l.length cap l w (Nat.le_refl _) h0 (λj hj=>?_)).mono ?_
  ·have hx:=gE_ hj
   have:=(hc j 0 _ _ (Zad hx) rfl).1
   rw[Zjp (hv j 0 _ _ (Zad hx) rfl)]at this
   simpa [gD_,hx] using this
  ·rintro e w' ⟨v',rfl,ho,_,hb⟩
   rw[tL_ (Nat.le_refl _)]at ho
   obtain⟨m',hm'⟩:=done w' v' ho hb
   exact⟨_,m',rfl,hm'⟩
def Zagu : List Int->List Int
 | []=>[]
 | [x]=>[x]
 | x :: y :: r=>(x :: y :: r).mergeSort λx y=>decide (x<=y)
theorem Zsu : ∀l:List Int,Zagu l=l.mergeSort λx y=>decide (x<=y)
 | []=>by rw[List.mergeSort_nil];rfl
 | [x]=>by rw[List.mergeSort_singleton];rfl
 | x :: y :: r=>rfl
theorem Zot (l:List Int):(Zagu l).length=l.length:=by rw[Zsu];exact List.length_mergeSort l
theorem Zz3 {w:World}{vs:Shp}{m:MM}{l:List Int}{xs:List Value}(h:Flat w vs m 1 (l.map cI) xs.toArray)(hl:xs.length=l.length*1):xs=l.map (Value.int .i64):=by
 apply List.ext_getElem?
 intro i
 by_cases hi:i<l.length
 ·have hx:=gE_ hi
  obtain⟨_,h2⟩:=h.2 i (cI l[i]) (Zad hx)
  obtain⟨u,u1,_,u3⟩:=h2 0 _ rfl
  rw[List.getElem?_toArray,Nat.mul_one,Nat.add_zero]at u1
  rw[u1,Zjp u3,List.getElem?_map,hx]
  rfl
 ·rw[List.getElem?_eq_none (by omega),List.getElem?_eq_none (by rw[lM_];omega)]
theorem Zaiq (v:Value)(l:List Int)(w:World)(h:w.ownsRow 0 3 1 v l.length (l.map (Value.int .i64)))(hl:l.length<4611686018427387904) :
  Calls Tryz.prog 71 #[v] w λe w'=>e=.returned (.tuple #[])/\w'.ownsRow 0 3 1 v l.length ((Zagu l).map (Value.int .i64))/\w.grownBy w' v.ownBlock:=by
 rcases h.2 with⟨rfl,h0⟩|⟨g,cap,cur,rfl,hbase,hb,hn,hm,hcs,htake⟩
 ·have hnil:l=[]:=List.length_eq_zero_iff.1 h0
  subst hnil
  refine(Any.slices_Sort_int_none Tryz.lays189 none 0 w).mono ?_
  rintro e w' ⟨rfl,rfl⟩
  exact⟨rfl,h,World.grownBy.refl _ _⟩
 ·rw[Nat.mul_one]at htake hcs
  have hH:=holds_of_blockI hb htake
  refine(Tryz.slices_Sort_int g 0 cap l w hH (Array.getElem?_eq_some_iff.1 hb).1 hl).mono ?_
  rintro e w' ⟨rfl,n,os,rfl⟩
  have hrow:=ownsRow_sortedI (n:=n) (os:=os) (Zot l) (Nat.zero_le g) hb hn hm (by rw[hcs,Nat.mul_one])
  rw[<-Zsu]
  exact⟨rfl,hrow,grownBy_sortedI _⟩
def Zwp (l:List Int):Option (List Int):=grd (l.length<4611686018427387904) (some (Zagu l))
theorem Zam5 (l:List Int){r:List Int}(h:Zwp l=some r):Zc8 cx 71 [.own 11 0 0 l.length] [(11,⟨3,1,false,l.map cI⟩)] [11] (.tup []) [(11,⟨3,1,false,r.map cI⟩)]:=by
 obtain⟨h0,h⟩:=Zaf h
 have h:=sI_ h
 subst h
 refine⟨Zma Tryz.func71 rfl (by decide),λw m cargs hg hM hsz hargs=>?_⟩
 obtain⟨v,rfl⟩:=Zaex hsz
 obtain⟨xs,hrow,hfl,hm0⟩:=Zq7 (η:=fE [(11,⟨3,1,false,l.map cI⟩)]) (hargs 0 _ v rfl rfl) rfl (hM.ok 11 _ rfl) (by simp)
 simp only at hrow hfl
 have hxs:=Zz3 hfl hrow.1
 subst hxs
 refine(Zaiq v l w hrow h0).mono ?_
 rintro e w' ⟨rfl,ho,hgr⟩
 have hlen:=Zot l
 exact⟨_,m,rfl,Zadj hM hg hm0 ho hgr (λb hb=>Zaak hrow ho hb) (by rw[lM_,hlen]) (λm'=>.tup rfl (λj x u hx=>by simp at hx)) (λk e he=>Zs6 k e he)⟩
theorem Zajj {w:World}{vs:Shp}{m:MM}{v:Value}{n:Nat}{l:List Int}(hrow:w.ownsRow 0 3 1 v n (l.map (Value.int .i64)))(hl:l.length=n):BlkOk w vs m ⟨3,1,false,l.map cI⟩ v.ownBlock:=by
 rcases hrow.2 with⟨rfl,h0⟩|⟨g,cap,cur,rfl,_,hh,hnc,hmx,hcs,htake⟩
 ·exact⟨by rw[List.eq_nil_of_length_eq_zero (hl.trans h0)];rfl,rfl⟩
 ·refine⟨cur,.cells hh rfl,?_,λk e he=>?_⟩
  ·show(l.map cI).length*1<=cur.size
   rw[hcs,lM_,hl]
   exact Nat.mul_le_mul_right _ hnc
  ·obtain⟨h1,h2⟩:=Zs6 (w:=w) (vs:=vs) (m:=m) k e he
   refine⟨h1,λj y hy=>?_⟩
   obtain⟨_,u,u1,u2,u3⟩:=h2 j y hy
   refine⟨u,?_,λ_=>u2,u3⟩
   rw[<-htake,List.getElem?_take]at u1
   split at u1
   ·simpa using u1
   ·cases u1
theorem Zz7 {w w':World}{m:MM}{v v':Value}{l:List Int}(hM:Mem cx.N w (fE [(8,⟨3,1,false,l.map cI⟩)]) m)(hG:cx.Gl w)(hm0:m 8=v.ownBlock)(hrow:w.ownsRow 0 3 1 v l.length (l.map (Value.int .i64)))
  (ho:w'.ownsRow w.heap.size 3 1 v' l.length (l.map (Value.int .i64))) (hb:Below w.heap.size w w') :
  GR cx w m [(8,⟨3,1,false,l.map cI⟩)] [8] (.own 0 0 0 l.length) [(0,⟨3,1,false,l.map cI⟩),(8,⟨3,1,false,l.map cI⟩)] v' ⟨λk=>if k=0 then v'.ownBlock else m k,m.O⟩ w':=by
 have hge:∀b,v'.ownBlock=some b->w.heap.size<=b:=λb hb=>by
  rcases ho.2 with⟨rfl,_⟩|⟨g,cap,cur,rfl,hbase,_⟩
  ·cases hb
  ·simp[Value.ownBlock]at hb;omega
 have hlive8:(fE [(8,(⟨3,1,false,l.map cI⟩:Blk))] 8).blk≠none:=by simp[fE]
 have hlow:∀b,m 8=some b->b<w.heap.size:=λb h=>by
  rw[hm0]at h
  rcases hrow.2 with⟨rfl,_⟩|⟨g,cap,cur,rfl,_,hh,_⟩
  ·cases h
  ·have:g=b:=by simpa [Value.ownBlock] using h
   subst this
   exact(Array.getElem?_eq_some_iff.1 hh).1
 have hblk:∀b,b<w.heap.size->w'.heap[b]?=w.heap[b]?:=λb h=>hb.block b h
 have hrow':w'.ownsRow 0 3 1 v l.length (l.map (Value.int .i64)):=by
  refine⟨hrow.1,?_⟩
  rcases hrow.2 with h|⟨g,cap,cur,h1,h2,hh,h3⟩
  ·exact .inl h
  ·exact .inr ⟨g,cap,cur,h1,h2,by rw[hblk g (Array.getElem?_eq_some_iff.1 hh).1];exact hh,h3⟩
 have hlive:∀i,(fE [(0,(⟨3,1,false,l.map cI⟩:Blk)),(8,⟨3,1,false,l.map cI⟩)] i).blk≠none->i=0\/i=8:=λi hi=>by
  have:=Zgu.1 hi
  simpa [Zmb] using this
 refine⟨?_,⟨λi B hB=>?_,λi j b hi hj h1 h2=>?_,λi b hi h=>?_,λi b hi h hO=>?_,λb hO=>⟨Nat.lt_of_lt_of_le (hM.olt b hO).1 hb.size,(hM.olt b hO).2⟩,Nat.le_trans hM.big hb.size⟩,rfl,⟨hb.os,hb.tape,hb.output,hb.size,λb h hx=>hblk b h⟩,λi b hi h=>?_,λi hi=>?_,cx.keep w w' (λb h=>hblk b (Nat.lt_of_lt_of_le h hM.big)) hG⟩
 ·rcases ho.2 with⟨rfl,h0⟩|⟨g,cap,cur,rfl,_,hh,hnc,hmx,hcs,htake⟩
  ·rw[h0]
   exact .ownN (sz:=1) rfl rfl
  ·have:=RV.own (w:=w') (vs:=shp (fE [(0,⟨3,1,false,l.map cI⟩),(8,⟨3,1,false,l.map cI⟩)])) (m:=⟨λk=>if k=0 then(Value.slice (some ⟨g,0,none⟩) l.length cap).ownBlock else m k,m.O⟩) (i:=0) (ver:=0) (sz:=1) (k:=0) (b:=g) (ty:=3) (n:=cur.size) (len:=l.length) (cap:=cap) rfl rfl hnc hmx (by simp[World.shape?,hh]) (by rw[Nat.zero_add,hcs])
   simpa using this
 ·rcases hlive i (by rw[hB];simp)with rfl|rfl
  ·cases hB
   exact Zajj (Zoo ho (Nat.zero_le _)) rfl
  ·cases hB
   show BlkOk _ _ _ _ (m 8)
   rw[hm0]
   exact Zajj hrow' rfl
 ·have key:∀b',v'.ownBlock=some b'->m 8=some b'->False:=λb' q1 q2=>by
   have:=hge b' q1;have:=hlow b' q2;omega
  rcases hlive i hi with rfl|rfl <;> rcases hlive j hj with rfl|rfl
  ·rfl
  ·exact(key b h1 h2).elim
  ·exact(key b h2 h1).elim
  ·rfl
 ·rcases hlive i hi with rfl|rfl
  ·exact Nat.le_trans hM.big (hge b h)
  ·exact hM.low 8 b hlive8 h
 ·rcases hlive i hi with rfl|rfl
  ·have:=hge b h;have:=(hM.olt b hO).1;omega
  ·exact hM.sep 8 b hlive8 h hO
 ·rcases hlive i hi with rfl|rfl
  ·exact .inr (hge b h)
  ·exact .inl ⟨8,hlive8,h⟩
 ·simp only[mI_]at hi
  subst hi
  exact⟨rfl,λb h=>by simp only[World.shape?,hblk b (hlow b h)]⟩
def Zu0 (l:List Int):Option (List Int×List Int):=grd (l.length*8<=140737488355328) (some (l,l))
theorem Zam2 (l:List Int){r r':List Int}(h:Zu0 l=some (r,r')):Zc8 cx 21 [.own 8 0 0 l.length] [(8,⟨3,1,false,l.map cI⟩)] [8] (.own 0 0 0 r.length) [(0,⟨3,1,false,r.map cI⟩),(8,⟨3,1,false,r'.map cI⟩)]:=by
 obtain⟨h0,h⟩:=Zaf h
 obtain⟨rfl,rfl⟩:=Prod.mk.inj (sI_ h)
 refine⟨Zma Tryz.func21 rfl (by decide),λw m cargs hg hM hsz hargs=>?_⟩
 obtain⟨v,rfl⟩:=Zaex hsz
 obtain⟨xs,hrow,hfl,hm0⟩:=Zq7 (η:=fE [(8,⟨3,1,false,l.map cI⟩)]) (hargs 0 _ v rfl rfl) rfl (hM.ok 8 _ rfl) (by simp)
 simp only at hrow hfl
 have hxs:=Zz3 hfl hrow.1
 subst hxs
 rcases id hrow.2 with⟨rfl,h1⟩|⟨g,cap,cur,rfl,_,hb,hn,hm,hcs,htake⟩
 ·have hnil:l=[]:=List.length_eq_zero_iff.1 h1
  subst hnil
  refine(Tryz.slices_Clone_int_nil _ 0 w).mono ?_
  rintro e w' ⟨rfl,rfl⟩
  exact⟨_,_,rfl,Zz7 (v':=.slice none 0 0) hM hg hm0 hrow ⟨rfl,.inl ⟨rfl,rfl⟩⟩ (Below.refl _ _)⟩
 ·have hall:∀j,j<l.length->w.cell? ⟨g,0+j,none⟩=some (.int .i64 (l.getD j 0)):=λj hj=>by
   have:=hrow.cellAt j (by omega)
   rw[Nat.zero_add,this]
   simp[gD_,gE_ hj]
  by_cases hl:l=[]
  ·subst hl
   refine(Tryz.slices_Clone_int_zero ⟨g,0,none⟩ cap w).mono ?_
   rintro e w' ⟨v',rfl,ho,_,hb'⟩
   exact⟨_,_,rfl,Zz7 hM hg hm0 hrow ho hb'⟩
  ·refine(Tryz.slices_Clone_int g 0 l.length cap l w (Nat.le_refl _) h0 (λj hj=>?_)).mono ?_
   ·simpa using hall j hj
   ·rintro e w' ⟨v',rfl,ho,_,hb'⟩
    rw[tL_ (Nat.le_refl _)]at ho
    exact⟨_,_,rfl,Zz7 hM hg hm0 hrow ho hb'⟩
end Go.Proofs.YtpfnmpdcneejbaaGreatDoor.Am
namespace Go.Proofs.YtpfnmpdcneejbaaGreatDoor
open Go.RowKit Go.Shelf Am
attribute [local go_sem] Oper.semAt_some
def putS (tv:List Int)(p:List Int×Int)(x:Int):List Int×Int:=(p.1.set x.toNat (p.2.tmod (tv[x.toNat]?.getD 0)),IntKind.i64.wrap (p.2.tdiv (tv[x.toNat]?.getD 0)))
def okP (tv:List Int)(n:Nat)(x:Int):Prop:=0<=x/\x.toNat<tv.length/\tv[x.toNat]?.getD 0≠0/\x.toNat<n
theorem Zad1 (tv:List Int):∀(xs:List Int)(p:List Int×Int),(xs.foldl (putS tv) p).1.length=p.1.length
 | [],p=>rfl
 | x :: r,p=>by rw[List.foldl_cons,Zad1 tv r];simp[putS]
theorem new4 (w:World)(o0 o1 o2 o3:Obj):((((w.alloc o0).alloc o1).alloc o2).alloc o3).heap[w.heap.size]?=some o0/\((((w.alloc o0).alloc o1).alloc o2).alloc o3).heap[w.heap.size+1]?=some o1 /\
  ((((w.alloc o0).alloc o1).alloc o2).alloc o3).heap[w.heap.size+2]?=some o2/\((((w.alloc o0).alloc o1).alloc o2).alloc o3).heap[w.heap.size+3]?=some o3:=by
 have h0:=World.alloc_heap_new w o0
 have h1:=World.alloc_heap_new (w.alloc o0) o1
 have h2:=World.alloc_heap_new ((w.alloc o0).alloc o1) o2
 have h3:=World.alloc_heap_new (((w.alloc o0).alloc o1).alloc o2) o3
 simp only[World.size_alloc]at h1 h2 h3
 have e:∀(W:World) (o o':Obj) (k:Nat),W.heap[k]?=some o'->(W.alloc o).heap[k]?=some o':=λW o o' k h=>(Below.heap_alloc W o k (Array.getElem?_eq_some_iff.1 h).1).trans h
 exact⟨e _ _ _ _ (e _ _ _ _ (e _ _ _ _ h0)),e _ _ _ _ (e _ _ _ _ h1),e _ _ _ _ h2,h3⟩
set_option maxRecDepth 100000 in
set_option maxHeartbeats 4000000 in
theorem Zawu (w:World)(bt ot ct:Nat)(At:Option Addr)(tv:List Int)(a1 a2 a3 sv v:Value)(zs l:List Int)(n:Int)(X:Nat->Prop)(hX:∀k,X k↔(k<w.heap.size/\v.ownBlock≠some k)\/k=w.heap.size+3)
  (hs:zs.length<=140737488355328) (hA:tv≠[]->At=some ⟨bt,ot,none⟩/\X bt) (hct:tv.length<=140737488355328) (hc:∀j,j<tv.length->w.cell? ⟨bt,ot+j,none⟩=some (.int .i64 (tv[j]?.getD 0)))
  (hI:IntsX X w sv zs) (hv:w.ownsRow 0 3 1 v l.length (l.map (Value.int .i64))) (hok:∀z∈zs,okP tv l.length z) :
  CallsIn Fence.wide 4 Tryz.prog 43 #[.agg #[.slice At tv.length ct,a1,a2,a3],sv,v,.int .i64 n] w λe w'=>e=.returned (.tuple #[])/\w'.ownsRow 0 3 1 v l.length (((zs.reverse.foldl (putS tv) (l,n)).1).map (Value.int .i64))/\w.grownBy w' v.ownBlock:=by
 have hsv:∃A k c,sv=.slice A k c:=by
  rcases hI with⟨A,c,rfl,_⟩|⟨b,o,c,rfl,_⟩ <;> exact⟨_,_,_,rfl⟩
 obtain⟨sA,sk,sc,rfl⟩:=hsv
 obtain⟨vA,vc,rfl,hvA⟩:∃vA vc,v=.slice vA l.length vc/\(vA=none\/∃g,vA=some ⟨g,0,none⟩):=by
  rcases hv.2 with⟨rfl,h0⟩|⟨g,cap,cur,rfl,_⟩
  ·exact⟨none,0,by rw[h0],.inl rfl⟩
  ·exact⟨_,_,rfl,.inr ⟨g,rfl⟩⟩
 refine callsIn_of_wp_marks Tryz.func43 rfl trivial ?_ rfl
 simp only[Tryz.ntmps43,List.size_toArray,lC_,List.length_nil,Nat.reduceAdd,Nat.reduceSub,Array.replicate_succ,Array.replicate_zero,List.push_toArray,List.append_toArray,List.nil_append,List.cons_append]
 gi_wp2_with (refine⟨trivial,?_⟩;gi_at_call 72;refine(Zatu Fence.wide (4-1) trivial rfl sA sk sc _).mono ?_;rintro e w' ⟨rfl,rfl⟩)
 obtain⟨W0,hW0⟩:∃W0,(((w.alloc (.cells #[.slice At tv.length ct,a1,a2,a3] 26)).alloc (.cells #[.slice vA l.length vc] 22)).alloc (.cells #[.int .i64 n] 3)).alloc (.cells #[.slice sA sk sc] 22)=W0:=⟨_,rfl⟩
 have hsz:W0.heap.size=w.heap.size+4:=by rw[<-hW0];simp
 have hbW:Below w.heap.size w W0:=by rw[<-hW0];exact((((Below.refl _ w).alloc (Nat.le_refl _) _).alloc (by simp) _).alloc (by simp;omega) _).alloc (by simp;omega) _
 obtain⟨b0,b1,b2,b3⟩:=new4 w (.cells #[.slice At tv.length ct,a1,a2,a3] 26) (.cells #[.slice vA l.length vc] 22) (.cells #[.int .i64 n] 3) (.cells #[.slice sA sk sc] 22)
 rw[hW0]at b0 b1 b2 b3
 have c0:W0.cell? ⟨w.heap.size,0,none⟩=some (.slice At tv.length ct):=by simp[World.cell?,b0]
 have c1:W0.cell? ⟨w.heap.size+1,0,none⟩=some (.slice vA l.length vc):=by simp[World.cell?,b1]
 have c2:W0.cell? ⟨w.heap.size+2,0,none⟩=some (.int .i64 n):=by simp[World.cell?,b2]
 have f2:W0.frozen? ⟨w.heap.size+2,0,none⟩=false:=by simp[World.frozen?,b2]
 have c3:W0.cell? ⟨w.heap.size+3,0,none⟩=some (.slice sA sk sc):=by simp[World.cell?,b3]
 rw[hW0]
 have hIW:IntsX X W0 (.slice sA sk sc) zs:=hI.below hbW
 have hcX:∀j,j<tv.length->W0.cell? ⟨bt,ot+j,none⟩=some (.int .i64 (tv[j]?.getD 0)):=λj hj=>by
  obtain⟨ob,ho,_⟩:=cells_of_cell (hc j hj)
  exact(hbW.cell (p:=⟨bt,ot+j,none⟩) (Array.getElem?_eq_some_iff.1 ho).1).trans (hc j hj)
 have hvW:W0.ownsRow 0 3 1 (.slice vA l.length vc) l.length (l.map (Value.int .i64)):=hv.kept (row:=none) ⟨hbW.os,hbW.tape,hbW.output,hbW.size,λi hi _=>hbW.block i hi⟩ (by cases (Value.slice vA l.length vc).ownBlock <;> simp)
 have hgW:w.grownBy W0 (Value.slice vA l.length vc).ownBlock:=⟨hbW.os,hbW.tape,hbW.output,hbW.size,λi hi _=>hbW.block i hi⟩
 refine wpIn_rangeFunc_ownF (α:=Pv (okP tv l.length)) rfl (by decide) (gf:=95) (lb:=#[.pointer (some ⟨w.heap.size+3,0,none⟩)]) rfl trivial (enters_of Tryz.func95 (by kernel_rfl) rfl)
  (Zalj Fence.wide (4-1) trivial rfl (by decide) (w.heap.size+3) X ((hX _).2 (.inr rfl)) (okP tv l.length) (.slice sA sk sc) zs hok hs W0 (by omega) c3 hIW) KeepX.trans (Zaui (λk hk=>by rcases(hX k).1 hk with h|h <;> omega)) (Below.refl _ _) (λ_=>rfl)
  (λpre W=>(∃q:List Int×Int,q=(pre.map (λx:Pv (okP tv l.length)=>x.1.2)).foldl (putS tv) (l,n)/\W.ownsRow 0 3 1 (.slice vA l.length vc) l.length (q.1.map (Value.int .i64))/\W.cell? ⟨w.heap.size+2,0,none⟩=some (.int .i64 q.2)) /\
   W.frozen? ⟨w.heap.size+2,0,none⟩=false/\W.cell? ⟨w.heap.size,0,none⟩=some (.slice At tv.length ct)/\W.cell? ⟨w.heap.size+1,0,none⟩=some (.slice vA l.length vc)/\w.grownBy W (Value.slice vA l.length vc).ownBlock/\KeepX X W0 W)
  (λ_ _ _=>False) ?_ (λ_ _ _ _ _ hs _ _=>hs) ⟨⟨_,rfl,hvW,c2⟩,f2,c0,c1,hgW,KeepX.refl _ _⟩
  (λx=>{ tmps:=#[.agg #[.slice At tv.length ct,a1,a2,a3],.slice sA sk sc,.slice vA l.length vc,.int .i64 n,.pointer (some ⟨w.heap.size,0,none⟩),undef,.pointer (some ⟨w.heap.size+1,0,none⟩),.pointer (some ⟨w.heap.size+1+1,0,none⟩),undef,.int .i64 x.1.2,.slice sA sk sc,
   .func (.func 95) #[] #[.pointer (some ⟨w.heap.size+1+1+1,0,none⟩)],.int .i64 x.1.1,.int .i64 x.1.2,undef,undef,undef,undef,undef,undef,undef,undef,undef,undef,undef,undef,undef,undef,undef,undef,undef],defers:=[] }) ?assign ?body ?done ?stop
 ·rintro s A B row ⟨⟨q,hq,hrow,hn⟩,hf,h0,h1,hg,hk⟩ hgr hr
  have hr':∀r,row=some r->∃o:Obj,A.heap[r]?=some o/\o.isCells=false:=λr e=>(hr r e).2
  refine⟨⟨q,hq,hrow.kept hgr ?_,cell_kept hn hgr hr'⟩,(frozen_kept hn hgr hr').trans hf,cell_kept h0 hgr hr',cell_kept h1 hgr hr',⟨hgr.os.trans hg.os,hgr.tape.trans hg.tape,hgr.output.trans hg.output,Nat.le_trans hg.size hgr.size,λk hk1 hk2=>?_⟩,hk.trans ⟨hgr.size,λk hX' hk1=>hgr.block k hk1 (λe=>?_)⟩⟩
  ·cases hrw:row with
   | none=>cases (Value.slice vA l.length vc).ownBlock <;> simp
   | some r =>
    right
    intro e
    obtain⟨h1',_⟩:=hr r hrw
    have:=(hv.lt r (by rw[e])).2
    omega
  ·rw[hgr.block k (Nat.lt_of_lt_of_le hk1 hg.size) (λe=>?_)]
   ·exact hg.block k hk1 hk2
   ·have:=(hr k e.symm).1
    omega
  ·have:=(hr k e.symm).1
   rcases(hX k).1 hX' with h|h <;> omega
 case assign =>
  intro l' x W K hK
  gi_wp2
  exact hK
 case body =>
  rintro l' pre ⟨⟨xi,xv⟩,x0,x1,x2,x3⟩ W ⟨⟨q,hq,hrow,hn⟩,hf,h0,h1,hg,hk⟩ _
  simp only at x0 x1 x2 x3
  obtain⟨g,rfl⟩:∃g,vA=some ⟨g,0,none⟩:=by
   rcases hvA with h|h
   ·exfalso
    rcases hrow.2 with⟨_,e⟩|⟨g,cap,cur,e,_⟩
    ·omega
    ·rw[h]at e;cases e
   ·exact h
  have hql:q.1.length=l.length:=by rw[hq];exact Zad1 tv _ (l,n)
  obtain⟨y,hy⟩:∃y,tv[xv.toNat]?.getD 0=y:=⟨_,rfl⟩
  obtain⟨rfl,hXb⟩:=hA (λe=>by rw[e]at x1;simp at x1)
  have hcy:=hk.cell hXb (hcX _ x1)
  rw[hy]at hcy
  have hy0:y≠0:=by rw[<-hy];exact x2
  have hgl:=hv.lt g rfl
  have hge:w.heap.size<=W.heap.size:=hg.size
  have hXg:∀k,X k->k≠g:=λk hX' e=>by
   rcases(hX k).1 hX' with h|h
   ·exact h.2 (by rw[e];rfl)
   ·omega
  gi_wp2
  refine reg3 (x:=xv) rfl rfl rfl rfl rfl h0 h1 hn hcy hy0 x0 (by omega) (by omega) (u:=.int .i64 (q.1[xv.toNat]?.getD 0)) ?_ (hrow.frozenAt _) (λT' hTs hT'=>?_)
  ·rw[hrow.cellAt _ (by omega),List.getElem?_map,gE_ (by omega)]
   rfl
  have a1:T'[4]?=some (.pointer (some ⟨w.heap.size,0,none⟩)):=(hT' 4 (by decide)).trans rfl
  have a2:T'[7]?=some (.pointer (some ⟨w.heap.size+1+1,0,none⟩)):=(hT' 7 (by decide)).trans rfl
  have a3:T'[9]?=some (.int .i64 xv):=(hT' 9 (by decide)).trans rfl
  obtain⟨W1,hW1⟩:∃W1,W.drew.setCell ⟨g,xv.toNat,none⟩ (.int .i64 (q.2.tmod y))=W1:=⟨_,rfl⟩
  have hoth:∀b o,b≠g->W1.cell? ⟨b,o,none⟩=W.cell? ⟨b,o,none⟩:=λb o hb=>by
   rw[<-hW1];exact World.cell?_of_block (Below.heap_setCell W.drew ⟨g,xv.toNat,none⟩ _ b hb)
  have hst:=(show W.drew.ownsRow 0 3 1 _ _ _ from hrow).stored xv.toNat (.int .i64 (q.2.tmod y))
  rw[hW1]at hst ⊢
  have hf1:W1.frozen? ⟨w.heap.size+1+1,0,none⟩=false:=by rw[<-hW1,World.frozen?_setCell];exact hf
  have hn1:=(hoth (w.heap.size+1+1) 0 (by omega)).trans hn
  have h01:=(hoth w.heap.size 0 (by omega)).trans h0
  have h11:=(hoth (w.heap.size+1) 0 (by omega)).trans h1
  have hcy1:=(hoth bt (ot+xv.toNat) (hXg bt hXb)).trans hcy
  gi_wp2
  refine reg4 (x:=xv) hTs a1 a2 a3 h01 hn1 hf1 hcy1 hy0 x0 (by omega) (λT'' _ _=>?_)
  obtain⟨W2,hW2⟩:∃W2,W1.drew.setCell ⟨w.heap.size+1+1,0,none⟩ (.int .i64 (IntKind.i64.wrap (q.2.tdiv y)))=W2:=⟨_,rfl⟩
  have hb1:∀b,b≠g->W1.heap[b]?=W.heap[b]?:=λb hb=>by rw[<-hW1];exact Below.heap_setCell W.drew ⟨g,xv.toNat,none⟩ _ b hb
  have hb2:∀b,b≠w.heap.size+2->W2.heap[b]?=W1.heap[b]?:=λb hb=>by rw[<-hW2];exact Below.heap_setCell W1.drew ⟨w.heap.size+1+1,0,none⟩ _ b hb
  have hs1:W1.heap.size=W.heap.size:=by rw[<-hW1];simp
  have hs2:W2.heap.size=W1.heap.size:=by rw[<-hW2];simp
  have hko:KeepsOthers W W2:=by
   refine((KeepsOthers.drew W).trans ?_).trans ((KeepsOthers.drew W1).trans ?_)
   ·rw[<-hW1];exact KeepsOthers.setCell _ _ _
   ·rw[<-hW2];exact KeepsOthers.setCell _ _ _
  have hkx:KeepX X W W2:=⟨by omega,λk hX' hk1=>by
   rw[hb2 k (λe=>by rcases(hX k).1 hX' with h|h <;> omega),hb1 k (hXg k hX')]⟩
  have hg12:W1.grownBy W2 (some (w.heap.size+2)):=⟨by rw[<-hW2];rfl,by rw[<-hW2];rfl,by rw[<-hW2];rfl,by omega,λk _ hk2=>hb2 k (λe=>hk2 (by rw[e]))⟩
  have hgW1:W.grownBy W1 (some g):=⟨by rw[<-hW1];rfl,by rw[<-hW1];rfl,by rw[<-hW1];rfl,by omega,λk _ hk2=>hb1 k (λe=>hk2 (by rw[e]))⟩
  have hrow2:W2.ownsRow 0 3 1 (.slice (some ⟨g,0,none⟩) l.length vc) l.length ((q.1.set xv.toNat (q.2.tmod y)).map (Value.int .i64)):=by
   have:=hst.1.kept hg12 (.inr (by intro e;injection e with e;simp[Value.ownBlock]at e;omega))
   rw[<-List.map_set]at this
   exact this
  rw[hW2]
  refine⟨hko,hkx,⟨(q.1.set xv.toNat (q.2.tmod y),IntKind.i64.wrap (q.2.tdiv y)),?_,hrow2,?_⟩,?_,?_,?_,?_,hk.trans hkx⟩
  ·rw[List.map_append,List.foldl_append,<-hq]
   show _=putS tv q xv
   simp only[putS,hy]
  ·rw[<-hW2];exact World.cell?_setCell_same' W1.drew _ _ (by rw[show W1.drew.cell? ⟨w.heap.size+1+1,0,none⟩=_ from hn1];rfl)
  ·rw[<-hW2,World.frozen?_setCell];exact hf1
  ·exact(World.cell?_of_block (hb2 _ (by show w.heap.size≠_;omega))).trans h01
  ·exact(World.cell?_of_block (hb2 _ (by show w.heap.size+1≠_;omega))).trans h11
  ·exact⟨hg12.os.trans (hgW1.os.trans hg.os),hg12.tape.trans (hgW1.tape.trans hg.tape),hg12.output.trans (hgW1.output.trans hg.output),by omega,λk hk1 hk2=>by
    rw[hb2 k (by omega),hb1 k (λe=>hk2 (by rw[e];rfl))]
    exact hg.block k hk1 hk2⟩
 case done =>
  rintro D ys W hD hys ⟨⟨q,hq,hrow,hn⟩,hf,h0,h1,hg,hk⟩ hK
  gi_wp2
  refine⟨by simp,.inl ⟨_,_,rfl,run_takeDeferred hK,?_⟩⟩
  rw[hys]at hq
  refine⟨_,results_none rfl _ _ _,rfl,?_,?_⟩
  ·rw[<-hq];exact ownsRow_putObj hrow _ hK rfl
  ·have:=grownBy_putObj' W D (.deferred none)
   have hDW:=(Array.getElem?_eq_some_iff.1 hK).1
   exact⟨this.os.trans hg.os,this.tape.trans hg.tape,this.output.trans hg.output,Nat.le_trans hg.size this.size,λk hk1 hk2=>(this.block k (Nat.lt_of_lt_of_le hk1 hg.size) (λe=>by cases e;omega)).trans (hg.block k hk1 hk2)⟩
 case stop =>
  rintro D c pre W _ _ h _
  exact h.elim
namespace Am
def putV (tv:List Int)(zs l:List Int)(n:Int):List Int:=(zs.reverse.foldl (putS tv) (l,n)).1
def okB (tv:List Int)(n:Nat)(x:Int):Bool:=decide (0<=x)&&decide (x.toNat<tv.length)&&decide (tv[x.toNat]?.getD 0≠0)&&decide (x.toNat<n)
def Zzm (t:Zah)(zs l:List Int)(n:Int):Option (List Int):=grd (zs.all (okB t.Vars l.length)) (some (putV t.Vars zs l n))
theorem Zatk (t:Zah)(zs l:List Int)(n:Int){r:List Int}(h:Zzm t zs l n=some r):Zc8 cx 43 [.agg [.sl 1 (t.Vars.map cI),.sl 1 (t.Init.map cI),.sl 2 (t.Goal.map cF),.sl 4 (t.Ops.map Za0)],.sl 1 (zs.map cI),.own 33 0 0 l.length,.c (.int .i64 n)] [(33,⟨3,1,false,l.map cI⟩)] [33] (.tup []) [(33,⟨3,1,false,r.map cI⟩)]:=by
 obtain⟨h0,h⟩:=Zaf h
 have h:=sI_ h
 subst h
 refine⟨Zma Tryz.func43 rfl (by decide),λw m cargs hg hM hsz hargs=>?_⟩
 obtain⟨tvv,sv,v,nv,rfl⟩:∃a b c d,cargs=#[a,b,c,d]:=by
  obtain⟨l⟩:=cargs
  match l,hsz with
  | [a,b,c,d],_=>exact⟨a,b,c,d,rfl⟩
 obtain rfl:=Zjp (hargs 3 _ nv rfl rfl)
 obtain⟨us,rfl,hus,hu⟩:=Zt1 (hargs 0 _ tvv rfl rfl)
 obtain⟨a0,a1,a2,a3,rfl⟩:∃a b c d,us=#[a,b,c,d]:=by
  obtain⟨l⟩:=us
  match l,hus with
  | [a,b,c,d],_=>exact⟨a,b,c,d,rfl⟩
 obtain⟨At,ct,bt,ot,f,rfl,hA,_,hct,_,hc,hv,_⟩:=Zxj (hu 0 _ a0 rfl rfl)
 obtain⟨As,cs,bs,os,fs,rfl,hAs,_,hcs,_,hc',hv',_⟩:=Zxj (hargs 1 _ sv rfl rfl)
 obtain⟨xs,hrow,hfl,hm0⟩:=Zq7 (η:=fE [(33,⟨3,1,false,l.map cI⟩)]) (hargs 2 _ v rfl rfl) rfl (hM.ok 33 _ rfl) (by simp)
 simp only at hrow hfl
 have hxs:=Zz3 hfl hrow.1
 subst hxs
 rw[lM_]at hct hcs
 have hlive:(fE [(33,(⟨3,1,false,l.map cI⟩:Blk))] 33).blk≠none:=by simp[fE]
 have hno:∀b,¬ Zdf (shp (fE [(33,⟨3,1,false,l.map cI⟩)])) m b->v.ownBlock≠some b:=λb hb e=>hb (.inr ⟨33,Zau.2 hlive,hm0.trans e⟩)
 have hint:∀{b o:Nat} {f:Nat->Nat->Value} {L:List Int},(∀(k j:Nat) (e:List AV) (x:AV),(L.map cI)[k]?=some e->e[j]?=some x->w.cell? ⟨b,o+(k*1+j),none⟩=some (f k j)/\(f k j).oneCell'=true) ->
   (∀(k j:Nat) (e:List AV) (x:AV),(L.map cI)[k]?=some e->e[j]?=some x->RV w (shp (fE [(33,⟨3,1,false,l.map cI⟩)])) m x (f k j))->∀j,j<L.length->w.cell? ⟨b,o+j,none⟩=some (.int .i64 (L[j]?.getD 0)):=λhc hv j hj=>by
  have hx:=gE_ hj
  have:=(hc j 0 _ _ (Zad hx) rfl).1
  rw[Zjp (hv j 0 _ _ (Zad hx) rfl)]at this
  simpa [hx] using this
 have hput:=Zawu w bt ot ct At t.Vars a1 a2 a3 (.slice As zs.length cs) v zs l n (λk=>(k<w.heap.size/\v.ownBlock≠some k)\/k=w.heap.size+3) (λ_=>Iff.rfl) hcs
  (λhne=>by
   obtain⟨e,ho,hlt⟩:=hA (by simpa using hne)
   exact⟨e,.inl ⟨hlt,hno bt ho⟩⟩) hct (hint hc hv)
  (by
   by_cases hz:zs=[]
   ·exact .inl ⟨As,cs,by rw[hz];rfl,hz⟩
   ·obtain⟨e,ho,hlt⟩:=hAs (by simpa using hz)
    exact .inr ⟨bs,os,cs,by rw[e],.inl ⟨hlt,hno bs ho⟩,hint hc' hv'⟩) hrow
  (λz hz=>by
   have:=List.all_eq_true.1 h0 z hz
   simp only[okB,bA_,decide_eq_true_eq]at this
   exact⟨this.1.1.1,this.1.1.2,this.1.2,this.2⟩)
 simp only[lM_]
 refine(callsIn_wide.1 hput).mono ?_
 rintro e w' ⟨rfl,ho,hgr⟩
 have hlen:(putV t.Vars zs l n).length=l.length:=Zad1 _ _ (l,n)
 exact⟨_,m,rfl,Zadj hM hg hm0 ho hgr (λb hb=>Zaak hrow ho hb) (by rw[lM_,hlen]) (λm'=>.tup rfl (λj x u hx=>by simp at hx)) (λk e he=>Zs6 k e he)⟩
end Am
end Go.Proofs.YtpfnmpdcneejbaaGreatDoor
namespace Go.Proofs.YtpfnmpdcneejbaaGreatDoor.Am
open Go.RowKit
theorem Tr.app {C:Cx}{n:Nat}{ops:Array Oper}:∀{os1 os2:List Oper}{τ τ1 τ2:Nat->AV}{η η1 η2:Nat->Ent}{fs gs:List Foot},Tr C n ops os1 τ η fs τ1 η1->Tr C n ops os2 τ1 η1 gs τ2 η2->Tr C n ops (os1++os2) τ η (fs++gs) τ2 η2
 | [],_,_,_,_,_,_,_,[],_,h1,h2=>by
  obtain⟨e1,e2⟩:=h1
  subst e1 e2
  exact h2
 | [],_,_,_,_,_,_,_,_ :: _,_,h1,_=>h1.elim
 | _ :: _,_,_,_,_,_,_,_,[],_,h1,_=>h1.elim
 | _ :: _,_,_,_,_,_,_,_,_ :: _,_,h1,h2=>⟨h1.1,Tr.app h1.2 h2⟩
def vcO (C:Cx)(ops:Array Oper):List Nat->List Oper->List AV->List Ent->List Foot->(List Foot->List AV->List Ent->Prop)->Prop
 | [],os,tm,hp,fs,K=>vcT C ops os [] tm hp [] [] (λgs tm hp=>K (fs++gs) tm hp)
 | k :: ks,os,tm,hp,fs,K=>vcT C ops (os.take k) [] tm hp [] [] (λgs tm hp=>True->match os.drop k with
  | []=>False
  | o :: r=>o.guard=none/\∃f,LF C tm.length o (tmF tm) (hpF hp) f/\Zsw tm hp o.dst f.x f.ups (λtm' hp'=>vcO C ops ks r tm' hp' (fs++gs++[f]) K))
theorem Zatf {C:Cx}{ops:Array Oper}:∀(ks:List Nat)(os:List Oper)(tm:List AV)(hp:List Ent)(fs:List Foot)(K:List Foot->List AV->List Ent->Prop),vcO C ops ks os tm hp fs K ->
  ∃fs' tm' hp',Tr C tm.length ops os (tmF tm) (hpF hp) fs' (tmF tm') (hpF hp')/\K (fs++fs') tm' hp'/\tm'.length=tm.length
 | [],os,tm,hp,fs,K,h=>by
  obtain⟨fs',tm',hp',h1,_,h3,h4⟩:=Zak7 _ _ _ _ _ _ _ (λd b hd=>by cases hd) h
  exact⟨fs',tm',hp',h1,by simpa using h3,h4⟩
 | k :: ks,os,tm,hp,fs,K,h=>by
  obtain⟨gs,tm1,hp1,h1,_,h3,h4⟩:=Zak7 _ _ _ _ _ _ _ (λd b hd=>by cases hd) h
  have h3:=h3 trivial
  have hos:os.take k++os.drop k=os:=List.take_append_drop k os
  cases hd:os.drop k with
  | nil=>rw[hd]at h3;exact h3.elim
  | cons o r =>
   rw[hd]at h3 hos
   obtain⟨hg,f,hlf,hst⟩:=h3
   obtain⟨_,tm2,hp2,e1,e2,e3,hv⟩:=Zti hst
   obtain⟨fs',tm',hp',t1,t2,t3⟩:=Zatf ks r tm2 hp2 _ K hv
   refine⟨gs++f :: fs',tm',hp',?_,by simpa using t2,by rw[t3,e1,h4]⟩
   rw[<-hos]
   refine h1.app ⟨?_,?_⟩
   ·rw[<-h4];exact Zap5 hlf (.inl hg)
   ·rw[e2,e3,e1,h4]at t1
    exact t1
theorem Zzq {C:Cx}{Q:Exit->St->Prop}{id:Nat}{ops:Array Oper}{draw:Bool}{tm:List AV}{hp:List Ent}(ks:List Nat)(h:vcO C ops ks ops.toList tm hp [] (λfs tm hp=>(draw=true->Zw5 ops fs=true/\Zsf ops.toList 0=true)/\Q .normal ⟨tm,hp⟩)):AWP C (.region id ops draw) Q ⟨tm,hp⟩:=by
 unfold AWP
 intro w0 X m a w hr
 obtain⟨fs,tm',hp',h1,⟨h3,h4⟩,h5⟩:=Zatf _ _ _ _ _ _ h
 refine Zyb h1 (λhd=>⟨C.mixed,by simpa using (h3 hd).1,(h3 hd).2⟩) hr (λm' a' w' hr'=>⟨⟨tm',hp'⟩,m',h5,h4,?_⟩)
 unfold Zzn
 rw[h5]
 exact hr'
theorem Flat.over {w:World}{vs:Shp}{m:MM}{sz p:Nat}{els new:List (List AV)}{arr:Array Value}{news:List Value}(h:Flat w vs m sz els arr)(hn:Flat w vs m sz new news.toArray)(hl:news.length=new.length*sz)(hp:p+new.length<=els.length) :
  Flat w vs m sz (els.take p++new++els.drop (p+new.length)) (arr.toList.take (p*sz)++news++arr.toList.drop (p*sz+news.length)).toArray/\p*sz+news.length<=arr.size/\(arr.toList.take (p*sz)++news++arr.toList.drop (p*sz+news.length)).toArray.size=arr.size:=by
 have hsz:(p+new.length)*sz<=arr.size:=Nat.le_trans (Nat.mul_le_mul_right _ hp) h.1
 rw[Nat.add_mul,<-hl]at hsz
 have hs:(arr.toList.take (p*sz)++news++arr.toList.drop (p*sz+news.length)).toArray.size=arr.size:=by simp;omega
 have htl:(els.take p).length=p:=by simp;omega
 have hlen:(els.take p++new++els.drop (p+new.length)).length=els.length:=by simp;omega
 refine⟨⟨by rw[hlen,hs];exact h.1,λk e he=>?_⟩,hsz,hs⟩
 have ht:(arr.toList.take (p*sz)).length=p*sz:=by simp;omega
 have hget:∀q,(arr.toList.take (p*sz)++news++arr.toList.drop (p*sz+news.length)).toArray[q]?=if q<p*sz then arr[q]? else if q<p*sz+news.length then news[q-p*sz]? else arr[q]?:=by
  intro q
  rw[List.getElem?_toArray]
  by_cases h1:q<p*sz
  ·rw[if_pos h1,List.append_assoc,List.getElem?_append_left (by omega),List.getElem?_take,if_pos h1];simp
  ·rw[if_neg h1]
   by_cases h2:q<p*sz+news.length
   ·rw[if_pos h2,List.append_assoc,List.getElem?_append_right (by omega),ht,List.getElem?_append_left (by omega)]
   ·rw[if_neg h2,List.getElem?_append_right (by simp;omega),List.getElem?_drop]
    have:(arr.toList.take (p*sz)++news).length=p*sz+news.length:=by rw[lA_,ht]
    rw[this,show p*sz+news.length+(q-(p*sz+news.length))=q from by omega]
    simp
 by_cases c1:k<p
 ·rw[List.append_assoc,List.getElem?_append_left (by omega),List.getElem?_take,if_pos c1]at he
  refine⟨(h.2 k e he).1,λj x hx=>?_⟩
  have hj:j<sz:=by rw[<-(h.2 k e he).1];exact(gS_.1 hx).1
  rw[hget,if_pos (Zmq c1 hj)]
  exact(h.2 k e he).2 j x hx
 ·by_cases c2:k<p+new.length
  ·rw[List.append_assoc,List.getElem?_append_right (by omega),htl,List.getElem?_append_left (by omega)]at he
   refine⟨(hn.2 _ e he).1,λj x hx=>?_⟩
   have hj:j<sz:=by rw[<-(hn.2 _ e he).1];exact(gS_.1 hx).1
   obtain⟨q,rfl⟩:∃q,k=p+q:=⟨k-p,by omega⟩
   have hq:q<new.length:=by omega
   have h3:=Zmq hq hj
   rw[hget,if_neg (by rw[Nat.add_mul];omega),if_pos (by rw[Nat.add_mul,hl];omega)]
   obtain⟨u,u1,u2,u3⟩:=(hn.2 _ e he).2 j x hx
   refine⟨u,?_,u2,u3⟩
   rw[<-u1,List.getElem?_toArray]
   congr 1
   rw[Nat.add_mul,show p+q-p=q from by omega]
   omega
  ·rw[List.getElem?_append_right (by simp;omega),List.getElem?_drop]at he
   have:(els.take p++new).length=p+new.length:=by rw[lA_,htl]
   rw[this,show p+new.length+(k-(p+new.length))=k from by omega]at he
   refine⟨(h.2 k e he).1,λj x hx=>?_⟩
   have h3:=Nat.mul_le_mul_right sz (Nat.le_of_not_lt c2)
   rw[Nat.add_mul,<-hl]at h3
   rw[hget,if_neg (by omega),if_neg (by omega)]
   exact(h.2 k e he).2 j x hx
section
variable {C : Cx} {n : Nat} {o : Oper} {τ : Nat -> AV} {η : Nat -> Ent} {t e : TypeId} {ti te : TI}
theorem Zaqe {w:World}{vs:Shp}{m:MM}{z:Value}{sz r:Nat}(hz:z.cells.size=sz)(hone:∀u∈z.cells.toList,u.oneCell'=true):Flat w vs m sz (List.replicate r (z.cells.toList.map .c)) (Builtin.zeroCells z.cells r).toList.toArray:=by
 have hs:(Builtin.zeroCells z.cells r).size=r*sz:=by rw[size_zeroCells,hz]
 rw[Array.toArray_toList]
 refine⟨by rw[List.length_replicate,hs];exact Nat.le_refl _,λk e' he=>?_⟩
 have hk:k<r:=by simpa using (gS_.1 he).1
 have he':e'=z.cells.toList.map .c:=by
  rw[List.getElem?_replicate]at he
  simpa [hk] using he.symm
 subst he'
 refine⟨by simp[hz],λj x hx=>?_⟩
 rw[List.getElem?_map]at hx
 obtain⟨u,hu,rfl⟩:=Option.map_eq_some_iff.1 hx
 have hj:j<sz:=by rw[<-hz];simpa using (gS_.1 hu).1
 have hq:=Zmq hk hj
 refine⟨u,?_,hone u (mG_ hu),.c u⟩
 have hm:(k*sz+j) % sz=j:=by rw[Nat.mul_comm,Nat.mul_add_mod,Nat.mod_eq_of_lt hj]
 have hlt:k*sz+j<(Builtin.zeroCells z.cells r).size:=by rw[hs];exact hq
 rw[aE_ hlt]
 simp only[Builtin.zeroCells,Array.getElem_map,Array.getElem_range,hz,hm]
 rw[Array.getElem?_toList]at hu
 rw[getElem!_def,hu]
theorem Zark {x:Operand}{i ver p r:Nat}{B:Blk}(ho:o.op=.call { callee:=.builtin .clear,args:=#[x],argTypes:=#[t] }) (hd:o.dst=none) (hx:evA τ x=.own i ver p r) (hi:η i=⟨ver,some B⟩) (ht:TyOk C.P t ti) (hk:ti.kind=.slice e) (hte:TyOk C.P e te)
  (hsz:te.sz=B.sz) (hpos:0<B.sz) (hone:∀u∈te.zero.cells.toList,u.oneCell'=true) (hr0:0<r) (hqr:p+r<=B.els.length):LF C n o τ η ⟨.dead,[(i,⟨ver,some ⟨B.ty,B.sz,B.box,B.els.take p++List.replicate r (te.zero.cells.toList.map .c)++B.els.drop (p+r)⟩⟩)],[]⟩:=by
 intro τ' η' g1 g2
 intro w0 X m a w h
 have hi2:η' i=⟨ver,some B⟩:=(g2 i (.inr (by simp[Foot.ids]))).trans hi
 have hv:=h.ev x
 rw[g1 x (by simp[ho,Op.operands,Call.operands]),hx]at hv
 have hok:=h.mem.ok i B (by rw[hi2])
 have hzc:te.zero.cells.size=B.sz:=by rw[hte.cells,hsz]
 rcases Zor hv hi2 with⟨_,e0,e2,hu⟩|⟨k',A',e1,e2,hu⟩|⟨b,cap,ty,nn,e1,e2,e3,e4,e5,hu⟩
 ·omega
 ·omega
 ·rw[e1]at hok
  obtain⟨arr,a1,a2,a3⟩:=hok.unmap e4
  have hM:isM B.box B.ty=false:=by
   cases hM:isM B.box B.ty with
   | false=>rfl
   | true =>
    obtain⟨arr',hc,_⟩:=hok
    obtain⟨es,ck,q1,_⟩:=hc.2 hM
    rw[a1]at q1
    cases q1
  have hzl:(Builtin.zeroCells te.zero.cells r).toList.length=r*B.sz:=by rw[Array.length_toList,size_zeroCells,hzc]
  obtain⟨f1,f2,f3⟩:=Flat.over (p:=p) (new:=List.replicate r (te.zero.cells.toList.map .c)) (news:=(Builtin.zeroCells te.zero.cells r).toList) ⟨a2,a3⟩ (Zaqe (w:=w) (vs:=shp η') (m:=m) hzc hone) (by rw[hzl,List.length_replicate]) (by rw[List.length_replicate];exact hqr)
  rw[List.length_replicate]at f1
  have hall:∀u∈(Builtin.zeroCells te.zero.cells r).toList,u.oneCell'=true:=by
   intro u hu
   simp only[Builtin.zeroCells,Array.toList_map,List.mem_map]at hu
   obtain⟨q,_,rfl⟩:=hu
   have hlt:q % te.zero.cells.size<te.zero.cells.size:=Nat.mod_lt _ (by rw[hzc];exact hpos)
   refine hone _ ?_
   rw[getElem!_pos te.zero.cells _ hlt]
   simp
  have hst:=run_storeCells_at C.P b (p*B.sz) B.ty (Builtin.zeroCells te.zero.cells r).toList 0 arr w a1 (by simpa using f2) hall
  simp only[Nat.add_zero]at hst
  have hrun:(execOp a.eval o).run C.P w=.ok (.value (.tuple #[])) (w.setRow b (arr.toList.take (p*B.sz)++(Builtin.zeroCells te.zero.cells r).toList++arr.toList.drop (p*B.sz+(Builtin.zeroCells te.zero.cells r).toList.length)).toArray):=by
   obtain⟨r',rfl⟩:∃r',r=r'+1:=⟨r-1,by omega⟩
   simp only[execOp,ho,resolve,invoke,builtin,Sem.run_bind,Sem.run_pure,Result.andThen_ok,List.map_toArray,List.map_cons,List.map_nil,hu,Builtin.clear_,List.getElem?_toArray,List.getElem?_cons_zero,run_underlying (ht.sliceU hk),hte.zeroV,hst]
  have hw:=h.write hM hi2 e1 a1 f3 f1
  unfold Oper.wp
  rw[hrun]
  refine⟨m,?_⟩
  rw[hd]
  exact hw
end
end Go.Proofs.YtpfnmpdcneejbaaGreatDoor.Am
namespace Go.Proofs.YtpfnmpdcneejbaaGreatDoor.Am
theorem Zavg {α:Type}{f:α->List AV}{l:List α}{p:Nat}{R D:List (List AV)}(h:p<=l.length):(l.take p).map f=(((l.map f).take p++R)++D).take p:=by
 rw[List.append_assoc,List.take_append_of_le_length (by simp;omega),List.take_take,Nat.min_self,List.map_take]
theorem Zatb {α:Type}{f:α->List AV}{l:List α}{p:Nat}{R D:List (List AV)}(h:p<=l.length):(l.take p).map f=(((l.map f).take (0+p)++R)++D).take p:=by
 rw[Nat.zero_add]
 exact Zavg h
end Go.Proofs.YtpfnmpdcneejbaaGreatDoor.Am
