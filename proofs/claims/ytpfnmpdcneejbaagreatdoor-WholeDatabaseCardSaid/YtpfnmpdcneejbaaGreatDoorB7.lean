/- Texts of the proof, part 7 of 8. -/
import Derived.Test.YtpfnmpdcneejbaaGreatDoorB2
import Derived.Test.YtpfnmpdcneejbaaGreatDoorB6
import Derived.Test.YtpfnmpdcneejbaaGreatDoorB1
import Derived.Lib.Builder
import Derived.Lib.AppendStr
import Derived.Lib.UnsafeStr
import Derived.Laws.Externs
import Derived.Lib.SmallJoins
import Derived.Shelf.Strings.Builder1
import Derived.Test.YtpfnmpdcneejbaaGreatDoorB3
import Derived.Test.YtpfnmpdcneejbaaGreatDoorB5
import Derived.Test.YtpfnmpdcneejbaaGreatDoorB4
set_option linter.unusedVariables false
set_option linter.unusedSectionVars false
set_option linter.unusedSimpArgs false
open List renaming getElem?_eq_getElem→gE_, length_map→lM_, length_append→lA_, mem_cons_of_mem→mC_, length_cons→lC_, mem_cons_self→mS_, mem_of_getElem?→mG_, getElem?_eq_some_iff→gS_, getD_eq_getElem?_getD→gD_, mem_singleton→mI_, take_of_length_le→tL_
open Option.some renaming inj→sI_
open Bool renaming and_eq_true→bA_
open Array renaming getD_eq_getD_getElem?→aD_, getElem?_eq_getElem→aE_
namespace Go.Proofs.YtpfnmpdcneejbaaGreatDoor.Am
theorem bT4 {n m:Nat}(h:Nat.ble n m=true):n<=m:=Nat.le_of_ble_eq_true h
set_option maxHeartbeats 16000000
set_option maxRecDepth 100000
open Go.RowKit
def Zc2 (a0:Zah)(a1:List Int):Nat->Int->Option (Er)|0,_=>none|k8+1,v7=>sel (decide (v7<((a1.map cI).length:Int))) (ix a1 v7 (λy9=>sel (decide (y9<0)) (some (Er.no 2)) (sel (decide (y9>=((a0.Vars.map cI).length:Int))) (some (Er.no 2)) (sel (decide (v7>0)) (ix a1 (IntKind.i64.wrap (v7-1)) (λy10=>sel (decide (y10>=y9)) (some (Er.no 2)) (Zc2 a0 a1 k8 (IntKind.i64.wrap (v7+1))))) (Zc2 a0 a1 k8 (IntKind.i64.wrap (v7+1))))))) (some Er.nil)
def Zla (a0:Zah)(a1:List Int):Option (Er):=ob1 (Zf4 a0) (λz1=>erM z1 (Zc2 a0 a1 ((((a1.map cI).length:Int)).toNat+1) 0) (λe2=>some (Er.no e2)))
theorem Zy9 (a0:Zah)(a1:List Int){r1:Er}(h:Zla a0 a1=some r1):ACall cx 39 [.agg [.sl 1 (a0.Vars.map cI),.sl 1 (a0.Init.map cI),.sl 2 (a0.Goal.map cF),.sl 4 (a0.Ops.map Za0)],.sl 1 (a1.map cI)] (eA r1):=by
 refine aOf Tryz.func39 rfl (by decide) rfl (bT4 rfl) ?_;intro _;unfold Zla at h;refine aSR λ_=>dr (aSq (aSR λ_=>?_));obtain⟨z1,u1,h⟩:=Zae h;refine cl rfl (Zkp a0 u1) λ_=>dr (aSq ?_);rcases z1 with _|e2
 ·replace h:=Zdn h;refine aRg λ_=>dr (aCd λ_=>Znf (aSk (aSq (aSR λ_=>dr (aBk ?_)))));refine Zaj (α:=Nat×Int) (λx=>mkS 44 [(1,.sl 1 (a1.map cI)),(2,.ptr 2 0 0 0),(13,.sl 1 (a1.map cI)),(14,.c (.int .i64 ((a1.map cI).length:Int))),(15,.c (.int .i64 x.2))] [(2,⟨26,4,true,[[.sl 1 (a0.Vars.map cI),.sl 1 (a0.Init.map cI),.sl 2 (a0.Goal.map cF),.sl 4 (a0.Ops.map Za0)]]⟩)]) (λx=>Zc2 a0 a1 x.1 x.2=some r1) (λx=>x.1) ((((a1.map cI).length:Int)).toNat+1,0) h ?_ ?_
  ·exact Zas
  ·intro x2 h;intro _;obtain⟨k8,m3,h⟩:=Zak (f:=λn=>Zc2 a0 a1 n x2.2) rfl h;replace h:Zc2 a0 a1 (k8+1) x2.2=some r1:=h;rw[Zc2]at h;refine aSR λ_=>dr (aSq (aCd λ_=>?_));refine spl h (λc4 h=>?_) (λc4 h=>?_)
   ·refine aSk (aSq (aBk (aSR λ_=>?_)));obtain⟨y9,w5,q6,h⟩:=Za9 h;refine Exists.intro (cI y9) (And.intro (Zad w5) λ_=>pr (dr (aSR λ_=>?_)));refine spf h (λc7 h=>?_) (λc7 h=>?_)
    ·intro _;refine spf h (λc8 h=>?_) (λc8 h=>?_)
     ·intro _;refine spl h (λc9 h=>?_) (λc9 h=>?_)
      ·intro _;obtain⟨y10,w10,q11,h⟩:=Za9 h;refine Exists.intro (cI y10) (And.intro (Zad w10) λ_=>pr (dr (aCd λ_=>?_)));refine spl h (λc12 h=>?_) (λc12 h=>?_)
       ·exact zz2
       ·refine aSk (aRg λ_=>dr ⟨(k8,(IntKind.i64.wrap (x2.2+1))),h,ltS m3,?_⟩);exact Zas
      ·intro _;refine dr (aCd λ_=>Znf (aSk (aRg λ_=>dr ⟨(k8,(IntKind.i64.wrap (x2.2+1))),h,ltS m3,?_⟩)));exact Zas
     ·exact zz5
    ·exact zz5
   ·exact zz9
 ·exact zz14
def Zdh (a0:Zah)(a1:List Int):Nat->Int->Int->Option (Int×Bool)|0,_,_=>none|k9+1,v7,v8=>sel (decide (v8<((a1.map cI).length:Int))) (ix a1 v8 (λy10=>ix a0.Vars y10 (λy11=>sel (decide ((IntKind.i64.wrap (v7*y11))>4096)) (some (0,false)) (Zdh a0 a1 k9 (IntKind.i64.wrap (v7*y11)) (IntKind.i64.wrap (v8+1)))))) (some (v7,true))
def Zea (a0:Zah)(a1:List Int):Option (Int×Bool):=Zdh a0 a1 ((((a1.map cI).length:Int)).toNat+1) 1 0
theorem Znn (a0:Zah)(a1:List Int){r1:Int}{r2:Bool}(h:Zea a0 a1=some (r1,r2)):ACall cx 40 [.agg [.sl 1 (a0.Vars.map cI),.sl 1 (a0.Init.map cI),.sl 2 (a0.Goal.map cF),.sl 4 (a0.Ops.map Za0)],.sl 1 (a1.map cI)] (.tup [.c (.int .i64 r1),.c (.bool r2)]):=by
 refine aOf Tryz.func40 rfl (by decide) rfl (bT4 rfl) ?_;intro _;unfold Zea at h;refine aSR λ_=>dr (aSR λ_=>dr (aSq (aSR λ_=>dr (aBk ?_))));refine Zaj (α:=Nat×Int×Int) (λx=>mkS 26 [(2,.ptr 2 0 0 0),(6,.c (.int .i64 x.2.1)),(9,.sl 1 (a1.map cI)),(10,.c (.int .i64 ((a1.map cI).length:Int))),(11,.c (.int .i64 x.2.2))] [(2,⟨26,4,true,[[.sl 1 (a0.Vars.map cI),.sl 1 (a0.Init.map cI),.sl 2 (a0.Goal.map cF),.sl 4 (a0.Ops.map Za0)]]⟩)]) (λx=>Zdh a0 a1 x.1 x.2.1 x.2.2=some (r1,r2)) (λx=>x.1) ((((a1.map cI).length:Int)).toNat+1,1,0) h ?_ ?_
 ·exact Zas
 ·intro x1 h;intro _;obtain⟨k9,m2,h⟩:=Zak (f:=λn=>Zdh a0 a1 n x1.2.1 x1.2.2) rfl h;replace h:Zdh a0 a1 (k9+1) x1.2.1 x1.2.2=some (r1,r2):=h;rw[Zdh]at h;refine aSR λ_=>dr (aSq (aCd λ_=>?_));refine spl h (λc3 h=>?_) (λc3 h=>?_)
  ·refine aSk (aSq (aBk (aSR λ_=>?_)));obtain⟨y10,w4,q5,h⟩:=Za9 h;refine Exists.intro (cI y10) (And.intro (Zad w4) λ_=>pr (dr (aSR λ_=>?_)));obtain⟨y11,w6,q7,h⟩:=Za9 h;refine Exists.intro (cI y11) (And.intro (Zad w6) λ_=>pr (dr (aSR λ_=>dr (aCd λ_=>?_))));refine spl h (λc8 h=>?_) (λc8 h=>?_)
   ·exact zz6
   ·refine aSk (aRg λ_=>dr ⟨(k9,(IntKind.i64.wrap (x1.2.1*y11)),(IntKind.i64.wrap (x1.2.2+1))),h,ltS m2,?_⟩);exact Zas
  ·refine aEx ?_;exact zz6
def Zc9 (a0:Zah)(a1:List Int)(a2:List Int):Nat->Int->Int->Option (Int)|0,_,_=>none|k11+1,v9,v10=>sel (decide (v10<((a1.map cI).length:Int))) (ix a1 v10 (λy12=>ix a0.Vars y12 (λy13=>ix a2 y12 (λy14=>Zc9 a0 a1 a2 k11 (IntKind.i64.wrap ((IntKind.i64.wrap (v9*y13))+y14)) (IntKind.i64.wrap (v10+1)))))) (some v9)
def Zfp (a0:Zah)(a1:List Int)(a2:List Int):Option (Int):=Zc9 a0 a1 a2 ((((a1.map cI).length:Int)).toNat+1) 0 0
theorem Zrc (a0:Zah)(a1:List Int)(a2:List Int){r1:Int}(h:Zfp a0 a1 a2=some r1):ACall cx 41 [.agg [.sl 1 (a0.Vars.map cI),.sl 1 (a0.Init.map cI),.sl 2 (a0.Goal.map cF),.sl 4 (a0.Ops.map Za0)],.sl 1 (a1.map cI),.sl 1 (a2.map cI)] (.c (.int .i64 r1)):=by
 refine aOf Tryz.func41 rfl (by decide) rfl (bT4 rfl) ?_;intro _;unfold Zfp at h;refine aSR λ_=>dr (aSR λ_=>dr (aSq (aSR λ_=>dr (aBk ?_))));refine Zaj (α:=Nat×Int×Int) (λx=>mkS 30 [(2,.sl 1 (a2.map cI)),(3,.ptr 3 0 0 0),(7,.c (.int .i64 x.2.1)),(10,.sl 1 (a1.map cI)),(11,.c (.int .i64 ((a1.map cI).length:Int))),(12,.c (.int .i64 x.2.2))] [(3,⟨26,4,true,[[.sl 1 (a0.Vars.map cI),.sl 1 (a0.Init.map cI),.sl 2 (a0.Goal.map cF),.sl 4 (a0.Ops.map Za0)]]⟩)]) (λx=>Zc9 a0 a1 a2 x.1 x.2.1 x.2.2=some r1) (λx=>x.1) ((((a1.map cI).length:Int)).toNat+1,0,0) h ?_ ?_
 ·exact Zas
 ·intro x1 h;intro _;obtain⟨k11,m2,h⟩:=Zak (f:=λn=>Zc9 a0 a1 a2 n x1.2.1 x1.2.2) rfl h;replace h:Zc9 a0 a1 a2 (k11+1) x1.2.1 x1.2.2=some r1:=h;rw[Zc9]at h;refine aSR λ_=>dr (aSq (aCd λ_=>?_));refine spl h (λc3 h=>?_) (λc3 h=>?_)
  ·refine aSk (aSq (aBk (aSR λ_=>?_)));obtain⟨y12,w4,q5,h⟩:=Za9 h;refine Exists.intro (cI y12) (And.intro (Zad w4) λ_=>pr (dr (aRg λ_=>?_)));obtain⟨y13,w6,q7,h⟩:=Za9 h;refine Exists.intro (cI y13) (And.intro (Zad w6) λ_=>?_);obtain⟨y14,w8,q9,h⟩:=Za9 h;refine Exists.intro (cI y14) (And.intro (Zad w8) λ_=>pr (pr (dr (aRg λ_=>dr ⟨(k11,(IntKind.i64.wrap ((IntKind.i64.wrap (x1.2.1*y13))+y14)),(IntKind.i64.wrap (x1.2.2+1))),h,ltS m2,?_⟩))));exact Zas
  ·exact zz9
def Zej (a0:List Int)(a1:Int):Nat->Int->Option (Int)|0,_=>none|k5+1,v4=>sel (decide (v4<((a0.map cI).length:Int))) (ix a0 v4 (λy6=>sel (a1 == y6) (some v4) (Zej a0 a1 k5 (IntKind.i64.wrap (v4+1))))) (some (-1))
def Zne (a0:List Int)(a1:Int):Option (Int):=Zej a0 a1 ((((a0.map cI).length:Int)).toNat+1) 0
theorem Zacw (a0:List Int)(a1:Int){r1:Int}(h:Zne a0 a1=some r1):ACall cx 73 [.sl 1 (a0.map cI),.c (.int .i64 a1)] (.c (.int .i64 r1)):=by
 refine aOf Tryz.func73 rfl (by decide) rfl (bT4 rfl) ?_;intro _;unfold Zne at h;refine aSR λ_=>dr (aSq (aSR λ_=>dr (aBk ?_)));refine Zaj (α:=Nat×Int) (λx=>mkS 19 [(0,.sl 1 (a0.map cI)),(1,.c (.int .i64 a1)),(7,.c (.int .i64 ((a0.map cI).length:Int))),(8,.c (.int .i64 x.2))] []) (λx=>Zej a0 a1 x.1 x.2=some r1) (λx=>x.1) ((((a0.map cI).length:Int)).toNat+1,0) h ?_ ?_
 ·exact Zas
 ·intro x1 h;intro _;obtain⟨k5,m2,h⟩:=Zak (f:=λn=>Zej a0 a1 n x1.2) rfl h;replace h:Zej a0 a1 (k5+1) x1.2=some r1:=h;rw[Zej]at h;refine aSR λ_=>dr (aSq (aCd λ_=>?_));refine spl h (λc3 h=>?_) (λc3 h=>?_)
  ·refine aSk (aSq (aBk (aSR λ_=>dr (aSR λ_=>?_))));obtain⟨y6,w4,q5,h⟩:=Za9 h;refine Exists.intro (cI y6) (And.intro (Zad w4) λ_=>pr (dr (aCd λ_=>?_)));refine spl h (λc6 h=>?_) (λc6 h=>?_)
   ·exact zz2
   ·refine aSk (aRg λ_=>dr ⟨(k5,(IntKind.i64.wrap (x1.2+1))),h,ltS m2,?_⟩);exact Zas
  ·exact zz9
def Zbg (a0:List Int)(a1:Int):Option (Bool):=ob1 (Zne a0 a1) (λz1=>some (decide (z1>=0)))
theorem Zgw (a0:List Int)(a1:Int){r1:Bool}(h:Zbg a0 a1=some r1):ACall cx 44 [.sl 1 (a0.map cI),.c (.int .i64 a1)] (.c (.bool r1)):=by
 refine aOf Tryz.func44 rfl (by decide) rfl (bT4 rfl) ?_;intro _;unfold Zbg at h;refine aSR λ_=>dr (aSR λ_=>?_);obtain⟨z1,u1,h⟩:=Zae h;refine cl rfl (Zacw a0 a1 u1) ?_;exact zz0
def Zcc (a0:List Zaa)(a1:Zaa->Option Bool):Nat->Int->Option (Int)|0,_=>none|k7+1,v6=>sel (decide (v6<((a0.map cF).length:Int))) (ix a0 v6 (λy8=>ob1 (a1 y8) (λz9=>sel z9 (some v6) (Zcc a0 a1 k7 (IntKind.i64.wrap (v6+1)))))) (some (-1))
def Zia (a0:List Zaa)(a1:Zaa->Option Bool):Option (Int):=Zcc a0 a1 ((((a0.map cF).length:Int)).toNat+1) 0
theorem Zt7 (a0:List Zaa)(a1:Zaa->Option Bool)(Fa1:AV)(hFa1:Fr Fa1)(ea1:∃f fs cap,Fa1=.clo (.func f) fs cap)(ha1:∀(x0:Zaa)(y0:Bool),a1 x0=some y0->CCl cx Fa1 [.agg [.c (.int .i64 x0.1),.c (.int .i64 x0.2)]] (.c (.bool y0))){r1:Int}(h:Zia a0 a1=some r1):ACall cx 110 [.sl 2 (a0.map cF),Fa1] (.c (.int .i64 r1)):=by
 obtain⟨fa1,sa1,qa1,rfl⟩:=ea1;refine aOf Tryz.func110 rfl (by decide) rfl (bT4 rfl) ?_;intro _;unfold Zia at h;refine aSR λ_=>dr (aSq (aSR λ_=>dr (aBk ?_)));refine Zaj (α:=Nat×Int) (λx=>mkS 19 [(0,.sl 2 (a0.map cF)),(1,.clo (.func fa1) sa1 qa1),(7,.c (.int .i64 ((a0.map cF).length:Int))),(8,.c (.int .i64 x.2))] []) (λx=>Zcc a0 a1 x.1 x.2=some r1) (λx=>x.1) ((((a0.map cF).length:Int)).toNat+1,0) h ?_ ?_
 ·exact Zas
 ·intro x1 h;intro _;obtain⟨k7,m2,h⟩:=Zak (f:=λn=>Zcc a0 a1 n x1.2) rfl h;replace h:Zcc a0 a1 (k7+1) x1.2=some r1:=h;rw[Zcc]at h;refine aSR λ_=>dr (aSq (aCd λ_=>?_));refine spl h (λc3 h=>?_) (λc3 h=>?_)
  ·refine aSk (aSq (aBk (aSR λ_=>dr (aSR λ_=>?_))));obtain⟨y8,w4,q5,h⟩:=Za9 h;refine Exists.intro (cF y8) (And.intro (Zad w4) λ_=>?_);obtain⟨z9,u6,h⟩:=Zae h;refine clc rfl (ha1 _ _ u6) hFa1 λ_=>pr (dr (aCd λ_=>?_));refine spl h (λc7 h=>?_) (λc7 h=>?_)
   ·exact zz2
   ·refine aSk (aRg λ_=>dr ⟨(k7,(IntKind.i64.wrap (x1.2+1))),h,ltS m2,?_⟩);exact Zas
  ·exact zz9
def Zgo (a0:List Zaa)(a1:Zaa->Option Bool):Option (Bool):=ob1 (Zia a0 a1) (λz1=>some (decide (z1>=0)))
theorem Zrk (a0:List Zaa)(a1:Zaa->Option Bool)(Fa1:AV)(hFa1:Fr Fa1)(ea1:∃f fs cap,Fa1=.clo (.func f) fs cap)(ha1:∀(x0:Zaa)(y0:Bool),a1 x0=some y0->CCl cx Fa1 [.agg [.c (.int .i64 x0.1),.c (.int .i64 x0.2)]] (.c (.bool y0))){r1:Bool}(h:Zgo a0 a1=some r1):ACall cx 91 [.sl 2 (a0.map cF),Fa1] (.c (.bool r1)):=by
 obtain⟨fa1,sa1,qa1,rfl⟩:=ea1;refine aOf Tryz.func91 rfl (by decide) rfl (bT4 rfl) ?_;intro _;unfold Zgo at h;refine aSR λ_=>dr (aSR λ_=>?_);obtain⟨z1,u1,h⟩:=Zae h;refine cl rfl (Zt7 a0 a1 (.clo (.func fa1) sa1 qa1) hFa1 ⟨_,_,_,rfl⟩ ha1 u1) ?_;exact zz0
def Zgd (b0:Int)(a0:Zaa):Option (Bool):=some (a0.1 == b0)
theorem Zza (b0:Int)(a0:Zaa){r1:Bool}(h:Zgd b0 a0=some r1):ACall cx 92 [.agg [.c (.int .i64 a0.1),.c (.int .i64 a0.2)],.pim [.c (.int .i64 b0)] 0] (.c (.bool r1)):=by
 refine aOf Tryz.func92 rfl (by decide) rfl (bT4 rfl) ?_;intro _;unfold Zgd at h;refine aSR λ_=>dr ?_;exact zz2
def Zjt (a0:List Zaa)(a1:Int):Option (Bool):=ob1 (Zgo a0 (Zgd a1)) (λz1=>some z1)
theorem Zacv (a0:List Zaa)(a1:Int){r1:Bool}(h:Zjt a0 a1=some r1):ACall cx 70 [.sl 2 (a0.map cF),.c (.int .i64 a1)] (.c (.bool r1)):=by
 refine aOf Tryz.func70 rfl (by decide) rfl (bT4 rfl) ?_;intro _;unfold Zjt at h;refine aSR λ_=>dr (aSR λ_=>?_);refine⟨_,Zadv rfl (bT4 rfl) rfl rfl,?_⟩;intro _;obtain⟨z1,u1,h⟩:=Zae h;refine clb [3] rfl rfl (Zrk a0 (Zgd a1) (.clo (.func 92) [] [.pim [.c (.int .i64 a1)] 0]) (Fr.clo Zd2 FrE.h) ⟨_,_,_,rfl⟩ (λx0 y0 hx=>⟨92,[],_,rfl,Zza a1 x0 hx⟩) u1) ?_;exact zz0
def Zbf (a0:GOp)(a1:List Int)(y234:Zaq):Nat->Int->(List Int)->Option (List Int)|0,_,_=>none|k248+1,v246,v247=>sel (decide (v246<((y234.When.map cF).length:Int))) (ix y234.When v246 (λy249=>ob1 (Zbg a1 y249.1) (λz250=>sel (!z250) (ob1 (Zjt a0.Pre y249.1) (λz251=>sel (!z251) (grd (v247.length<=140737488355328) (ob1 (Zbg v247 y249.1) (λz252=>sel (!z252) (grd ((v247.length+1)*8<=140737488355328) (Zbf a0 a1 y234 k248 (IntKind.i64.wrap (v246+1)) (v247++[y249.1]))) (Zbf a0 a1 y234 k248 (IntKind.i64.wrap (v246+1)) v247)))) (Zbf a0 a1 y234 k248 (IntKind.i64.wrap (v246+1)) v247))) (Zbf a0 a1 y234 k248 (IntKind.i64.wrap (v246+1)) v247)))) (some v247)
def Zbn (a0:GOp)(a1:List Int):Nat->Int->(List Int)->Option (List Int)|0,_,_=>none|k212+1,v210,v211=>sel (decide (v210<((a0.Effs.map Zag).length:Int))) (ob1 (ix a0.Effs v210 (λy234=>ob1 (Zbg a1 y234.Var) (λz235=>sel (!z235) (some v211) (Zbf a0 a1 y234 ((((y234.When.map cF).length:Int)).toNat+1) 0 v211))):Option (List Int)) (λv232=>Zbn a0 a1 k212 (IntKind.i64.wrap (v210+1)) v232)) (some v211)
def Zf7 (a0:GOp)(a1:List Int):Option (List Int):=ob1 (Zbn a0 a1 ((((a0.Effs.map Zag).length:Int)).toNat+1) 0 []:Option (List Int)) (λv126=>ob1 (Zwp v126) (λc253=>grd (c253.length=v126.length) (grd (v126.length<=140737488355328) (some c253))))
theorem Zwa (a0:GOp)(a1:List Int){r1:List Int}(h:Zf7 a0 a1=some r1):ACall cx 42 [.agg [.c (.string a0.Name),.c (.int .i64 a0.Cost),.sl 2 (a0.Pre.map cF),.sl 3 (a0.Effs.map Zag)],.sl 1 (a1.map cI)] (.sl 1 (r1.map cI)):=by
 refine aOf Tryz.func42 rfl (by decide) rfl (bT4 rfl) ?_;intro _;unfold Zf7 at h;refine aSR λ_=>dr (aSR λ_=>dr ?_);obtain⟨o1,h,hK2⟩:=Zae h;refine Zat (α:=List Int) (λv126=>mkS 59 [(5,.own 53 0 0 v126.length)] [(53,⟨3,1,false,v126.map cI⟩)]) (λv=>o1=v) ?_ ?_
 ·refine aSR λ_=>dr (aBk ?_);refine Zaj (α:=Nat×Int×(List Int)) (λx=>mkS 59 [(1,.sl 1 (a1.map cI)),(2,.ptr 2 0 0 0),(5,.own 53 0 0 x.2.2.length),(11,.sl 3 (a0.Effs.map Zag)),(12,.c (.int .i64 ((a0.Effs.map Zag).length:Int))),(13,.c (.int .i64 x.2.1))] [(2,⟨49,4,true,[[.c (.string a0.Name),.c (.int .i64 a0.Cost),.sl 2 (a0.Pre.map cF),.sl 3 (a0.Effs.map Zag)]]⟩),(53,⟨3,1,false,x.2.2.map cI⟩)]) (λx=>Zbn a0 a1 x.1 x.2.1 x.2.2=some o1) (λx=>x.1) ((((a0.Effs.map Zag).length:Int)).toNat+1,0,[]) h ?_ ?_
  ·exact Zas
  ·intro x3 h;intro _;obtain⟨k212,m4,h⟩:=Zak (f:=λn=>Zbn a0 a1 n x3.2.1 x3.2.2) rfl h;replace h:Zbn a0 a1 (k212+1) x3.2.1 x3.2.2=some o1:=h;rw[Zbn]at h;refine aSR λ_=>dr (aSq (aCd λ_=>?_));refine spl h (λc5 h=>?_) (λc5 h=>?_)
   ·refine aSk ?_;obtain⟨o6,h,hK7⟩:=Zae h;refine Zat (α:=List Int) (λv232=>mkS 59 [(1,.sl 1 (a1.map cI)),(2,.ptr 2 0 0 0),(5,.own 53 0 0 v232.length),(11,.sl 3 (a0.Effs.map Zag)),(12,.c (.int .i64 ((a0.Effs.map Zag).length:Int))),(13,.c (.int .i64 x3.2.1))] [(2,⟨49,4,true,[[.c (.string a0.Name),.c (.int .i64 a0.Cost),.sl 2 (a0.Pre.map cF),.sl 3 (a0.Effs.map Zag)]]⟩),(53,⟨3,1,false,v232.map cI⟩)]) (λv=>o6=v) ?_ ?_
    ·refine aBk (aSR λ_=>?_);obtain⟨y234,w8,q9,h⟩:=Za9 h;refine Exists.intro (Zag y234) (And.intro (Zad w8) λ_=>pr (dr (aSq (aSR λ_=>?_))));obtain⟨z235,u10,h⟩:=Zae h;refine cl rfl (Zgw a1 y234.Var u10) λ_=>dr (aCd λ_=>?_);refine spl h (λc11 h=>?_) (λc11 h=>?_)
     ·refine aEx ⟨x3.2.2,(sI_ h).symm,?_⟩;exact Zas
     ·refine aSk (aSR λ_=>dr (aBk ?_));refine Zaj (α:=Nat×Int×(List Int)) (λx=>mkS 59 [(1,.sl 1 (a1.map cI)),(2,.ptr 2 0 0 0),(5,.own 53 0 0 x.2.2.length),(11,.sl 3 (a0.Effs.map Zag)),(12,.c (.int .i64 ((a0.Effs.map Zag).length:Int))),(13,.c (.int .i64 x3.2.1)),(23,.sl 2 (y234.When.map cF)),(24,.c (.int .i64 ((y234.When.map cF).length:Int))),(25,.c (.int .i64 x.2.1))] [(2,⟨49,4,true,[[.c (.string a0.Name),.c (.int .i64 a0.Cost),.sl 2 (a0.Pre.map cF),.sl 3 (a0.Effs.map Zag)]]⟩),(53,⟨3,1,false,x.2.2.map cI⟩)]) (λx=>Zbf a0 a1 y234 x.1 x.2.1 x.2.2=some o6) (λx=>x.1) ((((y234.When.map cF).length:Int)).toNat+1,0,x3.2.2) h ?_ ?_
      ·exact Zas
      ·intro x12 h;intro _;obtain⟨k248,m13,h⟩:=Zak (f:=λn=>Zbf a0 a1 y234 n x12.2.1 x12.2.2) rfl h;replace h:Zbf a0 a1 y234 (k248+1) x12.2.1 x12.2.2=some o6:=h;rw[Zbf]at h;refine aSR λ_=>dr (aSq (aCd λ_=>?_));refine spl h (λc14 h=>?_) (λc14 h=>?_)
       ·refine aSk (aSq (aBk (aSR λ_=>?_)));obtain⟨y249,w15,q16,h⟩:=Za9 h;refine Exists.intro (cF y249) (And.intro (Zad w15) λ_=>pr (dr (aSR λ_=>?_)));obtain⟨z250,u17,h⟩:=Zae h;refine cl rfl (Zgw a1 y249.1 u17) λ_=>?_;refine spl h (λc18 h=>?_) (λc18 h=>?_)
        ·intro _;obtain⟨z251,u19,h⟩:=Zae h;refine cl rfl (Zacv a0.Pre y249.1 u19) λ_=>?_;refine spl h (λc20 h=>?_) (λc20 h=>?_)
         ·intro _;obtain⟨q21,h⟩:=Zaf h;obtain⟨z252,u22,h⟩:=Zae h;refine clb [53] rfl rfl (Zgw x12.2.2 y249.1 u22) λ_=>dr (aCd λ_=>?_);refine spl h (λc23 h=>?_) (λc23 h=>?_)
          ·refine aRg λ_=>?_;obtain⟨q24,h⟩:=Zaf h;refine pl (pl ?_);refine And.intro (by first|with_reducible assumption|(show(x12.2.2.length+1)*8<=140737488355328;with_reducible assumption)|omega|(simp;omega)) ?_;refine pe (dr (aRg λ_=>dr ⟨(k248,(IntKind.i64.wrap (x12.2.1+1)),(x12.2.2++[y249.1])),h,ltS m13,?_⟩));exact Zas
          ·refine aSk (aRg λ_=>dr ⟨(k248,(IntKind.i64.wrap (x12.2.1+1)),x12.2.2),h,ltS m13,?_⟩);exact Zas
         ·intro _;refine dr (aCd λ_=>Znf (aSk (aRg λ_=>dr ⟨(k248,(IntKind.i64.wrap (x12.2.1+1)),x12.2.2),h,ltS m13,?_⟩)));exact Zas
        ·intro _;refine dr (aCd λ_=>Znf (aSk (aRg λ_=>dr ⟨(k248,(IntKind.i64.wrap (x12.2.1+1)),x12.2.2),h,ltS m13,?_⟩)));exact Zas
       ·refine aEx ⟨x12.2.2,(sI_ h).symm,?_⟩;exact Zas
    ·rintro v232 ho;have ho:=ho.symm;subst ho;intro _;replace h:=hK7;refine aRg λ_=>dr ⟨(k212,(IntKind.i64.wrap (x3.2.1+1)),v232),h,ltS m4,?_⟩;exact Zas
   ·refine aEx ⟨x3.2.2,(sI_ h).symm,?_⟩;exact Zas
 ·rintro v126 ho;have ho:=ho.symm;subst ho;intro _;replace h:=hK2;refine aSR λ_=>?_;obtain⟨c253,u25,h⟩:=Zae h;refine clg [(11,53)] [] [] [(53,⟨0,some ⟨3,1,false,c253.map cI⟩⟩)] (.tup []) rfl rfl (Zam5 v126 u25) ?_;obtain⟨q26,h⟩:=Zaf h;intro _;refine dr (aSR λ_=>dr (aRt ?_));obtain⟨q27,h⟩:=Zaf h;exact zz4
def Zco (a0:List Int)(v178:Int):Nat->Int->Int->(List Int)->Option (Int×(List Int))|0,_,_,_=>none|k263+1,v260,v261,v262=>sel (decide (v261<((a0.length-v178.toNat:Nat):Int))) (ixn v262 (v178.toNat+(v261).toNat) (λy264=>ixn v262 (v178.toNat+((IntKind.i64.wrap (v261-1))).toNat) (λy265=>grd (0<=v261) (grd (v261<((a0.length-v178.toNat:Nat):Int)) (grd (0<=(IntKind.i64.wrap (v261-1))) (grd ((IntKind.i64.wrap (v261-1))<((a0.length-v178.toNat:Nat):Int)) (sel (y264 != y265) (ixn v262 (v178.toNat+(v261).toNat) (λy266=>ixn v262 ((v260).toNat) (λ_=>grd (0<=v260) (grd (v260<((v262.length:Nat):Int)) (Zco a0 v178 k263 (IntKind.i64.wrap (v260+1)) (IntKind.i64.wrap (v261+1)) (v262.set ((v260).toNat) y266)))))) (Zco a0 v178 k263 v260 (IntKind.i64.wrap (v261+1)) v262)))))))) (some (v260,v262))
def Zc3 (a0:List Int)(g:Nat):Nat->Int->Option (List Int)|0,_=>none|k179+1,v178=>sel (decide (v178<((a0.length:Nat):Int))) (ob1 (ixn a0 ((v178).toNat) (λy225=>ixn a0 (((IntKind.i64.wrap (v178-1))).toNat) (λy226=>grd (0<=v178) (grd (v178<((a0.length:Nat):Int)) (grd (0<=(IntKind.i64.wrap (v178-1))) (grd ((IntKind.i64.wrap (v178-1))<((a0.length:Nat):Int)) (sel (y225 == y226) (grd (v178.toNat<=a0.length) (ob1 (Zco a0 v178 g v178 1 a0:Option (Int×(List Int))) (λ(v246,v247)=>grd (0<v247.length-v246.toNat) (grd (v246.toNat<=v247.length) (grd (0<=v246) (some (.inr (v247.take v246.toNat)))))))) (some (.inl ())))))))):Option (Unit⊕(List Int))) (Zj9 (λ_=>Zc3 a0 g k179 (IntKind.i64.wrap (v178+1))) (λr223=>some r223))) (some a0)
def Zhs (g:Nat)(a0:List Int):Option (List Int):=sel (decide (((a0.length:Nat):Int)<2)) (some a0) (Zc3 a0 g g 1)
theorem Zzb (g:Nat)(a0:List Int){r1:List Int}(h:Zhs g a0=some r1):Zc8 cx 74 [.own 0 0 0 a0.length] [(0,⟨3,1,false,a0.map cI⟩)] [] (.own 0 0 0 r1.length) [(0,⟨3,1,false,r1.map cI⟩)]:=by
 refine Zc4 62 Tryz.func74 rfl (by decide) rfl (bT4 rfl) rfl rfl ?_;intro _;unfold Zhs at h;refine aSR λ_=>dr (aSq (aSR λ_=>dr (aCd λ_=>?_)));refine spl h (λc1 h=>?_) (λc1 h=>?_)
 ·refine aSR λ_=>dr (aRt λ_=>?_);obtain rfl:=inj1 h;all_goals (refine Exists.intro [(0,0)] (And.intro rfl (And.intro ?_ ?_)));all_goals (exact zg_0)
 ·refine aSk (aSq (aSR λ_=>dr (aBk ?_)));refine Zaj (α:=Nat×Int) (λx=>mkG 61 62 [(0,.own 0 0 0 a0.length),(3,.c (.int .i64 x.2))] [(0,⟨3,1,false,a0.map cI⟩)]) (λx=>Zc3 a0 g x.1 x.2=some r1) (λx=>x.1) (g,1) h ?_ ?_
  ·exact Zas
  ·intro x2 h;intro _;obtain⟨k179,m3,h⟩:=Zak (f:=λn=>Zc3 a0 g n x2.2) rfl h;replace h:Zc3 a0 g (k179+1) x2.2=some r1:=h;rw[Zc3]at h;refine aSq (aSR λ_=>dr (aCd λ_=>?_));refine spl h (λc4 h=>?_) (λc4 h=>?_)
   ·refine aSk ?_;obtain⟨o5,h,hK6⟩:=Zae h;refine Zat (α:=Unit) (λ_=>mkG 61 62 [(0,.own 0 0 0 a0.length),(3,.c (.int .i64 x2.2))] [(0,⟨3,1,false,a0.map cI⟩)]) (λv=>o5=(.inl v)) ?_ ?_
    ·refine aBk (aSR λ_=>?_);obtain⟨y225,w7,h⟩:=Zcm h;refine Exists.intro (cI y225) (And.intro (by first|exact Zad w7|(have w:=Zad (f:=cI) w7;simpa [cI,Value.cells] using w)) ?_);intro _;obtain⟨y226,w8,h⟩:=Zcm h;refine Exists.intro (cI y226) (And.intro (by first|exact Zad w8|(have w:=Zad (f:=cI) w8;simpa [cI,Value.cells] using w)) ?_);intro _;obtain⟨q9,h⟩:=Zaf h;obtain⟨q10,h⟩:=Zaf h;obtain⟨q11,h⟩:=Zaf h;obtain⟨q12,h⟩:=Zaf h;refine pr (pr (pr (pr (dr (aCd λ_=>?_)))));refine spl h (λc13 h=>?_) (λc13 h=>?_)
     ·refine aSR λ_=>?_;obtain⟨q14,h⟩:=Zaf h;refine pr (pr (pr (dr ?_)));obtain⟨o15,h,hK16⟩:=Zae h;refine Zat (α:=Int×(List Int)) (λ(v246,v247)=>mkG 61 62 [(0,.own 0 0 0 v247.length),(3,.c (.int .i64 v246))] [(0,⟨3,1,false,v247.map cI⟩)]) (λv=>o15=v) ?_ ?_
      ·refine aSR λ_=>dr (aBk ?_);refine Zaj (α:=Nat×Int×Int×(List Int)) (λx=>mkG 61 62 [(0,.own 0 0 0 x.2.2.2.length),(3,.c (.int .i64 x.2.1)),(4,.own 0 0 x2.2.toNat (a0.length-x2.2.toNat)),(5,.c (.int .i64 x.2.2.1))] [(0,⟨3,1,false,x.2.2.2.map cI⟩)]) (λx=>Zco a0 x2.2 x.1 x.2.1 x.2.2.1 x.2.2.2=some o15) (λx=>x.1) (g,x2.2,1,a0) h ?_ ?_
       ·exact Zas
       ·intro x17 h;intro _;obtain⟨k263,m18,h⟩:=Zak (f:=λn=>Zco a0 x2.2 n x17.2.1 x17.2.2.1 x17.2.2.2) rfl h;replace h:Zco a0 x2.2 (k263+1) x17.2.1 x17.2.2.1 x17.2.2.2=some o15:=h;rw[Zco]at h;refine aSq (aSR λ_=>dr (aCd λ_=>?_));refine spl h (λc19 h=>?_) (λc19 h=>?_)
        ·refine aSk (aSq (aBk (aSR λ_=>?_)));obtain⟨y264,w20,h⟩:=Zcm h;refine Exists.intro (cI y264) (And.intro (by first|exact Zad w20|(have w:=Zad (f:=cI) w20;simpa [cI,Value.cells] using w)) ?_);intro _;obtain⟨y265,w21,h⟩:=Zcm h;refine Exists.intro (cI y265) (And.intro (by first|exact Zad w21|(have w:=Zad (f:=cI) w21;simpa [cI,Value.cells] using w)) ?_);intro _;obtain⟨q22,h⟩:=Zaf h;obtain⟨q23,h⟩:=Zaf h;obtain⟨q24,h⟩:=Zaf h;obtain⟨q25,h⟩:=Zaf h;refine pr (pr (pr (pr (dr (aCd λ_=>?_)))));refine spl h (λc26 h=>?_) (λc26 h=>?_)
         ·refine aSR λ_=>?_;obtain⟨y266,w27,h⟩:=Zcm h;refine Exists.intro (cI y266) (And.intro (by first|exact Zad w27|(have w:=Zad (f:=cI) w27;simpa [cI,Value.cells] using w)) ?_);intro _;obtain⟨y267,w28,h⟩:=Zcm h;refine Exists.intro (cI y267) (And.intro (by first|exact Zad w28|(have w:=Zad (f:=cI) w28;simpa [cI,Value.cells] using w)) ?_);intro _;obtain⟨q29,h⟩:=Zaf h;obtain⟨q30,h⟩:=Zaf h;refine pr (pr (pr (pr (dr (aRg λ_=>dr (aRg λ_=>dr ⟨(k263,(IntKind.i64.wrap (x17.2.1+1)),(IntKind.i64.wrap (x17.2.2.1+1)),(x17.2.2.2.set ((x17.2.1).toNat) y266)),h,ltS m18,?_⟩))))));exact Zas
         ·refine aSk (aRg λ_=>dr ⟨(k263,x17.2.1,(IntKind.i64.wrap (x17.2.2.1+1)),x17.2.2.2),h,ltS m18,?_⟩);exact Zas
        ·refine aEx ⟨(x17.2.1,x17.2.2.2),(sI_ h).symm,?_⟩;exact Zas
      ·rintro⟨v246,v247⟩ ho;have ho:=ho.symm;subst ho;intro _;replace h:=hK16;refine aSR λ_=>?_;obtain⟨q31,h⟩:=Zaf h;obtain⟨q32,h⟩:=Zaf h;refine⟨_,Zark rfl rfl rfl rfl (Zbz 22 _ rfl) rfl (Zbz 3 _ rfl) rfl (bT4 rfl) (by decide) (by omega) (by simp;omega),?_⟩;intro _;obtain⟨q33,h⟩:=Zaf h;refine pr (pr (pr (dr (aSR λ_=>pr (pr (pr (dr (aRt ?_))))))));have j34:=sI_ h;subst j34;replace h:=(Za4 hK6);intro _;obtain rfl:=inj1 h;all_goals (refine Exists.intro [(0,0)] (And.intro rfl (And.intro ?_ ?_)));all_goals (exact zg_0)
     ·exact zz10
    ·rintro _ ho;have ho:=ho.symm;subst ho;intro _;replace h:=(Zcx hK6);refine aRg λ_=>dr ⟨(k179,(IntKind.i64.wrap (x2.2+1))),h,ltS m3,?_⟩;exact Zas
   ·refine aEx (aSR λ_=>dr (aRt λ_=>?_));obtain rfl:=inj1 h;all_goals (refine Exists.intro [(0,0)] (And.intro rfl (And.intro ?_ ?_)));all_goals (exact zg_0)
def Zcg (a2:List Int)(y1:GOp):Nat->Int->(List Int)->Option ((List Int)⊕(List Int))|0,_,_=>none|k35+1,v33,v34=>sel (decide (v33<((y1.Pre.map cF).length:Int))) (ix y1.Pre v33 (λy36=>ob1 (Zbg a2 y36.1) (λz37=>sel z37 (ixn v34 ((y36.1).toNat) (λy38=>grd (0<=y36.1) (grd (y36.1<((v34.length:Nat):Int)) (sel (y38 != y36.2) (some (.inr [])) (Zcg a2 y1 k35 (IntKind.i64.wrap (v33+1)) v34))))) (ixn v34 ((y36.1).toNat) (λ_=>grd (0<=y36.1) (grd (y36.1<((v34.length:Nat):Int)) (Zcg a2 y1 k35 (IntKind.i64.wrap (v33+1)) (v34.set ((y36.1).toNat) y36.2)))))))) (some (.inl v34))
def Zbo (a2:List Int)(c518:List Int)(v470:List Int)(y1:GOp):Nat->Int->(List Int)->Option (List Int)|0,_,_=>none|k550+1,v548,v549=>sel (decide (v548<((y1.Effs.map Zag).length:Int))) (ix y1.Effs v548 (λy551=>ob1 (Zbg a2 y551.Var) (λz552=>sel z552 (grd (v470.length<=140737488355328) (ob1 (Zg7 y551.When c518) (λz553=>sel z553 (ixn v549 ((y551.Var).toNat) (λ_=>grd (0<=y551.Var) (grd (y551.Var<((v549.length:Nat):Int)) (Zbo a2 c518 v470 y1 k550 (IntKind.i64.wrap (v548+1)) (v549.set ((y551.Var).toNat) y551.Val))))) (Zbo a2 c518 v470 y1 k550 (IntKind.i64.wrap (v548+1)) v549)))) (Zbo a2 c518 v470 y1 k550 (IntKind.i64.wrap (v548+1)) v549)))) (some v549)
def Zch (a0:Zah)(a2:List Int)(a3:List Int)(y1:GOp)(z40:Int):Nat->Int->(List Int)->(List Int)->Option (List Int)|0,_,_,_=>none|k472+1,v469,v470,v471=>sel (decide (v469<z40)) (ob1 (ob1 (Zzm a0 a3 v470 v469) (λc516=>grd (c516.length=v470.length) (ob2 (Zu0 c516) (λz517 c518=>grd (c518.length=v470.length) (ob1 (Zbo a2 c518 v470 y1 ((((y1.Effs.map Zag).length:Int)).toNat+1) 0 z517:Option (List Int)) (λv536=>grd (v536.length<=140737488355328) (ob1 (Zfp a0 a2 v536) (λz555=>grd ((v471.length+1)*8<=140737488355328) (some (c518,(v471++[z555])))))))))):Option ((List Int)×(List Int))) (λ(v513,v514)=>Zch a0 a2 a3 y1 z40 k472 (IntKind.i64.wrap (v469+1)) v513 v514)) (some v471)
def Zew (g:Nat)(a0:Zah)(a1:Int)(a2:List Int)(a3:List Int)(a4:Int):Option (List Int):=ix a0.Ops a1 (λy1=>grd (0<=((a0.Vars.map cI).length:Int)) (grd (((a0.Vars.map cI).length:Int)*8<=281474976710656) (ob1 (Zzm a0 a2 (List.replicate ((a0.Vars.map cI).length:Int).toNat 0) a4) (λc2=>grd (c2.length=((a0.Vars.map cI).length:Int).toNat) (ob1 (Zcg a2 y1 ((((y1.Pre.map cF).length:Int)).toNat+1) 0 c2:Option ((List Int)⊕(List Int))) (Zj9 (λv20=>ob2 (Zea a0 a3) (λz40 _=>ob1 (Zch a0 a2 a3 y1 z40 ((z40).toNat+1) 0 v20 []:Option (List Int)) (λv298=>ob1 (Zwp v298) (λc556=>grd (c556.length=v298.length) (ob1 (Zhs g c556) (λz557=>grd (z557.length<=140737488355328) (some z557))))))) (λr21=>some r21)))))))
theorem Zwb (g:Nat)(a0:Zah)(a1:Int)(a2:List Int)(a3:List Int)(a4:Int){r1:List Int}(h:Zew g a0 a1 a2 a3 a4=some r1):ACall cx 45 [.agg [.sl 1 (a0.Vars.map cI),.sl 1 (a0.Init.map cI),.sl 2 (a0.Goal.map cF),.sl 4 (a0.Ops.map Za0)],.c (.int .i64 a1),.sl 1 (a2.map cI),.sl 1 (a3.map cI),.c (.int .i64 a4)] (.sl 1 (r1.map cI)):=by
 refine aOf Tryz.func45 rfl (by decide) rfl (bT4 rfl) ?_;intro _;unfold Zew at h;refine aSR λ_=>dr (aSR λ_=>?_);obtain⟨y1,w1,q2,h⟩:=Za9 h;refine Exists.intro (Za0 y1) (And.intro (Zad w1) λ_=>pr (dr (aSR λ_=>?_)));obtain⟨q3,h⟩:=Zaf h;obtain⟨q4,h⟩:=Zaf h;refine⟨_,Zsn rfl rfl (bT4 rfl) (Zbz 22 _ rfl) rfl (Zbz 3 _ rfl) rfl rfl rfl (by first|assumption|omega) (by first|assumption|(show _*(8:Int)<=_;omega)|omega) (by omega) rfl (by simp only[Value.cells];simp[Value.oneCell']) (by decide),?_⟩;intro _;refine dr (aSR λ_=>?_);obtain⟨c2,u5,h⟩:=Zae h;refine clg [(33,30)] [] [] [(30,⟨1,some ⟨3,1,false,c2.map cI⟩⟩)] (.tup []) rfl rfl (Zatk a0 a2 (List.replicate ((a0.Vars.map cI).length:Int).toNat 0) a4 u5) ?_;obtain⟨q6,h⟩:=Zaf h;intro _;refine dr ?_;obtain⟨o7,h,hK8⟩:=Zae h;refine Zat (α:=List Int) (λv20=>mkS 115 [(2,.sl 1 (a2.map cI)),(3,.sl 1 (a3.map cI)),(5,.ptr 5 0 0 0),(11,.ptr 11 0 0 0),(12,.own 30 0 0 v20.length)] [(5,⟨26,4,true,[[.sl 1 (a0.Vars.map cI),.sl 1 (a0.Init.map cI),.sl 2 (a0.Goal.map cF),.sl 4 (a0.Ops.map Za0)]]⟩),(11,⟨49,4,true,[[.c (.string y1.Name),.c (.int .i64 y1.Cost),.sl 2 (y1.Pre.map cF),.sl 3 (y1.Effs.map Zag)]]⟩),(30,⟨3,1,false,v20.map cI⟩)]) (λv=>o7=(.inl v)) ?_ ?_
 ·refine aSR λ_=>dr (aBk ?_);refine Zaj (α:=Nat×Int×(List Int)) (λx=>mkS 115 [(2,.sl 1 (a2.map cI)),(3,.sl 1 (a3.map cI)),(5,.ptr 5 0 0 0),(11,.ptr 11 0 0 0),(12,.own 30 0 0 x.2.2.length),(37,.sl 2 (y1.Pre.map cF)),(38,.c (.int .i64 ((y1.Pre.map cF).length:Int))),(39,.c (.int .i64 x.2.1))] [(5,⟨26,4,true,[[.sl 1 (a0.Vars.map cI),.sl 1 (a0.Init.map cI),.sl 2 (a0.Goal.map cF),.sl 4 (a0.Ops.map Za0)]]⟩),(11,⟨49,4,true,[[.c (.string y1.Name),.c (.int .i64 y1.Cost),.sl 2 (y1.Pre.map cF),.sl 3 (y1.Effs.map Zag)]]⟩),(30,⟨3,1,false,x.2.2.map cI⟩)]) (λx=>Zcg a2 y1 x.1 x.2.1 x.2.2=some o7) (λx=>x.1) ((((y1.Pre.map cF).length:Int)).toNat+1,0,c2) h ?_ ?_
  ·exact Zas
  ·intro x9 h;intro _;obtain⟨k35,m10,h⟩:=Zak (f:=λn=>Zcg a2 y1 n x9.2.1 x9.2.2) rfl h;replace h:Zcg a2 y1 (k35+1) x9.2.1 x9.2.2=some o7:=h;rw[Zcg]at h;refine aSR λ_=>dr (aSq (aCd λ_=>?_));refine spl h (λc11 h=>?_) (λc11 h=>?_)
   ·refine aSk (aSq (aBk (aSR λ_=>?_)));obtain⟨y36,w12,q13,h⟩:=Za9 h;refine Exists.intro (cF y36) (And.intro (Zad w12) λ_=>pr (dr (aSR λ_=>?_)));obtain⟨z37,u14,h⟩:=Zae h;refine cl rfl (Zgw a2 y36.1 u14) λ_=>dr (aCd λ_=>?_);refine spl h (λc15 h=>?_) (λc15 h=>?_)
    ·refine aSR λ_=>?_;obtain⟨y38,w16,h⟩:=Zcm h;refine Exists.intro (cI y38) (And.intro (by first|exact Zad w16|(have w:=Zad (f:=cI) w16;simpa [cI,Value.cells] using w)) ?_);intro _;obtain⟨q17,h⟩:=Zaf h;obtain⟨q18,h⟩:=Zaf h;refine pr (pr (dr (aCd λ_=>?_)));refine spl h (λc19 h=>?_) (λc19 h=>?_)
     ·refine aSR λ_=>dr (aRt ?_);have j20:=sI_ h;subst j20;replace h:=(Za4 hK8);exact zz4
     ·refine aSk (aRg λ_=>dr ⟨(k35,(IntKind.i64.wrap (x9.2.1+1)),x9.2.2),h,ltS m10,?_⟩);exact Zas
    ·refine aRg λ_=>?_;obtain⟨y39,w21,h⟩:=Zcm h;refine Exists.intro (cI y39) (And.intro (by first|exact Zad w21|(have w:=Zad (f:=cI) w21;simpa [cI,Value.cells] using w)) ?_);intro _;obtain⟨q22,h⟩:=Zaf h;obtain⟨q23,h⟩:=Zaf h;refine pr (pr (dr (aRg λ_=>dr ⟨(k35,(IntKind.i64.wrap (x9.2.1+1)),(x9.2.2.set ((y36.1).toNat) y36.2)),h,ltS m10,?_⟩)));exact Zas
   ·refine aEx ⟨x9.2.2,(sI_ h).symm,?_⟩;exact Zas
 ·rintro v20 ho;have ho:=ho.symm;subst ho;intro _;replace h:=(Zcx hK8);refine aSR λ_=>?_;obtain⟨z40,z41,u24,h⟩:=Zdv h;refine cl rfl (Znn a0 a3 u24) λ_=>dr (aSR λ_=>dr ?_);obtain⟨o25,h,hK26⟩:=Zae h;refine Zat (α:=List Int) (λv298=>mkS 115 [(17,.own 109 0 0 v298.length)] [(109,⟨3,1,false,v298.map cI⟩)]) (λv=>o25=v) ?_ ?_
  ·refine aSR λ_=>dr (aBk ?_);refine Zaj (α:=Nat×Int×(List Int)×(List Int)) (λx=>mkS 115 [(2,.sl 1 (a2.map cI)),(3,.sl 1 (a3.map cI)),(5,.ptr 5 0 0 0),(11,.ptr 11 0 0 0),(12,.own 30 0 0 x.2.2.1.length),(17,.own 109 0 0 x.2.2.2.length),(68,.c (.int .i64 z40)),(69,.c (.int .i64 x.2.1))] [(5,⟨26,4,true,[[.sl 1 (a0.Vars.map cI),.sl 1 (a0.Init.map cI),.sl 2 (a0.Goal.map cF),.sl 4 (a0.Ops.map Za0)]]⟩),(11,⟨49,4,true,[[.c (.string y1.Name),.c (.int .i64 y1.Cost),.sl 2 (y1.Pre.map cF),.sl 3 (y1.Effs.map Zag)]]⟩),(30,⟨3,1,false,x.2.2.1.map cI⟩),(109,⟨3,1,false,x.2.2.2.map cI⟩)]) (λx=>Zch a0 a2 a3 y1 z40 x.1 x.2.1 x.2.2.1 x.2.2.2=some o25) (λx=>x.1) ((z40).toNat+1,0,v20,[]) h ?_ ?_
   ·exact Zas
   ·intro x27 h;intro _;obtain⟨k472,m28,h⟩:=Zak (f:=λn=>Zch a0 a2 a3 y1 z40 n x27.2.1 x27.2.2.1 x27.2.2.2) rfl h;replace h:Zch a0 a2 a3 y1 z40 (k472+1) x27.2.1 x27.2.2.1 x27.2.2.2=some o25:=h;rw[Zch]at h;refine aSR λ_=>dr (aSq (aCd λ_=>?_));refine spl h (λc29 h=>?_) (λc29 h=>?_)
    ·refine aSk ?_;obtain⟨o30,h,hK31⟩:=Zae h;refine Zat (α:=(List Int)×(List Int)) (λ(v513,v514)=>mkS 115 [(2,.sl 1 (a2.map cI)),(3,.sl 1 (a3.map cI)),(5,.ptr 5 0 0 0),(11,.ptr 11 0 0 0),(12,.own 30 0 0 v513.length),(17,.own 109 0 0 v514.length),(68,.c (.int .i64 z40)),(69,.c (.int .i64 x27.2.1))] [(5,⟨26,4,true,[[.sl 1 (a0.Vars.map cI),.sl 1 (a0.Init.map cI),.sl 2 (a0.Goal.map cF),.sl 4 (a0.Ops.map Za0)]]⟩),(11,⟨49,4,true,[[.c (.string y1.Name),.c (.int .i64 y1.Cost),.sl 2 (y1.Pre.map cF),.sl 3 (y1.Effs.map Zag)]]⟩),(30,⟨3,1,false,v513.map cI⟩),(109,⟨3,1,false,v514.map cI⟩)]) (λv=>o30=v) ?_ ?_
     ·refine aBk (aSR λ_=>dr (aSR λ_=>?_));obtain⟨c516,u32,h⟩:=Zae h;refine clg [(33,30)] [] [] [(30,⟨0,some ⟨3,1,false,c516.map cI⟩⟩)] (.tup []) rfl rfl (Zatk a0 a3 x27.2.2.1 x27.2.1 u32) ?_;obtain⟨q33,h⟩:=Zaf h;intro _;refine dr (aSR λ_=>?_);obtain⟨z517,c518,u34,h⟩:=Zdv h;refine clg [(8,30),(0,78)] [] [] [(78,⟨2,some ⟨3,1,false,z517.map cI⟩⟩),(30,⟨0,some ⟨3,1,false,c518.map cI⟩⟩)] (.own 78 2 0 z517.length) rfl rfl (Zam2 c516 u34) ?_;obtain⟨q35,h⟩:=Zaf h;intro _;refine dr ?_;obtain⟨o36,h,hK37⟩:=Zae h;refine Zat (α:=List Int) (λv536=>mkS 115 [(2,.sl 1 (a2.map cI)),(3,.sl 1 (a3.map cI)),(5,.ptr 5 0 0 0),(11,.ptr 11 0 0 0),(12,.own 30 0 0 x27.2.2.1.length),(17,.own 109 0 0 x27.2.2.2.length),(19,.own 78 0 0 v536.length),(68,.c (.int .i64 z40)),(69,.c (.int .i64 x27.2.1))] [(5,⟨26,4,true,[[.sl 1 (a0.Vars.map cI),.sl 1 (a0.Init.map cI),.sl 2 (a0.Goal.map cF),.sl 4 (a0.Ops.map Za0)]]⟩),(11,⟨49,4,true,[[.c (.string y1.Name),.c (.int .i64 y1.Cost),.sl 2 (y1.Pre.map cF),.sl 3 (y1.Effs.map Zag)]]⟩),(30,⟨3,1,false,c518.map cI⟩),(78,⟨3,1,false,v536.map cI⟩),(109,⟨3,1,false,x27.2.2.2.map cI⟩)]) (λv=>o36=v) ?_ ?_
      ·refine aSR λ_=>dr (aBk ?_);refine Zaj (α:=Nat×Int×(List Int)) (λx=>mkS 115 [(2,.sl 1 (a2.map cI)),(3,.sl 1 (a3.map cI)),(5,.ptr 5 0 0 0),(11,.ptr 11 0 0 0),(12,.own 30 0 0 x27.2.2.1.length),(17,.own 109 0 0 x27.2.2.2.length),(19,.own 78 0 0 x.2.2.length),(68,.c (.int .i64 z40)),(69,.c (.int .i64 x27.2.1)),(80,.sl 3 (y1.Effs.map Zag)),(81,.c (.int .i64 ((y1.Effs.map Zag).length:Int))),(82,.c (.int .i64 x.2.1))] [(5,⟨26,4,true,[[.sl 1 (a0.Vars.map cI),.sl 1 (a0.Init.map cI),.sl 2 (a0.Goal.map cF),.sl 4 (a0.Ops.map Za0)]]⟩),(11,⟨49,4,true,[[.c (.string y1.Name),.c (.int .i64 y1.Cost),.sl 2 (y1.Pre.map cF),.sl 3 (y1.Effs.map Zag)]]⟩),(30,⟨3,1,false,c518.map cI⟩),(78,⟨3,1,false,x.2.2.map cI⟩),(109,⟨3,1,false,x27.2.2.2.map cI⟩)]) (λx=>Zbo a2 c518 x27.2.2.1 y1 x.1 x.2.1 x.2.2=some o36) (λx=>x.1) ((((y1.Effs.map Zag).length:Int)).toNat+1,0,z517) h ?_ ?_
       ·exact Zas
       ·intro x38 h;intro _;obtain⟨k550,m39,h⟩:=Zak (f:=λn=>Zbo a2 c518 x27.2.2.1 y1 n x38.2.1 x38.2.2) rfl h;replace h:Zbo a2 c518 x27.2.2.1 y1 (k550+1) x38.2.1 x38.2.2=some o36:=h;rw[Zbo]at h;refine aSR λ_=>dr (aSq (aCd λ_=>?_));refine spl h (λc40 h=>?_) (λc40 h=>?_)
        ·refine aSk (aSq (aBk (aSR λ_=>?_)));obtain⟨y551,w41,q42,h⟩:=Za9 h;refine Exists.intro (Zag y551) (And.intro (Zad w41) λ_=>pr (dr (aSR λ_=>?_)));obtain⟨z552,u43,h⟩:=Zae h;refine cl rfl (Zgw a2 y551.Var u43) λ_=>?_;refine spl h (λc44 h=>?_) (λc44 h=>?_)
         ·intro _;obtain⟨q45,h⟩:=Zaf h;obtain⟨z553,u46,h⟩:=Zae h;refine clb [30] rfl rfl (Zrv y551.When c518 u46) λ_=>dr (aCd λ_=>?_);refine spl h (λc47 h=>?_) (λc47 h=>?_)
          ·refine aRg λ_=>?_;obtain⟨y554,w48,h⟩:=Zcm h;refine Exists.intro (cI y554) (And.intro (by first|exact Zad w48|(have w:=Zad (f:=cI) w48;simpa [cI,Value.cells] using w)) ?_);intro _;obtain⟨q49,h⟩:=Zaf h;obtain⟨q50,h⟩:=Zaf h;refine pr (pr (dr (aRg λ_=>dr ⟨(k550,(IntKind.i64.wrap (x38.2.1+1)),(x38.2.2.set ((y551.Var).toNat) y551.Val)),h,ltS m39,?_⟩)));exact Zas
          ·refine aSk (aRg λ_=>dr ⟨(k550,(IntKind.i64.wrap (x38.2.1+1)),x38.2.2),h,ltS m39,?_⟩);exact Zas
         ·intro _;refine dr (aCd λ_=>Znf (aSk (aRg λ_=>dr ⟨(k550,(IntKind.i64.wrap (x38.2.1+1)),x38.2.2),h,ltS m39,?_⟩)));exact Zas
        ·refine aEx ⟨x38.2.2,(sI_ h).symm,?_⟩;exact Zas
      ·rintro v536 ho;have ho:=ho.symm;subst ho;intro _;replace h:=hK37;refine aRg λ_=>?_;obtain⟨q51,h⟩:=Zaf h;obtain⟨z555,u52,h⟩:=Zae h;refine clb [78] rfl rfl (Zrc a0 a2 v536 u52) λ_=>?_;obtain⟨q53,h⟩:=Zaf h;refine pl (pl ?_);refine And.intro (by first|with_reducible assumption|(show(x27.2.2.2.length+1)*8<=140737488355328;with_reducible assumption)|omega|(simp;omega)) ?_;refine pe (dr ⟨(c518,(x27.2.2.2++[z555])),(sI_ h).symm,?_⟩);exact Zas
     ·rintro⟨v513,v514⟩ ho;have ho:=ho.symm;subst ho;intro _;replace h:=hK31;refine aRg λ_=>dr ⟨(k472,(IntKind.i64.wrap (x27.2.1+1)),v513,v514),h,ltS m28,?_⟩;exact Zas
    ·refine aEx ⟨x27.2.2.2,(sI_ h).symm,?_⟩;exact Zas
  ·rintro v298 ho;have ho:=ho.symm;subst ho;intro _;replace h:=hK26;refine aSR λ_=>?_;obtain⟨c556,u54,h⟩:=Zae h;refine clg [(11,109)] [] [] [(109,⟨0,some ⟨3,1,false,c556.map cI⟩⟩)] (.tup []) rfl rfl (Zam5 v298 u54) ?_;obtain⟨q55,h⟩:=Zaf h;intro _;refine dr (aSR λ_=>?_);obtain⟨z557,u56,h⟩:=Zae h;refine clg [(0,109),(0,109)] [] [(109,⟨1,none⟩)] [(109,⟨2,some ⟨3,1,false,z557.map cI⟩⟩)] (.own 109 2 0 z557.length) rfl rfl (Zzb g c556 u56) λ_=>dr (aRt ?_);obtain⟨q57,h⟩:=Zaf h;exact zz4
def Zcv (a0:Zah)(a1:List Int):Nat->Int->(List (List Int))->(List Int)->Option (((List (List Int))×(List Int))⊕(Zbh×Er))|0,_,_,_=>none|k54+1,v51,v52,v53=>sel (decide (v51<((a0.Ops.map Za0).length:Int))) (ix a0.Ops v51 (λy55=>grd ((v53.length+1)*8<=140737488355328) (ob1 (Zf7 y55 a1) (λz56=>ixn v52 ((v51).toNat) (λ_=>grd (v51<((v52.length:Nat):Int)) (ixn (v52.set ((v51).toNat) z56) ((v51).toNat) (λy58=>ob2 (Zea a0 y58) (λ_ z60=>sel (!z60) (some (.inr ({ States:=0,Init:=0,Costs:=[],Edges:=[],Goals:=[]:Zbh },(Er.no 5)))) (Zcv a0 a1 k54 (IntKind.i64.wrap (v51+1)) (v52.set ((v51).toNat) z56) (v53++[y55.Cost])))))))))) (some (.inl (v52,v53)))
def Zbm (a0:Zah)(a1:List Int)(c628:List Int)(v510:List Int):Nat->Bool->Int->Option (Bool)|0,_,_=>none|k655+1,v653,v654=>sel (decide (v654<((a0.Goal.map cF).length:Int))) (ix a0.Goal v654 (λy656=>sel v653 (ob1 (Zbg a1 y656.1) (λz657=>sel (!z657) (Zbm a0 a1 c628 v510 k655 true (IntKind.i64.wrap (v654+1))) (ixn c628 ((y656.1).toNat) (λy658=>grd (0<=y656.1) (grd (y656.1<((v510.length:Nat):Int)) (Zbm a0 a1 c628 v510 k655 (y658 == y656.2) (IntKind.i64.wrap (v654+1)))))))) (Zbm a0 a1 c628 v510 k655 false (IntKind.i64.wrap (v654+1))))) (some v653)
def Zcd (v509:Int)(v709:Int)(z727:List Int):Nat->Int->(List Zam)->Option ((List Zam)⊕(Zbh×Er))|0,_,_=>none|k734+1,v732,v733=>sel (decide (v732<((z727.map cI).length:Int))) (ix z727 v732 (λy735=>sel (((v733.length:Nat):Int) == 65536) (some (.inr ({ States:=0,Init:=0,Costs:=[],Edges:=[],Goals:=[]:Zbh },(Er.no 5)))) (grd ((v733.length+1)*24<=140737488355328) (Zcd v509 v709 z727 k734 (IntKind.i64.wrap (v732+1)) (v733++[{ From:=v509,Label:=v709,To:=y735:Zam }]))))) (some (.inl v733))
def Zce (a0:Zah)(a1:List Int)(c628:List Int)(g:Nat)(v31:List (List Int))(v509:Int)(v511:List Bool)(v643:Bool):Nat->Int->(List Zam)->Option (((List Int)×(List Bool)×(List Zam))⊕(Zbh×Er))|0,_,_=>none|k711+1,v709,v710=>sel (decide (v709<((a0.Ops.map Za0).length:Int))) (ob1 (ixn v31 ((v709).toNat) (λy726=>ob1 (Zew g a0 v709 a1 y726 v509) (λz727=>grd (0<=v709) (grd (v709<((v31.length:Nat):Int)) (Zcd v509 v709 z727 ((((z727.map cI).length:Int)).toNat+1) 0 v710)))):Option ((List Zam)⊕(Zbh×Er))) (Zj9 (λv722=>Zce a0 a1 c628 g v31 v509 v511 v643 k711 (IntKind.i64.wrap (v709+1)) v722) (λ(r723,r724)=>some (.inr (r723,r724))))) (some (.inl (c628,(v511++[v643]),v710)))
def Zcf (a0:Zah)(a1:List Int)(g:Nat)(v31:List (List Int))(v32:List Int)(z3:Int)(z5:Int):Nat->Int->(List Int)->(List Bool)->(List Zam)->Option (Zbh×Er)|0,_,_,_,_=>none|k513+1,v509,v510,v511,v512=>sel (decide (v509<z3)) (ob1 (ob1 (Zzm a0 a1 v510 v509) (λc628=>grd (c628.length=v510.length) (ob1 (Zbm a0 a1 c628 v510 ((((a0.Goal.map cF).length:Int)).toNat+1) true 0:Option (Bool)) (λv643=>grd ((v511.length+1)*1<=140737488355328) (Zce a0 a1 c628 g v31 v509 v511 v643 ((((a0.Ops.map Za0).length:Int)).toNat+1) 0 v512)))):Option (((List Int)×(List Bool)×(List Zam))⊕(Zbh×Er))) (Zj9 (λ(v622,v623,v624)=>Zcf a0 a1 g v31 v32 z3 z5 k513 (IntKind.i64.wrap (v509+1)) v622 v623 v624) (λ(r625,r626)=>some (r625,r626)))) (grd (v32.length<=140737488355328) (grd (v512.length<=140737488355328) (grd (v511.length<=140737488355328) (some ({ States:=z3,Init:=z5,Costs:=v32,Edges:=v512,Goals:=v511:Zbh },Er.nil)))))
def Zhr (g:Nat)(a0:Zah)(a1:List Int):Option (Zbh×Er):=ob1 (Zla a0 a1) (λz1=>erM z1 (ob2 (Zea a0 a1) (λz3 z4=>sel (!z4) (some ({ States:=0,Init:=0,Costs:=[],Edges:=[],Goals:=[]:Zbh },(Er.no 5))) (ob1 (Zfp a0 a1 a0.Init) (λz5=>grd (0<=((a0.Ops.map Za0).length:Int)) (grd (((a0.Ops.map Za0).length:Int)*24<=281474976710656) (ob1 (Zcv a0 a1 ((((a0.Ops.map Za0).length:Int)).toNat+1) 0 (List.replicate ((a0.Ops.map Za0).length:Int).toNat []) []:Option (((List (List Int))×(List Int))⊕(Zbh×Er))) (Zj9 (λ(v31,v32)=>grd (0<=((a0.Vars.map cI).length:Int)) (grd (((a0.Vars.map cI).length:Int)*8<=281474976710656) (Zcf a0 a1 g v31 v32 z3 z5 ((z3).toNat+1) 0 (List.replicate ((a0.Vars.map cI).length:Int).toNat 0) [] []))) (λ(r33,r34)=>some (r33,r34))))))))) (λe2=>some ({ States:=0,Init:=0,Costs:=[],Edges:=[],Goals:=[]:Zbh },(Er.no e2))))
theorem Zv9 (g:Nat)(a0:Zah)(a1:List Int){r1:Zbh}{r2:Er}(h:Zhr g a0 a1=some (r1,r2)):ACall cx 20 [.agg [.sl 1 (a0.Vars.map cI),.sl 1 (a0.Init.map cI),.sl 2 (a0.Goal.map cF),.sl 4 (a0.Ops.map Za0)],.sl 1 (a1.map cI)] (.tup [.agg [.c (.int .i64 r1.States),.c (.int .i64 r1.Init),.sl 1 (r1.Costs.map cI),.sl 3 (r1.Edges.map Zao),.sl 1 (r1.Goals.map cB)],eA r2]):=by
 refine aOf Tryz.func20 rfl (by decide) rfl (bT4 rfl) ?_;intro _;unfold Zhr at h;refine aSR λ_=>dr (aSq (aSR λ_=>?_));obtain⟨z1,u1,h⟩:=Zae h;refine cl rfl (Zy9 a0 a1 u1) λ_=>dr (aSq ?_);rcases z1 with _|e2
 ·replace h:=Zdn h;refine aRg λ_=>dr (aCd λ_=>Znf (aSk (aSR λ_=>?_)));obtain⟨z3,z4,u2,h⟩:=Zdv h;refine cl rfl (Znn a0 a1 u2) λ_=>dr (aSq (aSR λ_=>dr (aCd λ_=>?_)));refine spl h (λc3 h=>?_) (λc3 h=>?_)
  ·exact zz6
  ·refine aSk (aSR λ_=>?_);obtain⟨z5,u4,h⟩:=Zae h;refine cl rfl (Zrc a0 a1 a0.Init u4) λ_=>dr (aSR λ_=>?_);obtain⟨q5,h⟩:=Zaf h;obtain⟨q6,h⟩:=Zaf h;refine⟨_,Zsn rfl rfl (bT4 rfl) (Zbz 88 _ rfl) rfl (Zbz 22 _ rfl) rfl rfl rfl (by first|assumption|omega) (by first|assumption|(show _*(24:Int)<=_;omega)|omega) (by omega) rfl (by simp only[Value.cells];simp[Value.oneCell']) (by decide),?_⟩;intro _;refine dr ?_;obtain⟨o7,h,hK8⟩:=Zae h;refine Zat (α:=(List (List Int))×(List Int)) (λ(v31,v32)=>mkS 170 [(1,.sl 1 (a1.map cI)),(2,.ptr 2 0 0 0),(4,.ptr 4 0 0 0),(7,.c (.int .i64 z3)),(9,.ptr 9 0 0 0),(10,.own 50 0 0 v31.length)] [(2,⟨26,4,true,[[.sl 1 (a0.Vars.map cI),.sl 1 (a0.Init.map cI),.sl 2 (a0.Goal.map cF),.sl 4 (a0.Ops.map Za0)]]⟩),(4,⟨61,5,true,[[.c (.int .i64 0),.c (.int .i64 0),.c (.slice none 0 0),.c (.slice none 0 0),.c (.slice none 0 0)]]⟩),(9,⟨61,5,true,[[.c (.int .i64 z3),.c (.int .i64 z5),.own 64 0 0 v32.length,.c (.slice none 0 0),.c (.slice none 0 0)]]⟩),(50,⟨22,1,false,v31.map Zb4⟩),(64,⟨3,1,false,v32.map cI⟩)]) (λv=>o7=(.inl v)) ?_ ?_
   ·refine aSR λ_=>dr (aBk ?_);refine Zaj (α:=Nat×Int×(List (List Int))×(List Int)) (λx=>mkS 170 [(1,.sl 1 (a1.map cI)),(2,.ptr 2 0 0 0),(4,.ptr 4 0 0 0),(7,.c (.int .i64 z3)),(9,.ptr 9 0 0 0),(10,.own 50 0 0 x.2.2.1.length),(52,.sl 4 (a0.Ops.map Za0)),(53,.c (.int .i64 ((a0.Ops.map Za0).length:Int))),(54,.c (.int .i64 x.2.1))] [(2,⟨26,4,true,[[.sl 1 (a0.Vars.map cI),.sl 1 (a0.Init.map cI),.sl 2 (a0.Goal.map cF),.sl 4 (a0.Ops.map Za0)]]⟩),(4,⟨61,5,true,[[.c (.int .i64 0),.c (.int .i64 0),.c (.slice none 0 0),.c (.slice none 0 0),.c (.slice none 0 0)]]⟩),(9,⟨61,5,true,[[.c (.int .i64 z3),.c (.int .i64 z5),.own 64 0 0 x.2.2.2.length,.c (.slice none 0 0),.c (.slice none 0 0)]]⟩),(50,⟨22,1,false,x.2.2.1.map Zb4⟩),(64,⟨3,1,false,x.2.2.2.map cI⟩)]) (λx=>Zcv a0 a1 x.1 x.2.1 x.2.2.1 x.2.2.2=some o7) (λx=>x.1) ((((a0.Ops.map Za0).length:Int)).toNat+1,0,(List.replicate ((a0.Ops.map Za0).length:Int).toNat []),[]) h ?_ ?_
    ·exact Zas
    ·intro x9 h;intro _;obtain⟨k54,m10,h⟩:=Zak (f:=λn=>Zcv a0 a1 n x9.2.1 x9.2.2.1 x9.2.2.2) rfl h;replace h:Zcv a0 a1 (k54+1) x9.2.1 x9.2.2.1 x9.2.2.2=some o7:=h;rw[Zcv]at h;refine aSR λ_=>dr (aSq (aCd λ_=>?_));refine spl h (λc11 h=>?_) (λc11 h=>?_)
     ·refine aSk (aSq (aBk (aSR λ_=>?_)));obtain⟨y55,w12,q13,h⟩:=Za9 h;refine Exists.intro (Za0 y55) (And.intro (Zad w12) λ_=>pr (dr (aSR λ_=>?_)));obtain⟨q14,h⟩:=Zaf h;refine pl (pl ?_);refine And.intro (by first|with_reducible assumption|(show(x9.2.2.2.length+1)*8<=140737488355328;with_reducible assumption)|omega|(simp;omega)) ?_;refine pe (dr (aSR λ_=>?_));obtain⟨z56,u15,h⟩:=Zae h;refine cl rfl (Zwa y55 a1 u15) λ_=>?_;obtain⟨y57,w16,h⟩:=Zcm h;refine Exists.intro (Zb4 y57) (And.intro (by first|exact Zad w16|(have w:=Zad (f:=Zb4) w16;simpa [Zb4,Value.cells] using w)) ?_);intro _;obtain⟨q17,h⟩:=Zaf h;refine pr (pr (dr (aSR λ_=>?_)));obtain⟨y58,w18,h⟩:=Zcm h;refine Exists.intro (Zb4 y58) (And.intro (by first|exact Zad w18|(have w:=Zad (f:=Zb4) w18;simpa [Zb4,Value.cells] using w)) ?_);intro _;obtain⟨z59,z60,u19,h⟩:=Zdv h;refine cl rfl (Znn a0 y58 u19) λ_=>pr (pr (dr (aSR λ_=>dr (aCd λ_=>?_))));refine spl h (λc20 h=>?_) (λc20 h=>?_)
      ·refine aSR λ_=>dr (aRt ?_);have j21:=sI_ h;subst j21;replace h:=(Za4 hK8);exact zz1
      ·refine aSk (aRg λ_=>dr ⟨(k54,(IntKind.i64.wrap (x9.2.1+1)),(x9.2.2.1.set ((x9.2.1).toNat) z56),(x9.2.2.2++[y55.Cost])),h,ltS m10,?_⟩);exact Zas
     ·refine aEx ⟨(x9.2.2.1,x9.2.2.2),(sI_ h).symm,?_⟩;exact Zas
   ·rintro⟨v31,v32⟩ ho;have ho:=ho.symm;subst ho;intro _;replace h:=(Zcx hK8);refine aSR λ_=>?_;obtain⟨q22,h⟩:=Zaf h;obtain⟨q23,h⟩:=Zaf h;refine⟨_,Zsn rfl rfl (bT4 rfl) (Zbz 22 _ rfl) rfl (Zbz 3 _ rfl) rfl rfl rfl (by first|assumption|omega) (by first|assumption|(show _*(8:Int)<=_;omega)|omega) (by omega) rfl (by simp only[Value.cells];simp[Value.oneCell']) (by decide),?_⟩;intro _;refine dr (aSq (aSR λ_=>dr (aBk ?_)));refine Zaj (α:=Nat×Int×(List Int)×(List Bool)×(List Zam)) (λx=>mkS 170 [(1,.sl 1 (a1.map cI)),(2,.ptr 2 0 0 0),(4,.ptr 4 0 0 0),(9,.ptr 9 0 0 0),(10,.own 50 0 0 v31.length),(15,.own 89 0 0 x.2.2.1.length),(90,.c (.int .i64 z3)),(91,.c (.int .i64 x.2.1))] [(2,⟨26,4,true,[[.sl 1 (a0.Vars.map cI),.sl 1 (a0.Init.map cI),.sl 2 (a0.Goal.map cF),.sl 4 (a0.Ops.map Za0)]]⟩),(4,⟨61,5,true,[[.c (.int .i64 0),.c (.int .i64 0),.c (.slice none 0 0),.c (.slice none 0 0),.c (.slice none 0 0)]]⟩),(9,⟨61,5,true,[[.c (.int .i64 z3),.c (.int .i64 z5),.own 64 0 0 v32.length,.own 164 0 0 x.2.2.2.2.length,.own 129 0 0 x.2.2.2.1.length]]⟩),(50,⟨22,1,false,v31.map Zb4⟩),(64,⟨3,1,false,v32.map cI⟩),(89,⟨3,1,false,x.2.2.1.map cI⟩),(129,⟨4,1,false,x.2.2.2.1.map cB⟩),(164,⟨94,3,false,x.2.2.2.2.map Zao⟩)]) (λx=>Zcf a0 a1 g v31 v32 z3 z5 x.1 x.2.1 x.2.2.1 x.2.2.2.1 x.2.2.2.2=some (r1,r2)) (λx=>x.1) ((z3).toNat+1,0,(List.replicate ((a0.Vars.map cI).length:Int).toNat 0),[],[]) h ?_ ?_
    ·exact Zas
    ·intro x24 h;intro _;obtain⟨k513,m25,h⟩:=Zak (f:=λn=>Zcf a0 a1 g v31 v32 z3 z5 n x24.2.1 x24.2.2.1 x24.2.2.2.1 x24.2.2.2.2) rfl h;replace h:Zcf a0 a1 g v31 v32 z3 z5 (k513+1) x24.2.1 x24.2.2.1 x24.2.2.2.1 x24.2.2.2.2=some (r1,r2):=h;rw[Zcf]at h;refine aSR λ_=>dr (aSq (aCd λ_=>?_));refine spl h (λc26 h=>?_) (λc26 h=>?_)
     ·refine aSk ?_;obtain⟨o27,h,hK28⟩:=Zae h;refine Zat (α:=(List Int)×(List Bool)×(List Zam)) (λ(v622,v623,v624)=>mkS 170 [(1,.sl 1 (a1.map cI)),(2,.ptr 2 0 0 0),(4,.ptr 4 0 0 0),(9,.ptr 9 0 0 0),(10,.own 50 0 0 v31.length),(15,.own 89 0 0 v622.length),(90,.c (.int .i64 z3)),(91,.c (.int .i64 x24.2.1))] [(2,⟨26,4,true,[[.sl 1 (a0.Vars.map cI),.sl 1 (a0.Init.map cI),.sl 2 (a0.Goal.map cF),.sl 4 (a0.Ops.map Za0)]]⟩),(4,⟨61,5,true,[[.c (.int .i64 0),.c (.int .i64 0),.c (.slice none 0 0),.c (.slice none 0 0),.c (.slice none 0 0)]]⟩),(9,⟨61,5,true,[[.c (.int .i64 z3),.c (.int .i64 z5),.own 64 0 0 v32.length,.own 164 0 0 v624.length,.own 129 0 0 v623.length]]⟩),(50,⟨22,1,false,v31.map Zb4⟩),(64,⟨3,1,false,v32.map cI⟩),(89,⟨3,1,false,v622.map cI⟩),(129,⟨4,1,false,v623.map cB⟩),(164,⟨94,3,false,v624.map Zao⟩)]) (λv=>o27=(.inl v)) ?_ ?_
      ·refine aBk (aSR λ_=>dr (aSR λ_=>?_));obtain⟨c628,u29,h⟩:=Zae h;refine clg [(33,89)] [] [] [(89,⟨0,some ⟨3,1,false,c628.map cI⟩⟩)] (.tup []) rfl rfl (Zatk a0 a1 x24.2.2.1 x24.2.1 u29) ?_;obtain⟨q30,h⟩:=Zaf h;intro _;refine dr (aSR λ_=>dr ?_);obtain⟨o31,h,hK32⟩:=Zae h;refine Zat (α:=Bool) (λv643=>mkS 170 [(1,.sl 1 (a1.map cI)),(2,.ptr 2 0 0 0),(4,.ptr 4 0 0 0),(9,.ptr 9 0 0 0),(10,.own 50 0 0 v31.length),(15,.own 89 0 0 x24.2.2.1.length),(16,.c (.int .i64 x24.2.1)),(17,.c (.bool v643)),(90,.c (.int .i64 z3)),(91,.c (.int .i64 x24.2.1))] [(2,⟨26,4,true,[[.sl 1 (a0.Vars.map cI),.sl 1 (a0.Init.map cI),.sl 2 (a0.Goal.map cF),.sl 4 (a0.Ops.map Za0)]]⟩),(4,⟨61,5,true,[[.c (.int .i64 0),.c (.int .i64 0),.c (.slice none 0 0),.c (.slice none 0 0),.c (.slice none 0 0)]]⟩),(9,⟨61,5,true,[[.c (.int .i64 z3),.c (.int .i64 z5),.own 64 0 0 v32.length,.own 164 0 0 x24.2.2.2.2.length,.own 129 0 0 x24.2.2.2.1.length]]⟩),(50,⟨22,1,false,v31.map Zb4⟩),(64,⟨3,1,false,v32.map cI⟩),(89,⟨3,1,false,c628.map cI⟩),(129,⟨4,1,false,x24.2.2.2.1.map cB⟩),(164,⟨94,3,false,x24.2.2.2.2.map Zao⟩)]) (λv=>o31=v) ?_ ?_
       ·refine aSR λ_=>dr (aBk ?_);refine Zaj (α:=Nat×Bool×Int) (λx=>mkS 170 [(1,.sl 1 (a1.map cI)),(2,.ptr 2 0 0 0),(4,.ptr 4 0 0 0),(9,.ptr 9 0 0 0),(10,.own 50 0 0 v31.length),(15,.own 89 0 0 x24.2.2.1.length),(16,.c (.int .i64 x24.2.1)),(17,.c (.bool x.2.1)),(90,.c (.int .i64 z3)),(91,.c (.int .i64 x24.2.1)),(100,.sl 2 (a0.Goal.map cF)),(101,.c (.int .i64 ((a0.Goal.map cF).length:Int))),(102,.c (.int .i64 x.2.2))] [(2,⟨26,4,true,[[.sl 1 (a0.Vars.map cI),.sl 1 (a0.Init.map cI),.sl 2 (a0.Goal.map cF),.sl 4 (a0.Ops.map Za0)]]⟩),(4,⟨61,5,true,[[.c (.int .i64 0),.c (.int .i64 0),.c (.slice none 0 0),.c (.slice none 0 0),.c (.slice none 0 0)]]⟩),(9,⟨61,5,true,[[.c (.int .i64 z3),.c (.int .i64 z5),.own 64 0 0 v32.length,.own 164 0 0 x24.2.2.2.2.length,.own 129 0 0 x24.2.2.2.1.length]]⟩),(50,⟨22,1,false,v31.map Zb4⟩),(64,⟨3,1,false,v32.map cI⟩),(89,⟨3,1,false,c628.map cI⟩),(129,⟨4,1,false,x24.2.2.2.1.map cB⟩),(164,⟨94,3,false,x24.2.2.2.2.map Zao⟩)]) (λx=>Zbm a0 a1 c628 x24.2.2.1 x.1 x.2.1 x.2.2=some o31) (λx=>x.1) ((((a0.Goal.map cF).length:Int)).toNat+1,true,0) h ?_ ?_
        ·exact Zas
        ·intro x33 h;intro _;obtain⟨k655,m34,h⟩:=Zak (f:=λn=>Zbm a0 a1 c628 x24.2.2.1 n x33.2.1 x33.2.2) rfl h;replace h:Zbm a0 a1 c628 x24.2.2.1 (k655+1) x33.2.1 x33.2.2=some o31:=h;rw[Zbm]at h;refine aSR λ_=>dr (aSq (aCd λ_=>?_));refine spl h (λc35 h=>?_) (λc35 h=>?_)
         ·refine aSk (aSq (aBk (aSR λ_=>?_)));obtain⟨y656,w36,q37,h⟩:=Za9 h;refine Exists.intro (cF y656) (And.intro (Zad w36) λ_=>pr (dr (aRg λ_=>?_)));refine spl h (λc38 h=>?_) (λc38 h=>?_)
          ·intro _;obtain⟨z657,u39,h⟩:=Zae h;refine cl rfl (Zgw a1 y656.1 u39) λ_=>?_;refine spf h (λc40 h=>?_) (λc40 h=>?_)
           ·intro _;obtain⟨y658,w41,h⟩:=Zcm h;refine Exists.intro (cI y658) (And.intro (by first|exact Zad w41|(have w:=Zad (f:=cI) w41;simpa [cI,Value.cells] using w)) ?_);intro _;obtain⟨q42,h⟩:=Zaf h;obtain⟨q43,h⟩:=Zaf h;refine pr (pr (dr (aRg λ_=>dr ⟨(k655,(y658 == y656.2),(IntKind.i64.wrap (x33.2.2+1))),h,ltS m34,?_⟩)));exact Zas
           ·intro _;refine dr (aRg λ_=>dr ⟨(k655,true,(IntKind.i64.wrap (x33.2.2+1))),h,ltS m34,?_⟩);exact Zas
          ·intro _;refine dr (aRg λ_=>dr ⟨(k655,false,(IntKind.i64.wrap (x33.2.2+1))),h,ltS m34,?_⟩);exact Zas
         ·refine aEx ⟨x33.2.1,(sI_ h).symm,?_⟩;exact Zas
       ·rintro v643 ho;have ho:=ho.symm;subst ho;intro _;replace h:=hK32;refine aSR λ_=>?_;obtain⟨q44,h⟩:=Zaf h;refine pl (pl ?_);refine And.intro (by first|with_reducible assumption|(show(x24.2.2.2.1.length+1)*1<=140737488355328;with_reducible assumption)|omega|(simp;omega)) ?_;refine pe (dr (aSR λ_=>dr (aBk ?_)));refine Zaj (α:=Nat×Int×(List Zam)) (λx=>mkS 170 [(1,.sl 1 (a1.map cI)),(2,.ptr 2 0 0 0),(4,.ptr 4 0 0 0),(9,.ptr 9 0 0 0),(10,.own 50 0 0 v31.length),(15,.own 89 0 0 x24.2.2.1.length),(16,.c (.int .i64 x24.2.1)),(90,.c (.int .i64 z3)),(91,.c (.int .i64 x24.2.1)),(133,.c (.int .i64 ((a0.Ops.map Za0).length:Int))),(134,.c (.int .i64 x.2.1))] [(2,⟨26,4,true,[[.sl 1 (a0.Vars.map cI),.sl 1 (a0.Init.map cI),.sl 2 (a0.Goal.map cF),.sl 4 (a0.Ops.map Za0)]]⟩),(4,⟨61,5,true,[[.c (.int .i64 0),.c (.int .i64 0),.c (.slice none 0 0),.c (.slice none 0 0),.c (.slice none 0 0)]]⟩),(9,⟨61,5,true,[[.c (.int .i64 z3),.c (.int .i64 z5),.own 64 0 0 v32.length,.own 164 0 0 x.2.2.length,.own 129 0 0 (x24.2.2.2.1.length+1)]]⟩),(50,⟨22,1,false,v31.map Zb4⟩),(64,⟨3,1,false,v32.map cI⟩),(89,⟨3,1,false,c628.map cI⟩),(129,⟨4,1,false,(x24.2.2.2.1++[v643]).map cB⟩),(164,⟨94,3,false,x.2.2.map Zao⟩)]) (λx=>Zce a0 a1 c628 g v31 x24.2.1 x24.2.2.2.1 v643 x.1 x.2.1 x.2.2=some o27) (λx=>x.1) ((((a0.Ops.map Za0).length:Int)).toNat+1,0,x24.2.2.2.2) h ?_ ?_
        ·exact Zas
        ·intro x45 h;intro _;obtain⟨k711,m46,h⟩:=Zak (f:=λn=>Zce a0 a1 c628 g v31 x24.2.1 x24.2.2.2.1 v643 n x45.2.1 x45.2.2) rfl h;replace h:Zce a0 a1 c628 g v31 x24.2.1 x24.2.2.2.1 v643 (k711+1) x45.2.1 x45.2.2=some o27:=h;rw[Zce]at h;refine aSR λ_=>dr (aSq (aCd λ_=>?_));refine spl h (λc47 h=>?_) (λc47 h=>?_)
         ·refine aSk ?_;obtain⟨o48,h,hK49⟩:=Zae h;refine Zat (α:=List Zam) (λv722=>mkS 170 [(1,.sl 1 (a1.map cI)),(2,.ptr 2 0 0 0),(4,.ptr 4 0 0 0),(9,.ptr 9 0 0 0),(10,.own 50 0 0 v31.length),(15,.own 89 0 0 x24.2.2.1.length),(16,.c (.int .i64 x24.2.1)),(90,.c (.int .i64 z3)),(91,.c (.int .i64 x24.2.1)),(133,.c (.int .i64 ((a0.Ops.map Za0).length:Int))),(134,.c (.int .i64 x45.2.1))] [(2,⟨26,4,true,[[.sl 1 (a0.Vars.map cI),.sl 1 (a0.Init.map cI),.sl 2 (a0.Goal.map cF),.sl 4 (a0.Ops.map Za0)]]⟩),(4,⟨61,5,true,[[.c (.int .i64 0),.c (.int .i64 0),.c (.slice none 0 0),.c (.slice none 0 0),.c (.slice none 0 0)]]⟩),(9,⟨61,5,true,[[.c (.int .i64 z3),.c (.int .i64 z5),.own 64 0 0 v32.length,.own 164 0 0 v722.length,.own 129 0 0 (x24.2.2.2.1.length+1)]]⟩),(50,⟨22,1,false,v31.map Zb4⟩),(64,⟨3,1,false,v32.map cI⟩),(89,⟨3,1,false,c628.map cI⟩),(129,⟨4,1,false,(x24.2.2.2.1++[v643]).map cB⟩),(164,⟨94,3,false,v722.map Zao⟩)]) (λv=>o48=(.inl v)) ?_ ?_
          ·refine aBk (aSR λ_=>dr (aSR λ_=>?_));obtain⟨y726,w50,h⟩:=Zcm h;refine Exists.intro (Zb4 y726) (And.intro (by first|exact Zad w50|(have w:=Zad (f:=Zb4) w50;simpa [Zb4,Value.cells] using w)) ?_);intro _;obtain⟨z727,u51,h⟩:=Zae h;refine cl rfl (Zwb g a0 x45.2.1 a1 y726 x24.2.1 u51) λ_=>?_;obtain⟨q52,h⟩:=Zaf h;obtain⟨q53,h⟩:=Zaf h;refine pr (pr (dr (aBk ?_)));refine Zaj (α:=Nat×Int×(List Zam)) (λx=>mkS 170 [(1,.sl 1 (a1.map cI)),(2,.ptr 2 0 0 0),(4,.ptr 4 0 0 0),(9,.ptr 9 0 0 0),(10,.own 50 0 0 v31.length),(15,.own 89 0 0 x24.2.2.1.length),(16,.c (.int .i64 x24.2.1)),(20,.c (.int .i64 x45.2.1)),(90,.c (.int .i64 z3)),(91,.c (.int .i64 x24.2.1)),(133,.c (.int .i64 ((a0.Ops.map Za0).length:Int))),(134,.c (.int .i64 x45.2.1)),(145,.sl 1 (z727.map cI)),(146,.c (.int .i64 ((z727.map cI).length:Int))),(147,.c (.int .i64 x.2.1))] [(2,⟨26,4,true,[[.sl 1 (a0.Vars.map cI),.sl 1 (a0.Init.map cI),.sl 2 (a0.Goal.map cF),.sl 4 (a0.Ops.map Za0)]]⟩),(4,⟨61,5,true,[[.c (.int .i64 0),.c (.int .i64 0),.c (.slice none 0 0),.c (.slice none 0 0),.c (.slice none 0 0)]]⟩),(9,⟨61,5,true,[[.c (.int .i64 z3),.c (.int .i64 z5),.own 64 0 0 v32.length,.own 164 0 0 x.2.2.length,.own 129 0 0 (x24.2.2.2.1.length+1)]]⟩),(50,⟨22,1,false,v31.map Zb4⟩),(64,⟨3,1,false,v32.map cI⟩),(89,⟨3,1,false,c628.map cI⟩),(129,⟨4,1,false,(x24.2.2.2.1++[v643]).map cB⟩),(164,⟨94,3,false,x.2.2.map Zao⟩)]) (λx=>Zcd x24.2.1 x45.2.1 z727 x.1 x.2.1 x.2.2=some o48) (λx=>x.1) ((((z727.map cI).length:Int)).toNat+1,0,x45.2.2) h ?_ ?_
           ·exact Zas
           ·intro x54 h;intro _;obtain⟨k734,m55,h⟩:=Zak (f:=λn=>Zcd x24.2.1 x45.2.1 z727 n x54.2.1 x54.2.2) rfl h;replace h:Zcd x24.2.1 x45.2.1 z727 (k734+1) x54.2.1 x54.2.2=some o48:=h;rw[Zcd]at h;refine aSR λ_=>dr (aSq (aCd λ_=>?_));refine spl h (λc56 h=>?_) (λc56 h=>?_)
            ·refine aSk (aSq (aBk (aSR λ_=>?_)));obtain⟨y735,w57,q58,h⟩:=Za9 h;refine Exists.intro (cI y735) (And.intro (Zad w57) λ_=>pr (dr (aSq (aSR λ_=>dr (aCd λ_=>?_)))));refine spl h (λc59 h=>?_) (λc59 h=>?_)
             ·refine aSR λ_=>dr (aRt ?_);have j60:=sI_ h;subst j60;replace h:=(Za4 hK49);have j61:=sI_ h;subst j61;replace h:=(Za4 hK28);exact zz1
             ·refine aSk (aRg λ_=>?_);obtain⟨q62,h⟩:=Zaf h;refine pl (pl ?_);refine And.intro (by first|with_reducible assumption|(show(x54.2.2.length+1)*24<=140737488355328;with_reducible assumption)|omega|(simp;omega)) ?_;refine pe (dr (aRg λ_=>dr ⟨(k734,(IntKind.i64.wrap (x54.2.1+1)),(x54.2.2++[{ From:=x24.2.1,Label:=x45.2.1,To:=y735:Zam }])),h,ltS m55,?_⟩));exact Zas
            ·refine aEx ⟨x54.2.2,(sI_ h).symm,?_⟩;exact Zas
          ·rintro v722 ho;have ho:=ho.symm;subst ho;intro _;replace h:=(Zcx hK49);refine aRg λ_=>dr ⟨(k711,(IntKind.i64.wrap (x45.2.1+1)),v722),h,ltS m46,?_⟩;exact Zas
         ·refine aEx ⟨(c628,(x24.2.2.2.1++[v643]),x45.2.2),(sI_ h).symm,?_⟩;exact Zas
      ·rintro⟨v622,v623,v624⟩ ho;have ho:=ho.symm;subst ho;intro _;replace h:=(Zcx hK28);refine aRg λ_=>dr ⟨(k513,(IntKind.i64.wrap (x24.2.1+1)),v622,v623,v624),h,ltS m25,?_⟩;exact Zas
     ·refine aEx (aSR λ_=>dr (aRt ?_));obtain⟨q63,h⟩:=Zaf h;obtain⟨q64,h⟩:=Zaf h;obtain⟨q65,h⟩:=Zaf h;exact zz1
 ·exact zz7
end Go.Proofs.YtpfnmpdcneejbaaGreatDoor.Am
namespace Go.Proofs.YtpfnmpdcneejbaaGreatDoor
open Go.RowKit
theorem Zagr : (Tryz.prog.info? 134).map (·.size)=some 2:=by kernel_rfl
theorem Zaoj : (Tryz.prog.info? 5).map (λi=>(i.zero,i.size,i.bytes))=some (some (.int .u8 0),1,1):=by kernel_rfl
theorem Zay0 (c:Nat)(h:1<=c):liesAt Tryz.prog Tryz.prog.depth 134 c 0 134 1=true:=by
 obtain⟨d,hd⟩:∃d,Tryz.prog.depth=d+1:=⟨Tryz.prog.depth-1,by kernel_rfl⟩
 have h1:sameLayout Tryz.prog Tryz.prog.depth 134 134=true:=by kernel_rfl
 have hc:Tryz.prog.cellsOf 134=2:=by kernel_rfl
 have h2:rowAt Tryz.prog (λx=>sameLayout Tryz.prog Tryz.prog.depth x 134) (d+1) 134 c 0 1=true:=by
  rw[rowAt]
  simp only[hc,h1]
  have:decide (0 / 2+1<=c)=true:=decide_eq_true (by omega)
  simp[h]
 rw[show liesAt Tryz.prog Tryz.prog.depth 134 c 0 134 1=liesAt Tryz.prog (d+1) 134 c 0 134 1 by rw[hd],liesAt,hd]
 rw[hd]at h2
 simp[h2]
structure BAt (b:Nat)(p v:Value)(w:World):Prop where
 blk:∃arr,w.heap[b]?=some (.cells arr 134 (0,0))/\2<=arr.size/\arr[0]?=some p/\arr[1]?=some v
 adr:p=.pointer none\/p=.pointer (some ⟨b,0,none⟩)
theorem BAt.cell0 {b:Nat}{p v:Value}{w:World}(h:BAt b p v w):w.cell? ⟨b,0,none⟩=some p:=by
 obtain⟨arr,h1,_,h2,_⟩:=h.blk
 rw[Lib.cell_of_heap h1,h2]
theorem BAt.cell1 {b:Nat}{p v:Value}{w:World}(h:BAt b p v w):w.cell? ⟨b,1,none⟩=some v:=by
 obtain⟨arr,h1,_,_,h2⟩:=h.blk
 rw[Lib.cell_of_heap h1,h2]
theorem BAt.lt {b:Nat}{p v:Value}{w:World}(h:BAt b p v w):b<w.heap.size:=by
 obtain⟨arr,h1,_⟩:=h.blk
 rcases Nat.lt_or_ge b w.heap.size with h'|h'
 ·exact h'
 ·simp[Array.getElem?_eq_none h']at h1
structure Oth (w w':World)(X:Nat->Prop):Prop where
 os:w'.os=w.os
 tape:w'.tape=w.tape
 output:w'.output=w.output
 size:w.heap.size<=w'.heap.size
 block:∀i,i<w.heap.size->¬ X i->w'.heap[i]?=w.heap[i]?
theorem Oth.refl (w:World)(X:Nat->Prop):Oth w w X:=⟨rfl,rfl,rfl,Nat.le_refl _,λ_ _ _=>rfl⟩
theorem Oth.trans {a b c:World}{X:Nat->Prop}(h:Oth a b X)(k:Oth b c X):Oth a c X :=
 ⟨k.os.trans h.os,k.tape.trans h.tape,k.output.trans h.output,Nat.le_trans h.size k.size,λi hi hx=>(k.block i (Nat.lt_of_lt_of_le hi h.size) hx).trans (h.block i hi hx)⟩
theorem Oth.setC (w:World){X:Nat->Prop}(p:Addr)(u:Value)(h:X p.block):Oth w (w.setCell p u) X :=
 ⟨rfl,rfl,rfl,by simp[World.setCell],λi _ hx=>Below.heap_setCell w p u i (λe=>hx (by rw[e];exact h))⟩
theorem Zakz {w:World}{b k:Nat}{arr:Array Value}{T:TypeId}(u:Value)(h:w.heap[b]?=some (.cells arr T (0,0))):∃arr',(w.setCell ⟨b,k,none⟩ u).heap[b]?=some (.cells arr' T (0,0))/\arr'.size=arr.size/\(k<arr.size->arr'[k]?=some u)/\∀j,j≠k->arr'[j]?=arr[j]?:=by
 refine⟨arr.setIfInBounds k u,?_,by simp,λhk=>by simp[hk],λj hj=>by simp[Array.getElem?_setIfInBounds,Ne.symm hj]⟩
 simp[World.setCell,Array.getElem?_modify,h]
set_option maxHeartbeats 1000000 in
set_option maxRecDepth 100000 in
theorem Zafa (b:Nat)(p v:Value)(w:World)(h:BAt b p v w) :
  Calls Tryz.prog 88 #[.pointer (some ⟨b,0,none⟩)] w λe w'=>e=.returned (.tuple #[])/\(BAt b (.pointer (some ⟨b,0,none⟩)) v w'/\Oth w w' (λi=>i=b)/\w'.heap.size=w.heap.size/\w'.shape? b=w.shape? b):=by
 obtain⟨j,hj,hjs⟩:=Option.map_eq_some_iff.1 Zagr
 have h0:=h.cell0
 obtain⟨arr,h1,h2,h3,h4⟩:=h.blk
 rcases h.adr with rfl|rfl
 ·have hsh:w.shape? b=some (134,arr.size):=by simp[World.shape?,h1]
  have hfz:w.frozen? ⟨b,0,none⟩=false:=Lib.frozen_of_heap h1 0
  have hl:liesAt Tryz.prog Tryz.prog.depth 134 (arr.size / Tryz.prog.cellsOf 134) 0 134 1=true:=by
   rw[show Tryz.prog.cellsOf 134=2 by kernel_rfl]
   exact Zay0 _ (by omega)
  have hpos:0<arr.size:=by omega
  go_enter Tryz.func88,Tryz.ntmps88
  go_wp2
  rw[Lib.run_to_unsafe w ⟨b,0,none⟩ Tryz.underlying131 Tryz.underlying185 hj (by rw[hjs];decide) hsh hpos]
  simp only[Result.andThen]
  rw[Oper.upon_value]
  go_wp2
  rw[run_callFunc_extern Tryz.func108 (by kernel_rfl) (by kernel_rfl) (by kernel_rfl) (e:=Extern.AbiNoEscape.same) (by kernel_rfl)]
  rw[Lib.run_noEscape]
  simp only[Result.andThen]
  rw[Oper.upon_value]
  go_wp2
  rw[Lib.run_from_unsafe w ⟨b,0,none⟩ Tryz.underlying185 Tryz.underlying131 hj hsh hl]
  simp only[Result.andThen]
  rw[Oper.upon_value]
  go_wp2
  go_end0
  obtain⟨arr',a1,a2,a3,a4⟩:=Zakz (k:=0) (.pointer (some ⟨b,0,none⟩)) h1
  exact⟨rfl,⟨⟨arr',a1,by omega,a3 hpos,by rw[a4 1 (by decide)];exact h4⟩,.inr rfl⟩,Oth.setC w _ _ rfl,by simp[World.setCell],by simp[World.shape?,a1,a2,h1]⟩
 ·go_enter Tryz.func88,Tryz.ntmps88
  go_wp2
  rw[Lib.run_neq_ptr_same w _ Tryz.underlying131 hj]
  go_wp2
  go_end0
  exact⟨rfl,h,Oth.refl _ _,rfl,rfl⟩
section
variable {P : Program} (w : World)
theorem Zahb (t u ty e:TypeId)(i:TypeInfo)(ht:P.underlying t=some (.slice e))(hu:P.underlying u=some .string)(hi:P.info? e=some i)(hz:i.zero=some (.int .u8 0))
  (hsize:i.size=1) (hby:i.bytes=1) (v:Value) (n:Nat) (xs:List Value) (hown:w.ownsRow 0 e 1 v n xs) (s:ByteArray) (h63:n+s.size<=maxLen) (hbytes:n+s.size<=140737488355328) :
  ∃v' w',(Builtin.append_ #[t,u] ty #[v,.string s]).run P w=.ok v' w'/\w'.ownsRow 0 e 1 v' (n+s.size) (xs++Lib.strCells s)/\w.grownBy w' v.ownBlock/\(v'.ownBlock=v.ownBlock\/∀g,v'.ownBlock=some g->w.heap.size<=g):=by
 obtain⟨v',w',hr,h2,h3,h4⟩:=Lib.run_append_own_string (P:=P) w 0 t u ty e i ht hu hi hz hsize hby v n xs hown s h63 hbytes (Nat.zero_le _)
 refine⟨v',w',hr,h2,h3,?_⟩
 rcases hown.2 with⟨rfl,rfl⟩|⟨g,cap,cur,rfl,hbg,hg,hnc,hcm,hcs,htake⟩
 ·obtain⟨v2,w2,hr2,k2,_⟩:=Lib.run_append_own_string (P:=P) w w.heap.size t u ty e i ht hu hi hz hsize hby _ 0 xs ⟨hown.1,.inl ⟨rfl,rfl⟩⟩ s h63 hbytes (Nat.le_refl _)
  rw[hr]at hr2
  injection hr2 with e1 e2
  subst e1 e2
  refine .inr (λg hg=>?_)
  rcases k2.2 with⟨e,_⟩|⟨g',cap,cur,e,hb,_⟩
  ·subst e;cases hg
  ·subst e
   have:g'=g:=by simpa [Value.ownBlock] using hg
   omega
 ·have hcs':cur.size=cap:=by simpa using hcs
  by_cases hroom:n+s.size<=cap
  ·have hr2:=Lib.run_append_room_string (P:=P) w t u ty e i ht hu hi hsize g n cap cur hg s hroom (by omega)
   rw[hr]at hr2
   injection hr2 with e1 e2
   subst e1
   exact .inl rfl
  ·have hxl:xs.length=n:=by simpa using hown.1
   have holds:∀j u,xs[j]?=some u->w.cell? ((⟨g,0,none⟩:Addr).add j)=some u:=hown.cells (g:=g) rfl
   have h63':((n+s.size:Nat):Int)<=9223372036854775807:=by simp only[maxLen]at h63;omega
   have hr2:=Lib.run_append_grow_string (P:=P) w t u ty e i (.int .u8 0) ht hu hi hz ⟨g,0,none⟩ n cap xs (by rw[hsize];simpa using hxl) holds s (by omega) h63' (by rw[hby];exact growslice_fits (by omega) (by omega))
   rw[hr]at hr2
   injection hr2 with e1 e2
   subst e1
   refine .inr (λg' hg'=>?_)
   have:w.heap.size=g':=by simpa [Value.ownBlock] using hg'
   omega
theorem Zv8 {ops:Array Oper}{rest:List Oper}{o:Oper}{a:Act}{Q:Exit->Act->World->Prop}(hgd:o.guard=none)(sl x:Operand)(t u:TypeId)
  (ho:o.op=.call { callee:=.builtin .append,args:=#[sl,x],argTypes:=#[t,u] })
  (e:TypeId) (i:TypeInfo) (ht:P.underlying t=some (.slice e)) (hu:P.underlying u=some .string) (hi:P.info? e=some i) (hz:i.zero=some (.int .u8 0))
  (hsize:i.size=1) (hby:i.bytes=1)
  (v:Value) (n:Nat) (xs:List Value) (hs:a.eval sl=v) (hown:w.ownsRow 0 e 1 v n xs) (s:ByteArray) (hx:a.eval x=.string s)
  (h63:n+s.size<=maxLen) (hbytes:n+s.size<=140737488355328)
  (h:∀v' w',w'.ownsRow 0 e 1 v' (n+s.size) (xs++Lib.strCells s)->w.grownBy w' v.ownBlock->(v'.ownBlock=v.ownBlock\/∀g,v'.ownBlock=some g->w.heap.size<=g)->wpList P ops Q rest (a.put o.dst v') w'):wpList P ops Q (o :: rest) a w:=by
 refine wpList_plain hgd λK hK=>?_
 obtain⟨v',w',hr,h2,h3,h4⟩:=Zahb (P:=P) w t u o.type e i ht hu hi hz hsize hby v n xs hown s h63 hbytes
 unfold Oper.wp execOp
 simp only[ho,resolve,invoke,builtin,Sem.run_bind,Sem.run_pure,Result.andThen_ok,List.map_toArray,List.map_cons,List.map_nil,hs,hx,hr]
 exact hK _ _ (h v' w' h2 h3 h4)
end
theorem Zaox {w w':World}{X:Nat->Prop}{e:TypeId}{size n:Nat}{v:Value}{xs:List Value}(h:w.ownsRow 0 e size v n xs)(k:Oth w w' X)(hx:∀g,v.ownBlock=some g->¬ X g):w'.ownsRow 0 e size v n xs:=by
 refine⟨h.1,?_⟩
 rcases h.2 with h|⟨g,cap,cur,rfl,hb,hg,r⟩
 ·exact .inl h
 ·have hlt:g<w.heap.size:=by
   rcases Nat.lt_or_ge g w.heap.size with h'|h'
   ·exact h'
   ·simp[Array.getElem?_eq_none h']at hg
  exact .inr ⟨g,cap,cur,rfl,hb,by rw[k.block g hlt (hx g rfl)];exact hg,r⟩
set_option maxHeartbeats 1000000 in
set_option maxRecDepth 100000 in
theorem Zabr (b:Nat)(p v:Value)(n:Nat)(bs:List Value)(s:ByteArray)(w:World)(h:BAt b p v w)(hown:w.ownsRow 0 5 1 v n bs)(hlen:n+s.size<=140737488355328) :
  Calls Tryz.prog 64 #[.pointer (some ⟨b,0,none⟩),.string s] w λe w'=>e=.returned (.tuple #[.int .i64 s.size,.nilIface])/\∃v',BAt b (.pointer (some ⟨b,0,none⟩)) v' w'/\w'.ownsRow 0 5 1 v' (n+s.size) (bs++Lib.strCells s) /\
   Oth w w' (λi=>i=b\/v.ownBlock=some i)/\(v'.ownBlock=v.ownBlock\/∀g,v'.ownBlock=some g->w.heap.size<=g)/\w'.shape? b=w.shape? b:=by
 obtain⟨i0,hi,hz0,hz1,hz2⟩:=info_parts Zaoj
 obtain⟨arr0,e1,_⟩:=h.blk
 have hne:v.ownBlock≠some b:=Lib.ownBlock_ne hown e1 (by decide)
 have hsh0:w.shape? b=some (134,arr0.size):=by simp[World.shape?,e1]
 go_enter Tryz.func64,Tryz.ntmps64
 go_wp2_with (go_at_call 88;refine(Zafa b p v _ h).mono ?_)
 rintro e w1 ⟨rfl,h1,ho1,hs1,hs2⟩
 have hown1:w1.ownsRow 0 5 1 v n bs:=Zaox hown ho1 (λg hg e=>hne (by rw[hg,e]))
 have c1:=h1.cell1
 go_wp2_with (at_builtin;refine Zv8 _ rfl _ _ 132 9 rfl 5 i0 Tryz.underlying132 Tryz.underlying9 hi hz0 hz1 hz2 _ _ _ rfl hown1 s rfl ?c3 ?c4 ?_)
 case c3=>unfold maxLen;omega
 case c4=>omega
 intro v' w2 hown' hgrow hnew
 obtain⟨arr1,b1,b2,b3,b4⟩:=h1.blk
 have hlt:=h1.lt
 have hb2:w2.heap[b]?=some (.cells arr1 134 (0,0)):=by
  rw[hgrow.block b hlt (λe=>hne e.symm)]
  exact b1
 have d0:w2.cell? ⟨b,0,none⟩=some (.pointer (some ⟨b,0,none⟩)):=by rw[Lib.cell_of_heap hb2];exact b3
 have d1:w2.cell? ⟨b,1,none⟩=some v:=by rw[Lib.cell_of_heap hb2];exact b4
 have f1:w2.frozen? ⟨b,1,none⟩=false:=Lib.frozen_of_heap hb2 1
 have hsz:=hgrow.size
 have ho2:Oth w w2 (λi=>i=b\/v.ownBlock=some i):=⟨hgrow.os.trans ho1.os,hgrow.tape.trans ho1.tape,hgrow.output.trans ho1.output,by omega,λi hi hx=>(hgrow.block i (by omega) (λe=>hx (.inr e.symm))).trans (ho1.block i hi (λe=>hx (.inl e)))⟩
 have hne':v'.ownBlock≠some b:=Lib.ownBlock_ne hown' hb2 (by decide)
 obtain⟨ao,n',cap,rfl⟩:∃ao n' cap,v'=.slice ao n' cap:=by
  rcases hown'.2 with⟨hv,_⟩|⟨g,cap,cur,hv,_⟩
  ·exact⟨_,_,_,hv⟩
  ·exact⟨_,_,_,hv⟩
 generalize hvv:Value.slice ao n' cap=v' at hown' hnew hne'
 obtain⟨arr2,a1,a2,a3,a4⟩:=Zakz (k:=1) v' hb2
 have hfin:∃v'',BAt b (.pointer (some ⟨b,0,none⟩)) v'' (w2.setCell ⟨b,1,none⟩ v')/\(w2.setCell ⟨b,1,none⟩ v').ownsRow 0 5 1 v'' (n+s.size) (bs++Lib.strCells s)/\Oth w (w2.setCell ⟨b,1,none⟩ v') (λi=>i=b\/v.ownBlock=some i)/\(v''.ownBlock=v.ownBlock\/∀g,v''.ownBlock=some g->w.heap.size<=g)/\(w2.setCell ⟨b,1,none⟩ v').shape? b=w.shape? b:=by
  have hst:=Oth.setC w2 (X:=λi=>i=b\/v.ownBlock=some i) ⟨b,1,none⟩ v' (.inl rfl)
  have hsz1:arr1.size=arr0.size:=by
   rw[hsh0]at hs2
   have q:w1.shape? b=some (134,arr1.size):=by simp[World.shape?,b1]
   rw[q]at hs2
   injection hs2 with hs2
   injection hs2
  refine⟨v',⟨⟨arr2,a1,by omega,by rw[a4 0 (by decide)];exact b3,a3 (by omega)⟩,.inr rfl⟩,Zaox hown' (X:=λi=>i=b) (Oth.setC w2 _ _ rfl) (λg hg e=>hne' (by rw[hg,e])),ho2.trans hst,?_,?_⟩
  ·rcases hnew with e|e
   ·exact .inl e
   ·exact .inr (λg hg=>by have:=e g hg;omega)
  ·rw[hsh0];simp[World.shape?,a1,a2,hsz1]
 clear hown' hnew hne' a1 a2 a3 a4
 subst hvv
 have HF:=Lib.hid hfin
 clear hfin
 go_wp2
 go_ret2
 exact⟨rfl,HF.out⟩
set_option maxHeartbeats 1000000 in
set_option maxRecDepth 100000 in
theorem Zawh (b:Nat)(p v:Value)(n:Nat)(bs:List Value)(w:World)(h:BAt b p v w)(hown:w.ownsRow 0 5 1 v n bs) :
  Calls Tryz.prog 66 #[.pointer (some ⟨b,0,none⟩)] w λe w'=>e=.returned (.int .i64 n)/\w'=w:=by
 obtain⟨ao,cap,rfl⟩:∃ao cap,v=.slice ao n cap:=by
  rcases hown.2 with⟨hv,h0⟩|⟨g,cap,cur,hv,_⟩
  ·exact⟨none,0,by rw[hv,h0]⟩
  ·exact⟨_,_,hv⟩
 have c1:=h.cell1
 go_enter Tryz.func66,Tryz.ntmps66
 go_wp2
 go_ret
 exact⟨rfl,rfl⟩
theorem Zakb : Tryz.prog.follows .mixedOrders=true:=by kernel_rfl
set_option maxHeartbeats 2000000 in
set_option maxRecDepth 100000 in
theorem Zamt (b:Nat)(w:World)(hcell:w.cell? ⟨b,1,none⟩=some (.slice none 0 0)) :
  Calls Tryz.prog 67 #[.pointer (some ⟨b,0,none⟩)] w λe w'=>e=.returned (.string ⟨#[]⟩)/\w'=w.drew:=by
 have c1:w.drew.cell? ⟨b,1,none⟩=some (.slice none 0 0):=hcell
 have hSD:(Builtin.unsafeSliceData_ #[132] 164 #[.slice none 0 0]).run Tryz.prog w.drew=.ok (.pointer none) w.drew:=rfl
 have hUS:∀(W:World) (q:Option Addr),(Builtin.unsafeString_ #[164,3] 9 #[.pointer q,.int .i64 0]).run Tryz.prog W=.ok (.string .empty) W:=λW q=>Lib.run_unsafeString_none W _ _ _ q
 have mixed:=Zakb
 clear hcell
 go_enter Tryz.func67,Tryz.ntmps67
 go_wp2
 go_region_o
 all_goals (go_wp2;go_ret;exact⟨rfl,rfl⟩)
set_option maxHeartbeats 2000000 in
set_option maxRecDepth 100000 in
theorem Zaea (b g sz:Nat)(w:World)(hlt:b<w.heap.size)(hcell:w.cell? ⟨b,1,none⟩=some (.slice (some ⟨g,0,none⟩) 0 0))(hsh:w.shape? g=some (5,sz)) :
  Calls Tryz.prog 67 #[.pointer (some ⟨b,0,none⟩)] w λe w'=>e=.returned (.string ⟨#[]⟩)/\w'=w.drew.alloc (.view ⟨g,0,none⟩ 5):=by
 have c1:w.drew.cell? ⟨b,1,none⟩=some (.slice (some ⟨g,0,none⟩) 0 0):=hcell
 have hSD:(Builtin.unsafeSliceData_ #[132] 164 #[.slice (some ⟨g,0,none⟩) 0 0]).run Tryz.prog w.drew=.ok (.pointer (some ⟨w.drew.heap.size,0,none⟩)) (w.drew.alloc (.view ⟨g,0,none⟩ 5)) :=
  Lib.run_unsafeSliceData_zero w.drew _ _ 5 Tryz.underlying164 ⟨g,0,none⟩ 0 (5,sz) hsh
 have hUS:∀(W:World) (q:Option Addr),(Builtin.unsafeString_ #[164,3] 9 #[.pointer q,.int .i64 0]).run Tryz.prog W=.ok (.string .empty) W:=λW q=>Lib.run_unsafeString_none W _ _ _ q
 have c2:(w.drew.alloc (.view ⟨g,0,none⟩ 5)).cell? ⟨b,1,none⟩=some (.slice (some ⟨g,0,none⟩) 0 0):=by
  rw[<-c1]
  exact World.cell?_of_block (Lib.alloc_old w.drew _ b hlt)
 have c3:(w.alloc (.view ⟨g,0,none⟩ 5)).drew.cell? ⟨b,1,none⟩=some (.slice (some ⟨g,0,none⟩) 0 0):=c2
 have mixed:=Zakb
 clear hsh
 go_enter Tryz.func67,Tryz.ntmps67
 go_wp2
 go_region_o
 all_goals (go_wp2;go_ret;exact⟨rfl,rfl⟩)
set_option maxHeartbeats 2000000 in
set_option maxRecDepth 100000 in
theorem Zais (b g cap:Nat)(w:World)(hc0:cap≠0)(hcell:w.cell? ⟨b,1,none⟩=some (.slice (some ⟨g,0,none⟩) 0 cap)) :
  Calls Tryz.prog 67 #[.pointer (some ⟨b,0,none⟩)] w λe w'=>e=.returned (.string ⟨#[]⟩)/\w'=w.drew:=by
 have c1:w.drew.cell? ⟨b,1,none⟩=some (.slice (some ⟨g,0,none⟩) 0 cap):=hcell
 have hSD:(Builtin.unsafeSliceData_ #[132] 164 #[.slice (some ⟨g,0,none⟩) 0 cap]).run Tryz.prog w.drew=.ok (.pointer (some ⟨g,0,none⟩)) w.drew :=
  Lib.run_unsafeSliceData_row _ _ _ _ _ _ hc0
 have hUS:∀(W:World) (q:Option Addr),(Builtin.unsafeString_ #[164,3] 9 #[.pointer q,.int .i64 0]).run Tryz.prog W=.ok (.string .empty) W:=λW q=>Lib.run_unsafeString_none W _ _ _ q
 have mixed:=Zakb
 clear hc0 hcell
 go_enter Tryz.func67,Tryz.ntmps67
 go_wp2
 go_region_o
 all_goals (go_wp2;go_ret;exact⟨rfl,rfl⟩)
set_option maxHeartbeats 2000000 in
set_option maxRecDepth 100000 in
theorem Zait (b g cap n:Nat)(str:ByteArray)(w:World)(hcell:w.cell? ⟨b,1,none⟩=some (.slice (some ⟨g,0,none⟩) n cap))(hSD:(Builtin.unsafeSliceData_ #[132] 164 #[.slice (some ⟨g,0,none⟩) n cap]).run Tryz.prog w.drew=.ok (.pointer (some ⟨g,0,none⟩)) w.drew)
  (hUS:(Builtin.unsafeString_ #[164,3] 9 #[.pointer (some ⟨g,0,none⟩),.int .i64 n]).run Tryz.prog w.drew=.ok (.string str) (w.drew.freeze ⟨g,0,none⟩ n)) :
  Calls Tryz.prog 67 #[.pointer (some ⟨b,0,none⟩)] w λe w'=>e=.returned (.string str)/\w'=w.drew.freeze ⟨g,0,none⟩ n:=by
 have c1:w.drew.cell? ⟨b,1,none⟩=some (.slice (some ⟨g,0,none⟩) n cap):=hcell
 have mixed:=Zakb
 clear hcell
 go_enter Tryz.func67,Tryz.ntmps67
 go_wp2
 go_region_o
 all_goals (go_wp2;go_ret;exact⟨rfl,rfl⟩)
theorem Zapy (b:Nat)(p v:Value)(l:List UInt8)(w:World)(h:BAt b p v w)(hown:w.ownsRow 0 5 1 v l.length (Lib.byteCells l)) :
  Calls Tryz.prog 67 #[.pointer (some ⟨b,0,none⟩)] w λe w'=>e=.returned (.string ⟨l.toArray⟩)/\Oth w w' (λi=>v.ownBlock=some i):=by
 have hcell1:=h.cell1
 have hdrew:∀X,Oth w w.drew X:=λX=>⟨rfl,rfl,rfl,Nat.le_refl _,λ_ _ _=>rfl⟩
 have hcb:Tryz.prog.cellsOf 5=1:=by kernel_rfl
 rcases hown.2 with⟨rfl,h0⟩|⟨g,cap,cur,rfl,hbg,hg,hnc,hcm,hcs,htake⟩
 ·obtain rfl:l=[]:=List.length_eq_zero_iff.1 h0
  refine(Zamt b w hcell1).mono ?_
  rintro e w' ⟨rfl,rfl⟩
  exact⟨rfl,hdrew _⟩
 ·by_cases hl:l=[]
  ·subst hl
   by_cases hc0:cap=0
   ·subst hc0
    refine(Zaea b g cur.size w h.lt hcell1 (by simp[World.shape?,hg])).mono ?_
    rintro e w' ⟨rfl,rfl⟩
    exact⟨rfl,rfl,rfl,rfl,by simp,λi hi _=>Lib.alloc_old w.drew _ i hi⟩
   ·refine(Zais b g cap w hc0 hcell1).mono ?_
    rintro e w' ⟨rfl,rfl⟩
    exact⟨rfl,hdrew _⟩
  ·have hl0:l.length≠0:=by simpa using hl
   have hSD:(Builtin.unsafeSliceData_ #[132] 164 #[.slice (some ⟨g,0,none⟩) l.length cap]).run Tryz.prog w.drew=.ok (.pointer (some ⟨g,0,none⟩)) w.drew :=
    Lib.run_unsafeSliceData_row _ _ _ _ _ _ (by omega)
   have hUS:(Builtin.unsafeString_ #[164,3] 9 #[.pointer (some ⟨g,0,none⟩),.int .i64 l.length]).run Tryz.prog w.drew=.ok (.string ⟨l.toArray⟩) (w.drew.freeze ⟨g,0,none⟩ l.length):=by
    refine Lib.run_unsafeString_row w.drew 164 3 9 5 Tryz.underlying164 hcb g cur.size (by have hg':w.drew.heap[g]?=some (.cells cur 5 (0,0)):=hg;simp[World.shape?,hg']) l hl (by omega) (by unfold maxLen at hcm;omega) ?_
    intro j x hx
    have:=hown.cells (g:=g) rfl j (.int .u8 x.toNat) (by simp[Lib.byteCells,hx])
    exact this
   refine(Zait b g cap l.length _ w hcell1 hSD hUS).mono ?_
   rintro e w' ⟨rfl,rfl⟩
   refine⟨rfl,?_⟩
   unfold World.freeze
   rw[if_neg hl0]
   exact⟨rfl,rfl,rfl,by simp,λi _ hx=>by
    have:i≠g:=λe=>hx (by rw[e];rfl)
    simp only[Array.getElem?_modify]
    rw[if_neg (Ne.symm this)]
    rfl⟩
end Go.Proofs.YtpfnmpdcneejbaaGreatDoor
namespace Go.Proofs.YtpfnmpdcneejbaaGreatDoor.Am
open Go.RowKit
abbrev bB (n:Nat):Blk:=⟨134,2,true,[[.ptrO 900 0 0 0,.own 901 0 0 n]]⟩
abbrev bJ (x:ByteArray):Blk:=⟨5,1,false,(bys x).map c_u8⟩
abbrev bE (x:ByteArray):List (Nat×Blk):=[(900,bB (bys x).length),(901,bJ x)]
theorem Zzt (x:ByteArray):(bys x).length=x.size:=by
 unfold bys
 rw[lM_,Array.length_toList]
 rfl
theorem Zaez (x:ByteArray):Lib.byteCells x.data.toList=(bys x).map (λz=>Value.int .u8 z):=by
 unfold Lib.byteCells bys
 rw[List.map_map]
 rfl
theorem Zank {α:Type}{c:Array α}(h:c.size=1):∃a,c=#[a]:=by
 obtain⟨l⟩:=c
 match l,h with
 | [a],_=>exact⟨a,rfl⟩
theorem Zat0 {α:Type}{c:Array α}(h:c.size=2):∃a b,c=#[a,b]:=by
 obtain⟨l⟩:=c
 match l,h with
 | [a,b],_=>exact⟨a,b,rfl⟩
theorem Zahc {w:World}{m:MM}{x:ByteArray}(hM:Mem cx.N w (fE (bE x)) m):∃b p v,m 900=some b/\BAt b p v w/\m 901=v.ownBlock/\w.ownsRow 0 5 1 v x.size (Lib.byteCells x.data.toList):=by
 have hi:fE (bE x) 900=⟨0,some (bB (bys x).length)⟩:=rfl
 have hj:fE (bE x) 901=⟨0,some (bJ x)⟩:=rfl
 have ok1:=hM.ok 900 _ (by rw[hi])
 have ok2:=hM.ok 901 _ (by rw[hj])
 cases hb:m 900 with
 | none=>rw[hb]at ok1;cases ok1.1
 | some b =>
  rw[hb]at ok1
  obtain⟨arr,a1,a2,a3⟩:=ok1
  obtain⟨_,a4⟩:=a3 0 _ rfl
  obtain⟨p,p1,_,p2⟩:=a4 0 _ rfl
  obtain⟨v,v1,_,v2⟩:=a4 1 _ rfl
  obtain⟨xs,x1,x2,x3⟩:=Zq7 v2 hj ok2 (by rw[lM_])
  have a2':1*2<=arr.size:=a2
  have hadr:p=.pointer none\/p=.pointer (some ⟨b,0,none⟩):=by
   rcases Zail p2 hi with e|⟨b',e1,e2⟩
   ·exact .inl e
   ·rw[hb]at e1
    injection e1 with e1
    subst e1
    refine .inr (e2.trans ?_)
    show Value.pointer (some ⟨b,0*2+0,none⟩)=_
    rfl
  have hxs:xs=Lib.byteCells x.data.toList:=by
   rw[Zaez]
   obtain⟨q1,q2⟩:=x2
   refine List.ext_getElem? (λk=>?_)
   by_cases hk:k<(bys x).length
   ·have hz:=gE_ hk
    obtain⟨_,q3⟩:=q2 k (c_u8 (bys x)[k]) (by rw[List.getElem?_map,hz];rfl)
    obtain⟨u,u1,_,u2⟩:=q3 0 _ rfl
    rw[List.getElem?_map,hz]
    have e:=Zjp u2
    have u1':xs[k]?=some u:=by simpa using u1
    rw[u1',e]
    rfl
   ·have hl:xs.length=(bys x).length*1:=x1.1
    rw[List.getElem?_eq_none (by omega),List.getElem?_eq_none (by rw[lM_];omega)]
  subst hxs
  rw[Zzt]at x1
  exact⟨b,p,v,rfl,⟨⟨arr,a1.1 rfl,by omega,p1,v1⟩,hadr⟩,x3,x1⟩
theorem Zaqt {w w':World}{m:MM}{x x':ByteArray}{b:Nat}{p v v':Value}{rA:AV}{r:Value}(hM:Mem cx.N w (fE (bE x)) m)(hG:cx.Gl w)(hb:m 900=some b)(hv:m 901=v.ownBlock)(h:BAt b p v' w')(hown:w'.ownsRow 0 5 1 v' x'.size (Lib.byteCells x'.data.toList))(ho:Oth w w' (λi=>i=b\/v.ownBlock=some i))
  (hn:v'.ownBlock=v.ownBlock\/∀g,v'.ownBlock=some g->w.heap.size<=g) (hsh:w'.shape? b=w.shape? b) (hr:∀m',RV w' (shp (fE (bE x'))) m' rA r) :
  GR cx w m (bE x) [900] rA (bE x') r ⟨λk=>if k=900 then some b else if k=901 then v'.ownBlock else none,m.O⟩ w':=by
 have hi:fE (bE x) 900=⟨0,some (bB (bys x).length)⟩:=rfl
 have hj:fE (bE x) 901=⟨0,some (bJ x)⟩:=rfl
 have hi':fE (bE x') 900=⟨0,some (bB (bys x').length)⟩:=rfl
 have hj':fE (bE x') 901=⟨0,some (bJ x')⟩:=rfl
 have l1:(fE (bE x) 900).blk≠none:=by rw[hi];simp
 have l2:(fE (bE x) 901).blk≠none:=by rw[hj];simp
 have live:∀(y:ByteArray) i,(fE (bE y) i).blk≠none->i=900\/i=901:=λy i h=>by
  have:=Zgu.1 h
  simpa [Zmb] using this
 obtain⟨arr,a1,a2,a3,a4⟩:=h.blk
 have hblt:b<w.heap.size:=by
  have ok1:=hM.ok 900 _ (by rw[hi])
  rw[hb]at ok1
  obtain⟨arr,a1,_⟩:=ok1
  exact a1.lt
 have hvne:v'.ownBlock≠some b:=Lib.ownBlock_ne hown a1 (by decide)
 have hX:∀i,(i=b\/v.ownBlock=some i)->∃k,(fE (bE x) k).blk≠none/\m k=some i:=λi h=>by
  rcases h with rfl|h
  ·exact⟨900,l1,hb⟩
  ·exact⟨901,l2,by rw[hv,h]⟩
 have hnew:∀g,v'.ownBlock=some g->(∃k,(fE (bE x) k).blk≠none/\m k=some g)\/w.heap.size<=g:=λg hg=>by
  rcases hn with e|e
  ·exact .inl ⟨901,l2,by rw[hv,<-e,hg]⟩
  ·exact .inr (e g hg)
 have m0:(⟨λk=>if k=900 then some b else if k=901 then v'.ownBlock else none,m.O⟩:MM) 900=some b:=rfl
 have m1:(⟨λk=>if k=900 then some b else if k=901 then v'.ownBlock else none,m.O⟩:MM) 901=v'.ownBlock:=rfl
 refine⟨hr _,⟨λi B hB=>?_,λi k g hi1 hk1 e1 e2=>?_,λi g hi1 e1=>?_,λi g hi1 e1 ho1=>?_,λg hg=>⟨Nat.lt_of_lt_of_le (hM.olt g hg).1 ho.size,(hM.olt g hg).2⟩,Nat.le_trans hM.big ho.size⟩,rfl,⟨ho.os,ho.tape,ho.output,ho.size,λi hi1 hx=>ho.block i hi1 (λe=>hx (hX i e))⟩,λi g hi1 e1=>?_,λi hi1=>?_,cx.keep w w' (λi hi1=>ho.block i (Nat.lt_of_lt_of_le hi1 hM.big) (λe=>?_)) hG⟩
 ·rcases live x' i (by rw[hB];simp)with rfl|rfl
  ·rw[hi']at hB
   injection hB with hB
   subst hB
   rw[m0]
   refine⟨arr,.cells a1 rfl,by show 1*2<=_;omega,λk e he=>?_⟩
   cases k with
   | succ k=>simp at he
   | zero =>
    simp at he
    subst he
    refine⟨rfl,λj y hy=>?_⟩
    match j,hy with
    | 0,hy =>
     simp at hy
     subst hy
     refine⟨p,a3,?_,?_⟩
     ·rcases h.adr with rfl|rfl <;> exact λ_=>rfl
     ·rcases h.adr with rfl|rfl
      ·exact .ptrON (sz:=2) rfl
      ·exact RV.ptrO (sz:=2) (b:=b) (k:=0) (j:=0) rfl rfl
    | 1,hy =>
     simp at hy
     subst hy
     rw[Zzt]
     rcases hown.2 with⟨rfl,h0⟩|⟨g,cap,cur,rfl,_,hh,hnc,hmx,hcs,htake⟩
     ·rw[h0]
      exact⟨_,a4,λ_=>rfl,.ownN (sz:=1) rfl rfl⟩
     ·refine⟨_,a4,λ_=>rfl,?_⟩
      have:=RV.own (w:=w') (vs:=shp (fE (bE x'))) (m:=⟨λk=>if k=900 then some b else if k=901 then(Value.slice (some ⟨g,0,none⟩) x'.size cap).ownBlock else none,m.O⟩) (i:=901) (ver:=0) (sz:=1) (k:=0) (b:=g) (ty:=5) (n:=cur.size) (len:=x'.size) (cap:=cap) rfl rfl hnc hmx (by simp[World.shape?,hh]) (by rw[Nat.zero_add,hcs])
      simpa using this
    | j+2,hy=>simp at hy
  ·rw[hj']at hB
   injection hB with hB
   subst hB
   rw[m1]
   rcases hown.2 with⟨rfl,h0⟩|⟨g,cap,cur,rfl,_,hh,hnc,hmx,hcs,htake⟩
   ·refine⟨?_,rfl⟩
    show(bys x').map c_u8=[]
    rw[List.map_eq_nil_iff,<-List.length_eq_zero_iff,Zzt,h0]
   ·refine⟨cur,.cells hh rfl,?_,λk e he=>?_⟩
    ·show((bys x').map c_u8).length*1<=_
     rw[lM_,Zzt]
     omega
    ·have he':((bys x').map c_u8)[k]?=some e:=he
     rw[List.getElem?_map]at he'
     cases hz:(bys x')[k]? with
     | none=>rw[hz]at he';cases he'
     | some z =>
      rw[hz]at he'
      injection he' with he'
      subst he'
      refine⟨rfl,λj y hy=>?_⟩
      cases j with
      | succ j=>simp[c_u8]at hy
      | zero =>
       simp[c_u8]at hy
       subst hy
       refine⟨.int .u8 z,?_,λ_=>rfl,.c _⟩
       have hk:k<(bys x').length:=(gS_.1 hz).1
       have:=congrArg (λl=>l[k]?) htake
       rw[Zaez]at this
       simp only[List.getElem?_take,List.getElem?_map,hz]at this
       rw[Zzt]at hk
       rw[if_pos (by omega)]at this
       simpa using this
 ·rcases live x' i hi1 with rfl|rfl <;> rcases live x' k hk1 with rfl|rfl
  ·rfl
  ·rw[m0]at e1;rw[m1]at e2;exact absurd (e2.trans e1.symm) hvne
  ·rw[m1]at e1;rw[m0]at e2;exact absurd (e1.trans e2.symm) hvne
  ·rfl
 ·rcases live x' i hi1 with rfl|rfl
  ·rw[m0]at e1;exact hM.low 900 g l1 (hb.trans e1)
  ·rw[m1]at e1
   rcases hnew g e1 with⟨k,k1,k2⟩|q
   ·exact hM.low k g k1 k2
   ·exact Nat.le_trans hM.big q
 ·rcases live x' i hi1 with rfl|rfl
  ·rw[m0]at e1;exact hM.sep 900 g l1 (hb.trans e1) ho1
  ·rw[m1]at e1
   rcases hnew g e1 with⟨k,k1,k2⟩|q
   ·exact hM.sep k g k1 k2 ho1
   ·have:=(hM.olt g ho1).1
    omega
 ·rcases live x' i hi1 with rfl|rfl
  ·rw[m0]at e1;exact .inl ⟨900,l1,hb.trans e1⟩
  ·rw[m1]at e1;exact hnew g e1
 ·simp only[mI_]at hi1
  subst hi1
  exact⟨hb.symm ▸ m0,λg hg=>by rw[hb]at hg;injection hg with hg;subst hg;exact hsh⟩
 ·obtain⟨k,k1,k2⟩:=hX i e
  have:=hM.low k i k1 k2
  omega
def Zjq (x s:ByteArray):Option (Int×Er×ByteArray):=grd (x.size+s.size<=140737488355328) (some ((s.size:Int),.nil,x++s))
theorem Zkx (x s:ByteArray){r1:Int}{r2:Er}{y:ByteArray}(h:Zjq x s=some (r1,r2,y)):Zc8 cx 64 [.ptr 900 0 0 0,.c (.string s)] (bE x) [900] (.tup [.c (.int .i64 r1),eA r2]) (bE y):=by
 obtain⟨h0,h⟩:=Zaf h
 have h:=sI_ h
 injection h with e1 h
 injection h with e2 e3
 subst e1 e2 e3
 refine⟨Zma Tryz.func64 rfl (by decide),λw m cargs hg hM hsz hargs=>?_⟩
 obtain⟨q,t,rfl⟩:=Zat0 hsz
 obtain⟨b,p,v,hb,hB,hv,hown⟩:=Zahc hM
 obtain⟨b',e1,rfl⟩:=Zos (hargs 0 _ q rfl rfl) (B:=bB (bys x).length) rfl
 rw[hb]at e1
 injection e1 with e1
 subst e1
 have et:=Zjp (hargs 1 _ t rfl rfl)
 subst et
 refine(Zabr b p v x.size _ s w hB hown h0).mono ?_
 rintro e w' ⟨rfl,v',h1,h2,h3,h4,h5⟩
 refine⟨_,_,rfl,Zaqt hM hg hb hv h1 ?_ h3 h4 h5 (λm'=>.tup rfl (λj y u hy hu=>?_))⟩
 ·have e1:(x++s).size=x.size+s.size:=by simp
  have e2:Lib.byteCells (x++s).data.toList=Lib.byteCells x.data.toList++Lib.strCells s:=by simp[Lib.byteCells,Lib.strCells,ByteArray.data_append]
  rw[e1,e2]
  exact h2
 ·match j,hy,hu with
  | 0,hy,hu=>simp at hy hu;subst hy hu;exact .c _
  | 1,hy,hu=>simp[eA]at hy hu;subst hy hu;exact .c _
  | j+2,hy,hu=>simp at hy
def Zxq (x:ByteArray):Option Int:=some (x.size:Int)
theorem Zaeg (x:ByteArray){r:Int}(h:Zxq x=some r):Zc8 cx 66 [.ptr 900 0 0 0] (bE x) [900,901] (.c (.int .i64 r)) (bE x):=by
 obtain rfl:=sI_ h
 refine⟨Zma Tryz.func66 rfl (by decide),λw m cargs hg hM hsz hargs=>?_⟩
 obtain⟨q,rfl⟩:=Zank hsz
 obtain⟨b,p,v,hb,hB,hv,hown⟩:=Zahc hM
 obtain⟨b',e1,rfl⟩:=Zos (hargs 0 _ q rfl rfl) (B:=bB (bys x).length) rfl
 rw[hb]at e1
 injection e1 with e1
 subst e1
 refine(Zawh b p v x.size _ w hB hown).mono ?_
 rintro e w' ⟨rfl,rfl⟩
 exact⟨_,m,rfl,.c _,hM,rfl,⟨rfl,rfl,rfl,Nat.le_refl _,λ_ _ _=>rfl⟩,λi g hi hg=>.inl ⟨i,hi,hg⟩,λi _=>⟨rfl,λ_ _=>rfl⟩,hg⟩
def Zrw (x:ByteArray):Option ByteArray:=some x
theorem Zy2 (x:ByteArray){r:ByteArray}(h:Zrw x=some r):Zc8 cx 67 [.ptr 900 0 0 0] (bE x) [] (.c (.string r)) []:=by
 obtain rfl:=sI_ h
 refine⟨Zma Tryz.func67 rfl (by decide),λw m cargs hg hM hsz hargs=>?_⟩
 obtain⟨q,rfl⟩:=Zank hsz
 obtain⟨b,p,v,hb,hB,hv,hown⟩:=Zahc hM
 obtain⟨b',e1,rfl⟩:=Zos (hargs 0 _ q rfl rfl) (B:=bB (bys x).length) rfl
 rw[hb]at e1
 injection e1 with e1
 subst e1
 have hl:x.data.toList.length=x.size:=by rw[Array.length_toList];rfl
 rw[<-hl]at hown
 refine(Zapy b p v x.data.toList w hB hown).mono ?_
 rintro e w' ⟨rfl,ho⟩
 have hj:fE (bE x) 901=⟨0,some (bJ x)⟩:=rfl
 have l2:(fE (bE x) 901).blk≠none:=by rw[hj];simp
 have mem:Mem cx.N w' (fE []) ⟨λ_=>none,m.O⟩:=⟨λi B hB=>by simp[fE]at hB,λi k g hi=>by simp[fE]at hi,λi g hi=>by simp[fE]at hi,λi g hi=>by simp[fE]at hi,λg hg=>⟨Nat.lt_of_lt_of_le (hM.olt g hg).1 ho.size,(hM.olt g hg).2⟩,Nat.le_trans hM.big ho.size⟩
 refine⟨_,⟨λ_=>none,m.O⟩,rfl,⟨.c _,mem,rfl,⟨ho.os,ho.tape,ho.output,ho.size,λi hi1 hx=>ho.block i hi1 (λe=>hx ⟨901,l2,by rw[hv,e]⟩)⟩,λi g hi=>by simp[fE]at hi,λi hi=>(by cases hi),cx.keep w w' (λi hi1=>ho.block i (Nat.lt_of_lt_of_le hi1 hM.big) (λe=>?_)) hg⟩⟩
 have:=hM.low 901 i l2 (by rw[hv,e])
 omega
def Zaep (n:Int):Option ByteArray:=grd (-9223372036854775808<=n/\n<=9223372036854775807) (some ⟨(Lib.itoa n).toArray⟩)
theorem Zai6 (n:Int){r:ByteArray}(h:Zaep n=some r):ACall cx 65 [.c (.int .i64 n)] (.c (.string r)):=by
 obtain⟨⟨h0,h1⟩,h⟩:=Zaf h
 obtain rfl:=sI_ h
 refine Zaqm Tryz.func65 rfl (by decide) (λw O cargs ht hO hs hr=>?_)
 obtain⟨a,rfl⟩:=Zayr hs
 obtain rfl:=Zjp (hr 0 _ a rfl rfl)
 refine(Tryz.strconv_Itoa n h0 h1 w ht.1).mono ?_
 rintro e w' ⟨rfl,k,os,rfl⟩
 exact⟨_,rfl,.c _,rfl,rfl,rfl,by show w.heap.size<=(w.heap++os).size;rw[Array.size_append];omega,λj hj=>by
  show(w.heap++os)[j]?=w.heap[j]?
  exact Array.getElem?_append_left hj⟩
def Zih (y321:Zaw):Nat->Int->ByteArray->Option (ByteArray)|0,_,_=>none|k367+1,v365,v366=>sel (decide (v365<((y321.1.map cF).length:Int))) (ix y321.1 v365 (λy368=>ob1 (Zaep y368.1) (λz369=>ob1 (Zaep y368.2) (λz370=>ob3 (Zjq v366 ((((⟨#[32]⟩:ByteArray)++z369)++(⟨#[61]⟩:ByteArray))++z370)) (λ_ _ c373=>grd ((⟨#[32]⟩:ByteArray).size+z369.size<=9223372036854775807) (grd (((⟨#[32]⟩:ByteArray)++z369).size+(⟨#[61]⟩:ByteArray).size<=9223372036854775807) (grd ((((⟨#[32]⟩:ByteArray)++z369)++(⟨#[61]⟩:ByteArray)).size+z370.size<=9223372036854775807) (Zih y321 k367 (IntKind.i64.wrap (v365+1)) c373)))))))) (some v366)
def Zii (a0:Zab):Nat->Int->ByteArray->Option (ByteArray×Er)|0,_,_=>none|k259+1,v257,v258=>sel (decide (v257<((a0.Nogoods.map cN).length:Int))) (ob1 (ix a0.Nogoods v257 (λy321=>ob1 (Zaep y321.2) (λz322=>ob3 (Zjq v258 (((⟨#[110,111,103,111,111,100,32]⟩:ByteArray)++z322)++(⟨#[58]⟩:ByteArray))) (λ_ _ c325=>grd ((⟨#[110,111,103,111,111,100,32]⟩:ByteArray).size+z322.size<=9223372036854775807) (grd (((⟨#[110,111,103,111,111,100,32]⟩:ByteArray)++z322).size+(⟨#[58]⟩:ByteArray).size<=9223372036854775807) (ob1 (Zih y321 ((((y321.1.map cF).length:Int)).toNat+1) 0 c325:Option (ByteArray)) (λv349=>ob3 (Zjq v349 (⟨#[10]⟩:ByteArray)) (λ_ _ c376=>ob1 (Zxq c376) (λz377=>sel (decide (z377>65536)) (some (.inr ((⟨#[]⟩:ByteArray),(Er.no 5)))) (some (.inl c376)))))))))):Option (ByteArray⊕(ByteArray×Er))) (Zj9 (λv317=>Zii a0 k259 (IntKind.i64.wrap (v257+1)) v317) (λ(r318,r319)=>some (r318,r319)))) (ob1 (Zrw v258) (λz378=>some (z378,Er.nil)))
def Zt8 (a0:Zab):Option (ByteArray×Er):=ob1 (Zni a0) (λz1=>erM z1 (ob1 (sel (decide (a0.Bound<0)) (ob3 (Zjq (⟨#[]⟩:ByteArray) (⟨#[117,110,115,111,108,118,97,98,108,101,10]⟩:ByteArray)) (λ_ _ c14=>some c14)) (ob1 (Zaep a0.Bound) (λz15=>ob3 (Zjq (⟨#[]⟩:ByteArray) (((⟨#[108,111,119,101,114,32]⟩:ByteArray)++z15)++(⟨#[10]⟩:ByteArray))) (λ_ _ c18=>grd ((⟨#[108,111,119,101,114,32]⟩:ByteArray).size+z15.size<=9223372036854775807) (grd (((⟨#[108,111,119,101,114,32]⟩:ByteArray)++z15).size+(⟨#[10]⟩:ByteArray).size<=9223372036854775807) (some c18))))):Option (ByteArray)) (λv10=>Zii a0 ((((a0.Nogoods.map cN).length:Int)).toNat+1) 0 v10)) (λe2=>some ((⟨#[]⟩:ByteArray),(Er.no e2))))
set_option maxHeartbeats 16000000 in
set_option maxRecDepth 100000 in
theorem Zag1 (a0:Zab){r1:ByteArray}{r2:Er}(h:Zt8 a0=some (r1,r2)):ACall cx 33 [.agg [.c (.int .i64 a0.Bound),.sl 2 (a0.Nogoods.map cN)]] (.tup [.c (.string r1),eA r2]):=by
 refine aOf Tryz.func33 rfl (by decide) rfl (bT4 rfl) ?_;intro _;unfold Zt8 at h;refine aSR λ_=>dr (aSq (aSR λ_=>?_));obtain⟨z1,u1,h⟩:=Zae h;refine cl rfl (Zabt a0 u1) λ_=>dr (aSq ?_);rcases z1 with _|e2
 ·replace h:=Zdn h;refine aRg λ_=>dr (aCd λ_=>Znf (aSk (aSR λ_=>dr ?_)));obtain⟨o2,h,hK3⟩:=Zae h;refine Zat (α:=ByteArray) (λv10=>mkS 62 [(1,.ptr 1 0 0 0),(5,.ptr 5 0 0 0)] [(0,⟨5,1,false,(bys v10).map c_u8⟩),(1,⟨38,2,true,[[.c (.int .i64 a0.Bound),.sl 2 (a0.Nogoods.map cN)]]⟩),(5,⟨134,2,true,[[.ptrO 5 0 0 0,.own 0 0 0 ((bys v10).length)]]⟩)]) (λv=>o2=v) ?_ ?_
  ·skip;refine Zasl (mkS 62 [(1,.ptr 1 0 0 0),(5,.ptr 5 0 0 0)] [(0,⟨5,1,false,(bys (⟨#[]⟩:ByteArray)).map c_u8⟩),(1,⟨38,2,true,[[.c (.int .i64 a0.Bound),.sl 2 (a0.Nogoods.map cN)]]⟩),(5,⟨134,2,true,[[.ptrO 5 0 0 0,.own 0 0 0 ((bys (⟨#[]⟩:ByteArray)).length)]]⟩)]) ?_ ?_
   ·exact Zas
   intro _;refine aSR λ_=>dr (aCd λ_=>?_);refine spl h (λc4 h=>?_) (λc4 h=>?_)
   ·refine aRg λ_=>?_;obtain⟨z12,z13,c14,u5,h⟩:=Zvx h;refine clg [(900,5),(901,0)] [] [(0,⟨1,none⟩)] [(5,⟨0,some ⟨134,2,true,[[.ptrO 5 0 0 0,.own 0 2 0 ((bys c14).length)]]⟩⟩),(0,⟨2,some ⟨5,1,false,(bys c14).map c_u8⟩⟩)] (.tup [.c (.int .i64 z12),eA z13]) rfl rfl (Zkx (⟨#[]⟩:ByteArray) (⟨#[117,110,115,111,108,118,97,98,108,101,10]⟩:ByteArray) u5) λ_=>dr ⟨c14,(sI_ h).symm,?_⟩;exact Zas
   ·refine aRg λ_=>?_;obtain⟨z15,u6,h⟩:=Zae h;refine cl rfl (Zai6 a0.Bound u6) λ_=>?_;obtain⟨z16,z17,c18,u7,h⟩:=Zvx h;refine clg [(900,5),(901,0)] [] [(0,⟨1,none⟩)] [(5,⟨0,some ⟨134,2,true,[[.ptrO 5 0 0 0,.own 0 2 0 ((bys c18).length)]]⟩⟩),(0,⟨2,some ⟨5,1,false,(bys c18).map c_u8⟩⟩)] (.tup [.c (.int .i64 z16),eA z17]) rfl rfl (Zkx (⟨#[]⟩:ByteArray) (((⟨#[108,111,119,101,114,32]⟩:ByteArray)++z15)++(⟨#[10]⟩:ByteArray)) u7) λ_=>?_;obtain⟨q8,h⟩:=Zaf h;obtain⟨q9,h⟩:=Zaf h;refine pr (pr (dr ⟨c18,(sI_ h).symm,?_⟩));exact Zas
  ·rintro v10 ho;have ho:=ho.symm;subst ho;intro _;replace h:=hK3;refine aSq (aSR λ_=>dr (aBk ?_));refine Zaj (α:=Nat×Int×ByteArray) (λx=>mkS 62 [(5,.ptr 5 0 0 0),(26,.sl 2 (a0.Nogoods.map cN)),(27,.c (.int .i64 ((a0.Nogoods.map cN).length:Int))),(28,.c (.int .i64 x.2.1))] [(0,⟨5,1,false,(bys x.2.2).map c_u8⟩),(5,⟨134,2,true,[[.ptrO 5 0 0 0,.own 0 0 0 ((bys x.2.2).length)]]⟩)]) (λx=>Zii a0 x.1 x.2.1 x.2.2=some (r1,r2)) (λx=>x.1) ((((a0.Nogoods.map cN).length:Int)).toNat+1,0,v10) h ?_ ?_
   ·exact Zas
   ·intro x10 h;intro _;obtain⟨k259,m11,h⟩:=Zak (f:=λn=>Zii a0 n x10.2.1 x10.2.2) rfl h;replace h:Zii a0 (k259+1) x10.2.1 x10.2.2=some (r1,r2):=h;rw[Zii]at h;refine aSR λ_=>dr (aSq (aCd λ_=>?_));refine spl h (λc12 h=>?_) (λc12 h=>?_)
    ·refine aSk ?_;obtain⟨o13,h,hK14⟩:=Zae h;refine Zat (α:=ByteArray) (λv317=>mkS 62 [(5,.ptr 5 0 0 0),(26,.sl 2 (a0.Nogoods.map cN)),(27,.c (.int .i64 ((a0.Nogoods.map cN).length:Int))),(28,.c (.int .i64 x10.2.1))] [(0,⟨5,1,false,(bys v317).map c_u8⟩),(5,⟨134,2,true,[[.ptrO 5 0 0 0,.own 0 0 0 ((bys v317).length)]]⟩)]) (λv=>o13=(.inl v)) ?_ ?_
     ·refine aBk (aSR λ_=>?_);obtain⟨y321,w15,q16,h⟩:=Za9 h;refine Exists.intro (cN y321) (And.intro (Zad w15) λ_=>pr (dr (aSR λ_=>?_)));obtain⟨z322,u17,h⟩:=Zae h;refine cl rfl (Zai6 y321.2 u17) λ_=>?_;obtain⟨z323,z324,c325,u18,h⟩:=Zvx h;refine clg [(900,5),(901,0)] [] [(0,⟨1,none⟩)] [(5,⟨0,some ⟨134,2,true,[[.ptrO 5 0 0 0,.own 0 2 0 ((bys c325).length)]]⟩⟩),(0,⟨2,some ⟨5,1,false,(bys c325).map c_u8⟩⟩)] (.tup [.c (.int .i64 z323),eA z324]) rfl rfl (Zkx x10.2.2 (((⟨#[110,111,103,111,111,100,32]⟩:ByteArray)++z322)++(⟨#[58]⟩:ByteArray)) u18) λ_=>?_;obtain⟨q19,h⟩:=Zaf h;obtain⟨q20,h⟩:=Zaf h;refine pr (pr (dr ?_));obtain⟨o21,h,hK22⟩:=Zae h;refine Zat (α:=ByteArray) (λv349=>mkS 62 [(5,.ptr 5 0 0 0),(26,.sl 2 (a0.Nogoods.map cN)),(27,.c (.int .i64 ((a0.Nogoods.map cN).length:Int))),(28,.c (.int .i64 x10.2.1))] [(0,⟨5,1,false,(bys v349).map c_u8⟩),(5,⟨134,2,true,[[.ptrO 5 0 0 0,.own 0 0 0 ((bys v349).length)]]⟩)]) (λv=>o21=v) ?_ ?_
      ·refine aSR λ_=>dr (aBk ?_);refine Zaj (α:=Nat×Int×ByteArray) (λx=>mkS 62 [(5,.ptr 5 0 0 0),(26,.sl 2 (a0.Nogoods.map cN)),(27,.c (.int .i64 ((a0.Nogoods.map cN).length:Int))),(28,.c (.int .i64 x10.2.1)),(39,.sl 2 (y321.1.map cF)),(40,.c (.int .i64 ((y321.1.map cF).length:Int))),(41,.c (.int .i64 x.2.1))] [(0,⟨5,1,false,(bys x.2.2).map c_u8⟩),(5,⟨134,2,true,[[.ptrO 5 0 0 0,.own 0 0 0 ((bys x.2.2).length)]]⟩)]) (λx=>Zih y321 x.1 x.2.1 x.2.2=some o21) (λx=>x.1) ((((y321.1.map cF).length:Int)).toNat+1,0,c325) h ?_ ?_
       ·exact Zas
       ·intro x23 h;intro _;obtain⟨k367,m24,h⟩:=Zak (f:=λn=>Zih y321 n x23.2.1 x23.2.2) rfl h;replace h:Zih y321 (k367+1) x23.2.1 x23.2.2=some o21:=h;rw[Zih]at h;refine aSR λ_=>dr (aSq (aCd λ_=>?_));refine spl h (λc25 h=>?_) (λc25 h=>?_)
        ·refine aSk (aSq (aBk (aSR λ_=>?_)));obtain⟨y368,w26,q27,h⟩:=Za9 h;refine Exists.intro (cF y368) (And.intro (Zad w26) λ_=>pr (dr (aRg λ_=>?_)));obtain⟨z369,u28,h⟩:=Zae h;refine cl rfl (Zai6 y368.1 u28) λ_=>?_;obtain⟨z370,u29,h⟩:=Zae h;refine cl rfl (Zai6 y368.2 u29) λ_=>?_;obtain⟨z371,z372,c373,u30,h⟩:=Zvx h;refine clg [(900,5),(901,0)] [] [(0,⟨1,none⟩)] [(5,⟨0,some ⟨134,2,true,[[.ptrO 5 0 0 0,.own 0 2 0 ((bys c373).length)]]⟩⟩),(0,⟨2,some ⟨5,1,false,(bys c373).map c_u8⟩⟩)] (.tup [.c (.int .i64 z371),eA z372]) rfl rfl (Zkx x23.2.2 ((((⟨#[32]⟩:ByteArray)++z369)++(⟨#[61]⟩:ByteArray))++z370) u30) λ_=>?_;obtain⟨q31,h⟩:=Zaf h;obtain⟨q32,h⟩:=Zaf h;obtain⟨q33,h⟩:=Zaf h;refine pr (pr (pr (dr (aRg λ_=>dr ⟨(k367,(IntKind.i64.wrap (x23.2.1+1)),c373),h,ltS m24,?_⟩))));exact Zas
        ·refine aEx ⟨x23.2.2,(sI_ h).symm,?_⟩;exact Zas
      ·rintro v349 ho;have ho:=ho.symm;subst ho;intro _;replace h:=hK22;refine aSR λ_=>?_;obtain⟨z374,z375,c376,u34,h⟩:=Zvx h;refine clg [(900,5),(901,0)] [] [(0,⟨1,none⟩)] [(5,⟨0,some ⟨134,2,true,[[.ptrO 5 0 0 0,.own 0 2 0 ((bys c376).length)]]⟩⟩),(0,⟨2,some ⟨5,1,false,(bys c376).map c_u8⟩⟩)] (.tup [.c (.int .i64 z374),eA z375]) rfl rfl (Zkx v349 (⟨#[10]⟩:ByteArray) u34) λ_=>dr (aSR λ_=>?_);obtain⟨z377,u35,h⟩:=Zae h;refine clk [(900,5),(901,0)] [(5,⟨0,some ⟨134,2,true,[[.ptrO 5 0 0 0,.own 0 2 0 ((bys c376).length)]]⟩⟩),(0,⟨2,some ⟨5,1,false,(bys c376).map c_u8⟩⟩)] (.c (.int .i64 z377)) rfl rfl (Zaeg c376 u35) λ_=>dr (aCd λ_=>?_);refine spl h (λc36 h=>?_) (λc36 h=>?_)
       ·refine aSR λ_=>dr (aRt ?_);have j37:=sI_ h;subst j37;replace h:=(Za4 hK14);exact zz1
       ·refine aSk ⟨c376,(sI_ h).symm,?_⟩;exact Zas
     ·rintro v317 ho;have ho:=ho.symm;subst ho;intro _;replace h:=(Zcx hK14);refine aRg λ_=>dr ⟨(k259,(IntKind.i64.wrap (x10.2.1+1)),v317),h,ltS m11,?_⟩;exact Zas
    ·refine aEx (aSR λ_=>?_);obtain⟨z378,u38,h⟩:=Zae h;refine clg [(900,5),(901,0)] [] [(0,⟨1,none⟩),(5,⟨1,none⟩)] [] (.c (.string z378)) rfl rfl (Zy2 x10.2.2 u38) λ_=>dr (aRt ?_);exact zz1
 ·exact zz7
end Go.Proofs.YtpfnmpdcneejbaaGreatDoor.Am
namespace Go.Proofs.YtpfnmpdcneejbaaGreatDoor.Am
def Zj5 (a0:Zah)(a1:List Int)(_y9:Int)(v7:Int):Unit->(Unit->Option (Er))->Option (Er):=λ_ rc=>ixv _y9 (λy9=>sel (decide (y9<0)) (some (Er.no 2)) (sel (decide (y9>=((a0.Vars.map cI).length:Int))) (some (Er.no 2)) (sel (decide (v7>0)) (ix a1 (IntKind.i64.wrap (v7-1)) (λy10=>sel (decide (y10>=y9)) (some (Er.no 2)) (rc ()))) (rc ()))))
def Zm6 (_:Zah)(_:List Int):Unit->Option (Er):=λ_=>some Er.nil
theorem Zsc (a0:Zah)(a1:List Int)  (hl:a1.length<9223372036854775807):Zc2 a0 a1 (((a1.map cI).length:Int).toNat+1) 0=Rg (Zj5 a0 a1) (Zm6 a0 a1) a1 0 ():=Zdy (L:=λk i _=>Zc2 a0 a1 k i) hl (λ_ _ _=>rfl) ()
def Zj6 (a0:Zah)(_:List Int)(_y10:Int)(_:Int):((Int))->(((Int))->Option (Int×Bool))->Option (Int×Bool):=λv7 rc=>ixv _y10 (λy10=>ix a0.Vars y10 (λy11=>sel (decide ((IntKind.i64.wrap (v7*y11))>4096)) (some (0,false)) (rc ((IntKind.i64.wrap (v7*y11))))))
def Zj7 (_:Zah)(_:List Int):((Int))->Option (Int×Bool):=λv7=>some (v7,true)
theorem Zsd (a0:Zah)(a1:List Int)(v7:Int)(hl:a1.length<9223372036854775807):Zdh a0 a1 (((a1.map cI).length:Int).toNat+1) v7 0=Rg (Zj6 a0 a1) (Zj7 a0 a1) a1 0 v7:=Zdy (L:=λk i v7=>Zdh a0 a1 k v7 i) hl (λ_ _ _=>rfl) v7
def Zjb (a0:Zah)(_:List Int)(a2:List Int)(_y12:Int)(_:Int):((Int))->(((Int))->Option (Int))->Option (Int):=λv9 rc=>ixv _y12 (λy12=>ix a0.Vars y12 (λy13=>ix a2 y12 (λy14=>rc ((IntKind.i64.wrap ((IntKind.i64.wrap (v9*y13))+y14))))))
def Zmk (_:Zah)(_:List Int)(_:List Int):((Int))->Option (Int):=λv9=>some v9
theorem Zrl (a0:Zah)(a1:List Int)(a2:List Int)(v9:Int)(hl:a1.length<9223372036854775807):Zc9 a0 a1 a2 (((a1.map cI).length:Int).toNat+1) v9 0=Rg (Zjb a0 a1 a2) (Zmk a0 a1 a2) a1 0 v9:=Zdy (L:=λk i v9=>Zc9 a0 a1 a2 k v9 i) hl (λ_ _ _=>rfl) v9
def Zlc (_:List Int)(a1:Int)(_y6:Int)(v4:Int):Unit->(Unit->Option (Int))->Option (Int):=λ_ rc=>ixv _y6 (λy6=>sel (a1 == y6) (some v4) (rc ()))
def Zof (_:List Int)(_:Int):Unit->Option (Int):=λ_=>some (-1)
theorem Zua (a0:List Int)(a1:Int)  (hl:a0.length<9223372036854775807):Zej a0 a1 (((a0.map cI).length:Int).toNat+1) 0=Rg (Zlc a0 a1) (Zof a0 a1) a0 0 ():=Zdy (L:=λk i _=>Zej a0 a1 k i) hl (λ_ _ _=>rfl) ()
def Zht (_:List Zaa)(a1:Zaa->Option Bool)(_y8:Zaa)(v6:Int):Unit->(Unit->Option (Int))->Option (Int):=λ_ rc=>ixv _y8 (λy8=>ob1 (a1 y8) (λz9=>sel z9 (some v6) (rc ())))
def Zkt (_:List Zaa)(_:Zaa->Option Bool):Unit->Option (Int):=λ_=>some (-1)
theorem Zo9 (a0:List Zaa)(a1:Zaa->Option Bool)  (hl:a0.length<9223372036854775807):Zcc a0 a1 (((a0.map cF).length:Int).toNat+1) 0=Rg (Zht a0 a1) (Zkt a0 a1) a0 0 ():=Zdy (L:=λk i _=>Zcc a0 a1 k i) hl (λ_ _ _=>rfl) ()
def Zgl (a0:GOp)(a1:List Int)(_:Zaq)(_y249:Zaa)(_:Int):((List Int))->(((List Int))->Option (List Int))->Option (List Int):=λv247 rc=>ixv _y249 (λy249=>ob1 (Zbg a1 y249.1) (λz250=>sel (!z250) (ob1 (Zjt a0.Pre y249.1) (λz251=>sel (!z251) (grd (v247.length<=140737488355328) (ob1 (Zbg v247 y249.1) (λz252=>sel (!z252) (grd ((v247.length+1)*8<=140737488355328) (rc ((v247++[y249.1])))) (rc (v247))))) (rc (v247)))) (rc (v247))))
def Ziq (_:GOp)(_:List Int)(_:Zaq):((List Int))->Option (List Int):=λv247=>some v247
theorem Zqq (a0:GOp)(a1:List Int)(y234:Zaq)(v247:List Int)(hl:y234.When.length<9223372036854775807):Zbf a0 a1 y234 (((y234.When.map cF).length:Int).toNat+1) 0 v247=Rg (Zgl a0 a1 y234) (Ziq a0 a1 y234) y234.When 0 v247:=Zdy (L:=λk i v247=>Zbf a0 a1 y234 k i v247) hl (λ_ _ _=>rfl) v247
def Zeq (a0:GOp)(a1:List Int)(_y234:Zaq)(_:Int):((List Int))->(((List Int))->Option (List Int))->Option (List Int):=λv211 rc=>ob1 (ixv _y234 (λy234=>ob1 (Zbg a1 y234.Var) (λz235=>sel (!z235) (some v211) (Zbf a0 a1 y234 ((((y234.When.map cF).length:Int)).toNat+1) 0 v211))):Option (List Int)) (λv232=>rc (v232))
def Zir (_:GOp)(_:List Int):((List Int))->Option (List Int):=λv211=>some v211
theorem Zqr (a0:GOp)(a1:List Int)(v211:List Int)(hl:a0.Effs.length<9223372036854775807):Zbn a0 a1 (((a0.Effs.map Zag).length:Int).toNat+1) 0 v211=Rg (Zeq a0 a1) (Zir a0 a1) a0.Effs 0 v211:=Zxf (L:=λk i v211=>Zbn a0 a1 k i v211) hl (λk n p y hy h1 h2=>by first|(simp only[Zbn,Zeq,lM_,Zca h1,sel,Zfv hy,ixv,h2];done)|(simp only[lM_]at h1 hy;(simp only[Zbn,Zeq,lM_,Zca h1,sel,Zfv hy,ixv,h2];done))) (λk p=>by simp only[Zbn,Zir,lM_,Zfh,sel]) v211
def Zgm (a2:List Int)(_:GOp)(_y36:Zaa)(_:Int):((List Int))->(((List Int))->Option ((List Int)⊕(List Int)))->Option ((List Int)⊕(List Int)):=λv34 rc=>ixv _y36 (λy36=>ob1 (Zbg a2 y36.1) (λz37=>sel z37 (ixn v34 ((y36.1).toNat) (λy38=>grd (0<=y36.1) (grd (y36.1<((v34.length:Nat):Int)) (sel (y38 != y36.2) (some (.inr [])) (rc (v34)))))) (ixn v34 ((y36.1).toNat) (λ_=>grd (0<=y36.1) (grd (y36.1<((v34.length:Nat):Int)) (rc ((v34.set ((y36.1).toNat) y36.2))))))))
def Zis (_:List Int)(_:GOp):((List Int))->Option ((List Int)⊕(List Int)):=λv34=>some (.inl v34)
theorem Zqs (a2:List Int)(y1:GOp)(v34:List Int)(hl:y1.Pre.length<9223372036854775807):Zcg a2 y1 (((y1.Pre.map cF).length:Int).toNat+1) 0 v34=Rg (Zgm a2 y1) (Zis a2 y1) y1.Pre 0 v34:=Zdy (L:=λk i v34=>Zcg a2 y1 k i v34) hl (λ_ _ _=>rfl) v34
def Zit (a2:List Int)(c518:List Int)(v470:List Int)(_:GOp)(_y551:Zaq)(_:Int):((List Int))->(((List Int))->Option (List Int))->Option (List Int):=λv549 rc=>ixv _y551 (λy551=>ob1 (Zbg a2 y551.Var) (λz552=>sel z552 (grd (v470.length<=140737488355328) (ob1 (Zg7 y551.When c518) (λz553=>sel z553 (ixn v549 ((y551.Var).toNat) (λ_=>grd (0<=y551.Var) (grd (y551.Var<((v549.length:Nat):Int)) (rc ((v549.set ((y551.Var).toNat) y551.Val)))))) (rc (v549))))) (rc (v549))))
def Zlt (_:List Int)(_:List Int)(_:List Int)(_:GOp):((List Int))->Option (List Int):=λv549=>some v549
theorem Zqt (a2:List Int)(c518:List Int)(v470:List Int)(y1:GOp)(v549:List Int)(hl:y1.Effs.length<9223372036854775807):Zbo a2 c518 v470 y1 (((y1.Effs.map Zag).length:Int).toNat+1) 0 v549=Rg (Zit a2 c518 v470 y1) (Zlt a2 c518 v470 y1) y1.Effs 0 v549:=Zdy (L:=λk i v549=>Zbo a2 c518 v470 y1 k i v549) hl (λ_ _ _=>rfl) v549
def Zgn (a0:Zah)(a2:List Int)(a3:List Int)(y1:GOp)(_:Int)(v469:Int):((List Int)×(List Int))->(((List Int)×(List Int))->Option (List Int))->Option (List Int):=λ(v470,v471) rc=>ob1 (ob1 (Zzm a0 a3 v470 v469) (λc516=>grd (c516.length=v470.length) (ob2 (Zu0 c516) (λz517 c518=>grd (c518.length=v470.length) (ob1 (Zbo a2 c518 v470 y1 ((((y1.Effs.map Zag).length:Int)).toNat+1) 0 z517:Option (List Int)) (λv536=>grd (v536.length<=140737488355328) (ob1 (Zfp a0 a2 v536) (λz555=>grd ((v471.length+1)*8<=140737488355328) (some (c518,(v471++[z555])))))))))):Option ((List Int)×(List Int))) (λ(v513,v514)=>rc (v513,v514))
def Zlu (_:Zah)(_:List Int)(_:List Int)(_:GOp)(_:Int):((List Int)×(List Int))->Option (List Int):=λ(_,v471)=>some v471
theorem Zqu (a0:Zah)(a2:List Int)(a3:List Int)(y1:GOp)(z40:Int)(v470:List Int)(v471:List Int){m:Nat}(hm:z40=(m:Int))(hl:m<9223372036854775807):Zch a0 a2 a3 y1 z40 ((z40).toNat+1) 0 v470 v471=Rn (Zgn a0 a2 a3 y1 z40) (Zlu a0 a2 a3 y1 z40) m 0 (v470,v471):=rn_e (L:=λk i p=>match p with|(v470,v471)=>Zch a0 a2 a3 y1 z40 k i v470 v471) hm hl (λ_ _ ⟨_,_⟩=>rfl) (v470,v471)
def Zil (a0:Zah)(a1:List Int)(_y55:GOp)(v51:Int):((List (List Int))×(List Int))->(((List (List Int))×(List Int))->Option (((List (List Int))×(List Int))⊕(Zbh×Er)))->Option (((List (List Int))×(List Int))⊕(Zbh×Er)):=λ(v52,v53) rc=>ixv _y55 (λy55=>grd ((v53.length+1)*8<=140737488355328) (ob1 (Zf7 y55 a1) (λz56=>ixn v52 ((v51).toNat) (λ_=>grd (v51<((v52.length:Nat):Int)) (ixn (v52.set ((v51).toNat) z56) ((v51).toNat) (λy58=>ob2 (Zea a0 y58) (λ_ z60=>sel (!z60) (some (.inr ({ States:=0,Init:=0,Costs:=[],Edges:=[],Goals:=[]:Zbh },(Er.no 5)))) (rc ((v52.set ((v51).toNat) z56),(v53++[y55.Cost]))))))))))
def Zlp (_:Zah)(_:List Int):((List (List Int))×(List Int))->Option (((List (List Int))×(List Int))⊕(Zbh×Er)):=λ(v52,v53)=>some (.inl (v52,v53))
theorem Zql (a0:Zah)(a1:List Int)(v52:List (List Int))(v53:List Int)(hl:a0.Ops.length<9223372036854775807):Zcv a0 a1 (((a0.Ops.map Za0).length:Int).toNat+1) 0 v52 v53=Rg (Zil a0 a1) (Zlp a0 a1) a0.Ops 0 (v52,v53):=Zdy (L:=λk i p=>match p with|(v52,v53)=>Zcv a0 a1 k i v52 v53) hl (λ_ _ ⟨_,_⟩=>rfl) (v52,v53)
def Zim (_:Zah)(a1:List Int)(c628:List Int)(v510:List Int)(_y656:Zaa)(_:Int):((Bool))->(((Bool))->Option (Bool))->Option (Bool):=λv653 rc=>ixv _y656 (λy656=>sel v653 (ob1 (Zbg a1 y656.1) (λz657=>sel (!z657) (rc (true)) (ixn c628 ((y656.1).toNat) (λy658=>grd (0<=y656.1) (grd (y656.1<((v510.length:Nat):Int)) (rc ((y658 == y656.2)))))))) (rc (false)))
def Zlq (_:Zah)(_:List Int)(_:List Int)(_:List Int):((Bool))->Option (Bool):=λv653=>some v653
theorem Zqm (a0:Zah)(a1:List Int)(c628:List Int)(v510:List Int)(v653:Bool)(hl:a0.Goal.length<9223372036854775807):Zbm a0 a1 c628 v510 (((a0.Goal.map cF).length:Int).toNat+1) v653 0=Rg (Zim a0 a1 c628 v510) (Zlq a0 a1 c628 v510) a0.Goal 0 v653:=Zdy (L:=λk i v653=>Zbm a0 a1 c628 v510 k v653 i) hl (λ_ _ _=>rfl) v653
def Zin (v509:Int)(v709:Int)(_:List Int)(_y735:Int)(_:Int):((List Zam))->(((List Zam))->Option ((List Zam)⊕(Zbh×Er)))->Option ((List Zam)⊕(Zbh×Er)):=λv733 rc=>ixv _y735 (λy735=>sel (((v733.length:Nat):Int) == 65536) (some (.inr ({ States:=0,Init:=0,Costs:=[],Edges:=[],Goals:=[]:Zbh },(Er.no 5)))) (grd ((v733.length+1)*24<=140737488355328) (rc ((v733++[{ From:=v509,Label:=v709,To:=y735:Zam }])))))
def Zlr (_:Int)(_:Int)(_:List Int):((List Zam))->Option ((List Zam)⊕(Zbh×Er)):=λv733=>some (.inl v733)
theorem Zqn (v509:Int)(v709:Int)(z727:List Int)(v733:List Zam)(hl:z727.length<9223372036854775807):Zcd v509 v709 z727 (((z727.map cI).length:Int).toNat+1) 0 v733=Rg (Zin v509 v709 z727) (Zlr v509 v709 z727) z727 0 v733:=Zdy (L:=λk i v733=>Zcd v509 v709 z727 k i v733) hl (λ_ _ _=>rfl) v733
def Zio (a0:Zah)(a1:List Int)(_:List Int)(g:Nat)(v31:List (List Int))(v509:Int)(_:List Bool)(_:Bool)(v709:Int):((List Zam))->(((List Zam))->Option (((List Int)×(List Bool)×(List Zam))⊕(Zbh×Er)))->Option (((List Int)×(List Bool)×(List Zam))⊕(Zbh×Er)):=λv710 rc=>ob1 (ixn v31 ((v709).toNat) (λy726=>ob1 (Zew g a0 v709 a1 y726 v509) (λz727=>grd (0<=v709) (grd (v709<((v31.length:Nat):Int)) (Zcd v509 v709 z727 ((((z727.map cI).length:Int)).toNat+1) 0 v710)))):Option ((List Zam)⊕(Zbh×Er))) (Zj9 (λv722=>rc (v722)) (λ(r723,r724)=>some (.inr (r723,r724))))
def Zls (_:Zah)(_:List Int)(c628:List Int)(_:Nat)(_:List (List Int))(_:Int)(v511:List Bool)(v643:Bool):((List Zam))->Option (((List Int)×(List Bool)×(List Zam))⊕(Zbh×Er)):=λv710=>some (.inl (c628,(v511++[v643]),v710))
theorem Zqo (a0:Zah)(a1:List Int)(c628:List Int)(g:Nat)(v31:List (List Int))(v509:Int)(v511:List Bool)(v643:Bool)(v710:List Zam){m:Nat}(hm:((a0.Ops.map Za0).length:Int)=(m:Int))(hl:m<9223372036854775807):Zce a0 a1 c628 g v31 v509 v511 v643 ((((a0.Ops.map Za0).length:Int)).toNat+1) 0 v710=Rn (Zio a0 a1 c628 g v31 v509 v511 v643) (Zls a0 a1 c628 g v31 v509 v511 v643) m 0 v710:=rn_e (L:=λk i v710=>Zce a0 a1 c628 g v31 v509 v511 v643 k i v710) hm hl (λ_ _ _=>rfl) v710
def Zgk (a0:Zah)(a1:List Int)(g:Nat)(v31:List (List Int))(_:List Int)(_:Int)(_:Int)(v509:Int):((List Int)×(List Bool)×(List Zam))->(((List Int)×(List Bool)×(List Zam))->Option (Zbh×Er))->Option (Zbh×Er):=λ(v510,v511,v512) rc=>ob1 (ob1 (Zzm a0 a1 v510 v509) (λc628=>grd (c628.length=v510.length) (ob1 (Zbm a0 a1 c628 v510 ((((a0.Goal.map cF).length:Int)).toNat+1) true 0:Option (Bool)) (λv643=>grd ((v511.length+1)*1<=140737488355328) (Zce a0 a1 c628 g v31 v509 v511 v643 ((((a0.Ops.map Za0).length:Int)).toNat+1) 0 v512)))):Option (((List Int)×(List Bool)×(List Zam))⊕(Zbh×Er))) (Zj9 (λ(v622,v623,v624)=>rc (v622,v623,v624)) (λ(r625,r626)=>some (r625,r626)))
def Zip (_:Zah)(_:List Int)(_:Nat)(_:List (List Int))(v32:List Int)(z3:Int)(z5:Int):((List Int)×(List Bool)×(List Zam))->Option (Zbh×Er):=λ(_,v511,v512)=>grd (v32.length<=140737488355328) (grd (v512.length<=140737488355328) (grd (v511.length<=140737488355328) (some ({ States:=z3,Init:=z5,Costs:=v32,Edges:=v512,Goals:=v511:Zbh },Er.nil))))
theorem Zqp (a0:Zah)(a1:List Int)(g:Nat)(v31:List (List Int))(v32:List Int)(z3:Int)(z5:Int)(v510:List Int)(v511:List Bool)(v512:List Zam){m:Nat}(hm:z3=(m:Int))(hl:m<9223372036854775807):Zcf a0 a1 g v31 v32 z3 z5 ((z3).toNat+1) 0 v510 v511 v512=Rn (Zgk a0 a1 g v31 v32 z3 z5) (Zip a0 a1 g v31 v32 z3 z5) m 0 (v510,v511,v512):=rn_e (L:=λk i p=>match p with|(v510,v511,v512)=>Zcf a0 a1 g v31 v32 z3 z5 k i v510 v511 v512) hm hl (λ_ _ ⟨_,_,_⟩=>rfl) (v510,v511,v512)
end Go.Proofs.YtpfnmpdcneejbaaGreatDoor.Am
namespace Go.Proofs.YtpfnmpdcneejbaaGreatDoor.Am
open Go.RowKit
theorem Zafw {l:List Int}{y:Int}:∀(r:List Int)(n:Nat),∃z,Rg (Zlc l y) (Zof l y) r n ()=some z/\(0<=z↔y∈r)
 | [],n=>⟨-1,rfl,by simp⟩
 | x :: r,n=>by
  rw[Rg,Zlc,ixv]
  by_cases h:y=x
  ·rw[show(y == x)=true from beq_iff_eq.2 h,Zby]
   exact⟨n,rfl,by simp[h]⟩
  ·rw[show(y == x)=false from beq_eq_false_iff_ne.2 h,Zbb]
   obtain⟨z,h1,h2⟩:=Zafw (l:=l) (y:=y) r (n+1)
   exact⟨z,h1,by rw[h2,List.mem_cons];exact⟨.inr,λw=>w.resolve_left h⟩⟩
theorem Zw4 (l:List Int)(y:Int)(hl:l.length<=1000000):Zbg l y=some (decide (y∈l)):=by
 obtain⟨z,h1,h2⟩:=Zafw (l:=l) (y:=y) l 0
 rw[Zbg,Zne,Zua l y (by omega)]
 rw[show((0:Nat):Int)=0 from rfl]at h1
 rw[h1,Zac,decide_eq_decide.2 h2]
theorem Zara (l:List Zaa)(y:Int)(hl:Sh l):Zjt l y=some (l.any λf=>f.1 == y):=by
 have key:∀(r:List Zaa) (n:Nat),∃z,Rg (Zht l (Zgd y)) (Zkt l (Zgd y)) r n ()=some z/\(0<=z↔(r.any λf=>f.1 == y)=true):=by
  intro r
  induction r with
  | nil=>intro n;exact⟨-1,rfl,by simp⟩
  | cons x r ih =>
   intro n
   rw[Rg,Zht,ixv,Zgd,Zac,List.any_cons]
   cases hp:x.1 == y
   ·obtain⟨z,h1,h2⟩:=ih (n+1)
    exact⟨z,h1,by rw[h2,Bool.false_or]⟩
   ·exact⟨n,rfl,by simp⟩
 obtain⟨z,h1,h2⟩:=key l 0
 rw[Zjt,Zgo,Zia,Zo9 _ _ hl.lt]
 rw[show((0:Nat):Int)=0 from rfl]at h1
 rw[h1,Zac,Zac]
 congr 1
 rw[Bool.eq_iff_iff,decide_eq_true_iff,ge_iff_le,h2]
def Nm (v q:List Int):Prop:=∀y∈q,0<=y/\y<v.length
theorem Nm.tail {v r:List Int}{y:Int}(h:Nm v (y :: r)):Nm v r:=λu hu=>h u (mC_ _ hu)
def Dm (v:List Int):Prop:=∀k∈v,2<=k/\k<=4
theorem Dm.get {v q:List Int}(h:Dm v)(hn:Nm v q){y:Int}(hy:y∈q):∃k:Nat,v.getD y.toNat 0=(k:Int)/\2<=k/\k<=4:=by
 obtain⟨a,b⟩:=hn y hy
 have:=h _ (Zvs a b)
 exact⟨(v.getD y.toNat 0).toNat,by omega,by omega,by omega⟩
theorem Zaiy {v q:List Int}(h:Dm v)(hn:Nm v q):0<Zb6 (szs v q):=Zaan λk hk=>by
 obtain⟨y,hy,rfl⟩:=List.mem_map.1 hk
 obtain⟨k,h1,h2,h3⟩:=h.get hn hy
 omega
theorem Zx5 {t:Zah}(hd:Dm t.Vars){q:List Int}:∀(r:List Int)(n:Int)(c:Nat),Nm t.Vars r->c*Zb6 (szs t.Vars r)<=4096->Rg (Zj6 t q) (Zj7 t q) r n c=some (((c*Zb6 (szs t.Vars r):Nat):Int),true)
 | [],n,c,_,_=>by rw[Rg,Zj7,szs,List.map_nil,Zb6,Nat.mul_one]
 | y :: r,n,c,hn,hb=>by
  obtain⟨k,hk,k1,k2⟩:=hd.get hn (mS_ ..)
  obtain⟨y0,y1⟩:=hn y (mS_ ..)
  have hp:=Zaiy hd hn.tail
  rw[Ztk,Zb6,hk,Int.toNat_natCast,<-Nat.mul_assoc]at hb ⊢
  have hck:c*k<=4096:=Nat.le_trans (Nat.le_mul_of_pos_right _ hp) hb
  have hw:(c:Int)*(k:Int)=((c*k:Nat):Int):=rfl
  rw[Rg,Zj6,ixv,Zlh (d:=0) y0 y1,hk,hw,w64 (by omega) (by omega),Zar,if_neg (by omega)]
  exact Zx5 hd r (n+1) (c*k) hn.tail hb
theorem Zxb {t:Zah}(hd:Dm t.Vars){q:List Int}(hn:Nm t.Vars q)(hb:Zb6 (szs t.Vars q)<=4096)(hl:q.length<=1000000):Zea t q=some ((Zb6 (szs t.Vars q):Int),true):=by
 have:=Zx5 hd (q:=q) q 0 1 hn (by omega)
 rw[Zea,Zsd t q 1 (by omega)]
 rw[Nat.one_mul]at this
 exact this
theorem Zacd {t:Zah}(hd:Dm t.Vars){q s:List Int}(hs:s.length=t.Vars.length):∀(r:List Int)(n:Int)(a:Int),Nm t.Vars r->InS t.Vars s r->0<=a->(a+1)*((Zb6 (szs t.Vars r):Nat):Int)<=1000000 ->
  Rg (Zjb t q s) (Zmk t q s) r n a=some (pfF t.Vars s r a)
 | [],_,_,_,_,_,_=>rfl
 | y :: r,n,a,hn,hi,ha,hb=>by
  obtain⟨k,hk,k1,k2⟩:=hd.get hn (mS_ ..)
  obtain⟨y0,y1⟩:=hn y (mS_ ..)
  obtain⟨s0,s1⟩:=hi y (mS_ ..)
  have hak:0<=a*(k:Int):=Int.mul_nonneg ha (by omega)
  have hb1:(a+1)*(k:Int)=a*(k:Int)+k:=by rw[Int.add_mul,Int.one_mul]
  rw[Ztk,Zb6,hk,Int.toNat_natCast,Int.natCast_mul,<-Int.mul_assoc,hb1]at hb
  rw[hk]at s1
  have hpos:=Zaiy hd hn.tail
  have hm:(a*(k:Int)+s.getD y.toNat 0+1)*((Zb6 (szs t.Vars r):Nat):Int)<=1000000:=Int.le_trans (Int.mul_le_mul_of_nonneg_right (by omega) (Int.natCast_nonneg _)) hb
  have hle:a*(k:Int)+s.getD y.toNat 0+1<=1000000:=by
   refine Int.le_trans ?_ hm
   have:=Int.mul_le_mul_of_nonneg_left (c:=a*(k:Int)+s.getD y.toNat 0+1) (show(1:Int)<=((Zb6 (szs t.Vars r):Nat):Int)by omega) (by omega)
   omega
  rw[Rg,Zjb,ixv,Zlh (d:=0) y0 y1,Zlh (d:=0) y0 (by omega),hk,w64 (z:=a*(k:Int)) (by omega) (by omega),w64 (z:=a*(k:Int)+s.getD y.toNat 0) (by omega) (by omega),pfF,hk]
  exact Zacd hd hs r (n+1) _ hn.tail hi.tail (by omega) hm
theorem Zakr {t:Zah}(hd:Dm t.Vars){q s:List Int}(hs:s.length=t.Vars.length)(hn:Nm t.Vars q)(hi:InS t.Vars s q)(hb:Zb6 (szs t.Vars q)<=4096)(hl:q.length<=1000000):Zfp t q s=some (pfF t.Vars s q 0):=by
 rw[Zfp,Zrl t q s 0 (by omega)]
 exact Zacd hd hs q 0 0 hn hi (Int.le_refl 0) (by omega)
theorem Zvy {v s:List Int}(hd:Dm v):∀(w l:List Int),Nm v w->InS v s w->pfF v s w.reverse 0<=1000000->l.length=v.length ->
  (w.foldl (putS v) (l,pfF v s w.reverse 0)).1.length=l.length/\(∀y∈w,(w.foldl (putS v) (l,pfF v s w.reverse 0)).1[y.toNat]?=some (s.getD y.toNat 0))/\∀k:Nat,(∀y∈w,y.toNat≠k)->(w.foldl (putS v) (l,pfF v s w.reverse 0)).1[k]?=l[k]?
 | [],l,_,_,_,_=>⟨rfl,λy hy=>(by cases hy),λk _=>rfl⟩
 | y :: w,l,hn,hi,hb,hl=>by
  obtain⟨k,hk,k1,k2⟩:=hd.get hn (mS_ ..)
  obtain⟨y0,y1⟩:=hn y (mS_ ..)
  obtain⟨s0,s1⟩:=hi y (mS_ ..)
  have hP0:=(Zop w.reverse 0 (λu hu=>hi.tail u (List.mem_reverse.1 hu)) (Int.le_refl 0)).1
  obtain⟨P,hP⟩:∃P:Nat,pfF v s w.reverse 0=P:=⟨(pfF v s w.reverse 0).toNat,by omega⟩
  obtain⟨x,hx⟩:∃x:Nat,s.getD y.toNat 0=x:=⟨(s.getD y.toNat 0).toNat,by omega⟩
  have e:pfF v s (y :: w).reverse 0=((P*k+x:Nat):Int):=by
   rw[List.reverse_cons,Zady,hP,hk,hx]
   rfl
  rw[hk,hx]at s1
  have hxk:x<k:=by omega
  have hmod:((P*k+x:Nat):Int).tmod (k:Int)=(x:Int):=by
   rw[Int.tmod_eq_emod_of_nonneg (by omega)]
   have:(P*k+x) % k=x:=by rw[Nat.mul_comm,Nat.mul_add_mod,Nat.mod_eq_of_lt hxk]
   exact congrArg (Nat.cast:Nat->Int) this
  have hdiv:((P*k+x:Nat):Int).tdiv (k:Int)=(P:Int):=by
   rw[Int.tdiv_eq_ediv_of_nonneg (by omega)]
   have:(P*k+x) / k=P:=by rw[Nat.mul_comm,Nat.mul_add_div (by omega),Nat.div_eq_of_lt hxk,Nat.add_zero]
   exact congrArg (Nat.cast:Nat->Int) this
  have hPb:P<=1000000:=by
   rw[e]at hb
   have:=Nat.le_mul_of_pos_right P (show 0<k by omega)
   omega
  have hyv:(v[y.toNat]?.getD 0)=(k:Int):=by rw[<-gD_];exact hk
  have hstep:putS v (l,((P*k+x:Nat):Int)) y=(l.set y.toNat x,(P:Int)):=by
   rw[putS,hyv]
   show(l.set y.toNat (((P*k+x:Nat):Int).tmod k),IntKind.i64.wrap (((P*k+x:Nat):Int).tdiv k))=_
   rw[hmod,hdiv,w64 (by omega) (by omega)]
  rw[e,List.foldl_cons,hstep,<-hP]
  obtain⟨g1,g2,g3⟩:=Zvy hd w (l.set y.toNat x) hn.tail hi.tail (by omega) (by rw[List.length_set];exact hl)
  refine⟨by rw[g1,List.length_set],λu hu=>?_,λj hj=>?_⟩
  ·by_cases huw:u∈w
   ·exact g2 u huw
   ·rcases List.mem_cons.1 hu with rfl|hu
    ·by_cases hex:∃z∈w,z.toNat=u.toNat
     ·obtain⟨z,hz,hzu⟩:=hex
      have:=g2 z hz
      rw[hzu]at this
      exact this
     ·rw[g3 u.toNat (λz hz hzu=>hex ⟨z,hz,hzu⟩),List.getElem?_set_self (by omega),hx]
    ·exact absurd hu huw
  ·rw[g3 j (λz hz=>hj z (mC_ _ hz)),List.getElem?_set_ne (hj y (mS_ ..))]
theorem Ztf {v:List Int}(hd:Dm v):∀(w l:List Int)(n:Nat),Nm v w->n<=1000000->Za6 v l=true->Za6 v (w.foldl (putS v) (l,(n:Int))).1=true
 | [],l,n,_,_,h=>h
 | y :: w,l,n,hn,hb,h=>by
  obtain⟨k,hk,k1,k2⟩:=hd.get hn (mS_ ..)
  obtain⟨y0,y1⟩:=hn y (mS_ ..)
  have hyv:(v[y.toNat]?.getD 0)=(k:Int):=by rw[<-gD_];exact hk
  have hmod:(n:Int).tmod (k:Int)=((n % k:Nat):Int):=by rw[Int.tmod_eq_emod_of_nonneg (by omega)];rfl
  have hdiv:(n:Int).tdiv (k:Int)=((n / k:Nat):Int):=by rw[Int.tdiv_eq_ediv_of_nonneg (by omega)];rfl
  have hle:n / k<=n:=Nat.div_le_self _ _
  have hml:n % k<k:=Nat.mod_lt _ (by omega)
  have hstep:putS v (l,(n:Int)) y=(l.set y.toNat ((n % k:Nat):Int),((n / k:Nat):Int)):=by
   rw[putS,hyv]
   show(l.set y.toNat ((n:Int).tmod k),IntKind.i64.wrap ((n:Int).tdiv k))=_
   rw[hmod,hdiv]
   generalize n / k=z at hle
   rw[w64 (by omega) (by omega)]
  rw[List.foldl_cons,hstep]
  have st:=Zcs h
  refine Ztf hd w _ _ hn.tail (by omega) (Zth (by rw[List.length_set];exact st.len) λi hi=>?_)
  by_cases e:y.toNat=i
  ·subst e
   have hl:=st.len
   rw[gD_,List.getElem?_set_self (by omega),Option.getD_some,hk]
   omega
  ·rw[gD_,List.getElem?_set_ne e,<-gD_]
   exact st.rng i hi
theorem Zadz {t:Zah}(hd:Dm t.Vars){q l:List Int}(hn:Nm t.Vars q)(hl:l.length=t.Vars.length)(n:Int):Zzm t q l n=some (putV t.Vars q l n):=by
 rw[Zzm,Zan]
 refine List.all_eq_true.2 λy hy=>?_
 obtain⟨k,hk,k1,k2⟩:=hd.get hn hy
 obtain⟨y0,y1⟩:=hn y hy
 have hyv:(t.Vars[y.toNat]?.getD 0)=(k:Int):=by rw[<-gD_];exact hk
 simp only[okB,bA_,decide_eq_true_eq,hyv]
 omega
theorem Zsr {v:List Int}:∀(l:List Zaa)(last:Int),-1<=last->Zbi v last l=true->∀f∈l,0<=f.1/\f.1<v.length/\0<=f.2/\f.2<v.getD f.1.toNat 0
 | [],_,_,_,f,hf=>by cases hf
 | g :: l,last,hl,h,f,hf=>by
  rw[Zbi,bA_,decide_eq_true_iff]at h
  rcases List.mem_cons.1 hf with rfl|hf
  ·omega
  ·exact Zsr l g.1 (by omega) h.2 f hf
def OutP (o:GOp)(p:List Int)(y:Int):Prop:=y∉p/\(o.Pre.any λf=>f.1 == y)=false
theorem out1 {o:GOp}{p:List Int}(hp:p.length<=1000)(hpre:Sh o.Pre)(e:Zaq):∀(r:List Zaa)(n:Int)(v:List Int),v.length+r.length<=100000->v.Nodup ->
  ∃v',Rg (Zgl o p e) (Ziq o p e) r n v=some v'/\v'.Nodup/\v'.length<=v.length+r.length/\∀y,y∈v'↔y∈v\/∃f∈r,f.1=y/\OutP o p y
 | [],n,v,_,h=>⟨v,rfl,h,Nat.le_refl _,λy=>by simp⟩
 | f :: r,n,v,hb,h=>by
  rw[lC_]at hb
  rw[Rg,Zgl,ixv,Zw4 p f.1 (by omega),Zac]
  have skip:¬ OutP o p f.1\/f.1∈v->∃v',Rg (Zgl o p e) (Ziq o p e) r (n+1) v=some v'/\v'.Nodup/\v'.length<=v.length+(f :: r).length/\∀y,y∈v'↔y∈v\/∃g∈f :: r,g.1=y/\OutP o p y:=λhs=>by
   obtain⟨v',h1,h2,h3,h4⟩:=out1 hp hpre e r (n+1) v (by omega) h
   refine⟨v',h1,h2,by rw[lC_];omega,λy=>?_⟩
   rw[h4]
   constructor
   ·rintro(a|⟨g,g1,g2⟩)
    ·exact .inl a
    ·exact .inr ⟨g,mC_ _ g1,g2⟩
   ·rintro(a|⟨g,g1,rfl,g3⟩)
    ·exact .inl a
    ·rcases List.mem_cons.1 g1 with rfl|g1
     ·exact .inl (hs.resolve_left (λw=>w g3))
     ·exact .inr ⟨g,g1,rfl,g3⟩
  by_cases a:f.1∈p
  ·rw[decide_eq_true a,Bool.not_true,Zbb]
   exact skip (.inl λw=>w.1 a)
  ·rw[decide_eq_false a,Bool.not_false,Zby,Zara _ _ hpre,Zac]
   cases b:o.Pre.any λg=>g.1 == f.1 with
   | true=>rw[Bool.not_true,Zbb];exact skip (.inl λw=>by rw[w.2]at b;cases b)
   | false =>
    rw[Bool.not_false,Zby,Zan (by omega),Zw4 v f.1 (by omega),Zac]
    by_cases c:f.1∈v
    ·rw[decide_eq_true c,Bool.not_true,Zbb]
     exact skip (.inr c)
    ·rw[decide_eq_false c,Bool.not_false,Zby,Zan (by omega)]
     obtain⟨v',h1,h2,h3,h4⟩:=out1 hp hpre e r (n+1) (v++[f.1]) (by rw[lA_,List.length_singleton];omega) (List.nodup_append.2 ⟨h,by simp,λu hu w hw=>by rw[mI_]at hw;subst hw;exact λq=>c (q ▸ hu)⟩)
     refine⟨v',h1,h2,by rw[lA_,List.length_singleton]at h3;rw[lC_];omega,λy=>?_⟩
     rw[h4,List.mem_append,mI_]
     constructor
     ·rintro((u|rfl)|⟨g,g1,g2⟩)
      ·exact .inl u
      ·exact .inr ⟨f,mS_ ..,rfl,a,b⟩
      ·exact .inr ⟨g,mC_ _ g1,g2⟩
     ·rintro(u|⟨g,g1,rfl,g3⟩)
      ·exact .inl (.inl u)
      ·rcases List.mem_cons.1 g1 with rfl|g1
       ·exact .inl (.inr rfl)
       ·exact .inr ⟨g,g1,rfl,g3⟩
theorem out2 {o:GOp}{p:List Int}(hp:p.length<=1000)(hpre:Sh o.Pre):∀(r:List Zaq)(n:Int)(v:List Int),(∀e∈r,e.When.length<=64)->v.length+64*r.length<=100000->v.Nodup ->
  ∃v',Rg (Zeq o p) (Zir o p) r n v=some v'/\v'.Nodup/\v'.length<=v.length+64*r.length/\∀y,y∈v'↔y∈v\/∃e∈r,e.Var∈p/\∃f∈e.When,f.1=y/\OutP o p y
 | [],n,v,_,_,h=>⟨v,rfl,h,Nat.le_refl _,λy=>by simp⟩
 | e :: r,n,v,hw,hb,h=>by
  rw[lC_]at hb
  have he:=hw e (mS_ ..)
  have hw':=λu hu=>hw u (mC_ _ hu)
  rw[Rg,Zeq,ixv,Zw4 p e.Var (by omega),Zac]
  by_cases a:e.Var∈p
  ·obtain⟨v1,h1,h2,h3,h4⟩:=out1 (o:=o) hp hpre e e.When 0 v (by omega) h
   rw[decide_eq_true a,Bool.not_true,Zbb,Zqq o p e v (by omega),h1,Zac]
   obtain⟨v',g1,g2,g3,g4⟩:=out2 hp hpre r (n+1) v1 hw' (by omega) h2
   refine⟨v',g1,g2,by rw[lC_];omega,λy=>?_⟩
   rw[g4,h4]
   constructor
   ·rintro((u|⟨f,f1,f2⟩)|⟨g,k1,k2⟩)
    ·exact .inl u
    ·exact .inr ⟨e,mS_ ..,a,f,f1,f2⟩
    ·exact .inr ⟨g,mC_ _ k1,k2⟩
   ·rintro(u|⟨g,k1,k2,k3⟩)
    ·exact .inl (.inl u)
    ·rcases List.mem_cons.1 k1 with rfl|k1
     ·exact .inl (.inr k3)
     ·exact .inr ⟨g,k1,k2,k3⟩
  ·rw[decide_eq_false a,Bool.not_false,Zby,Zac]
   obtain⟨v',g1,g2,g3,g4⟩:=out2 hp hpre r (n+1) v hw' (by omega) h
   refine⟨v',g1,g2,by rw[lC_];omega,λy=>?_⟩
   rw[g4]
   constructor
   ·rintro(u|⟨g,k1,k2⟩)
    ·exact .inl u
    ·exact .inr ⟨g,mC_ _ k1,k2⟩
   ·rintro(u|⟨g,k1,k2,k3⟩)
    ·exact .inl u
    ·rcases List.mem_cons.1 k1 with rfl|k1
     ·exact absurd k2 a
     ·exact .inr ⟨g,k1,k2,k3⟩
theorem Zaa0 (l:List Int)(y:Int):y∈Zagu l↔y∈l:=by rw[Zsu];exact(List.mergeSort_perm l _).mem_iff
theorem Zar7 (l:List Int):(Zagu l).Pairwise (·<=·):=by
 have:=List.pairwise_mergeSort (le:=λx y:Int=>decide (x<=y)) (λa b c h1 h2=>by rw[decide_eq_true_iff]at *;omega) (λa b=>by rw[Bool.or_eq_true,decide_eq_true_iff,decide_eq_true_iff];omega) l
 rw[Zsu]
 exact this.imp (λh=>of_decide_eq_true h)
theorem Zasg {V:Nat}:∀(l:List Int)(last:Int),(∀y∈l,last<y/\y<V)->l.Pairwise (·<=·)->l.Nodup->Zyl V last l=true
 | [],_,_,_,_=>rfl
 | x :: r,last,h,hs,hn=>by
  rw[List.pairwise_cons]at hs
  rw[List.nodup_cons]at hn
  obtain⟨a,b⟩:=h x (mS_ ..)
  rw[Zyl,decide_eq_true a,decide_eq_true b,Bool.true_and,Bool.true_and]
  refine Zasg r x (λy hy=>⟨?_,(h y (mC_ _ hy)).2⟩) hs.2 hn.2
  have:=hs.1 y hy
  have:x≠y:=λe=>hn.1 (e ▸ hy)
  omega
theorem Zamc {t:Zah}(hgood:Ze5 t=true){o:GOp}(ho:o∈t.Ops){p:List Int}(hp:p.length<=1000) :
  ∃w,Zf7 o p=some w/\Zyl t.Vars.length (-1) w=true/\∀y,y∈w↔∃e∈o.Effs,e.Var∈p/\∃f∈e.When,f.1=y/\OutP o p y:=by
 have ok:=Zn6 hgood
 have oo:=Zq1 hgood ho
 have hwl:∀e∈o.Effs,e.When.length<=64:=λe he=>Zkj ok.len (oo.when e he)
 have hel:=oo.effs
 obtain⟨v,h1,h2,h3,h4⟩:=out2 (o:=o) hp (Zjj ok.len oo.pre) o.Effs 0 [] hwl (by simp;omega) List.nodup_nil
 have hl:v.length<=100000:=by simp at h3;omega
 have hsl:=Zot v
 refine⟨Zagu v,?_,Zasg _ _ (λy hy=>?_) (Zar7 v) (by rw[Zsu];exact(List.mergeSort_perm v _).nodup_iff.2 h2),λy=>by rw[Zaa0,h4];simp⟩
 ·rw[Zf7,Zqr o p [] (by omega),h1,Zac,Zwp,Zan (by omega),Zac,Zan hsl,Zan (by omega)]
 ·rcases(h4 y).1 ((Zaa0 v y).1 hy)with h|⟨e,he,_,f,hf,rfl,_⟩
  ·cases h
  ·have:=Zsr _ _ (by omega) (oo.when e he) f hf
   omega
theorem Zac8 {l:List Int}{p:Nat}:∀(d fuel k k2:Nat)(arr:List Int),p+k2+d=l.length->d<fuel->arr.length=l.length->1<=k2->k+1<=p+k2->l.length<=1000000->(∀j,p+k2<=j+1->arr[j]?=l[j]?)->(∀y,y∈arr.take k↔y∈l.take (p+k2)) ->
  ∃(k':Nat) (arr':List Int),Zco l p fuel k k2 arr=some ((k':Int),arr')/\arr'.length=l.length/\k'+1<=l.length/\∀y,y∈arr'.take k'↔y∈l
 | d,0,_,_,_,_,h,_,_,_,_,_,_=>absurd h (Nat.not_lt_zero _)
 | 0,f+1,k,k2,arr,hd,_,ha,h1,h2,hl,h3,h4=>by
  rw[Zco,Int.toNat_natCast,Zar,if_neg (by omega)]
  exact⟨k,arr,rfl,ha,by omega,λy=>by rw[h4,tL_ (by omega)]⟩
 | d+1,f+1,k,k2,arr,hd,hf,ha,h1,h2,hl,h3,h4=>by
  have a1:l[p+k2]?=some l[p+k2]:=gE_ (by omega)
  have a2:l[p+(k2-1)]?=some l[p+(k2-1)]:=gE_ (by omega)
  have b1:=(h3 (p+k2) (by omega)).trans a1
  have b2:=(h3 (p+(k2-1)) (by omega)).trans a2
  have bk:arr[k]?=some arr[k]:=gE_ (by omega)
  have hk2:((k2:Int)-1)=((k2-1:Nat):Int):=by omega
  have htk:l.take (p+(k2+1))=l.take (p+k2)++[l[p+k2]]:=by rw[<-Nat.add_assoc,List.take_add_one,a1];rfl
  rw[Zco]
  simp only[Int.toNat_natCast]
  rw[Zar,if_pos (by omega),w64 (z:=(k2:Int)-1) (by omega) (by omega),hk2]
  simp only[Int.toNat_natCast]
  rw[Zdp b1,Zdp b2,Zan (by omega),Zan (by omega),Zan (by omega),Zan (by omega),w64 (z:=(k2:Int)+1) (by omega) (by omega),show(k2:Int)+1=((k2+1:Nat):Int)from rfl]
  by_cases e:l[p+k2]=l[p+(k2-1)]
  ·rw[show(l[p+k2] != l[p+(k2-1)])=false from by rw[bne_eq_false_iff_eq];exact e,Zbb]
   refine Zac8 d f k (k2+1) arr (by omega) (by omega) ha (by omega) (by omega) hl (λj hj=>h3 j (by omega)) (λy=>?_)
   rw[h4,htk,List.mem_append,mI_]
   refine⟨.inl,λh=>h.elim id λh=>?_⟩
   rw[h,e]
   exact List.mem_take_iff_getElem.2 ⟨p+(k2-1),by omega,rfl⟩
  ·rw[show(l[p+k2] != l[p+(k2-1)])=true from by rw[bne_iff_ne];exact e,Zby,Zdp b1,Zdp bk,Zan (by omega),Zan (by omega),w64 (by omega) (by omega),show(k:Int)+1=((k+1:Nat):Int)from rfl]
   refine Zac8 d f (k+1) (k2+1) _ (by omega) (by omega) (by rw[List.length_set];exact ha) (by omega) (by omega) hl (λj hj=>?_) (λy=>?_)
   ·rw[List.getElem?_set_ne (by omega)]
    exact h3 j (by omega)
   ·have hset:(arr.set k l[p+k2]).take (k+1)=arr.take k++[l[p+k2]]:=by
     rw[List.take_add_one,List.getElem?_set_self (by omega),List.take_set_of_le (Nat.le_refl _)]
     rfl
    rw[hset,List.mem_append,h4,htk,List.mem_append]
theorem Zajo {l:List Int}{g:Nat}(hg:l.length<g)(hl:l.length<=1000000):∀(d fuel k:Nat),k+d=l.length->d<fuel->1<=k->∃r,Zc3 l g fuel k=some r/\r.length<=l.length/\∀y,y∈r↔y∈l
 | d,0,_,_,h,_=>absurd h (Nat.not_lt_zero _)
 | 0,f+1,k,hd,_,h1=>by
  rw[Zc3,Zar,if_neg (by omega)]
  exact⟨l,rfl,Nat.le_refl _,λy=>Iff.rfl⟩
 | d+1,f+1,k,hd,hf,h1=>by
  have a1:l[k]?=some l[k]:=gE_ (by omega)
  have a2:l[k-1]?=some l[k-1]:=gE_ (by omega)
  have hk:((k:Int)-1)=((k-1:Nat):Int):=by omega
  rw[Zc3,Zar,if_pos (by omega),w64 (z:=(k:Int)-1) (by omega) (by omega),hk,Int.toNat_natCast,Int.toNat_natCast,Zdp a1,Zdp a2,Zan (by omega),Zan (by omega),Zan (by omega),Zan (by omega)]
  by_cases e:l[k]=l[k-1]
  ·rw[show(l[k] == l[k-1])=true from beq_iff_eq.2 e,Zby,Zan (by omega)]
   obtain⟨k',arr',q1,q2,q3,q4⟩:=Zac8 (l:=l) (p:=k) d g k 1 l (by omega) (by omega) rfl (Nat.le_refl _) (Nat.le_refl _) hl (λ_ _=>rfl) (λy=>by
    have htk:l.take (k+1)=l.take k++[l[k]]:=by rw[List.take_add_one,a1];rfl
    rw[htk,List.mem_append,mI_]
    refine⟨.inl,λh=>h.elim id λh=>?_⟩
    rw[h,e]
    exact List.mem_take_iff_getElem.2 ⟨k-1,by omega,rfl⟩)
   rw[show(1:Int)=((1:Nat):Int)from rfl,q1,Zac]
   show ∃r,ob1 (grd _ _) _=some r/\_/\_
   rw[Int.toNat_natCast,Zan (by omega),Zan (by omega),Zan (by omega),Zac,Ziz]
   exact⟨_,rfl,by rw[List.length_take];omega,q4⟩
  ·rw[show(l[k] == l[k-1])=false from beq_eq_false_iff_ne.2 e,Zbb,Zac,Zbv,w64 (by omega) (by omega),show(k:Int)+1=((k+1:Nat):Int)from rfl]
   exact Zajo hg hl d f (k+1) (by omega) (by omega) (by omega)
theorem Zahk {l:List Int}{g:Nat}(hg:l.length<g)(hl:l.length<=1000000):∃r,Zhs g l=some r/\r.length<=l.length/\∀y,y∈r↔y∈l:=by
 rw[Zhs,Zar]
 by_cases h:((l.length:Nat):Int)<2
 ·rw[if_pos h];exact⟨l,rfl,Nat.le_refl _,λy=>Iff.rfl⟩
 ·rw[if_neg h]
  exact Zajo hg hl (l.length-1) g 1 (by omega) (by omega) (Nat.le_refl _)
theorem Zakq (v:List Int){s s':List Int}:∀(r:List Int)(a:Int),(∀y∈r,s.getD y.toNat 0=s'.getD y.toNat 0)->pfF v s r a=pfF v s' r a
 | [],_,_=>rfl
 | y :: r,a,h=>by rw[pfF,pfF,h y (mS_ ..),Zakq v r _ (λu hu=>h u (mC_ _ hu))]
theorem Zahz {l s:List Int}{i:Nat}(h:l[i]?=s[i]?):l.getD i 0=s.getD i 0:=by rw[gD_,gD_,h]
theorem Zagw {v l:List Int}(h:Za6 v l=true){i:Nat}{x:Int}(hi:i<v.length)(h0:0<=x)(h1:x<v.getD i 0):Za6 v (l.set i x)=true:=by
 have st:=Zcs h
 have hl:=st.len
 refine Zth (by rw[List.length_set];exact st.len) λj hj=>?_
 by_cases e:i=j
 ·subst e
  rw[gD_,List.getElem?_set_self (by omega),Option.getD_some]
  exact⟨h0,h1⟩
 ·rw[gD_,List.getElem?_set_ne e,<-gD_]
  exact st.rng j hj
def FRng (v:List Int)(r:List Zaa):Prop:=∀f∈r,0<=f.1/\f.1<v.length/\0<=f.2/\f.2<v.getD f.1.toNat 0
theorem tgt1 {v p:List Int}(hpl:p.length<=1000)(hp0:∀y∈p,0<=y)(o:GOp)(s:List Int)(hs:s.length=v.length):∀(r:List Zaa)(n:Int)(l:List Int),FRng v r->Za6 v l=true ->
  ∃res,Rg (Zgm p o) (Zis p o) r n l=some res/\(res=.inr []\/∃l',res=.inl l'/\Za6 v l'=true) /\
   ∀dn:List Int,(∀y∈dn,0<=y)->(∀y,(y∈p\/y∈dn)->l[y.toNat]?=s[y.toNat]?)->Zay s r=true->∃l',res=.inl l'/\∀y,(y∈p\/y∈dn\/∃f∈r,f.1=y)->l'[y.toNat]?=s[y.toNat]?
 | [],n,l,_,h=>⟨.inl l,rfl,.inr ⟨l,rfl,h⟩,λdn _ ha _=>⟨l,rfl,λy hy=>ha y (by rcases hy with h|h|⟨f,hf,_⟩;exact .inl h;exact .inr h;cases hf)⟩⟩
 | f :: r,n,l,hr,h=>by
  obtain⟨f0,f1,f2,f3⟩:=hr f (mS_ ..)
  have hr':FRng v r:=λu hu=>hr u (mC_ _ hu)
  have hl:=(Zcs h).len
  have hlf:l[f.1.toNat]?=some l[f.1.toNat]:=gE_ (by omega)
  rw[Rg,Zgm,ixv,Zw4 p f.1 (by omega),Zac]
  by_cases a:f.1∈p
  ·rw[decide_eq_true a,Zby,Zdp hlf,Zan (by omega),Zan (by omega)]
   by_cases e:l[f.1.toNat]=f.2
   ·rw[show(l[f.1.toNat] != f.2)=false from by rw[bne_eq_false_iff_eq];exact e,Zbb]
    obtain⟨res,h1,h2,h3⟩:=tgt1 hpl hp0 o s hs r (n+1) l hr' h
    refine⟨res,h1,h2,λdn hd ha hh=>?_⟩
    have hh':Zay s r=true:=Za7.2 λu hu=>Za7.1 hh u (mC_ _ hu)
    obtain⟨l',k1,k2⟩:=h3 dn hd ha hh'
    refine⟨l',k1,λy hy=>k2 y ?_⟩
    rcases hy with hy|hy|⟨g,hg,rfl⟩
    ·exact .inl hy
    ·exact .inr (.inl hy)
    ·rcases List.mem_cons.1 hg with rfl|hg
     ·exact .inl a
     ·exact .inr (.inr ⟨g,hg,rfl⟩)
   ·rw[show(l[f.1.toNat] != f.2)=true from by rw[bne_iff_ne];exact e,Zby]
    refine⟨_,rfl,.inl rfl,λdn hd ha hh=>absurd ?_ e⟩
    have h1:=ha f.1 (.inl a)
    have h2:=(Zes.1 (Za7.1 hh f (mS_ ..))).2.2
    rw[gD_,<-h1,hlf]at h2
    exact h2
  ·rw[decide_eq_false a,Zbb,Zdp hlf,Zan (by omega),Zan (by omega)]
   obtain⟨res,h1,h2,h3⟩:=tgt1 hpl hp0 o s hs r (n+1) (l.set f.1.toNat f.2) hr' (Zagw h (by omega) f2 f3)
   refine⟨res,h1,h2,λdn hd ha hh=>?_⟩
   have hh':Zay s r=true:=Za7.2 λu hu=>Za7.1 hh u (mC_ _ hu)
   have hsf:=(Zes.1 (Za7.1 hh f (mS_ ..))).2.2
   have hse:s[f.1.toNat]?=some f.2:=by
    rw[gE_ (by omega)]
    rw[gD_,gE_ (by omega)]at hsf
    exact congrArg some hsf
   obtain⟨l',k1,k2⟩:=h3 (f.1 :: dn) (λy hy=>by
    rcases List.mem_cons.1 hy with rfl|hy
    ·exact f0
    ·exact hd y hy) (λy hy=>by
    by_cases e:y=f.1
    ·rw[e,List.getElem?_set_self (by omega),hse]
    ·have hy':y∈p\/y∈dn:=hy.imp_right λw=>(List.mem_cons.1 w).resolve_left e
     have hy0:0<=y:=hy'.elim (hp0 y) (hd y)
     rw[List.getElem?_set_ne (by omega)]
     exact ha y hy') hh'
   refine⟨l',k1,λy hy=>k2 y ?_⟩
   rcases hy with hy|hy|⟨g,hg,rfl⟩
   ·exact .inl hy
   ·exact .inr (.inl (mC_ _ hy))
   ·rcases List.mem_cons.1 hg with rfl|hg
    ·exact .inr (.inl (mS_ ..))
    ·exact .inr (.inr ⟨g,hg,rfl⟩)
def effP (p c:List Int):List Zaq->List Int->List Int
 | [],u=>u
 | e :: r,u=>effP p c r (if e.Var∈p/\Zay c e.When=true then u.set e.Var.toNat e.Val else u)
theorem tgt2 {p c l:List Int}(hpl:p.length<=1000)(hll:l.length<=1000000)(o:GOp):∀(r:List Zaq)(n:Int)(u:List Int),(∀e∈r,Sh e.When/\0<=e.Var/\e.Var<u.length)->Rg (Zit p c l o) (Zlt p c l o) r n u=some (effP p c r u)
 | [],n,u,_=>rfl
 | e :: r,n,u,h=>by
  obtain⟨h1,h2,h3⟩:=h e (mS_ ..)
  have h':=λw (hw:w∈r)=>h w (mC_ _ hw)
  have hu:u[e.Var.toNat]?=some u[e.Var.toNat]:=gE_ (by omega)
  rw[Rg,Zit,ixv,Zw4 p e.Var (by omega),Zac,effP]
  by_cases a:e.Var∈p
  ·rw[decide_eq_true a,Zby,Zan (by omega),Zagz _ _ h1,Zac]
   cases b:Zay c e.When with
   | true =>
    rw[Zby,Zdp hu,Zan (by omega),Zan (by omega),if_pos ⟨a,rfl⟩]
    exact tgt2 hpl hll o r (n+1) _ (λw hw=>by rw[List.length_set];exact h' w hw)
   | false =>
    rw[Zbb,if_neg (λw=>by cases w.2)]
    exact tgt2 hpl hll o r (n+1) u h'
  ·rw[decide_eq_false a,Zbb,if_neg (λw=>a w.1)]
   exact tgt2 hpl hll o r (n+1) u h'
theorem Zabz {v p c:List Int}:∀(r:List Zaq)(u:List Int),(∀e∈r,0<=e.Var/\e.Var<v.length/\0<=e.Val/\e.Val<v.getD e.Var.toNat 0)->Za6 v u=true->Za6 v (effP p c r u)=true
 | [],u,_,h=>h
 | e :: r,u,hr,h=>by
  obtain⟨a,b,c1,d⟩:=hr e (mS_ ..)
  rw[effP]
  refine Zabz r _ (λw hw=>hr w (mC_ _ hw)) ?_
  split
  ·exact Zagw h (by omega) c1 d
  ·exact h
theorem Zs9 {p c s:List Int}(hp0:∀y∈p,0<=y):∀(r:List Zaq)(u w:List Int),u.length=w.length->(∀e∈r,0<=e.Var/\(e.Var∈p->Zay c e.When=Zay s e.When))->(∀y∈p,u[y.toNat]?=w[y.toNat]?)->∀y∈p,(effP p c r u)[y.toNat]?=(Zoh s r w)[y.toNat]?
 | [],u,w,_,_,h=>h
 | e :: r,u,w,hl,hr,h=>by
  obtain⟨e0,e1⟩:=hr e (mS_ ..)
  have hr':=λx (hx:x∈r)=>hr x (mC_ _ hx)
  rw[effP,Zoh]
  by_cases a:e.Var∈p
  ·rw[e1 a]
   by_cases b:Zay s e.When=true
   ·rw[if_pos ⟨a,b⟩,if_pos b]
    refine Zs9 hp0 r _ _ (by simp[hl]) hr' λy hy=>?_
    by_cases q:e.Var.toNat=y.toNat
    ·rw[<-q,List.getElem?_set,List.getElem?_set,if_pos rfl,if_pos rfl,hl]
    ·rw[List.getElem?_set_ne q,List.getElem?_set_ne q]
     exact h y hy
   ·rw[if_neg (λw=>b w.2),if_neg b]
    exact Zs9 hp0 r u w hl hr' h
  ·rw[if_neg (λw=>a w.1)]
   refine Zs9 hp0 r u _ (by split <;> simp[hl]) hr' λy hy=>?_
   split
   ·have hne:e.Var.toNat≠y.toNat:=λq=>a (by have:=hp0 y hy;rw[show e.Var=y from by omega];exact hy)
    rw[List.getElem?_set_ne hne]
    exact h y hy
   ·exact h y hy
theorem Zao6 (v:List Int):∀(w l:List Int)(n:Int)(k:Nat),(∀y∈w,y.toNat≠k)->(w.foldl (putS v) (l,n)).1[k]?=l[k]?
 | [],_,_,_,_=>rfl
 | y :: w,l,n,k,h=>by
  rw[List.foldl_cons]
  exact(Zao6 v w _ _ k (λz hz=>h z (mC_ _ hz))).trans (List.getElem?_set_ne (h y (mS_ ..)))
theorem Zac4 {v w:List Int}(hd:Dm v)(h:Zyl v.length (-1) w=true):Zb6 (szs v w)<=Zb6 v :=
 Zagd (Zaiz v w (-1) (by omega) h) (λk hk=>by have:=hd k hk;omega)
theorem Zxr {v w:List Int}(h:Zyl v.length (-1) w=true):Nm v w:=λy hy=>Zac3 (by omega) h y hy
theorem Zaa1 {v s w:List Int}(hs:Za6 v s=true)(h:Nm v w):InS v s w:=λy hy=>by
 obtain⟨a,b⟩:=h y hy
 exact(Zcs hs).rng y.toNat (by omega)
theorem Zz8 {c s:List Int}(hl:c.length=s.length):∀(l:List Zaa),(∀f∈l,c.getD f.1.toNat 0=s.getD f.1.toNat 0)->Zay c l=Zay s l
 | [],_=>rfl
 | f :: l,h=>by
  have:=Zz8 hl l (λu hu=>h u (mC_ _ hu))
  unfold Zay at this ⊢
  rw[List.all_cons,List.all_cons,this,Zuh,Zuh,hl,h f (mS_ ..)]
section
variable {t : Zah} (hgood : Ze5 t = true) (hd : Dm t.Vars) (hb : Zb6 t.Vars <= 4000) {p : List Int} (hp : Pat t.Vars p)
include hgood hd hb hp
theorem tgt3 {o:GOp}(ho:o∈t.Ops){w:List Int}(hw:Zyl t.Vars.length (-1) w=true)(hwl:w.length<=1000)(hwm:∀y,y∈w↔∃e∈o.Effs,e.Var∈p/\∃f∈e.When,f.1=y/\OutP o p y)(z40:Int):∀(m i:Nat)(l out:List Int),i+m=Zb6 (szs t.Vars w)->Za6 t.Vars l=true->out.length<=i->(∀y∈out,0<=y/\y<(Zb6 (szs t.Vars p):Int)) ->
  ∃out',Rn (Zgn t p w o z40) (Zlu t p w o z40) m i (l,out)=some out'/\out'.length<=i+m/\(∀y∈out',0<=y/\y<(Zb6 (szs t.Vars p):Int))/\(∀y∈out,y∈out') /\
   ∀s,Za6 t.Vars s=true->(∀y,(y∈p\/∃f∈o.Pre,f.1=y)->l[y.toNat]?=s[y.toNat]?)->(i:Int)<=pfF t.Vars s w 0->pfF t.Vars (Zp8 s o) p 0∈out'
 | 0,i,l,out,hi,hl,ho1,hr=>by
  refine⟨out,rfl,by omega,hr,λ_ h=>h,λs hs _ hge=>?_⟩
  have:=(Zop w 0 (Zaa1 hs (Zxr hw)) (Int.le_refl 0)).2
  omega
 | m+1,i,l,out,hi,hl,ho1,hr=>by
  have ok:=Zn6 hgood
  have oo:=Zq1 hgood ho
  have h4:=hp.four
  have hwp:=Zac4 hd hw
  have hpp:=hp.few
  have st:=Zcs hl
  have hlen:=st.len
  have hvl:=ok.len
  have hnw:Nm t.Vars w.reverse:=λy hy=>Zxr hw y (List.mem_reverse.1 hy)
  obtain⟨c,hc⟩:∃c,putV t.Vars w l i=c:=⟨_,rfl⟩
  have hcs:Za6 t.Vars c=true:=by rw[<-hc];exact Ztf hd w.reverse l i hnw (by omega) hl
  have hcl:=(Zcs hcs).len
  have heff:∀e∈o.Effs,Sh e.When/\0<=e.Var/\e.Var<c.length:=λe he=>by
   obtain⟨a,b,_⟩:=Zq0 hgood ho he
   exact⟨Zjj ok.len (oo.when e he),a,by omega⟩
  have hel:=oo.effs
  obtain⟨nx,hnx⟩:∃nx,effP p c o.Effs c=nx:=⟨_,rfl⟩
  have hns:Za6 t.Vars nx=true:=by rw[<-hnx];exact Zabz o.Effs c (λe he=>by obtain⟨a,b,c1,d⟩:=Zq0 hgood ho he;exact⟨a,b,c1,d⟩) hcs
  have hnl:=(Zcs hns).len
  have hnm:Nm t.Vars p:=λy hy=>hp.mem hy
  have hnum:=Zakr hd (q:=p) hnl hnm (hp.ins hns) (by omega) (by omega)
  have hnb:=Zop p 0 (hp.ins hns) (Int.le_refl 0)
  have hstep:Zgn t p w o z40 i (l,out)=λrc=>rc (c,out++[pfF t.Vars nx p 0]):=by
   funext rc
   rw[Zgn]
   show ob1 (ob1 (Zzm t w l i) _) _=_
   rw[Zadz hd (Zxr hw) hlen,hc,Zac,Zan (by omega),Zu0,Zan (by omega),Zc6,Zan (by omega),Zqt p c l o c (by omega),tgt2 (by omega) (by omega) o o.Effs 0 c heff,hnx,Zac,Zan (by omega),hnum,Zac,Zan (by omega),Zac]
  obtain⟨out',q1,q2,q3,q4,q5⟩:=tgt3 ho hw hwl hwm z40 m (i+1) c (out++[pfF t.Vars nx p 0]) (by omega) hcs (by rw[lA_,List.length_singleton];omega) (λy hy=>by
   rcases List.mem_append.1 hy with hy|hy
   ·exact hr y hy
   ·rw[mI_]at hy
    subst hy
    omega)
  refine⟨out',?_,by omega,q3,λy hy=>q4 y (List.mem_append_left _ hy),λs hs ha hge=>?_⟩
  ·rw[Rn,hstep]
   exact q1
  ·have sst:=Zcs hs
   have hsl:=sst.len
   have hdis:∀y,(y∈p\/∃f∈o.Pre,f.1=y)->y∉w:=λy hy hyw=>by
    obtain⟨_,_,_,_,_,_,h1,h2⟩:=(hwm y).1 hyw
    rcases hy with hy|⟨f,hf,rfl⟩
    ·exact h1 hy
    ·rw[List.any_eq_false]at h2
     exact h2 f hf (beq_self_eq_true _)
   have hy0:∀y,(y∈p\/∃f∈o.Pre,f.1=y)->0<=y:=λy hy=>by
    rcases hy with hy|⟨f,hf,rfl⟩
    ·exact(hp.mem hy).1
    ·exact(Zsr _ _ (by omega) oo.pre f hf).1
   have hca:∀y,(y∈p\/∃f∈o.Pre,f.1=y)->c[y.toNat]?=s[y.toNat]?:=λy hy=>by
    rw[<-ha y hy,<-hc]
    refine Zao6 t.Vars w.reverse l i y.toNat (λz hz e=>?_)
    have hz':=List.mem_reverse.1 hz
    have:=(Zxr hw z hz').1
    have:=hy0 y hy
    exact hdis y hy (by rw[show y=z from by omega];exact hz')
   by_cases hk:pfF t.Vars s w 0=i
   ·have hins:=Zaa1 hs (Zxr hw)
    have hbd:=Zop w 0 hins (Int.le_refl 0)
    have hg:=Zvy (s:=s) hd w.reverse l hnw (λy hy=>hins y (List.mem_reverse.1 hy)) (by rw[List.reverse_reverse];omega) hlen
    rw[List.reverse_reverse,hk]at hg
    have hcw:∀y∈w,c.getD y.toNat 0=s.getD y.toNat 0:=λy hy=>by
     have:=hg.2.1 y (List.mem_reverse.2 hy)
     rw[<-hc,gD_]
     show((w.reverse.foldl (putS t.Vars) (l,(i:Int))).1[y.toNat]?).getD 0=_
     rw[this]
     rfl
    refine q4 _ (List.mem_append_right _ (mI_.2 ?_))
    rw[<-hnx]
    refine Zakq t.Vars p 0 λy hy=>(Zahz ?_).symm
    refine Zs9 (λz hz=>(hp.mem hz).1) o.Effs c s (by omega) (λe he=>⟨(Zq0 hgood ho he).1,λhep=>Zz8 (by omega) e.When λf hf=>?_⟩) (λz hz=>hca z (.inl hz)) y hy
    by_cases h1:f.1∈p
    ·exact Zahz (hca _ (.inl h1))
    ·cases h2:o.Pre.any λg=>g.1 == f.1 with
     | true =>
      obtain⟨g,hg1,hg2⟩:=List.any_eq_true.1 h2
      exact Zahz (hca _ (.inr ⟨g,hg1,beq_iff_eq.1 hg2⟩))
     | false=>exact hcw _ ((hwm _).2 ⟨e,he,hep,f,hf,rfl,h1,h2⟩)
   ·exact q5 s hs hca (by show((i+1:Nat):Int)<=_;omega)
theorem Zamu {g:Nat}(hg:1000000<=g){j:Nat}{o:GOp}(hj:t.Ops[j]?=some o){w:List Int}(hw:Zyl t.Vars.length (-1) w=true)(hwl:w.length<=1000)(hwm:∀y,y∈w↔∃e∈o.Effs,e.Var∈p/\∃f∈e.When,f.1=y/\OutP o p y){a:Nat}(ha:a<Zb6 (szs t.Vars p)) :
  ∃L,Zew g t j p w a=some L/\L.length<=4096/\(∀y∈L,0<=y/\y<(Zb6 (szs t.Vars p):Int))/\∀s,Za6 t.Vars s=true->pfF t.Vars s p 0=a->Zay s o.Pre=true->pfF t.Vars (Zp8 s o) p 0∈L:=by
 have ho:=mG_ hj
 have ok:=Zn6 hgood
 have oo:=Zq1 hgood ho
 have h4:=hp.four
 have hwp:=Zac4 hd hw
 have hpp:=hp.few
 have hvl:=ok.len
 have hnm:Nm t.Vars p:=λy hy=>hp.mem hy
 have hpre:=Zkj ok.len oo.pre
 have hz:Za6 t.Vars (List.replicate t.Vars.length 0)=true:=Zth (List.length_replicate ..) λi hi=>by
  have hk:=hd _ (List.getElem_mem hi)
  rw[gD_,List.getElem?_replicate,if_pos hi,gD_,gE_ hi]
  show 0<=(0:Int)/\0<t.Vars[i]
  omega
 obtain⟨c,hc⟩:∃c,putV t.Vars p (List.replicate t.Vars.length 0) a=c:=⟨_,rfl⟩
 have hcs:Za6 t.Vars c=true:=by rw[<-hc];exact Ztf hd p.reverse _ a (λy hy=>hnm y (List.mem_reverse.1 hy)) (by omega) hz
 have hcl:=(Zcs hcs).len
 have hrng:FRng t.Vars o.Pre:=λf hf=>Zsr _ _ (by omega) oo.pre f hf
 have hput:Zzm t p (List.replicate t.Vars.length 0) (a:Int)=some c:=by rw[Zadz hd hnm (List.length_replicate ..),hc]
 have hstart:Zew g t j p w a=ob1 (Rg (Zgm p o) (Zis p o) o.Pre 0 c) (Zj9 (λv20=>ob2 (Zea t w) (λz40 _=>ob1 (Zch t p w o z40 ((z40).toNat+1) 0 v20 []) (λv298=>ob1 (Zwp v298) (λc556=>grd (c556.length=v298.length) (ob1 (Zhs g c556) (λz557=>grd (z557.length<=140737488355328) (some z557))))))) (λr21=>some r21)):=by
  rw[Zew,Zfv hj,lM_,Zan (by omega),Zan (by omega),Int.toNat_natCast,hput,Zac,Zan (by omega)]
  have e:=Zqs p o c (by omega)
  rw[lM_]at e ⊢
  rw[e]
 have agree:∀s,Za6 t.Vars s=true->pfF t.Vars s p 0=a->∀y∈p,c[y.toNat]?=s[y.toNat]?:=λs hs hk y hy=>by
  have hins:=hp.ins hs
  have hsl:=(Zcs hs).len
  have hg':=Zvy (s:=s) hd p.reverse (List.replicate t.Vars.length 0) (λy hy=>hnm y (List.mem_reverse.1 hy)) (λy hy=>hins y (List.mem_reverse.1 hy)) (by rw[List.reverse_reverse,hk];omega) (List.length_replicate ..)
  rw[List.reverse_reverse,hk]at hg'
  have:=hg'.2.1 y (List.mem_reverse.2 hy)
  obtain⟨y0,y1⟩:=hnm y hy
  rw[<-hc]
  refine Eq.trans this ?_
  rw[gE_ (by omega),gD_,gE_ (by omega)]
  rfl
 obtain⟨res,r1,r2,-⟩:=tgt1 (v:=t.Vars) (p:=p) (by omega) (λy hy=>(hp.mem hy).1) o c hcl o.Pre 0 c hrng hcs
 have track:∀s,Za6 t.Vars s=true->pfF t.Vars s p 0=a->Zay s o.Pre=true->∃l',res=.inl l'/\∀y,(y∈p\/∃f∈o.Pre,f.1=y)->l'[y.toNat]?=s[y.toNat]?:=λs hs hk hh=>by
  obtain⟨res',k1,-,k3⟩:=tgt1 (v:=t.Vars) (p:=p) (by omega) (λy hy=>(hp.mem hy).1) o s (Zcs hs).len o.Pre 0 c hrng hcs
  rw[r1]at k1
  cases k1
  obtain⟨l',m1,m2⟩:=k3 [] (λy hy=>by cases hy) (λy hy=>agree s hs hk y (hy.resolve_right (λh=>by cases h))) hh
  exact⟨l',m1,λy hy=>m2 y (hy.imp_right .inr)⟩
 rw[hstart,r1,Zac]
 rcases r2 with rfl|⟨l',rfl,hl'⟩
 ·rw[Ziz]
  exact⟨[],rfl,by decide,λy hy=>(by cases hy),λs hs hk hh=>by obtain⟨l',e,-⟩:=track s hs hk hh;cases e⟩
 ·obtain⟨out,q1,q2,q3,-,q5⟩:=tgt3 hgood hd hb hp ho hw hwl hwm ((Zb6 (szs t.Vars w):Nat):Int) (Zb6 (szs t.Vars w)) 0 l' [] (Nat.zero_add _) hl' (Nat.le_refl _) (λy hy=>by cases hy)
  have hsl:=Zot out
  obtain⟨r,c1,c2,c3⟩:=Zahk (l:=Zagu out) (g:=g) (by omega) (by omega)
  have e3:=Zqu t p w o ((Zb6 (szs t.Vars w):Nat):Int) l' [] (m:=Zb6 (szs t.Vars w)) rfl (by omega)
  rw[Zbv,Zxb hd (Zxr hw) (by omega) (by omega),Zc6,e3]
  rw[show((0:Nat):Int)=0 from rfl]at q1
  rw[q1,Zac,Zwp,Zan (by omega),Zac,Zan hsl,c1,Zac,Zan (by omega)]
  have hmem:∀y,y∈r↔y∈out:=λy=>by rw[c3,Zaa0]
  refine⟨r,rfl,by omega,λy hy=>q3 y ((hmem y).1 hy),λs hs hk hh=>(hmem _).2 ?_⟩
  obtain⟨l2,e,ha2⟩:=track s hs hk hh
  cases e
  exact q5 s hs ha2 (Zop w 0 (Zaa1 hs (Zxr hw)) (Int.le_refl 0)).1
end
end Go.Proofs.YtpfnmpdcneejbaaGreatDoor.Am
namespace Go.Proofs.YtpfnmpdcneejbaaGreatDoor.Am
set_option maxHeartbeats 16000000
set_option maxRecDepth 100000
open Go.RowKit
theorem Zaf8 : Zalf cx.P 96 "Push" 205:=⟨λv w=>by kernel_rfl⟩
theorem Zaaj : MethV cx.P 96 98 "Len" 47:=⟨λad w=>by kernel_rfl⟩
theorem Zso : MethV cx.P 96 98 "Less" 203:=⟨λad w=>by kernel_rfl⟩
theorem Zsp : MethV cx.P 96 98 "Swap" 206:=⟨λad w=>by kernel_rfl⟩
theorem Zah9 : Zalf cx.P 96 "Pop" 204:=⟨λv w=>by kernel_rfl⟩
def Zep (a0:List Za1)(a1:Za1):Option (List Za1):=grd ((a0.length+1)*16<=140737488355328) (some (a0++[a1]))
theorem Zoc (a0:List Za1)(a1:Za1){r1:List Za1}(h:Zep a0 a1=some r1):Zc8 cx 205 [.ptr 22 0 0 0,.ifc 101 (.agg [.c (.int .i64 a1.dist),.c (.int .i64 a1.state)])] [(22,⟨98,1,true,[[.own 0 0 0 a0.length]]⟩),(0,⟨101,2,false,a0.map Za3⟩)] [22] (.tup []) [(22,⟨98,1,true,[[.own 0 0 0 r1.length]]⟩),(0,⟨101,2,false,r1.map Za3⟩)]:=by
 refine Zc4 24 Tryz.func205 rfl (by decide) rfl (bT4 rfl) rfl rfl ?_;intro _;unfold Zep at h;refine aSR λ_=>?_;refine⟨_,Zsm rfl (bT4 rfl) rfl (λ_ _=>by kernel_rfl),?_⟩;intro _;refine dr (aSR λ_=>dr (aCd λ_=>Zll (aRg λ_=>?_)));obtain⟨q1,h⟩:=Zaf h;refine pl (pl ?_);refine And.intro (by first|with_reducible assumption|(show(a0.length+1)*16<=140737488355328;with_reducible assumption)|omega|(simp;omega)) ?_;refine pe (dr λ_=>?_);obtain rfl:=inj1 h;all_goals (refine Exists.intro [(0,0)] (And.intro rfl (And.intro ?_ ?_)));all_goals (exact gz3)
def Zbs (a0:List Za1):Option (Int×(List Za1)):=some (((a0.length:Nat):Int),a0)
theorem Zha (a0:List Za1){r1:Int}{r2:List Za1}(h:Zbs a0=some (r1,r2)):Zc8 cx 47 [.own 5 0 0 a0.length] [(5,⟨101,2,false,a0.map Za3⟩)] [5] (.c (.int .i64 r1)) [(5,⟨101,2,false,r2.map Za3⟩)]:=by
 refine Zc4 6 Tryz.func47 rfl (by decide) rfl (bT4 rfl) rfl rfl ?_;intro _;unfold Zbs at h;refine aSR λ_=>dr (aSR λ_=>dr (aRt λ_=>?_));obtain⟨rfl,rfl⟩:=Zw6 h;all_goals (refine Exists.intro [] (And.intro rfl (And.intro ?_ ?_)));all_goals (exact gz3)
def Zbc (a0:List Za1)(a1:Int)(a2:Int):Option (Bool×(List Za1)):=ixn a0 ((a1).toNat) (λy1=>ixn a0 ((a2).toNat) (λy2=>grd (0<=a1) (grd (a1<((a0.length:Nat):Int)) (grd (0<=a2) (grd (a2<((a0.length:Nat):Int)) (some ((decide (y1.dist<y2.dist)),a0)))))))
theorem Zgr (a0:List Za1)(a1:Int)(a2:Int){r1:Bool}{r2:List Za1}(h:Zbc a0 a1 a2=some (r1,r2)):Zc8 cx 203 [.own 18 0 0 a0.length,.c (.int .i64 a1),.c (.int .i64 a2)] [(18,⟨101,2,false,a0.map Za3⟩)] [18] (.c (.bool r1)) [(18,⟨101,2,false,r2.map Za3⟩)]:=by
 refine Zc4 21 Tryz.func203 rfl (by decide) rfl (bT4 rfl) rfl rfl ?_;intro _;unfold Zbc at h;refine aSR λ_=>dr (aSR λ_=>?_);obtain⟨y1,w1,h⟩:=Zcm h;refine Exists.intro (Za3 y1) (And.intro (by first|exact Zad w1|(have w:=Zad (f:=Za3) w1;simpa [Za3,Value.cells] using w)) ?_);intro _;obtain⟨y2,w2,h⟩:=Zcm h;refine Exists.intro (Za3 y2) (And.intro (by first|exact Zad w2|(have w:=Zad (f:=Za3) w2;simpa [Za3,Value.cells] using w)) ?_);intro _;obtain⟨q3,h⟩:=Zaf h;obtain⟨q4,h⟩:=Zaf h;obtain⟨q5,h⟩:=Zaf h;obtain⟨q6,h⟩:=Zaf h;refine pr (pr (pr (pr (dr (aRt λ_=>?_)))));obtain⟨rfl,rfl⟩:=Zw6 h;all_goals (refine Exists.intro [] (And.intro rfl (And.intro ?_ ?_)));all_goals (exact gz3)
def Zb0 (a0:List Za1)(a1:Int)(a2:Int):Option (List Za1):=ixn a0 ((a2).toNat) (λy1=>ixn a0 ((a1).toNat) (λy2=>ixn a0 ((a1).toNat) (λ_=>ixn (a0.set ((a1).toNat) y1) ((a2).toNat) (λ_=>grd (0<=a2) (grd (a2<((a0.length:Nat):Int)) (grd (0<=a1) (grd (a1<((a0.length:Nat):Int)) (some ((a0.set ((a1).toNat) y1).set ((a2).toNat) y2)))))))))
theorem Zgs (a0:List Za1)(a1:Int)(a2:Int){r1:List Za1}(h:Zb0 a0 a1 a2=some r1):Zc8 cx 206 [.own 20 0 0 a0.length,.c (.int .i64 a1),.c (.int .i64 a2)] [(20,⟨101,2,false,a0.map Za3⟩)] [20] (.tup []) [(20,⟨101,2,false,r1.map Za3⟩)]:=by
 refine Zc4 23 Tryz.func206 rfl (by decide) rfl (bT4 rfl) rfl rfl ?_;intro _;unfold Zb0 at h;refine aRg λ_=>?_;obtain⟨y1,w1,h⟩:=Zcm h;refine Exists.intro (Za3 y1) (And.intro (by first|exact Zad w1|(have w:=Zad (f:=Za3) w1;simpa [Za3,Value.cells] using w)) ?_);intro _;obtain⟨y2,w2,h⟩:=Zcm h;refine Exists.intro (Za3 y2) (And.intro (by first|exact Zad w2|(have w:=Zad (f:=Za3) w2;simpa [Za3,Value.cells] using w)) ?_);intro _;obtain⟨y3,w3,h⟩:=Zcm h;refine Exists.intro (Za3 y3) (And.intro (by first|exact Zad w3|(have w:=Zad (f:=Za3) w3;simpa [Za3,Value.cells] using w)) ?_);intro _;obtain⟨y4,w4,h⟩:=Zcm h;refine Exists.intro (Za3 y4) (And.intro (by first|exact Zad w4|(have w:=Zad (f:=Za3) w4;simpa [Za3,Value.cells] using w)) ?_);intro _;obtain⟨q5,h⟩:=Zaf h;obtain⟨q6,h⟩:=Zaf h;obtain⟨q7,h⟩:=Zaf h;obtain⟨q8,h⟩:=Zaf h;refine pr (pr (pr (pr (pr (pr (pr (pr (dr λ_=>?_))))))));obtain rfl:=inj1 h;all_goals (refine Exists.intro [] (And.intro rfl (And.intro ?_ ?_)));all_goals (exact gz3)
def Zb1 : Nat->Int->(List Za1)->Option (List Za1)|0,_,_=>none|k11+1,v9,v10=>grd (2≠0) (sel ((IntKind.i64.wrap ((IntKind.i64.wrap (v9-1)).tdiv 2)) == v9) (some v10) (ob2 (Zbc v10 v9 (IntKind.i64.wrap ((IntKind.i64.wrap (v9-1)).tdiv 2))) (λz12 c13=>grd (c13.length=v10.length) (sel (!z12) (some c13) (ob1 (Zb0 c13 (IntKind.i64.wrap ((IntKind.i64.wrap (v9-1)).tdiv 2)) v9) (λc14=>grd (c14.length=v10.length) (Zb1 k11 (IntKind.i64.wrap ((IntKind.i64.wrap (v9-1)).tdiv 2)) c14)))))))
def Zhj (g:Nat)(a0:List Za1)(a1:Int):Option (List Za1):=Zb1 g a1 a0
theorem Ztn (g:Nat)(a0:List Za1)(a1:Int){r1:List Za1}(h:Zhj g a0 a1=some r1):Zc8 cx 75 [.ifc 96 (.ptr 25 0 0 0),.c (.int .i64 a1)] [(25,⟨98,1,true,[[.own 26 0 0 a0.length]]⟩),(26,⟨101,2,false,a0.map Za3⟩)] [25,26] (.tup []) [(25,⟨98,1,true,[[.own 26 0 0 r1.length]]⟩),(26,⟨101,2,false,r1.map Za3⟩)]:=by
 refine Zc4 27 Tryz.func75 rfl (by decide) rfl (bT4 rfl) rfl rfl ?_;intro _;unfold Zhj at h;refine aBk ?_;refine Zaj (α:=Nat×Int×(List Za1)) (λx=>mkG 23 27 [(0,.ifc 96 (.ptr 25 0 0 0)),(1,.c (.int .i64 x.2.1))] [(25,⟨98,1,true,[[.own 26 0 0 x.2.2.length]]⟩),(26,⟨101,2,false,x.2.2.map Za3⟩)]) (λx=>Zb1 x.1 x.2.1 x.2.2=some r1) (λx=>x.1) (g,a1,a0) h ?_ ?_
 ·exact Zas
 ·intro x1 h;intro _;obtain⟨k11,m2,h⟩:=Zak (f:=λn=>Zb1 n x1.2.1 x1.2.2) rfl h;replace h:Zb1 (k11+1) x1.2.1 x1.2.2=some r1:=h;rw[Zb1]at h;refine aBk (aSR λ_=>?_);obtain⟨q3,h⟩:=Zaf h;refine⟨rfl,(pr (dr (aSq (aSR λ_=>?_))))⟩;refine spf h (λc4 h=>?_) (λc4 h=>?_)
  ·intro _;obtain⟨z12,c13,u5,h⟩:=Zdv h;refine cliv [(18,26)] [] [] [(26,⟨0,some ⟨101,2,false,c13.map Za3⟩⟩)] (.c (.bool z12)) rfl rfl rfl (bT4 rfl) rfl rfl Zso (Zbz 98 _ rfl) (λ_=>rfl) (bT4 rfl) rfl (Zgr x1.2.2 x1.2.1 (IntKind.i64.wrap ((IntKind.i64.wrap (x1.2.1-1)).tdiv 2)) u5) ?_;obtain⟨q6,h⟩:=Zaf h;intro _;refine dr (aCd λ_=>?_);refine spl h (λc7 h=>?_) (λc7 h=>?_)
   ·refine aEx λ_=>?_;obtain rfl:=inj1 h;all_goals (refine Exists.intro [] (And.intro rfl (And.intro ?_ ?_)));all_goals (exact gz3)
   ·refine aSk (aSR λ_=>?_);obtain⟨c14,u8,h⟩:=Zae h;refine cliv [(20,26)] [] [] [(26,⟨0,some ⟨101,2,false,c14.map Za3⟩⟩)] (.tup []) rfl rfl rfl (bT4 rfl) rfl rfl Zsp (Zbz 98 _ rfl) (λ_=>rfl) (bT4 rfl) rfl (Zgs c13 (IntKind.i64.wrap ((IntKind.i64.wrap (x1.2.1-1)).tdiv 2)) x1.2.1 u8) ?_;obtain⟨q9,h⟩:=Zaf h;intro _;refine dr (aRg λ_=>dr ⟨(k11,(IntKind.i64.wrap ((IntKind.i64.wrap (x1.2.1-1)).tdiv 2)),c14),h,ltS m2,?_⟩);exact Zas
  ·intro _;refine dr (aCd λ_=>Zll (aEx λ_=>?_));obtain rfl:=inj1 h;all_goals (refine Exists.intro [] (And.intro rfl (And.intro ?_ ?_)));all_goals (exact gz3)
def Zcb (g:Nat)(a0:List Za1)(a1:Za1):Option (List Za1):=ob1 (Zep a0 a1) (λc1=>ob2 (Zbs c1) (λz2 c3=>grd (c3.length=c1.length) (ob1 (Zhj g c3 (IntKind.i64.wrap (z2-1))) (λc4=>some c4))))
theorem Zlo (g:Nat)(a0:List Za1)(a1:Za1){r1:List Za1}(h:Zcb g a0 a1=some r1):Zc8 cx 46 [.ifc 96 (.ptr 14 0 0 0),.ifc 101 (.agg [.c (.int .i64 a1.dist),.c (.int .i64 a1.state)])] [(14,⟨98,1,true,[[.own 0 0 0 a0.length]]⟩),(0,⟨101,2,false,a0.map Za3⟩)] [14] (.tup []) [(14,⟨98,1,true,[[.own 0 0 0 r1.length]]⟩),(0,⟨101,2,false,r1.map Za3⟩)]:=by
 refine Zc4 16 Tryz.func46 rfl (by decide) rfl (bT4 rfl) rfl rfl ?_;intro _;unfold Zcb at h;refine aSR λ_=>?_;obtain⟨c1,u1,h⟩:=Zae h;refine clip [(22,14),(0,0)] [] [(0,⟨1,none⟩)] [(14,⟨0,some ⟨98,1,true,[[.own 0 2 0 c1.length]]⟩⟩),(0,⟨2,some ⟨101,2,false,c1.map Za3⟩⟩)] (.tup []) rfl rfl rfl Zaf8 (Zoc a0 a1 u1) λ_=>dr (aRg λ_=>?_);obtain⟨z2,c3,u2,h⟩:=Zdv h;refine cliv [(5,0)] [] [] [(0,⟨2,some ⟨101,2,false,c3.map Za3⟩⟩)] (.c (.int .i64 z2)) rfl rfl rfl (bT4 rfl) rfl rfl Zaaj (Zbz 98 _ rfl) (λ_=>rfl) (bT4 rfl) rfl (Zha c1 u2) ?_;obtain⟨q3,h⟩:=Zaf h;intro _;obtain⟨c4,u4,h⟩:=Zae h;refine clg [(25,14),(26,0)] [] [] [(14,⟨0,some ⟨98,1,true,[[.own 0 2 0 c4.length]]⟩⟩),(0,⟨2,some ⟨101,2,false,c4.map Za3⟩⟩)] (.tup []) rfl rfl (Ztn g c3 (IntKind.i64.wrap (z2-1)) u4) λ_=>dr λ_=>?_;obtain rfl:=inj1 h;all_goals (refine Exists.intro [(0,0)] (And.intro rfl (And.intro ?_ ?_)));all_goals (exact gz3)
def Zbr (a1:Int)(a2:Int):Nat->Int->(List Za1)->Option (Bool×(List Za1))|0,_,_=>none|k27+1,v25,v26=>ob1 (sel (decide ((IntKind.i64.wrap ((IntKind.i64.wrap (2*v25))+1))>=a2)) (some (.inr ())) (sel (decide ((IntKind.i64.wrap ((IntKind.i64.wrap (2*v25))+1))<0)) (some (.inr ())) (some (.inl ()))):Option (Unit⊕Unit)) (Zj9 (λ_=>ob1 (sel (decide ((IntKind.i64.wrap ((IntKind.i64.wrap ((IntKind.i64.wrap (2*v25))+1))+1))<a2)) (ob2 (Zbc v26 (IntKind.i64.wrap ((IntKind.i64.wrap ((IntKind.i64.wrap (2*v25))+1))+1)) (IntKind.i64.wrap ((IntKind.i64.wrap (2*v25))+1))) (λz34 c35=>grd (c35.length=v26.length) (sel z34 (some ((IntKind.i64.wrap ((IntKind.i64.wrap ((IntKind.i64.wrap (2*v25))+1))+1)),c35)) (some ((IntKind.i64.wrap ((IntKind.i64.wrap (2*v25))+1)),c35))))) (some ((IntKind.i64.wrap ((IntKind.i64.wrap (2*v25))+1)),v26)):Option (Int×(List Za1))) (λ(v31,v32)=>ob2 (Zbc v32 v31 v25) (λz36 c37=>grd (c37.length=v32.length) (sel (!z36) (some ((decide (v25>a1)),c37)) (ob1 (Zb0 c37 v25 v31) (λc38=>grd (c38.length=v32.length) (Zbr a1 a2 k27 v31 c38))))))) (λ_=>some ((decide (v25>a1)),v26)))
def Zgj (g:Nat)(a0:List Za1)(a1:Int)(a2:Int):Option (Bool×(List Za1)):=Zbr a1 a2 g a1 a0
theorem Zrj (g:Nat)(a0:List Za1)(a1:Int)(a2:Int){r1:Bool}{r2:List Za1}(h:Zgj g a0 a1 a2=some (r1,r2)):Zc8 cx 76 [.ifc 96 (.ptr 51 0 0 0),.c (.int .i64 a1),.c (.int .i64 a2)] [(51,⟨98,1,true,[[.own 52 0 0 a0.length]]⟩),(52,⟨101,2,false,a0.map Za3⟩)] [51,52] (.c (.bool r1)) [(51,⟨98,1,true,[[.own 52 0 0 r2.length]]⟩),(52,⟨101,2,false,r2.map Za3⟩)]:=by
 refine Zc4 53 Tryz.func76 rfl (by decide) rfl (bT4 rfl) rfl rfl ?_;intro _;unfold Zgj at h;refine aSR λ_=>dr (aSR λ_=>dr (aSq (aBk ?_)));refine Zaj (α:=Nat×Int×(List Za1)) (λx=>mkG 48 53 [(0,.ifc 96 (.ptr 51 0 0 0)),(1,.c (.int .i64 a1)),(2,.c (.int .i64 a2)),(7,.c (.int .i64 x.2.1))] [(51,⟨98,1,true,[[.own 52 0 0 x.2.2.length]]⟩),(52,⟨101,2,false,x.2.2.map Za3⟩)]) (λx=>Zbr a1 a2 x.1 x.2.1 x.2.2=some (r1,r2)) (λx=>x.1) (g,a1,a0) h ?_ ?_
 ·exact Zas
 ·intro x1 h;intro _;obtain⟨k27,m2,h⟩:=Zak (f:=λn=>Zbr a1 a2 n x1.2.1 x1.2.2) rfl h;replace h:Zbr a1 a2 (k27+1) x1.2.1 x1.2.2=some (r1,r2):=h;rw[Zbr]at h;refine aBk (aSR λ_=>dr ?_);obtain⟨o3,h,hK4⟩:=Zae h;refine Zat (α:=Unit) (λ_=>mkG 48 53 [(0,.ifc 96 (.ptr 51 0 0 0)),(1,.c (.int .i64 a1)),(2,.c (.int .i64 a2)),(7,.c (.int .i64 x1.2.1)),(8,.c (.int .i64 (IntKind.i64.wrap ((IntKind.i64.wrap (2*x1.2.1))+1)))),(19,.c (.int .i64 (IntKind.i64.wrap ((IntKind.i64.wrap (2*x1.2.1))+1)))),(20,.c (.bool (decide ((IntKind.i64.wrap ((IntKind.i64.wrap (2*x1.2.1))+1))<0))))] [(51,⟨98,1,true,[[.own 52 0 0 x1.2.2.length]]⟩),(52,⟨101,2,false,x1.2.2.map Za3⟩)]) (λv=>o3=(.inl v)) ?_ ?_
  ·refine aSR λ_=>?_;refine spf h (λc5 h=>?_) (λc5 h=>?_)
   ·intro _;refine dr (aCd λ_=>?_);refine spl h (λc6 h=>?_) (λc6 h=>?_)
    ·refine aEx ?_;have j7:=sI_ h;subst j7;replace h:=(Za4 hK4);refine aSR λ_=>dr (aRt λ_=>?_);obtain⟨rfl,rfl⟩:=Zw6 h;all_goals (refine Exists.intro [] (And.intro rfl (And.intro ?_ ?_)));all_goals (exact gz3)
    ·exact zz10
   ·intro _;refine dr (aCd λ_=>Zll (aEx ?_));have j8:=sI_ h;subst j8;replace h:=(Za4 hK4);refine aSR λ_=>dr (aRt λ_=>?_);obtain⟨rfl,rfl⟩:=Zw6 h;all_goals (refine Exists.intro [] (And.intro rfl (And.intro ?_ ?_)));all_goals (exact gz3)
  ·rintro _ ho;have ho:=ho.symm;subst ho;intro _;replace h:=(Zcx hK4);refine aSR λ_=>dr ?_;obtain⟨o9,h,hK10⟩:=Zae h;refine Zat (α:=Int×(List Za1)) (λ(v31,v32)=>mkG 48 53 [(0,.ifc 96 (.ptr 51 0 0 0)),(1,.c (.int .i64 a1)),(2,.c (.int .i64 a2)),(7,.c (.int .i64 x1.2.1)),(9,.c (.int .i64 v31)),(19,.c (.int .i64 (IntKind.i64.wrap ((IntKind.i64.wrap (2*x1.2.1))+1)))),(20,.c (.bool (decide ((IntKind.i64.wrap ((IntKind.i64.wrap (2*x1.2.1))+1))<0))))] [(51,⟨98,1,true,[[.own 52 0 0 v32.length]]⟩),(52,⟨101,2,false,v32.map Za3⟩)]) (λv=>o9=v) ?_ ?_
   ·refine aSR λ_=>dr (aSR λ_=>?_);refine spl h (λc11 h=>?_) (λc11 h=>?_)
    ·intro _;obtain⟨z34,c35,u12,h⟩:=Zdv h;refine cliv [(18,52)] [] [] [(52,⟨0,some ⟨101,2,false,c35.map Za3⟩⟩)] (.c (.bool z34)) rfl rfl rfl (bT4 rfl) rfl rfl Zso (Zbz 98 _ rfl) (λ_=>rfl) (bT4 rfl) rfl (Zgr x1.2.2 (IntKind.i64.wrap ((IntKind.i64.wrap ((IntKind.i64.wrap (2*x1.2.1))+1))+1)) (IntKind.i64.wrap ((IntKind.i64.wrap (2*x1.2.1))+1)) u12) ?_;obtain⟨q13,h⟩:=Zaf h;intro _;refine dr (aCd λ_=>?_);refine spl h (λc14 h=>?_) (λc14 h=>?_)
     ·refine aRg λ_=>dr ⟨((IntKind.i64.wrap ((IntKind.i64.wrap ((IntKind.i64.wrap (2*x1.2.1))+1))+1)),c35),(sI_ h).symm,?_⟩;exact Zas
     ·refine aSk ⟨((IntKind.i64.wrap ((IntKind.i64.wrap (2*x1.2.1))+1)),c35),(sI_ h).symm,?_⟩;exact Zas
    ·intro _;refine dr (aCd λ_=>Znf (aSk ⟨((IntKind.i64.wrap ((IntKind.i64.wrap (2*x1.2.1))+1)),x1.2.2),(sI_ h).symm,?_⟩));exact Zas
   ·rintro⟨v31,v32⟩ ho;have ho:=ho.symm;subst ho;intro _;replace h:=hK10;refine aSq (aSR λ_=>?_);obtain⟨z36,c37,u15,h⟩:=Zdv h;refine cliv [(18,52)] [] [] [(52,⟨0,some ⟨101,2,false,c37.map Za3⟩⟩)] (.c (.bool z36)) rfl rfl rfl (bT4 rfl) rfl rfl Zso (Zbz 98 _ rfl) (λ_=>rfl) (bT4 rfl) rfl (Zgr v32 v31 x1.2.1 u15) ?_;obtain⟨q16,h⟩:=Zaf h;intro _;refine dr (aCd λ_=>?_);refine spl h (λc17 h=>?_) (λc17 h=>?_)
    ·refine aEx (aSR λ_=>dr (aRt λ_=>?_));obtain⟨rfl,rfl⟩:=Zw6 h;all_goals (refine Exists.intro [] (And.intro rfl (And.intro ?_ ?_)));all_goals (exact gz3)
    ·refine aSk (aSR λ_=>?_);obtain⟨c38,u18,h⟩:=Zae h;refine cliv [(20,52)] [] [] [(52,⟨0,some ⟨101,2,false,c38.map Za3⟩⟩)] (.tup []) rfl rfl rfl (bT4 rfl) rfl rfl Zsp (Zbz 98 _ rfl) (λ_=>rfl) (bT4 rfl) rfl (Zgs c37 x1.2.1 v31 u18) ?_;obtain⟨q19,h⟩:=Zaf h;intro _;refine dr (aRg λ_=>dr ⟨(k27,v31,c38),h,ltS m2,?_⟩);exact Zas
def Ze4 (a0:List Za1):Option (Za1×(List Za1)):=ixn a0 (((IntKind.i64.wrap (((a0.length:Nat):Int)-1))).toNat) (λy1=>grd (0<=(IntKind.i64.wrap (((a0.length:Nat):Int)-1))) (grd ((IntKind.i64.wrap (((a0.length:Nat):Int)-1))<((a0.length:Nat):Int)) (grd ((IntKind.i64.wrap (((a0.length:Nat):Int)-1)).toNat<=a0.length) (some (y1,(a0.take ((IntKind.i64.wrap (((a0.length:Nat):Int)-1)).toNat)))))))
theorem Zow (a0:List Za1){r1:Za1}{r2:List Za1}(h:Ze4 a0=some (r1,r2)):Zc8 cx 204 [.ptr 26 0 0 0] [(26,⟨98,1,true,[[.own 0 0 0 a0.length]]⟩),(0,⟨101,2,false,a0.map Za3⟩)] [26] (.ifc 101 (.agg [.c (.int .i64 r1.dist),.c (.int .i64 r1.state)])) [(26,⟨98,1,true,[[.own 0 0 0 r2.length]]⟩),(0,⟨101,2,false,r2.map Za3⟩)]:=by
 refine Zc4 28 Tryz.func204 rfl (by decide) rfl (bT4 rfl) rfl rfl ?_;intro _;unfold Ze4 at h;refine aSR λ_=>dr (aSR λ_=>dr (aSR λ_=>?_));obtain⟨y1,w1,h⟩:=Zcm h;refine Exists.intro (Za3 y1) (And.intro (by first|exact Zad w1|(have w:=Zad (f:=Za3) w1;simpa [Za3,Value.cells] using w)) ?_);intro _;obtain⟨q2,h⟩:=Zaf h;obtain⟨q3,h⟩:=Zaf h;refine pr (pr (dr (aSR λ_=>?_)));obtain⟨q4,h⟩:=Zaf h;refine pr (pr (pr (dr (aSR λ_=>dr (aRt λ_=>?_)))));obtain⟨rfl,rfl⟩:=Zw6 h;all_goals (refine Exists.intro [(0,0)] (And.intro rfl (And.intro ?_ ?_)));all_goals (exact gz3)
def Ze9 (g:Nat)(a0:List Za1):Option (Za1×(List Za1)):=ob2 (Zbs a0) (λz1 c2=>grd (c2.length=a0.length) (ob1 (Zb0 c2 0 (IntKind.i64.wrap (z1-1))) (λc3=>grd (c3.length=a0.length) (ob2 (Zgj g c3 0 (IntKind.i64.wrap (z1-1))) (λ_ c5=>ob2 (Ze4 c5) (λz6 c7=>some (z6,c7)))))))
theorem Zrq (g:Nat)(a0:List Za1){r1:Za1}{r2:List Za1}(h:Ze9 g a0=some (r1,r2)):Zc8 cx 48 [.ifc 96 (.ptr 16 0 0 0)] [(16,⟨98,1,true,[[.own 0 0 0 a0.length]]⟩),(0,⟨101,2,false,a0.map Za3⟩)] [16] (.ifc 101 (.agg [.c (.int .i64 r1.dist),.c (.int .i64 r1.state)])) [(16,⟨98,1,true,[[.own 0 0 0 r2.length]]⟩),(0,⟨101,2,false,r2.map Za3⟩)]:=by
 refine Zc4 18 Tryz.func48 rfl (by decide) rfl (bT4 rfl) rfl rfl ?_;intro _;unfold Ze9 at h;refine aSR λ_=>dr (aSR λ_=>?_);obtain⟨z1,c2,u1,h⟩:=Zdv h;refine cliv [(5,0)] [] [] [(0,⟨0,some ⟨101,2,false,c2.map Za3⟩⟩)] (.c (.int .i64 z1)) rfl rfl rfl (bT4 rfl) rfl rfl Zaaj (Zbz 98 _ rfl) (λ_=>rfl) (bT4 rfl) rfl (Zha a0 u1) ?_;obtain⟨q2,h⟩:=Zaf h;intro _;refine dr (aSR λ_=>?_);obtain⟨c3,u3,h⟩:=Zae h;refine cliv [(20,0)] [] [] [(0,⟨0,some ⟨101,2,false,c3.map Za3⟩⟩)] (.tup []) rfl rfl rfl (bT4 rfl) rfl rfl Zsp (Zbz 98 _ rfl) (λ_=>rfl) (bT4 rfl) rfl (Zgs c2 0 (IntKind.i64.wrap (z1-1)) u3) ?_;obtain⟨q4,h⟩:=Zaf h;intro _;refine dr (aSR λ_=>?_);obtain⟨z4,c5,u5,h⟩:=Zdv h;refine clg [(51,16),(52,0)] [] [] [(16,⟨0,some ⟨98,1,true,[[.own 0 0 0 c5.length]]⟩⟩),(0,⟨0,some ⟨101,2,false,c5.map Za3⟩⟩)] (.c (.bool z4)) rfl rfl (Zrj g c3 0 (IntKind.i64.wrap (z1-1)) u5) λ_=>dr (aSR λ_=>?_);obtain⟨z6,c7,u6,h⟩:=Zdv h;refine clip [(26,16),(0,0)] [] [(0,⟨1,none⟩)] [(16,⟨0,some ⟨98,1,true,[[.own 0 2 0 c7.length]]⟩⟩),(0,⟨2,some ⟨101,2,false,c7.map Za3⟩⟩)] (.ifc 101 (.agg [.c (.int .i64 z6.dist),.c (.int .i64 z6.state)])) rfl rfl rfl Zah9 (Zow c5 u6) λ_=>dr (aRt λ_=>?_);obtain⟨rfl,rfl⟩:=Zw6 h;all_goals (refine Exists.intro [(0,0)] (And.intro rfl (And.intro ?_ ?_)));all_goals (exact gz3)
end Go.Proofs.YtpfnmpdcneejbaaGreatDoor.Am
namespace Go.Proofs.YtpfnmpdcneejbaaGreatDoor.Am
open Go.RowKit
def leE (a b:Za1):Prop:=a.dist<=b.dist
def ltE (a b:Za1):Bool:=decide (a.dist<b.dist)
theorem Zaol {a b c:Za1}(h1:leE a b)(h2:leE b c):leE a c:=by unfold leE at *;omega
theorem Zads (a:Za1):leE a a:=by unfold leE;omega
theorem Zaup {a b:Za1}(h:ltE a b=true):leE a b:=by
 unfold ltE at h;unfold leE
 simp only[decide_eq_true_iff]at h
 omega
theorem Zauo {a b:Za1}(h:ltE a b=false):leE b a:=by
 unfold ltE at h;unfold leE
 simp only[decide_eq_false_iff_not]at h
 omega
def Le2 (l:List Za1)(i j:Nat):Prop:=∀a b,l[i]?=some a->l[j]?=some b->leE a b
theorem Le2.trans {l:List Za1}{i j k:Nat}(h1:Le2 l i j)(h2:Le2 l j k)(hj:j<l.length):Le2 l i k:=λa c ha hc=>Zaol (h1 a _ ha (gE_ hj)) (h2 _ c (gE_ hj) hc)
theorem Zadt {l:List Za1}{i j:Nat}{a b:Za1}(hi:l[i]?=some a)(hj:l[j]?=some b):Zbc l i j=some (ltE a b,l):=by
 have h1:=(gS_.1 hi).1
 have h2:=(gS_.1 hj).1
 rw[Zbc,Int.toNat_natCast,Int.toNat_natCast]
 simp only[Zdp hi,Zdp hj,Zan (show(0:Int)<=(i:Int)by omega),Zan (show(i:Int)<((l.length:Nat):Int)by omega),Zan (show(0:Int)<=(j:Int)by omega),Zan (show(j:Int)<((l.length:Nat):Int)by omega)]
 rfl
def swp (l:List Za1)(i j:Nat)(a b:Za1):List Za1:=(l.set i b).set j a
def sg (i j k:Nat):Nat:=if k=i then j else if k=j then i else k
theorem Zxn {l:List Za1}{i j:Nat}{a b:Za1}(hi:l[i]?=some a)(hj:l[j]?=some b)(k:Nat):(swp l i j a b)[k]?=l[sg i j k]?:=by
 have h1:=(gS_.1 hi).1
 have h2:=(gS_.1 hj).1
 unfold swp sg
 rw[List.getElem?_set,List.getElem?_set,List.length_set]
 by_cases e1:k=i
 ·rw[if_pos e1]
  by_cases e2:j=k
  ·rw[if_pos e2,if_pos h2,e2,e1];exact hi.symm
  ·rw[if_neg e2,if_pos e1.symm,if_pos h1,hj]
 ·rw[if_neg e1]
  by_cases e2:k=j
  ·rw[if_pos e2,if_pos e2.symm,if_pos h2,hi]
  ·rw[if_neg e2,if_neg (λe=>e2 e.symm),if_neg (λe=>e1 e.symm)]
theorem Zko (l:List Za1)(i j:Nat)(a b:Za1):(swp l i j a b).length=l.length:=by unfold swp;rw[List.length_set,List.length_set]
theorem Zay8 (i j k:Nat):sg i j (sg i j k)=k:=by unfold sg;split <;> split <;> (try split) <;> omega
theorem Zaix {l:List Za1}{i j:Nat}{a b:Za1}(hi:l[i]?=some a)(hj:l[j]?=some b)(x:Za1):x∈swp l i j a b↔x∈l:=by
 rw[List.mem_iff_getElem?,List.mem_iff_getElem?]
 constructor
 ·rintro⟨k,hk⟩;rw[Zxn hi hj]at hk;exact⟨_,hk⟩
 ·rintro⟨k,hk⟩;exact⟨sg i j k,by rw[Zxn hi hj,Zay8];exact hk⟩
theorem Zagy {l:List Za1}{i j:Nat}{a b:Za1}(hi:l[i]?=some a)(hj:l[j]?=some b){p q:Nat}(h:Le2 l (sg i j p) (sg i j q)):Le2 (swp l i j a b) p q:=λx y hx hy=>h x y (by rw[<-Zxn hi hj];exact hx) (by rw[<-Zxn hi hj];exact hy)
theorem Zaiw {l:List Za1}{i j:Nat}{a b:Za1}(hi:l[i]?=some a)(hj:l[j]?=some b):Zb0 l i j=some (swp l i j a b):=by
 have h1:=(gS_.1 hi).1
 have h2:=(gS_.1 hj).1
 have h3:(l.set i b)[j]?=some ((l.set i b)[j]'(by rw[List.length_set];exact h2)):=gE_ _
 rw[Zb0,Int.toNat_natCast,Int.toNat_natCast,Zdp hj,Zdp hi,Zdp hi,Zdp h3,Zan (by omega),Zan (by omega),Zan (by omega),Zan (by omega)]
 rfl
def Heap (l:List Za1)(n:Nat):Prop:=∀i,0<i->i<n->Le2 l ((i-1) / 2) i
theorem Zap6 : ∀(f j:Nat)(l:List Za1),j<f->j<l.length->l.length<=4000000000000->(∀i,0<i->i<l.length->i≠j->Le2 l ((i-1) / 2) i)->(∀c,0<j->0<c->c<l.length->(c-1) / 2=j->Le2 l ((j-1) / 2) c) ->
  ∃l',Zb1 f j l=some l'/\Heap l' l'.length/\l'.length=l.length/\∀x,x∈l'↔x∈l
 | 0,j,l,h,_,_,_,_=>absurd h (Nat.not_lt_zero _)
 | f+1,j,l,hf,hj,hl,h1,h2=>by
  rw[Zb1,Zan (by decide),w64 (z:=(j:Int)-1) (by omega) (by omega)]
  by_cases h0:j=0
  ·subst h0
   rw[show IntKind.i64.wrap ((((0:Nat):Int)-1).tdiv 2)=0 from rfl,show((0:Int) == ((0:Nat):Int))=true from rfl,Zby]
   exact⟨l,rfl,λi hi hn=>h1 i hi hn (by omega),rfl,λ_=>Iff.rfl⟩
  ·have e1:((j:Int)-1).tdiv 2=(((j-1) / 2:Nat):Int):=by rw[Int.tdiv_eq_ediv_of_nonneg (by omega)];omega
   obtain⟨i,hi⟩:∃i,(j-1) / 2=i:=⟨_,rfl⟩
   rw[e1,hi,w64 (by omega) (by omega),show(((i:Nat):Int) == ((j:Nat):Int))=false from by rw[beq_eq_false_iff_ne];omega,Zbb]
   have hij:i<j:=by omega
   have gi:l[i]?=some l[i]:=gE_ (by omega)
   have gj:l[j]?=some l[j]:=gE_ hj
   rw[Zadt gj gi,Zc6,Zan rfl]
   cases hlt:ltE l[j] l[i]with
   | false =>
    rw[Bool.not_false,Zby]
    refine⟨l,rfl,λk hk hn=>?_,rfl,λ_=>Iff.rfl⟩
    by_cases hkj:k=j
    ·subst hkj
     rw[hi]
     intro a b ha hb
     rw[gi]at ha;rw[gj]at hb
     rw[<-sI_ ha,<-sI_ hb]
     exact Zauo hlt
    ·exact h1 k hk hn hkj
   | true =>
    have hji:Le2 l j i:=λa b ha hb=>by
     rw[gj]at ha;rw[gi]at hb
     rw[<-sI_ ha,<-sI_ hb]
     exact Zaup hlt
    rw[Bool.not_true,Zbb,Zaiw gi gj,Zac,Zan (Zko ..)]
    suffices hA:(∀k,0<k->k<(swp l i j l[i] l[j]).length->k≠i->Le2 (swp l i j l[i] l[j]) ((k-1) / 2) k)/\(∀c,0<i->0<c->c<(swp l i j l[i] l[j]).length->(c-1) / 2=i->Le2 (swp l i j l[i] l[j]) ((i-1) / 2) c)by
     obtain⟨l',q1,q2,q3,q4⟩:=Zap6 f i (swp l i j l[i] l[j]) (by omega) (by rw[Zko];omega) (by rw[Zko];exact hl) hA.1 hA.2
     exact⟨l',q1,q2,by rw[q3,Zko],λx=>(q4 x).trans (Zaix gi gj x)⟩
    refine⟨λk hk hn hki=>?_,λc hi0 hc hn hpc=>?_⟩
    ·rw[Zko]at hn
     refine Zagy gi gj ?_
     have s2:sg i j k=if k=j then i else k:=by unfold sg;rw[if_neg hki]
     by_cases hkj:k=j
     ·rw[s2,if_pos hkj,hkj,hi]
      have s1:sg i j i=j:=if_pos rfl
      rw[s1]
      exact hji
     ·rw[s2,if_neg hkj]
      by_cases hp1:(k-1) / 2=j
      ·have s1:sg i j ((k-1) / 2)=i:=by unfold sg;rw[if_neg (by omega),if_pos hp1]
       rw[s1,<-hi]
       exact h2 k (by omega) hk hn hp1
      ·by_cases hp2:(k-1) / 2=i
       ·have s1:sg i j ((k-1) / 2)=j:=by unfold sg;rw[if_pos hp2]
        rw[s1]
        exact hji.trans (by have:=h1 k hk hn hkj;rw[hp2]at this;exact this) (by omega)
       ·have s1:sg i j ((k-1) / 2)=(k-1) / 2:=by unfold sg;rw[if_neg hp2,if_neg hp1]
        rw[s1]
        exact h1 k hk hn hkj
    ·rw[Zko]at hn
     refine Zagy gi gj ?_
     have s1:sg i j ((i-1) / 2)=(i-1) / 2:=by unfold sg;rw[if_neg (by omega),if_neg (by omega)]
     have hpi:=h1 i hi0 (by omega) (by omega)
     rw[s1]
     by_cases hcj:c=j
     ·have s2:sg i j c=i:=by unfold sg;rw[if_neg (by omega),if_pos hcj]
      rw[s2]
      exact hpi
     ·have s2:sg i j c=c:=by unfold sg;rw[if_neg (by omega),if_neg hcj]
      rw[s2]
      exact hpi.trans (by have:=h1 c hc hn hcj;rw[hpc]at this;exact this) (by omega)
theorem Zao5 {g:Nat}{l:List Za1}(e:Za1)(hg:l.length<g)(hl:l.length<=3900000000000)(hh:Heap l l.length) :
  ∃l',Zcb g l e=some l'/\Heap l' l'.length/\l'.length=l.length+1/\∀x,x∈l'↔x∈l\/x=e:=by
 have hlen:(l++[e]).length=l.length+1:=by simp
 obtain⟨l',q1,q2,q3,q4⟩:=Zap6 g l.length (l++[e]) hg (by omega) (by omega) (λi hi hn hne a b ha hb=>by
  rw[List.getElem?_append_left (by omega)]at ha hb
  exact hh i hi (by omega) a b ha hb) (λc h0 hc hn hp=>by omega)
 rw[Zcb,Zep,Zan (by omega),Zac,Zbs,Zc6,Zan rfl,hlen,Zhj,w64 (by omega) (by omega),show((l.length+1:Nat):Int)-1=((l.length:Nat):Int)from by omega,q1,Zac]
 refine⟨l',rfl,q2,by rw[q3,hlen],λx=>?_⟩
 rw[q4,List.mem_append,mI_]
theorem Zafd (i0:Int)(n:Nat):∀(f i:Nat)(l:List Za1),n<=i+f->0<f->n<=l.length->l.length<=4000000000000->i<=l.length->(∀k,0<k->k<n->(k-1) / 2≠i->Le2 l ((k-1) / 2) k)->(∀c,0<i->0<c->c<n->(c-1) / 2=i->Le2 l ((i-1) / 2) c) ->
  ∃b l',Zbr i0 (n:Int) f i l=some (b,l')/\Heap l' n/\l'.length=l.length/\(∀x,x∈l'↔x∈l)/\∀k,n<=k->l'[k]?=l[k]?
 | 0,i,l,_,h,_,_,_,_,_=>absurd h (Nat.not_lt_zero _)
 | f+1,i,l,hf,_,hn,hl,hil,h1,h2=>by
  rw[Zbr,w64 (z:=2*(i:Int)) (by omega) (by omega),w64 (z:=2*(i:Int)+1) (by omega) (by omega),w64 (z:=2*(i:Int)+1+1) (by omega) (by omega),Zar,Zar]
  by_cases hend:2*(i:Int)+1>=(n:Int)
  ·rw[if_pos hend,Zac,Ziz]
   exact⟨_,l,rfl,λk hk hkn=>h1 k hk hkn (by omega),rfl,λ_=>Iff.rfl,λ_ _=>rfl⟩
  ·rw[if_neg hend,if_neg (by omega),Zac,Zbv]
   have g1:l[2*i+1]?=some l[2*i+1]:=gE_ (by omega)
   have gi:l[i]?=some l[i]:=gE_ (by omega)
   have hj:∃j:Nat,(j=2*i+1\/j=2*i+2)/\j<n/\(∀k,k<n->(k=2*i+1\/k=2*i+2)->Le2 l j k) /\
     (sel (decide (2*(i:Int)+1+1<(n:Int))) (ob2 (Zbc l (2*(i:Int)+1+1) (2*(i:Int)+1)) (λz34 c35=>grd (c35.length=l.length) (sel z34 (some ((2*(i:Int)+1+1),c35)) (some ((2*(i:Int)+1),c35))))) (some ((2*(i:Int)+1),l)):Option (Int×List Za1))=some ((j:Int),l):=by
    rw[Zar]
    by_cases h3:2*(i:Int)+1+1<(n:Int)
    ·have g2:l[2*i+2]?=some l[2*i+2]:=gE_ (by omega)
     rw[if_pos h3,show 2*(i:Int)+1+1=((2*i+2:Nat):Int)from by omega,show 2*(i:Int)+1=((2*i+1:Nat):Int)from by omega,Zadt g2 g1,Zc6,Zan rfl]
     have self:∀q,Le2 l q q:=λq a b ha hb=>by rw[ha]at hb;rw[sI_ hb];exact Zads _
     cases hlt:ltE l[2*i+2] l[2*i+1]with
     | true =>
      refine⟨2*i+2,.inr rfl,by omega,λk _ hk=>?_,rfl⟩
      rcases hk with rfl|rfl
      ·intro a b ha hb
       rw[g2]at ha;rw[g1]at hb
       rw[<-sI_ ha,<-sI_ hb]
       exact Zaup hlt
      ·exact self _
     | false =>
      refine⟨2*i+1,.inl rfl,by omega,λk _ hk=>?_,rfl⟩
      rcases hk with rfl|rfl
      ·exact self _
      ·intro a b ha hb
       rw[g1]at ha;rw[g2]at hb
       rw[<-sI_ ha,<-sI_ hb]
       exact Zauo hlt
    ·rw[if_neg h3]
     refine⟨2*i+1,.inl rfl,by omega,λk hk hk2=>?_,by rw[show 2*(i:Int)+1=((2*i+1:Nat):Int)from by omega]⟩
     rcases hk2 with rfl|rfl
     ·intro a b ha hb;rw[ha]at hb;rw[sI_ hb];exact Zads _
     ·omega
   obtain⟨j,hj1,hj2,hj3,hj4⟩:=hj
   have gj:l[j]?=some l[j]:=gE_ (by omega)
   rw[hj4,Zac]
   show ∃b l',ob2 (Zbc l (j:Int) (i:Int)) _=_/\_
   rw[Zadt gj gi,Zc6,Zan rfl]
   cases hlt:ltE l[j] l[i]with
   | false =>
    rw[Bool.not_false,Zby]
    refine⟨_,l,rfl,λk hk hkn=>?_,rfl,λ_=>Iff.rfl,λ_ _=>rfl⟩
    by_cases hp:(k-1) / 2=i
    ·rw[hp]
     refine Le2.trans (j:=j) (λa b ha hb=>?_) (hj3 k hkn (by omega)) (by omega)
     rw[gi]at ha;rw[gj]at hb
     rw[<-sI_ ha,<-sI_ hb]
     exact Zauo hlt
    ·exact h1 k hk hkn hp
   | true =>
    have hji:Le2 l j i:=λa b ha hb=>by
     rw[gj]at ha;rw[gi]at hb
     rw[<-sI_ ha,<-sI_ hb]
     exact Zaup hlt
    rw[Bool.not_true,Zbb,Zaiw gi gj,Zac,Zan (Zko ..)]
    have si:sg i j i=j:=if_pos rfl
    have sj:sg i j j=i:=by unfold sg;rw[if_neg (by omega),if_pos rfl]
    suffices hA:(∀k,0<k->k<n->(k-1) / 2≠j->Le2 (swp l i j l[i] l[j]) ((k-1) / 2) k)/\(∀c,0<j->0<c->c<n->(c-1) / 2=j->Le2 (swp l i j l[i] l[j]) ((j-1) / 2) c)by
     obtain⟨b,l',q1,q2,q3,q4,q5⟩:=Zafd i0 n f j (swp l i j l[i] l[j]) (by omega) (by omega) (by rw[Zko];exact hn) (by rw[Zko];exact hl) (by rw[Zko];omega) hA.1 hA.2
     exact⟨b,l',q1,q2,by rw[q3,Zko],λx=>(q4 x).trans (Zaix gi gj x),λk hk=>by rw[q5 k hk,Zxn gi gj,show sg i j k=k from by unfold sg;rw[if_neg (by omega),if_neg (by omega)]]⟩
    refine⟨λk hk hkn hp=>?_,λc _ hc hcn hp=>?_⟩
    ·refine Zagy gi gj ?_
     by_cases hkj:k=j
     ·rw[hkj,show(j-1) / 2=i from by omega,si,sj]
      exact hji
     ·by_cases hp2:(k-1) / 2=i
      ·rw[hp2,si,show sg i j k=k from by unfold sg;rw[if_neg (by omega),if_neg hkj]]
       exact hj3 k hkn (by omega)
      ·rw[show sg i j ((k-1) / 2)=(k-1) / 2 from by unfold sg;rw[if_neg hp2,if_neg hp]]
       by_cases hki:k=i
       ·rw[hki,si]
        exact h2 j (by omega) (by omega) hj2 (by omega)
       ·rw[show sg i j k=k from by unfold sg;rw[if_neg hki,if_neg hkj]]
        exact h1 k hk hkn hp2
    ·refine Zagy gi gj ?_
     rw[show(j-1) / 2=i from by omega,si,show sg i j c=c from by unfold sg;rw[if_neg (by omega),if_neg (by omega)]]
     have:=h1 c hc hcn (by omega)
     rw[hp]at this
     exact this
theorem Zaj5 {l:List Za1}{n:Nat}(h:Heap l n)(hn:n<=l.length):∀(i:Nat),i<n->Le2 l 0 i
 | i,hi=>by
  by_cases h0:i=0
  ·subst h0
   intro a b ha hb;rw[ha]at hb;rw[sI_ hb];exact Zads _
  ·exact(Zaj5 h hn ((i-1) / 2) (by omega)).trans (h i (by omega) hi) (by omega)
termination_by i => i
decreasing_by omega
theorem Zawt {g:Nat}{l:List Za1}(hne:0<l.length)(hg:l.length<g)(hl:l.length<=3900000000000)(hh:Heap l l.length) :
  ∃e l',Ze9 g l=some (e,l')/\Heap l' l'.length/\l'.length+1=l.length/\(∀x,x∈l↔x=e\/x∈l')/\∀x∈l,leE e x:=by
 have g0:l[0]?=some l[0]:=gE_ hne
 obtain⟨n,hn⟩:∃n,l.length=n+1:=⟨l.length-1,by omega⟩
 have gn:l[n]?=some l[n]:=gE_ (by omega)
 have hz:((l.length:Nat):Int)-1=(n:Int):=by omega
 obtain⟨b,c,q1,q2,q3,q4,q5⟩:=Zafd 0 n g 0 (swp l 0 n l[0] l[n]) (by omega) (by omega) (by rw[Zko];omega) (by rw[Zko];omega) (by omega) (λk hk hkn hp=>by
  refine Zagy g0 gn ?_
  rw[show sg 0 n ((k-1) / 2)=(k-1) / 2 from by unfold sg;rw[if_neg hp,if_neg (by omega)],show sg 0 n k=k from by unfold sg;rw[if_neg (by omega),if_neg (by omega)]]
  exact hh k hk (by omega)) (λc h0=>absurd h0 (by omega))
 have hlc:c.length=n+1:=by rw[q3,Zko,hn]
 have gc:c[n]?=some l[0]:=by
  rw[q5 n (Nat.le_refl _),Zxn g0 gn]
  unfold sg
  by_cases h0:n=0
  ·rw[if_pos h0,h0];exact g0
  ·rw[if_neg h0,if_pos rfl];exact g0
 have hcat:c=c.take n++[l[0]]:=by
  have h:=List.take_append_drop n c
  rw[List.drop_eq_getElem_cons (by omega),List.drop_of_length_le (by omega)]at h
  have hg2:=gE_ (show n<c.length by omega)
  rw[gc]at hg2
  rw[<-sI_ hg2]at h
  exact h.symm
 refine⟨l[0],c.take n,?_,λi hi hin a b ha hb=>?_,by rw[List.length_take];omega,λx=>?_,λx hx=>?_⟩
 ·rw[Ze9,Zbs,Zc6,Zan rfl,hz,w64 (by omega) (by omega),show(0:Int)=((0:Nat):Int)from rfl,Zaiw g0 gn,Zac,Zan (Zko ..),Zgj]
  rw[show((0:Nat):Int)=0 from rfl]at q1 ⊢
  rw[q1,Zc6,Ze4,hlc,show((n+1:Nat):Int)-1=(n:Int)from by omega,w64 (by omega) (by omega),Int.toNat_natCast,Zdp gc,Zan (by omega),Zan (by omega),Zan (by omega),Zc6]
 ·rw[List.length_take]at hin
  rw[List.getElem?_take,if_pos (by omega)]at ha hb
  exact q2 i hi (by omega) a b ha hb
 ·rw[<-Zaix g0 gn,<-q4]
  conv=>lhs;rw[hcat]
  rw[List.mem_append,mI_]
  exact Or.comm
 ·obtain⟨i,hi⟩:=List.mem_iff_getElem?.1 hx
  exact Zaj5 hh (Nat.le_refl _) i (gS_.1 hi).1 _ _ g0 hi
end Go.Proofs.YtpfnmpdcneejbaaGreatDoor.Am
