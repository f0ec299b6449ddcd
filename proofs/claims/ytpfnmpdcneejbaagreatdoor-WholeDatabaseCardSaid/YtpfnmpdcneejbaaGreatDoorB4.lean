/- Texts of the proof, part 4 of 8. -/
import Derived.Test.YtpfnmpdcneejbaaGreatDoorB2
import Derived.Test.YtpfnmpdcneejbaaGreatDoorB3
import Derived.Lib.SplitLaws
import Derived.Lib.IndexMore
set_option linter.unusedVariables false
set_option linter.unusedSectionVars false
set_option linter.unusedSimpArgs false
open List renaming getElem?_eq_getElem→gE_, length_map→lM_, length_append→lA_, mem_cons_of_mem→mC_, length_cons→lC_, mem_cons_self→mS_, mem_of_getElem?→mG_, getElem?_eq_some_iff→gS_, getD_eq_getElem?_getD→gD_, mem_singleton→mI_, take_of_length_le→tL_
open Option.some renaming inj→sI_
open Bool renaming and_eq_true→bA_
open Array renaming getD_eq_getD_getElem?→aD_, getElem?_eq_getElem→aE_
namespace Go.Proofs.YtpfnmpdcneejbaaGreatDoor.Am
theorem bT1 {n m:Nat}(h:Nat.ble n m=true):n<=m:=Nat.le_of_ble_eq_true h
set_option maxHeartbeats 16000000
set_option maxRecDepth 100000
open Go.RowKit
def Zci (y57:GOp):Nat->Int->(List (List Zaa))->Option (List (List Zaa))|0,_,_=>none|k64+1,v62,v63=>sel (decide (v62<((y57.Effs.map Zag).length:Int))) (ix y57.Effs v62 (λy65=>grd ((v63.length+1)*24<=140737488355328) (Zci y57 k64 (IntKind.i64.wrap (v62+1)) (v63++[y65.When])))) (some v63)
def Zbp (a0:Zah):Nat->Int->(List (List Zaa))->Option (List (List Zaa))|0,_,_=>none|k45+1,v43,v44=>sel (decide (v43<((a0.Ops.map Za0).length:Int))) (ob1 (ix a0.Ops v43 (λy57=>grd ((v44.length+1)*24<=140737488355328) (Zci y57 ((((y57.Effs.map Zag).length:Int)).toNat+1) 0 (v44++[y57.Pre]))):Option (List (List Zaa))) (λv55=>Zbp a0 k45 (IntKind.i64.wrap (v43+1)) v55)) (grd (v44.length<=140737488355328) (some v44))
def Zey (a0:Zah):Option (List (List Zaa)):=Zbp a0 ((((a0.Ops.map Za0).length:Int)).toNat+1) 0 [a0.Goal]
theorem zz4 {P:Prop}(w:P:=by intro _;obtain rfl:=inj1 h;exact Zas):P:=w
theorem Zph (a0:Zah){r1:List (List Zaa)}(h:Zey a0=some r1):ACall cx 35 [.agg [.sl 1 (a0.Vars.map cI),.sl 1 (a0.Init.map cI),.sl 2 (a0.Goal.map cF),.sl 4 (a0.Ops.map Za0)]] (.sl 1 (r1.map Zal)):=by
 refine aOf Tryz.func35 rfl (by decide) rfl (bT1 rfl) ?_;intro _;unfold Zey at h;refine aSR λ_=>dr (aSR λ_=>dr (aSq (aSR λ_=>dr (aBk ?_))));refine Zaj (α:=Nat×Int×(List (List Zaa))) (λx=>mkS 38 [(3,.own 10 0 0 x.2.2.length),(12,.sl 4 (a0.Ops.map Za0)),(13,.c (.int .i64 ((a0.Ops.map Za0).length:Int))),(14,.c (.int .i64 x.2.1))] [(10,⟨23,1,false,x.2.2.map Zal⟩)]) (λx=>Zbp a0 x.1 x.2.1 x.2.2=some r1) (λx=>x.1) ((((a0.Ops.map Za0).length:Int)).toNat+1,0,[a0.Goal]) h ?_ ?_
 ·exact Zas
 ·intro x1 h;intro _;obtain⟨k45,m2,h⟩:=Zak (f:=λn=>Zbp a0 n x1.2.1 x1.2.2) rfl h;replace h:Zbp a0 (k45+1) x1.2.1 x1.2.2=some r1:=h;rw[Zbp]at h;refine aSR λ_=>dr (aSq (aCd λ_=>?_));refine spl h (λc3 h=>?_) (λc3 h=>?_)
  ·refine aSk ?_;obtain⟨o4,h,hK5⟩:=Zae h;refine Zat (α:=List (List Zaa)) (λv55=>mkS 38 [(3,.own 10 0 0 v55.length),(12,.sl 4 (a0.Ops.map Za0)),(13,.c (.int .i64 ((a0.Ops.map Za0).length:Int))),(14,.c (.int .i64 x1.2.1))] [(10,⟨23,1,false,v55.map Zal⟩)]) (λv=>o4=v) ?_ ?_
   ·refine aBk (aSR λ_=>?_);obtain⟨y57,w6,q7,h⟩:=Za9 h;refine Exists.intro (Za0 y57) (And.intro (Zad w6) λ_=>pr (dr (aSR λ_=>?_)));obtain⟨q8,h⟩:=Zaf h;refine pl (pl ?_);refine And.intro (by first|with_reducible assumption|(show(x1.2.2.length+1)*24<=140737488355328;with_reducible assumption)|omega|(simp;omega)) ?_;refine pe (dr (aSR λ_=>dr (aBk ?_)));refine Zaj (α:=Nat×Int×(List (List Zaa))) (λx=>mkS 38 [(3,.own 10 0 0 x.2.2.length),(12,.sl 4 (a0.Ops.map Za0)),(13,.c (.int .i64 ((a0.Ops.map Za0).length:Int))),(14,.c (.int .i64 x1.2.1)),(24,.sl 3 (y57.Effs.map Zag)),(25,.c (.int .i64 ((y57.Effs.map Zag).length:Int))),(26,.c (.int .i64 x.2.1))] [(10,⟨23,1,false,x.2.2.map Zal⟩)]) (λx=>Zci y57 x.1 x.2.1 x.2.2=some o4) (λx=>x.1) ((((y57.Effs.map Zag).length:Int)).toNat+1,0,(x1.2.2++[y57.Pre])) h ?_ ?_
    ·exact Zas
    ·intro x9 h;intro _;obtain⟨k64,m10,h⟩:=Zak (f:=λn=>Zci y57 n x9.2.1 x9.2.2) rfl h;replace h:Zci y57 (k64+1) x9.2.1 x9.2.2=some o4:=h;rw[Zci]at h;refine aSR λ_=>dr (aSq (aCd λ_=>?_));refine spl h (λc11 h=>?_) (λc11 h=>?_)
     ·refine aSk (aSq (aBk (aSR λ_=>?_)));obtain⟨y65,w12,q13,h⟩:=Za9 h;refine Exists.intro (Zag y65) (And.intro (Zad w12) λ_=>pr (dr (aRg λ_=>?_)));obtain⟨q14,h⟩:=Zaf h;refine pl (pl ?_);refine And.intro (by first|with_reducible assumption|(show(x9.2.2.length+1)*24<=140737488355328;with_reducible assumption)|omega|(simp;omega)) ?_;refine pe (dr (aRg λ_=>dr ⟨(k64,(IntKind.i64.wrap (x9.2.1+1)),(x9.2.2++[y65.When])),h,ltS m10,?_⟩));exact Zas
     ·refine aEx ⟨x9.2.2,(sI_ h).symm,?_⟩;exact Zas
   ·rintro v55 ho;have ho:=ho.symm;subst ho;intro _;replace h:=hK5;refine aRg λ_=>dr ⟨(k45,(IntKind.i64.wrap (x1.2.1+1)),v55),h,ltS m2,?_⟩;exact Zas
  ·refine aEx (aSR λ_=>dr (aRt ?_));obtain⟨q15,h⟩:=Zaf h;exact zz4
def Zcr (a0:List (List Zaa))(a1:(List Zaa)->Option Bool):Nat->Int->Option (Int)|0,_=>none|k7+1,v6=>sel (decide (v6<((a0.map Zal).length:Int))) (ix a0 v6 (λy8=>ob1 (a1 y8) (λz9=>sel z9 (some v6) (Zcr a0 a1 k7 (IntKind.i64.wrap (v6+1)))))) (some (-1))
def Zg6 (a0:List (List Zaa))(a1:(List Zaa)->Option Bool):Option (Int):=Zcr a0 a1 ((((a0.map Zal).length:Int)).toNat+1) 0
theorem zz0 {P:Prop}(w:P:=by intro _;refine dr (aRt ?_);intro _;obtain rfl:=inj1 h;exact Zas):P:=w
theorem zz2 {P:Prop}(w:P:=by refine aSR ?_;exact zz0):P:=w
theorem zz9 {P:Prop}(w:P:=by refine aEx ?_;exact zz2):P:=w
theorem Zup (a0:List (List Zaa))(a1:(List Zaa)->Option Bool)(Fa1:AV)(hFa1:Fr Fa1)(ea1:∃f fs cap,Fa1=.clo (.func f) fs cap)(ha1:∀(x0:List Zaa)(y0:Bool),a1 x0=some y0->CCl cx Fa1 [.sl 2 (x0.map cF)] (.c (.bool y0))){r1:Int}(h:Zg6 a0 a1=some r1):ACall cx 90 [.sl 1 (a0.map Zal),Fa1] (.c (.int .i64 r1)):=by
 obtain⟨fa1,sa1,qa1,rfl⟩:=ea1;refine aOf Tryz.func90 rfl (by decide) rfl (bT1 rfl) ?_;intro _;unfold Zg6 at h;refine aSR λ_=>dr (aSq (aSR λ_=>dr (aBk ?_)));refine Zaj (α:=Nat×Int) (λx=>mkS 19 [(0,.sl 1 (a0.map Zal)),(1,.clo (.func fa1) sa1 qa1),(7,.c (.int .i64 ((a0.map Zal).length:Int))),(8,.c (.int .i64 x.2))] []) (λx=>Zcr a0 a1 x.1 x.2=some r1) (λx=>x.1) ((((a0.map Zal).length:Int)).toNat+1,0) h ?_ ?_
 ·exact Zas
 ·intro x1 h;intro _;obtain⟨k7,m2,h⟩:=Zak (f:=λn=>Zcr a0 a1 n x1.2) rfl h;replace h:Zcr a0 a1 (k7+1) x1.2=some r1:=h;rw[Zcr]at h;refine aSR λ_=>dr (aSq (aCd λ_=>?_));refine spl h (λc3 h=>?_) (λc3 h=>?_)
  ·refine aSk (aSq (aBk (aSR λ_=>dr (aSR λ_=>?_))));obtain⟨y8,w4,q5,h⟩:=Za9 h;refine Exists.intro (Zal y8) (And.intro (Zad w4) λ_=>?_);obtain⟨z9,u6,h⟩:=Zae h;refine clc rfl (ha1 _ _ u6) hFa1 λ_=>pr (dr (aCd λ_=>?_));refine spl h (λc7 h=>?_) (λc7 h=>?_)
   ·exact zz2
   ·refine aSk (aRg λ_=>dr ⟨(k7,(IntKind.i64.wrap (x1.2+1))),h,ltS m2,?_⟩);exact Zas
  ·exact zz9
def Zb3 (a0:List (List Zaa))(a1:(List Zaa)->Option Bool):Option (Bool):=ob1 (Zg6 a0 a1) (λz1=>some (decide (z1>=0)))
theorem Zi0 (a0:List (List Zaa))(a1:(List Zaa)->Option Bool)(Fa1:AV)(hFa1:Fr Fa1)(ea1:∃f fs cap,Fa1=.clo (.func f) fs cap)(ha1:∀(x0:List Zaa)(y0:Bool),a1 x0=some y0->CCl cx Fa1 [.sl 2 (x0.map cF)] (.c (.bool y0))){r1:Bool}(h:Zb3 a0 a1=some r1):ACall cx 68 [.sl 1 (a0.map Zal),Fa1] (.c (.bool r1)):=by
 obtain⟨fa1,sa1,qa1,rfl⟩:=ea1;refine aOf Tryz.func68 rfl (by decide) rfl (bT1 rfl) ?_;intro _;unfold Zb3 at h;refine aSR λ_=>dr (aSR λ_=>?_);obtain⟨z1,u1,h⟩:=Zae h;refine cl rfl (Zup a0 a1 (.clo (.func fa1) sa1 qa1) hFa1 ⟨_,_,_,rfl⟩ ha1 u1) ?_;exact zz0
def Zij (a0:List Zaa):Option (Bool):=some (decide (((a0.map cF).length:Int)>64))
theorem Zaa5 (a0:List Zaa){r1:Bool}(h:Zij a0=some r1):ACall cx 69 [.sl 2 (a0.map cF)] (.c (.bool r1)):=by
 refine aOf Tryz.func69 rfl (by decide) rfl (bT1 rfl) ?_;intro _;unfold Zij at h;refine aSR λ_=>dr ?_;exact zz2
def Zff (a0:Zah):Nat->Int->Option (Bool)|0,_=>none|k7+1,v6=>sel (decide (v6<((a0.Ops.map Za0).length:Int))) (ix a0.Ops v6 (λy8=>sel (decide (((y8.Effs.map Zag).length:Int)>64)) (some true) (Zff a0 k7 (IntKind.i64.wrap (v6+1))))) (ob1 (Zey a0) (λz9=>ob1 (Zb3 z9 Zij) (λz10=>some z10)))
def Zml (a0:Zah):Option (Bool):=ob1 (sel (decide (((a0.Vars.map cI).length:Int)>64)) (some (.inr true)) (sel (decide (((a0.Ops.map Za0).length:Int)>4096)) (some (.inr true)) (some (.inl ()))):Option (Unit⊕Bool)) (Zj9 (λ_=>Zff a0 ((((a0.Ops.map Za0).length:Int)).toNat+1) 0) (λr1=>some r1))
theorem Zaem (a0:Zah){r1:Bool}(h:Zml a0=some r1):ACall cx 34 [.agg [.sl 1 (a0.Vars.map cI),.sl 1 (a0.Init.map cI),.sl 2 (a0.Goal.map cF),.sl 4 (a0.Ops.map Za0)]] (.c (.bool r1)):=by
 refine aOf Tryz.func34 rfl (by decide) rfl (bT1 rfl) ?_;intro _;unfold Zml at h;refine aSR λ_=>dr ?_;obtain⟨o1,h,hK2⟩:=Zae h;refine Zat (α:=Unit) (λ_=>mkS 30 [(1,.ptr 1 0 0 0)] [(1,⟨26,4,true,[[.sl 1 (a0.Vars.map cI),.sl 1 (a0.Init.map cI),.sl 2 (a0.Goal.map cF),.sl 4 (a0.Ops.map Za0)]]⟩)]) (λv=>o1=(.inl v)) ?_ ?_
 ·refine aSR λ_=>?_;refine spf h (λc3 h=>?_) (λc3 h=>?_)
  ·intro _;refine dr (aCd λ_=>?_);refine spl h (λc4 h=>?_) (λc4 h=>?_)
   ·refine aSR λ_=>dr (aRt ?_);have j5:=sI_ h;subst j5;replace h:=(Za4 hK2);exact zz4
   ·exact zz10
  ·intro _;refine dr (aCd λ_=>Zll (aSR λ_=>dr (aRt ?_)));have j6:=sI_ h;subst j6;replace h:=(Za4 hK2);exact zz4
 ·rintro _ ho;have ho:=ho.symm;subst ho;intro _;replace h:=(Zcx hK2);refine aSq (aSR λ_=>dr (aBk ?_));refine Zaj (α:=Nat×Int) (λx=>mkS 30 [(1,.ptr 1 0 0 0),(16,.sl 4 (a0.Ops.map Za0)),(17,.c (.int .i64 ((a0.Ops.map Za0).length:Int))),(18,.c (.int .i64 x.2))] [(1,⟨26,4,true,[[.sl 1 (a0.Vars.map cI),.sl 1 (a0.Init.map cI),.sl 2 (a0.Goal.map cF),.sl 4 (a0.Ops.map Za0)]]⟩)]) (λx=>Zff a0 x.1 x.2=some r1) (λx=>x.1) ((((a0.Ops.map Za0).length:Int)).toNat+1,0) h ?_ ?_
  ·exact Zas
  ·intro x7 h;intro _;obtain⟨k7,m8,h⟩:=Zak (f:=λn=>Zff a0 n x7.2) rfl h;replace h:Zff a0 (k7+1) x7.2=some r1:=h;rw[Zff]at h;refine aSR λ_=>dr (aSq (aCd λ_=>?_));refine spl h (λc9 h=>?_) (λc9 h=>?_)
   ·refine aSk (aSq (aBk (aSR λ_=>?_)));obtain⟨y8,w10,q11,h⟩:=Za9 h;refine Exists.intro (Za0 y8) (And.intro (Zad w10) λ_=>pr (dr (aSR λ_=>dr (aCd λ_=>?_))));refine spl h (λc12 h=>?_) (λc12 h=>?_)
    ·exact zz2
    ·refine aSk (aRg λ_=>dr ⟨(k7,(IntKind.i64.wrap (x7.2+1))),h,ltS m8,?_⟩);exact Zas
   ·refine aEx (aSR λ_=>?_);obtain⟨z9,u13,h⟩:=Zae h;refine cl rfl (Zph a0 u13) λ_=>?_;obtain⟨z10,u14,h⟩:=Zae h;refine clb [] rfl rfl (Zi0 z9 Zij (.clo (.func 69) [] []) (Fr.clo Zd2 FrE.h) ⟨_,_,_,rfl⟩ (λx0 y0 hx=>⟨69,[],_,rfl,Zaa5 x0 hx⟩) u14) ?_;exact zz0
def Zek (a0:List Int)(a1:List Int):Nat->Int->Option (Bool)|0,_=>none|k7+1,v6=>sel (decide (v6<((a1.map cI).length:Int))) (ix a1 v6 (λy8=>sel (decide (y8<0)) (some false) (ix a0 v6 (λy9=>sel (decide (y8>=y9)) (some false) (Zek a0 a1 k7 (IntKind.i64.wrap (v6+1))))))) (some true)
def Zjw (a0:List Int)(a1:List Int):Option (Bool):=sel (((a1.map cI).length:Int) != ((a0.map cI).length:Int)) (some false) (Zek a0 a1 ((((a1.map cI).length:Int)).toNat+1) 0)
theorem zz5 {P:Prop}(w:P:=by intro _;refine dr (aCd ?_);intro _;refine Zll ?_;exact zz2):P:=w
theorem Zuq (a0:List Int)(a1:List Int){r1:Bool}(h:Zjw a0 a1=some r1):ACall cx 23 [.sl 1 (a0.map cI),.sl 1 (a1.map cI)] (.c (.bool r1)):=by
 refine aOf Tryz.func23 rfl (by decide) rfl (bT1 rfl) ?_;intro _;unfold Zjw at h;refine aSR λ_=>dr (aSq (aSR λ_=>dr (aCd λ_=>?_)));refine spl h (λc1 h=>?_) (λc1 h=>?_)
 ·exact zz2
 ·refine aSk (aSq (aSR λ_=>dr (aBk ?_)));refine Zaj (α:=Nat×Int) (λx=>mkS 30 [(0,.sl 1 (a0.map cI)),(12,.sl 1 (a1.map cI)),(13,.c (.int .i64 ((a1.map cI).length:Int))),(14,.c (.int .i64 x.2))] []) (λx=>Zek a0 a1 x.1 x.2=some r1) (λx=>x.1) ((((a1.map cI).length:Int)).toNat+1,0) h ?_ ?_
  ·exact Zas
  ·intro x2 h;intro _;obtain⟨k7,m3,h⟩:=Zak (f:=λn=>Zek a0 a1 n x2.2) rfl h;replace h:Zek a0 a1 (k7+1) x2.2=some r1:=h;rw[Zek]at h;refine aSR λ_=>dr (aSq (aCd λ_=>?_));refine spl h (λc4 h=>?_) (λc4 h=>?_)
   ·refine aSk (aSq (aBk (aSR λ_=>?_)));obtain⟨y8,w5,q6,h⟩:=Za9 h;refine Exists.intro (cI y8) (And.intro (Zad w5) λ_=>pr (dr (aSR λ_=>?_)));refine spf h (λc7 h=>?_) (λc7 h=>?_)
    ·intro _;obtain⟨y9,w8,q9,h⟩:=Za9 h;refine Exists.intro (cI y9) (And.intro (Zad w8) λ_=>pr (dr (aCd λ_=>?_)));refine spl h (λc10 h=>?_) (λc10 h=>?_)
     ·exact zz2
     ·refine aSk (aRg λ_=>dr ⟨(k7,(IntKind.i64.wrap (x2.2+1))),h,ltS m3,?_⟩);exact Zas
    ·exact zz5
   ·exact zz9
def Zfd (a0:List Int)(a1:List Zaa):Nat->Int->Int->Option (Bool)|0,_,_=>none|k9+1,v7,v8=>sel (decide (v8<((a1.map cF).length:Int))) (ix a1 v8 (λy10=>sel (decide (y10.1<=v7)) (some false) (sel (decide (y10.1>=((a0.map cI).length:Int))) (some false) (sel (decide (y10.2<0)) (some false) (ix a0 y10.1 (λy11=>sel (decide (y10.2>=y11)) (some false) (Zfd a0 a1 k9 y10.1 (IntKind.i64.wrap (v8+1))))))))) (some true)
def Zdx (a0:List Int)(a1:List Zaa):Option (Bool):=Zfd a0 a1 ((((a1.map cF).length:Int)).toNat+1) (-1) 0
theorem Zkq (a0:List Int)(a1:List Zaa){r1:Bool}(h:Zdx a0 a1=some r1):ACall cx 36 [.sl 1 (a0.map cI),.sl 2 (a1.map cF)] (.c (.bool r1)):=by
 refine aOf Tryz.func36 rfl (by decide) rfl (bT1 rfl) ?_;intro _;unfold Zdx at h;refine aSR λ_=>dr (aSR λ_=>dr (aSq (aSR λ_=>dr (aBk ?_))));refine Zaj (α:=Nat×Int×Int) (λx=>mkS 43 [(0,.sl 1 (a0.map cI)),(5,.c (.int .i64 x.2.1)),(8,.sl 2 (a1.map cF)),(9,.c (.int .i64 ((a1.map cF).length:Int))),(10,.c (.int .i64 x.2.2))] []) (λx=>Zfd a0 a1 x.1 x.2.1 x.2.2=some r1) (λx=>x.1) ((((a1.map cF).length:Int)).toNat+1,(-1),0) h ?_ ?_
 ·exact Zas
 ·intro x1 h;intro _;obtain⟨k9,m2,h⟩:=Zak (f:=λn=>Zfd a0 a1 n x1.2.1 x1.2.2) rfl h;replace h:Zfd a0 a1 (k9+1) x1.2.1 x1.2.2=some r1:=h;rw[Zfd]at h;refine aSR λ_=>dr (aSq (aCd λ_=>?_));refine spl h (λc3 h=>?_) (λc3 h=>?_)
  ·refine aSk (aSq (aBk (aSR λ_=>?_)));obtain⟨y10,w4,q5,h⟩:=Za9 h;refine Exists.intro (cF y10) (And.intro (Zad w4) λ_=>pr (dr (aSq (aSR λ_=>?_))));refine spf h (λc6 h=>?_) (λc6 h=>?_)
   ·intro _;refine spf h (λc7 h=>?_) (λc7 h=>?_)
    ·intro _;refine spf h (λc8 h=>?_) (λc8 h=>?_)
     ·intro _;obtain⟨y11,w9,q10,h⟩:=Za9 h;refine Exists.intro (cI y11) (And.intro (Zad w9) λ_=>pr (dr (aCd λ_=>?_)));refine spl h (λc11 h=>?_) (λc11 h=>?_)
      ·exact zz2
      ·refine aSk (aRg λ_=>dr (aRg λ_=>dr ⟨(k9,y10.1,(IntKind.i64.wrap (x1.2.2+1))),h,ltS m2,?_⟩));exact Zas
     ·exact zz5
    ·exact zz5
   ·exact zz5
  ·exact zz9
def Zfg (a0:ByteArray):Nat->Int->Option (Bool)|0,_=>none|k3+1,v2=>sel (decide (v2<(a0.size:Int))) (sel (decide ((byt a0 v2)<32)) (grd (0<=v2) (grd (v2<(a0.size:Int)) (some false))) (grd (0<=v2) (grd (v2<(a0.size:Int)) (sel (decide ((byt a0 v2)>126)) (some false) (Zfg a0 k3 (IntKind.i64.wrap (v2+1))))))) (some (decide ((a0.size:Int)<=256)))
def Zku (a0:ByteArray):Option (Bool):=Zfg a0 (((a0.size:Int)).toNat+1) 0
theorem Zaen (a0:ByteArray){r1:Bool}(h:Zku a0=some r1):ACall cx 37 [.c (.string a0)] (.c (.bool r1)):=by
 refine aOf Tryz.func37 rfl (by decide) rfl (bT1 rfl) ?_;intro _;unfold Zku at h;refine aSR λ_=>dr (aSq (aSR λ_=>dr (aBk ?_)));refine Zaj (α:=Nat×Int) (λx=>mkS 23 [(0,.c (.string a0)),(5,.c (.int .i64 (a0.size:Int))),(6,.c (.int .i64 x.2))] []) (λx=>Zfg a0 x.1 x.2=some r1) (λx=>x.1) (((a0.size:Int)).toNat+1,0) h ?_ ?_
 ·exact Zas
 ·intro x1 h;intro _;obtain⟨k3,m2,h⟩:=Zak (f:=λn=>Zfg a0 n x1.2) rfl h;replace h:Zfg a0 (k3+1) x1.2=some r1:=h;rw[Zfg]at h;refine aSR λ_=>dr (aSq (aCd λ_=>?_));refine spl h (λc3 h=>?_) (λc3 h=>?_)
  ·refine aSk (aSq (aBk (aSR λ_=>dr (aSR λ_=>?_))));refine spf h (λc4 h=>?_) (λc4 h=>?_)
   ·intro _;obtain⟨q5,h⟩:=Zaf h;obtain⟨q6,h⟩:=Zaf h;refine pr (pr (pr (pr (dr (aCd λ_=>?_)))));refine spl h (λc7 h=>?_) (λc7 h=>?_)
    ·exact zz2
    ·refine aSk (aRg λ_=>dr ⟨(k3,(IntKind.i64.wrap (x1.2+1))),h,ltS m2,?_⟩);exact Zas
   ·intro _;obtain⟨q8,h⟩:=Zaf h;obtain⟨q9,h⟩:=Zaf h;refine pr (pr (dr (aCd λ_=>Zll ?_)));exact zz2
  ·exact zz9
def Zeb (a0:Zah):Nat->Int->Option (Unit⊕Er)|0,_=>none|k14+1,v13=>sel (decide (v13<((a0.Vars.map cI).length:Int))) (ix a0.Vars v13 (λy15=>sel (decide (y15<1)) (some (.inr (Er.no 1))) (sel (decide (y15>64)) (some (.inr (Er.no 1))) (Zeb a0 k14 (IntKind.i64.wrap (v13+1)))))) (some (.inl ()))
def Zec (a0:Zah):Nat->Int->Option (Unit⊕Er)|0,_=>none|k28+1,v27=>sel (decide (v27<((a0.Ops.map Za0).length:Int))) (ix a0.Ops v27 (λy29=>sel (decide (y29.Cost<0)) (some (.inr (Er.no 1))) (sel (decide (y29.Cost>1048576)) (some (.inr (Er.no 1))) (Zec a0 k28 (IntKind.i64.wrap (v27+1)))))) (some (.inl ()))
def Zed (a0:Zah)(z43:List (List Zaa)):Nat->Int->Option (Unit⊕Er)|0,_=>none|k50+1,v49=>sel (decide (v49<((z43.map Zal).length:Int))) (ix z43 v49 (λy51=>ob1 (Zdx a0.Vars y51) (λz52=>sel (!z52) (some (.inr (Er.no 2))) (Zed a0 z43 k50 (IntKind.i64.wrap (v49+1)))))) (some (.inl ()))
def Zdl (a0:Zah)(y183:GOp):Nat->Int->Option (Unit⊕Er)|0,_=>none|k190+1,v189=>sel (decide (v189<((y183.Effs.map Zag).length:Int))) (ix y183.Effs v189 (λy191=>ob1 (Zdx a0.Vars [(y191.Var,y191.Val)]) (λz192=>sel (!z192) (some (.inr (Er.no 2))) (Zdl a0 y183 k190 (IntKind.i64.wrap (v189+1)))))) (some (.inl ()))
def Zct (a0:Zah):Nat->Int->Option (Unit⊕Er)|0,_=>none|k170+1,v169=>sel (decide (v169<((a0.Ops.map Za0).length:Int))) (ob1 (ix a0.Ops v169 (λy183=>Zdl a0 y183 ((((y183.Effs.map Zag).length:Int)).toNat+1) 0):Option (Unit⊕Er)) (Zj9 (λ_=>Zct a0 k170 (IntKind.i64.wrap (v169+1))) (λr181=>some (.inr r181)))) (some (.inl ()))
def Zee (a0:Zah):Nat->Int->Option (Er)|0,_=>none|k199+1,v198=>sel (decide (v198<((a0.Ops.map Za0).length:Int))) (ix a0.Ops v198 (λy200=>ob1 (Zku y200.Name) (λz201=>sel (!z201) (some (Er.no 8)) (Zee a0 k199 (IntKind.i64.wrap (v198+1)))))) (some Er.nil)
def Zf4 (a0:Zah):Option (Er):=ob1 (Zml a0) (λz1=>sel z1 (some (Er.no 5)) (ob1 (Zeb a0 ((((a0.Vars.map cI).length:Int)).toNat+1) 0:Option (Unit⊕Er)) (Zj9 (λ_=>ob1 (Zec a0 ((((a0.Ops.map Za0).length:Int)).toNat+1) 0:Option (Unit⊕Er)) (Zj9 (λ_=>ob1 (Zjw a0.Vars a0.Init) (λz30=>sel (!z30) (some (Er.no 2)) (ob1 (ob1 (Zey a0) (λz43=>Zed a0 z43 ((((z43.map Zal).length:Int)).toNat+1) 0):Option (Unit⊕Er)) (Zj9 (λ_=>ob1 (Zct a0 ((((a0.Ops.map Za0).length:Int)).toNat+1) 0:Option (Unit⊕Er)) (Zj9 (λ_=>Zee a0 ((((a0.Ops.map Za0).length:Int)).toNat+1) 0) (λr122=>some r122))) (λr41=>some r41))))) (λr22=>some r22))) (λr8=>some r8))))
theorem zz11 {P:Prop}(w:P:=by refine aEx ?_;exact zz3):P:=w
theorem Zkp (a0:Zah){r1:Er}(h:Zf4 a0=some r1):ACall cx 17 [.agg [.sl 1 (a0.Vars.map cI),.sl 1 (a0.Init.map cI),.sl 2 (a0.Goal.map cF),.sl 4 (a0.Ops.map Za0)]] (eA r1):=by
 refine aOf Tryz.func17 rfl (by decide) rfl (bT1 rfl) ?_;intro _;unfold Zf4 at h;refine aSR λ_=>dr (aSq (aSR λ_=>?_));obtain⟨z1,u1,h⟩:=Zae h;refine cl rfl (Zaem a0 u1) λ_=>dr (aCd λ_=>?_);refine spl h (λc2 h=>?_) (λc2 h=>?_)
 ·exact zz2
 ·refine aSk ?_;obtain⟨o3,h,hK4⟩:=Zae h;refine Zat (α:=Unit) (λ_=>mkS 111 [(1,.ptr 1 0 0 0)] [(1,⟨26,4,true,[[.sl 1 (a0.Vars.map cI),.sl 1 (a0.Init.map cI),.sl 2 (a0.Goal.map cF),.sl 4 (a0.Ops.map Za0)]]⟩)]) (λv=>o3=(.inl v)) ?_ ?_
  ·refine aSR λ_=>dr (aBk ?_);refine Zaj (α:=Nat×Int) (λx=>mkS 111 [(1,.ptr 1 0 0 0),(19,.sl 1 (a0.Vars.map cI)),(20,.c (.int .i64 ((a0.Vars.map cI).length:Int))),(21,.c (.int .i64 x.2))] [(1,⟨26,4,true,[[.sl 1 (a0.Vars.map cI),.sl 1 (a0.Init.map cI),.sl 2 (a0.Goal.map cF),.sl 4 (a0.Ops.map Za0)]]⟩)]) (λx=>Zeb a0 x.1 x.2=some o3) (λx=>x.1) ((((a0.Vars.map cI).length:Int)).toNat+1,0) h ?_ ?_
   ·exact Zas
   ·intro x5 h;intro _;obtain⟨k14,m6,h⟩:=Zak (f:=λn=>Zeb a0 n x5.2) rfl h;replace h:Zeb a0 (k14+1) x5.2=some o3:=h;rw[Zeb]at h;refine aSR λ_=>dr (aSq (aCd λ_=>?_));refine spl h (λc7 h=>?_) (λc7 h=>?_)
    ·refine aSk (aSq (aBk (aSR λ_=>?_)));obtain⟨y15,w8,q9,h⟩:=Za9 h;refine Exists.intro (cI y15) (And.intro (Zad w8) λ_=>pr (dr (aSR λ_=>?_)));refine spf h (λc10 h=>?_) (λc10 h=>?_)
     ·intro _;refine dr (aCd λ_=>?_);refine spl h (λc11 h=>?_) (λc11 h=>?_)
      ·refine aSR λ_=>dr (aRt ?_);have j12:=sI_ h;subst j12;replace h:=(Za4 hK4);exact zz4
      ·refine aSk (aRg λ_=>dr ⟨(k14,(IntKind.i64.wrap (x5.2+1))),h,ltS m6,?_⟩);exact Zas
     ·intro _;refine dr (aCd λ_=>Zll (aSR λ_=>dr (aRt ?_)));have j13:=sI_ h;subst j13;replace h:=(Za4 hK4);exact zz4
    ·exact zz11
  ·rintro _ ho;have ho:=ho.symm;subst ho;intro _;replace h:=(Zcx hK4);obtain⟨o14,h,hK15⟩:=Zae h;refine Zat (α:=Unit) (λ_=>mkS 111 [(1,.ptr 1 0 0 0)] [(1,⟨26,4,true,[[.sl 1 (a0.Vars.map cI),.sl 1 (a0.Init.map cI),.sl 2 (a0.Goal.map cF),.sl 4 (a0.Ops.map Za0)]]⟩)]) (λv=>o14=(.inl v)) ?_ ?_
   ·refine aSR λ_=>dr (aBk ?_);refine Zaj (α:=Nat×Int) (λx=>mkS 111 [(1,.ptr 1 0 0 0),(34,.sl 4 (a0.Ops.map Za0)),(35,.c (.int .i64 ((a0.Ops.map Za0).length:Int))),(36,.c (.int .i64 x.2))] [(1,⟨26,4,true,[[.sl 1 (a0.Vars.map cI),.sl 1 (a0.Init.map cI),.sl 2 (a0.Goal.map cF),.sl 4 (a0.Ops.map Za0)]]⟩)]) (λx=>Zec a0 x.1 x.2=some o14) (λx=>x.1) ((((a0.Ops.map Za0).length:Int)).toNat+1,0) h ?_ ?_
    ·exact Zas
    ·intro x16 h;intro _;obtain⟨k28,m17,h⟩:=Zak (f:=λn=>Zec a0 n x16.2) rfl h;replace h:Zec a0 (k28+1) x16.2=some o14:=h;rw[Zec]at h;refine aSR λ_=>dr (aSq (aCd λ_=>?_));refine spl h (λc18 h=>?_) (λc18 h=>?_)
     ·refine aSk (aSq (aBk (aSR λ_=>?_)));obtain⟨y29,w19,q20,h⟩:=Za9 h;refine Exists.intro (Za0 y29) (And.intro (Zad w19) λ_=>pr (dr (aSR λ_=>?_)));refine spf h (λc21 h=>?_) (λc21 h=>?_)
      ·intro _;refine dr (aCd λ_=>?_);refine spl h (λc22 h=>?_) (λc22 h=>?_)
       ·refine aSR λ_=>dr (aRt ?_);have j23:=sI_ h;subst j23;replace h:=(Za4 hK15);exact zz4
       ·refine aSk (aRg λ_=>dr ⟨(k28,(IntKind.i64.wrap (x16.2+1))),h,ltS m17,?_⟩);exact Zas
      ·intro _;refine dr (aCd λ_=>Zll (aSR λ_=>dr (aRt ?_)));have j24:=sI_ h;subst j24;replace h:=(Za4 hK15);exact zz4
     ·exact zz11
   ·rintro _ ho;have ho:=ho.symm;subst ho;intro _;replace h:=(Zcx hK15);refine aSq (aSR λ_=>?_);obtain⟨z30,u25,h⟩:=Zae h;refine cl rfl (Zuq a0.Vars a0.Init u25) λ_=>dr (aCd λ_=>?_);refine spl h (λc26 h=>?_) (λc26 h=>?_)
    ·exact zz2
    ·refine aSk ?_;obtain⟨o27,h,hK28⟩:=Zae h;refine Zat (α:=Unit) (λ_=>mkS 111 [(1,.ptr 1 0 0 0)] [(1,⟨26,4,true,[[.sl 1 (a0.Vars.map cI),.sl 1 (a0.Init.map cI),.sl 2 (a0.Goal.map cF),.sl 4 (a0.Ops.map Za0)]]⟩)]) (λv=>o27=(.inl v)) ?_ ?_
     ·refine aSR λ_=>?_;obtain⟨z43,u29,h⟩:=Zae h;refine cl rfl (Zph a0 u29) λ_=>dr (aBk ?_);refine Zaj (α:=Nat×Int) (λx=>mkS 111 [(1,.ptr 1 0 0 0),(58,.sl 1 (z43.map Zal)),(59,.c (.int .i64 ((z43.map Zal).length:Int))),(60,.c (.int .i64 x.2))] [(1,⟨26,4,true,[[.sl 1 (a0.Vars.map cI),.sl 1 (a0.Init.map cI),.sl 2 (a0.Goal.map cF),.sl 4 (a0.Ops.map Za0)]]⟩)]) (λx=>Zed a0 z43 x.1 x.2=some o27) (λx=>x.1) ((((z43.map Zal).length:Int)).toNat+1,0) h ?_ ?_
      ·exact Zas
      ·intro x30 h;intro _;obtain⟨k50,m31,h⟩:=Zak (f:=λn=>Zed a0 z43 n x30.2) rfl h;replace h:Zed a0 z43 (k50+1) x30.2=some o27:=h;rw[Zed]at h;refine aSR λ_=>dr (aSq (aCd λ_=>?_));refine spl h (λc32 h=>?_) (λc32 h=>?_)
       ·refine aSk (aSq (aBk (aSR λ_=>?_)));obtain⟨y51,w33,q34,h⟩:=Za9 h;refine Exists.intro (Zal y51) (And.intro (Zad w33) λ_=>pr (dr (aSR λ_=>?_)));obtain⟨z52,u35,h⟩:=Zae h;refine cl rfl (Zkq a0.Vars y51 u35) λ_=>dr (aCd λ_=>?_);refine spl h (λc36 h=>?_) (λc36 h=>?_)
        ·refine aSR λ_=>dr (aRt ?_);have j37:=sI_ h;subst j37;replace h:=(Za4 hK28);exact zz4
        ·refine aSk (aRg λ_=>dr ⟨(k50,(IntKind.i64.wrap (x30.2+1))),h,ltS m31,?_⟩);exact Zas
       ·exact zz11
     ·rintro _ ho;have ho:=ho.symm;subst ho;intro _;replace h:=(Zcx hK28);obtain⟨o38,h,hK39⟩:=Zae h;refine Zat (α:=Unit) (λ_=>mkS 111 [(1,.ptr 1 0 0 0)] [(1,⟨26,4,true,[[.sl 1 (a0.Vars.map cI),.sl 1 (a0.Init.map cI),.sl 2 (a0.Goal.map cF),.sl 4 (a0.Ops.map Za0)]]⟩)]) (λv=>o38=(.inl v)) ?_ ?_
      ·refine aSR λ_=>dr (aBk ?_);refine Zaj (α:=Nat×Int) (λx=>mkS 111 [(1,.ptr 1 0 0 0),(72,.sl 4 (a0.Ops.map Za0)),(73,.c (.int .i64 ((a0.Ops.map Za0).length:Int))),(74,.c (.int .i64 x.2))] [(1,⟨26,4,true,[[.sl 1 (a0.Vars.map cI),.sl 1 (a0.Init.map cI),.sl 2 (a0.Goal.map cF),.sl 4 (a0.Ops.map Za0)]]⟩)]) (λx=>Zct a0 x.1 x.2=some o38) (λx=>x.1) ((((a0.Ops.map Za0).length:Int)).toNat+1,0) h ?_ ?_
       ·exact Zas
       ·intro x40 h;intro _;obtain⟨k170,m41,h⟩:=Zak (f:=λn=>Zct a0 n x40.2) rfl h;replace h:Zct a0 (k170+1) x40.2=some o38:=h;rw[Zct]at h;refine aSR λ_=>dr (aSq (aCd λ_=>?_));refine spl h (λc42 h=>?_) (λc42 h=>?_)
        ·refine aSk ?_;obtain⟨o43,h,hK44⟩:=Zae h;refine Zat (α:=Unit) (λ_=>mkS 111 [(1,.ptr 1 0 0 0),(72,.sl 4 (a0.Ops.map Za0)),(73,.c (.int .i64 ((a0.Ops.map Za0).length:Int))),(74,.c (.int .i64 x40.2))] [(1,⟨26,4,true,[[.sl 1 (a0.Vars.map cI),.sl 1 (a0.Init.map cI),.sl 2 (a0.Goal.map cF),.sl 4 (a0.Ops.map Za0)]]⟩)]) (λv=>o43=(.inl v)) ?_ ?_
         ·refine aBk (aSR λ_=>?_);obtain⟨y183,w45,q46,h⟩:=Za9 h;refine Exists.intro (Za0 y183) (And.intro (Zad w45) λ_=>pr (dr (aSR λ_=>dr (aBk ?_))));refine Zaj (α:=Nat×Int) (λx=>mkS 111 [(1,.ptr 1 0 0 0),(72,.sl 4 (a0.Ops.map Za0)),(73,.c (.int .i64 ((a0.Ops.map Za0).length:Int))),(74,.c (.int .i64 x40.2)),(79,.sl 3 (y183.Effs.map Zag)),(80,.c (.int .i64 ((y183.Effs.map Zag).length:Int))),(81,.c (.int .i64 x.2))] [(1,⟨26,4,true,[[.sl 1 (a0.Vars.map cI),.sl 1 (a0.Init.map cI),.sl 2 (a0.Goal.map cF),.sl 4 (a0.Ops.map Za0)]]⟩)]) (λx=>Zdl a0 y183 x.1 x.2=some o43) (λx=>x.1) ((((y183.Effs.map Zag).length:Int)).toNat+1,0) h ?_ ?_
          ·exact Zas
          ·intro x47 h;intro _;obtain⟨k190,m48,h⟩:=Zak (f:=λn=>Zdl a0 y183 n x47.2) rfl h;replace h:Zdl a0 y183 (k190+1) x47.2=some o43:=h;rw[Zdl]at h;refine aSR λ_=>dr (aSq (aCd λ_=>?_));refine spl h (λc49 h=>?_) (λc49 h=>?_)
           ·refine aSk (aSq (aBk (aSR λ_=>?_)));obtain⟨y191,w50,q51,h⟩:=Za9 h;refine Exists.intro (Zag y191) (And.intro (Zad w50) λ_=>pr (dr (aSR λ_=>?_)));obtain⟨z192,u52,h⟩:=Zae h;refine clb [92] rfl rfl (Zkq a0.Vars [(y191.Var,y191.Val)] u52) λ_=>dr (aCd λ_=>?_);refine spl h (λc53 h=>?_) (λc53 h=>?_)
            ·refine aSR λ_=>dr (aRt ?_);have j54:=sI_ h;subst j54;replace h:=(Za4 hK44);have j55:=sI_ h;subst j55;replace h:=(Za4 hK39);exact zz4
            ·refine aSk (aRg λ_=>dr ⟨(k190,(IntKind.i64.wrap (x47.2+1))),h,ltS m48,?_⟩);exact Zas
           ·exact zz11
         ·rintro _ ho;have ho:=ho.symm;subst ho;intro _;replace h:=(Zcx hK44);refine aRg λ_=>dr ⟨(k170,(IntKind.i64.wrap (x40.2+1))),h,ltS m41,?_⟩;exact Zas
        ·exact zz11
      ·rintro _ ho;have ho:=ho.symm;subst ho;intro _;replace h:=(Zcx hK39);refine aSq (aSR λ_=>dr (aBk ?_));refine Zaj (α:=Nat×Int) (λx=>mkS 111 [(99,.sl 4 (a0.Ops.map Za0)),(100,.c (.int .i64 ((a0.Ops.map Za0).length:Int))),(101,.c (.int .i64 x.2))] []) (λx=>Zee a0 x.1 x.2=some r1) (λx=>x.1) ((((a0.Ops.map Za0).length:Int)).toNat+1,0) h ?_ ?_
       ·exact Zas
       ·intro x56 h;intro _;obtain⟨k199,m57,h⟩:=Zak (f:=λn=>Zee a0 n x56.2) rfl h;replace h:Zee a0 (k199+1) x56.2=some r1:=h;rw[Zee]at h;refine aSR λ_=>dr (aSq (aCd λ_=>?_));refine spl h (λc58 h=>?_) (λc58 h=>?_)
        ·refine aSk (aSq (aBk (aSR λ_=>?_)));obtain⟨y200,w59,q60,h⟩:=Za9 h;refine Exists.intro (Za0 y200) (And.intro (Zad w59) λ_=>pr (dr (aSR λ_=>?_)));obtain⟨z201,u61,h⟩:=Zae h;refine cl rfl (Zaen y200.Name u61) λ_=>dr (aCd λ_=>?_);refine spl h (λc62 h=>?_) (λc62 h=>?_)
         ·exact zz2
         ·refine aSk (aRg λ_=>dr ⟨(k199,(IntKind.i64.wrap (x56.2+1))),h,ltS m57,?_⟩);exact Zas
        ·exact zz9
def Ze2 (y102:Zaa)(y103:Int):Nat->Int->(List (List Zaa))->Option (List (List Zaa))|0,_,_=>none|k108+1,v106,v107=>sel (decide (v106<y103)) (sel (v106 != y102.2) (grd ((v107.length+1)*24<=140737488355328) (Ze2 y102 y103 k108 (IntKind.i64.wrap (v106+1)) (v107++[[(y102.1,v106)]]))) (Ze2 y102 y103 k108 (IntKind.i64.wrap (v106+1)) v107)) (some v107)
def Zd8 (a0:List Int)(a1:Zaq):Nat->Int->(List (List Zaa))->Option (List (List Zaa))|0,_,_=>none|k92+1,v90,v91=>sel (decide (v90<((a1.When.map cF).length:Int))) (ob1 (ix a1.When v90 (λy102=>ix a0 y102.1 (λy103=>Ze2 y102 y103 ((y103).toNat+1) 0 v91)):Option (List (List Zaa))) (λv100=>Zd8 a0 a1 k92 (IntKind.i64.wrap (v90+1)) v100)) (some v91)
def Znj (a0:List Int)(a1:Zaq):Option ((List (List Zaa))×Er):=ob1 (Zd8 a0 a1 ((((a1.When.map cF).length:Int)).toNat+1) 0 []:Option (List (List Zaa))) (λv54=>sel (decide (((v54.length:Nat):Int)>1024)) (some ([],(Er.no 5))) (grd (v54.length<=140737488355328) (some (v54,Er.nil))))
theorem zz1 {P:Prop}(w:P:=by intro _;obtain⟨rfl,rfl⟩:=Zw6 h;exact Zas):P:=w
theorem zz6 {P:Prop}(w:P:=by refine aSR ?_;intro _;refine dr (aRt ?_);exact zz1):P:=w
theorem Zalc (a0:List Int)(a1:Zaq){r1:List (List Zaa)}{r2:Er}(h:Znj a0 a1=some (r1,r2)):ACall cx 125 [.sl 1 (a0.map cI),.agg [.sl 2 (a1.When.map cF),.c (.int .i64 a1.Var),.c (.int .i64 a1.Val)]] (.tup [.sl 1 (r1.map Zal),eA r2]):=by
 refine aOf Tryz.func125 rfl (by decide) rfl (bT1 rfl) ?_;intro _;unfold Znj at h;refine aSR λ_=>dr (aSR λ_=>dr ?_);obtain⟨o1,h,hK2⟩:=Zae h;refine Zat (α:=List (List Zaa)) (λv54=>mkS 44 [(6,.own 36 0 0 v54.length)] [(36,⟨23,1,false,v54.map Zal⟩)]) (λv=>o1=v) ?_ ?_
 ·refine aSR λ_=>dr (aBk ?_);refine Zaj (α:=Nat×Int×(List (List Zaa))) (λx=>mkS 44 [(0,.sl 1 (a0.map cI)),(6,.own 36 0 0 x.2.2.length),(11,.sl 2 (a1.When.map cF)),(12,.c (.int .i64 ((a1.When.map cF).length:Int))),(13,.c (.int .i64 x.2.1))] [(36,⟨23,1,false,x.2.2.map Zal⟩)]) (λx=>Zd8 a0 a1 x.1 x.2.1 x.2.2=some o1) (λx=>x.1) ((((a1.When.map cF).length:Int)).toNat+1,0,[]) h ?_ ?_
  ·exact Zas
  ·intro x3 h;intro _;obtain⟨k92,m4,h⟩:=Zak (f:=λn=>Zd8 a0 a1 n x3.2.1 x3.2.2) rfl h;replace h:Zd8 a0 a1 (k92+1) x3.2.1 x3.2.2=some o1:=h;rw[Zd8]at h;refine aSR λ_=>dr (aSq (aCd λ_=>?_));refine spl h (λc5 h=>?_) (λc5 h=>?_)
   ·refine aSk ?_;obtain⟨o6,h,hK7⟩:=Zae h;refine Zat (α:=List (List Zaa)) (λv100=>mkS 44 [(0,.sl 1 (a0.map cI)),(6,.own 36 0 0 v100.length),(11,.sl 2 (a1.When.map cF)),(12,.c (.int .i64 ((a1.When.map cF).length:Int))),(13,.c (.int .i64 x3.2.1))] [(36,⟨23,1,false,v100.map Zal⟩)]) (λv=>o6=v) ?_ ?_
    ·refine aBk (aSR λ_=>?_);obtain⟨y102,w8,q9,h⟩:=Za9 h;refine Exists.intro (cF y102) (And.intro (Zad w8) λ_=>pr (dr (aSR λ_=>?_)));obtain⟨y103,w10,q11,h⟩:=Za9 h;refine Exists.intro (cI y103) (And.intro (Zad w10) λ_=>pr (dr (aBk ?_)));refine Zaj (α:=Nat×Int×(List (List Zaa))) (λx=>mkS 44 [(0,.sl 1 (a0.map cI)),(6,.own 36 0 0 x.2.2.length),(8,.ptr 8 0 0 0),(11,.sl 2 (a1.When.map cF)),(12,.c (.int .i64 ((a1.When.map cF).length:Int))),(13,.c (.int .i64 x3.2.1)),(21,.c (.int .i64 y103)),(22,.c (.int .i64 x.2.1))] [(8,⟨53,2,true,[[.c (.int .i64 y102.1),.c (.int .i64 y102.2)]]⟩),(36,⟨23,1,false,x.2.2.map Zal⟩)]) (λx=>Ze2 y102 y103 x.1 x.2.1 x.2.2=some o6) (λx=>x.1) ((y103).toNat+1,0,x3.2.2) h ?_ ?_
     ·exact Zas
     ·intro x12 h;intro _;obtain⟨k108,m13,h⟩:=Zak (f:=λn=>Ze2 y102 y103 n x12.2.1 x12.2.2) rfl h;replace h:Ze2 y102 y103 (k108+1) x12.2.1 x12.2.2=some o6:=h;rw[Ze2]at h;refine aSR λ_=>dr (aSq (aCd λ_=>?_));refine spl h (λc14 h=>?_) (λc14 h=>?_)
      ·refine aSk (aSq (aBk (aSR λ_=>dr (aSR λ_=>dr (aCd λ_=>?_)))));refine spl h (λc15 h=>?_) (λc15 h=>?_)
       ·refine aRg λ_=>?_;obtain⟨q16,h⟩:=Zaf h;refine pl (pl ?_);refine And.intro (by first|with_reducible assumption|(show(x12.2.2.length+1)*24<=140737488355328;with_reducible assumption)|omega|(simp;omega)) ?_;refine pe (dr (aRg λ_=>dr ⟨(k108,(IntKind.i64.wrap (x12.2.1+1)),(x12.2.2++[[(y102.1,x12.2.1)]])),h,ltS m13,?_⟩));exact Zas
       ·refine aSk (aRg λ_=>dr ⟨(k108,(IntKind.i64.wrap (x12.2.1+1)),x12.2.2),h,ltS m13,?_⟩);exact Zas
      ·refine aEx ⟨x12.2.2,(sI_ h).symm,?_⟩;exact Zas
    ·rintro v100 ho;have ho:=ho.symm;subst ho;intro _;replace h:=hK7;refine aRg λ_=>dr ⟨(k92,(IntKind.i64.wrap (x3.2.1+1)),v100),h,ltS m4,?_⟩;exact Zas
   ·refine aEx ⟨x3.2.2,(sI_ h).symm,?_⟩;exact Zas
 ·rintro v54 ho;have ho:=ho.symm;subst ho;intro _;replace h:=hK2;refine aSq (aSR λ_=>dr (aCd λ_=>?_));refine spl h (λc17 h=>?_) (λc17 h=>?_)
  ·exact zz6
  ·refine aSk (aSR λ_=>dr (aRt ?_));obtain⟨q18,h⟩:=Zaf h;exact zz1
def Zg5 (a0:List Zaa):Nat->Int->Option (Bool)|0,_=>none|k6+1,v5=>sel (decide (v5<((a0.map cF).length:Int))) (ix a0 v5 (λy7=>sel (decide (y7.1<0)) (some false) (sel (decide (y7.2<0)) (some false) (sel (decide (v5>0)) (ix a0 (IntKind.i64.wrap (v5-1)) (λy8=>sel (decide (y8.1>=y7.1)) (some false) (Zg5 a0 k6 (IntKind.i64.wrap (v5+1))))) (Zg5 a0 k6 (IntKind.i64.wrap (v5+1))))))) (some true)
def Zhp (a0:List Zaa):Option (Bool):=Zg5 a0 ((((a0.map cF).length:Int)).toNat+1) 0
theorem Znm (a0:List Zaa){r1:Bool}(h:Zhp a0=some r1):ACall cx 99 [.sl 2 (a0.map cF)] (.c (.bool r1)):=by
 refine aOf Tryz.func99 rfl (by decide) rfl (bT1 rfl) ?_;intro _;unfold Zhp at h;refine aSR λ_=>dr (aSq (aSR λ_=>dr (aBk ?_)));refine Zaj (α:=Nat×Int) (λx=>mkS 36 [(0,.sl 2 (a0.map cF)),(5,.sl 2 (a0.map cF)),(6,.c (.int .i64 ((a0.map cF).length:Int))),(7,.c (.int .i64 x.2))] []) (λx=>Zg5 a0 x.1 x.2=some r1) (λx=>x.1) ((((a0.map cF).length:Int)).toNat+1,0) h ?_ ?_
 ·exact Zas
 ·intro x1 h;intro _;obtain⟨k6,m2,h⟩:=Zak (f:=λn=>Zg5 a0 n x1.2) rfl h;replace h:Zg5 a0 (k6+1) x1.2=some r1:=h;rw[Zg5]at h;refine aSR λ_=>dr (aSq (aCd λ_=>?_));refine spl h (λc3 h=>?_) (λc3 h=>?_)
  ·refine aSk (aSq (aBk (aSR λ_=>?_)));obtain⟨y7,w4,q5,h⟩:=Za9 h;refine Exists.intro (cF y7) (And.intro (Zad w4) λ_=>pr (dr (aSR λ_=>?_)));refine spf h (λc6 h=>?_) (λc6 h=>?_)
   ·intro _;refine spf h (λc7 h=>?_) (λc7 h=>?_)
    ·intro _;refine spl h (λc8 h=>?_) (λc8 h=>?_)
     ·intro _;obtain⟨y8,w9,q10,h⟩:=Za9 h;refine Exists.intro (cF y8) (And.intro (Zad w9) λ_=>pr (dr (aCd λ_=>?_)));refine spl h (λc11 h=>?_) (λc11 h=>?_)
      ·exact zz2
      ·refine aSk (aRg λ_=>dr ⟨(k6,(IntKind.i64.wrap (x1.2+1))),h,ltS m2,?_⟩);exact Zas
     ·intro _;refine dr (aCd λ_=>Znf (aSk (aRg λ_=>dr ⟨(k6,(IntKind.i64.wrap (x1.2+1))),h,ltS m2,?_⟩)));exact Zas
    ·exact zz5
   ·exact zz5
  ·exact zz9
def Zi9 (a0:List Zaa):Nat->Int->Option (Unit⊕((List Zaa)×Er))|0,_=>none|k14+1,v13=>sel (decide (v13<((a0.map cF).length:Int))) (ix a0 v13 (λy15=>sel (decide (y15.1<0)) (some (.inr ([],(Er.no 1)))) (sel (decide (y15.2<0)) (some (.inr ([],(Er.no 1)))) (Zi9 a0 k14 (IntKind.i64.wrap (v13+1)))))) (some (.inl ()))
def Zu5 (a0:List Zaa):Option ((List Zaa)×Er):=ob1 (Zi9 a0 ((((a0.map cF).length:Int)).toNat+1) 0:Option (Unit⊕((List Zaa)×Er))) (Zj9 (λ_=>ob1 (Zh8 a0) (λz16=>ob1 (Zag9 z16) (λc17=>grd (c17.length=z16.length) (ob1 (Zwh c17) (λz18=>grd (z18.length<=140737488355328) (ob1 (Zhp z18) (λz19=>sel (!z19) (some ([],(Er.no 2))) (some (z18,Er.nil))))))))) (λ(r7,r8)=>some (r7,r8)))
theorem Zaqk (a0:List Zaa){r1:List Zaa}{r2:Er}(h:Zu5 a0=some (r1,r2)):ACall cx 149 [.sl 2 (a0.map cF)] (.tup [.sl 2 (r1.map cF),eA r2]):=by
 refine aOf Tryz.func149 rfl (by decide) rfl (bT1 rfl) ?_;intro _;unfold Zu5 at h;refine aSR λ_=>dr ?_;obtain⟨o1,h,hK2⟩:=Zae h;refine Zat (α:=Unit) (λ_=>mkS 34 [(0,.sl 2 (a0.map cF))] []) (λv=>o1=(.inl v)) ?_ ?_
 ·refine aSR λ_=>dr (aBk ?_);refine Zaj (α:=Nat×Int) (λx=>mkS 34 [(0,.sl 2 (a0.map cF)),(7,.sl 2 (a0.map cF)),(8,.c (.int .i64 ((a0.map cF).length:Int))),(9,.c (.int .i64 x.2))] []) (λx=>Zi9 a0 x.1 x.2=some o1) (λx=>x.1) ((((a0.map cF).length:Int)).toNat+1,0) h ?_ ?_
  ·exact Zas
  ·intro x3 h;intro _;obtain⟨k14,m4,h⟩:=Zak (f:=λn=>Zi9 a0 n x3.2) rfl h;replace h:Zi9 a0 (k14+1) x3.2=some o1:=h;rw[Zi9]at h;refine aSR λ_=>dr (aSq (aCd λ_=>?_));refine spl h (λc5 h=>?_) (λc5 h=>?_)
   ·refine aSk (aSq (aBk (aSR λ_=>?_)));obtain⟨y15,w6,q7,h⟩:=Za9 h;refine Exists.intro (cF y15) (And.intro (Zad w6) λ_=>pr (dr (aSR λ_=>?_)));refine spf h (λc8 h=>?_) (λc8 h=>?_)
    ·intro _;refine dr (aCd λ_=>?_);refine spl h (λc9 h=>?_) (λc9 h=>?_)
     ·refine aSR λ_=>dr (aRt ?_);have j10:=sI_ h;subst j10;replace h:=(Za4 hK2);exact zz1
     ·refine aSk (aRg λ_=>dr ⟨(k14,(IntKind.i64.wrap (x3.2+1))),h,ltS m4,?_⟩);exact Zas
    ·intro _;refine dr (aCd λ_=>Zll (aSR λ_=>dr (aRt ?_)));have j11:=sI_ h;subst j11;replace h:=(Za4 hK2);exact zz1
   ·exact zz11
 ·rintro _ ho;have ho:=ho.symm;subst ho;intro _;replace h:=(Zcx hK2);refine aSR λ_=>?_;obtain⟨z16,u12,h⟩:=Zae h;refine clg [(0,24)] [] [] [(24,⟨2,some ⟨53,2,false,z16.map cF⟩⟩)] (.own 24 2 0 z16.length) rfl rfl (Zsz a0 u12) λ_=>dr (aSR λ_=>?_);obtain⟨c17,u13,h⟩:=Zae h;refine clg [(900,24)] [] [] [(24,⟨2,some ⟨53,2,false,c17.map cF⟩⟩)] (.tup []) rfl rfl (Zatl z16 u13) ?_;obtain⟨q14,h⟩:=Zaf h;intro _;refine dr (aSR λ_=>?_);obtain⟨z18,u15,h⟩:=Zae h;refine clg [(0,24),(0,24)] [] [(24,⟨3,none⟩)] [(24,⟨4,some ⟨53,2,false,z18.map cF⟩⟩)] (.own 24 4 0 z18.length) rfl rfl (Zalb c17 u15) λ_=>dr (aSq (aSR λ_=>?_));obtain⟨q16,h⟩:=Zaf h;obtain⟨z19,u17,h⟩:=Zae h;refine clb [24] rfl rfl (Znm z18 u17) λ_=>dr (aCd λ_=>?_);refine spl h (λc18 h=>?_) (λc18 h=>?_)
  ·exact zz6
  ·refine aSk ?_;exact zz6
def Zs2 (a0:List Zaa)(a1:List Zaa):Option ((List Zaa)×Bool):=ob1 (Zhp a0) (λz1=>sel (!z1) (some ([],false)) (ob1 (Zhp a1) (λz2=>sel (!z2) (some ([],false)) (ob1 (Zh8 a0) (λz3=>grd ((z3++a1).length<=140737488355328) (ob2 (Zu5 (z3++a1)) (λz4 z5=>grd ((z3.length+a1.length)*16<=140737488355328) (erM z5 (some (z4,true)) (λ_=>some (z4,false))))))))))
theorem Zaqj (a0:List Zaa)(a1:List Zaa){r1:List Zaa}{r2:Bool}(h:Zs2 a0 a1=some (r1,r2)):ACall cx 127 [.sl 2 (a0.map cF),.sl 2 (a1.map cF)] (.tup [.sl 2 (r1.map cF),.c (.bool r2)]):=by
 refine aOf Tryz.func127 rfl (by decide) rfl (bT1 rfl) ?_;intro _;unfold Zs2 at h;refine aSR λ_=>dr (aSq (aSR λ_=>?_));obtain⟨z1,u1,h⟩:=Zae h;refine cl rfl (Znm a0 u1) λ_=>?_;refine spf h (λc2 h=>?_) (λc2 h=>?_)
 ·intro _;obtain⟨z2,u3,h⟩:=Zae h;refine cl rfl (Znm a1 u3) λ_=>dr (aCd λ_=>?_);refine spl h (λc4 h=>?_) (λc4 h=>?_)
  ·exact zz6
  ·refine aSk (aSR λ_=>?_);obtain⟨z3,u5,h⟩:=Zae h;refine clg [(0,18)] [] [] [(18,⟨2,some ⟨53,2,false,z3.map cF⟩⟩)] (.own 18 2 0 z3.length) rfl rfl (Zsz a0 u5) λ_=>?_;obtain⟨q6,h⟩:=Zaf h;obtain⟨z4,z5,u7,h⟩:=Zdv h;refine clf [(18,⟨4,none⟩)] rfl rfl (Zaqk (z3++a1) u7) λ_=>?_;obtain⟨q8,h⟩:=Zaf h;refine pl ?_;refine And.intro (by first|with_reducible assumption|(show(z3.length+a1.length)*16<=140737488355328;with_reducible assumption)|omega|(simp;omega)) ?_;refine pe (dr (aSq ?_));rcases z5 with _|e6
   ·replace h:=Zdn h;refine aRg λ_=>dr (aRt ?_);exact zz1
   ·replace h:=Zlf h;refine aRg λ_=>dr (aRt ?_);exact zz1
 ·intro _;refine dr (aCd λ_=>Zll ?_);exact zz6
def Zax (a0:List (List Zaa))(a1:List Zaa)(a2:(List Zaa)->(List Zaa)->Option Int):Nat->Int->Int->Option (Int)|0,_,_=>none|k22+1,v20,v21=>sel (decide (v20<v21)) (ix a0 (IntKind.i64.wrap (Int.fdiv (IntKind.u64.wrap (IntKind.i64.wrap (v20+v21))) 2)) (λy23=>ob1 (a2 y23 a1) (λz24=>sel (decide (z24<0)) (Zax a0 a1 a2 k22 (IntKind.i64.wrap ((IntKind.i64.wrap (Int.fdiv (IntKind.u64.wrap (IntKind.i64.wrap (v20+v21))) 2))+1)) v21) (Zax a0 a1 a2 k22 v20 (IntKind.i64.wrap (Int.fdiv (IntKind.u64.wrap (IntKind.i64.wrap (v20+v21))) 2)))))) (some v20)
def Zcu (g:Nat)(a0:List (List Zaa))(a1:List Zaa)(a2:(List Zaa)->(List Zaa)->Option Int):Option (Int×Bool):=ob1 (Zax a0 a1 a2 g 0 ((a0.map Zal).length:Int):Option (Int)) (λv12=>sel (decide (v12<((a0.map Zal).length:Int))) (ix a0 v12 (λy25=>ob1 (a2 y25 a1) (λz26=>some (v12,(z26 == 0))))) (some (v12,false)))
theorem Zov (g:Nat)(a0:List (List Zaa))(a1:List Zaa)(a2:(List Zaa)->(List Zaa)->Option Int)(Fa2:AV)(hFa2:Fr Fa2)(ea2:∃f fs cap,Fa2=.clo (.func f) fs cap)(ha2:∀(x0:List Zaa)(x1:List Zaa)(y0:Int),a2 x0 x1=some y0->CCl cx Fa2 [.sl 2 (x0.map cF),.sl 2 (x1.map cF)] (.c (.int .i64 y0))){r1:Int}{r2:Bool}(h:Zcu g a0 a1 a2=some (r1,r2)):ACall cx 128 [.sl 1 (a0.map Zal),.sl 2 (a1.map cF),Fa2] (.tup [.c (.int .i64 r1),.c (.bool r2)]):=by
 obtain⟨fa2,sa2,qa2,rfl⟩:=ea2;refine aOf Tryz.func128 rfl (by decide) rfl (bT1 rfl) ?_;intro _;unfold Zcu at h;refine aSR λ_=>dr (aSR λ_=>dr (aSR λ_=>dr ?_));obtain⟨o1,h,hK2⟩:=Zae h;refine Zat (α:=Int) (λv12=>mkS 49 [(0,.sl 1 (a0.map Zal)),(1,.sl 2 (a1.map cF)),(2,.clo (.func fa2) sa2 qa2),(8,.c (.int .i64 ((a0.map Zal).length:Int))),(9,.c (.int .i64 v12))] []) (λv=>o1=v) ?_ ?_
 ·refine aBk ?_;refine Zaj (α:=Nat×Int×Int) (λx=>mkS 49 [(0,.sl 1 (a0.map Zal)),(1,.sl 2 (a1.map cF)),(2,.clo (.func fa2) sa2 qa2),(8,.c (.int .i64 ((a0.map Zal).length:Int))),(9,.c (.int .i64 x.2.1)),(10,.c (.int .i64 x.2.2))] []) (λx=>Zax a0 a1 a2 x.1 x.2.1 x.2.2=some o1) (λx=>x.1) (g,0,((a0.map Zal).length:Int)) h ?_ ?_
  ·exact Zas
  ·intro x3 h;intro _;obtain⟨k22,m4,h⟩:=Zak (f:=λn=>Zax a0 a1 a2 n x3.2.1 x3.2.2) rfl h;replace h:Zax a0 a1 a2 (k22+1) x3.2.1 x3.2.2=some o1:=h;rw[Zax]at h;refine aSq (aSR λ_=>dr (aCd λ_=>?_));refine spl h (λc5 h=>?_) (λc5 h=>?_)
   ·refine aSk (aBk (aSR λ_=>dr (aSR λ_=>?_)));obtain⟨y23,w6,q7,h⟩:=Za9 h;refine Exists.intro (Zal y23) (And.intro (Zad w6) λ_=>?_);obtain⟨z24,u8,h⟩:=Zae h;refine clc rfl (ha2 _ _ _ u8) hFa2 λ_=>pr (dr (aCd λ_=>?_));refine spl h (λc9 h=>?_) (λc9 h=>?_)
    ·refine aRg λ_=>dr ⟨(k22,(IntKind.i64.wrap ((IntKind.i64.wrap (Int.fdiv (IntKind.u64.wrap (IntKind.i64.wrap (x3.2.1+x3.2.2))) 2))+1)),x3.2.2),h,ltS m4,?_⟩;exact Zas
    ·refine aRg λ_=>dr ⟨(k22,x3.2.1,(IntKind.i64.wrap (Int.fdiv (IntKind.u64.wrap (IntKind.i64.wrap (x3.2.1+x3.2.2))) 2))),h,ltS m4,?_⟩;exact Zas
   ·refine aEx ⟨x3.2.1,(sI_ h).symm,?_⟩;exact Zas
 ·rintro v12 ho;have ho:=ho.symm;subst ho;intro _;replace h:=hK2;refine aSR λ_=>?_;refine spl h (λc10 h=>?_) (λc10 h=>?_)
  ·intro _;obtain⟨y25,w11,q12,h⟩:=Za9 h;refine Exists.intro (Zal y25) (And.intro (Zad w11) λ_=>?_);obtain⟨z26,u13,h⟩:=Zae h;refine clc rfl (ha2 _ _ _ u13) hFa2 λ_=>pr (dr (aRt ?_));exact zz1
  ·intro _;refine dr (aRt ?_);exact zz1
def Zb2 (a0:List Zaa)(a1:List Zaa)(a2:Zaa->Zaa->Option Int):Nat->Int->Option (Unit⊕Int)|0,_=>none|k23+1,v22=>sel (decide (v22<((a0.map cF).length:Int))) (ix a0 v22 (λy24=>sel (decide (v22>=((a1.map cF).length:Int))) (some (.inr 1)) (ix a1 v22 (λy25=>ob1 (a2 y24 y25) (λz26=>sel (z26 != 0) (some (.inr z26)) (Zb2 a0 a1 a2 k23 (IntKind.i64.wrap (v22+1)))))))) (some (.inl ()))
def Zhk (a0:List Zaa)(a1:List Zaa)(a2:Zaa->Zaa->Option Int):Option (Int):=ob1 (Zb2 a0 a1 a2 ((((a0.map cF).length:Int)).toNat+1) 0:Option (Unit⊕Int)) (Zj9 (λ_=>sel (decide (((a0.map cF).length:Int)<((a1.map cF).length:Int))) (some (-1)) (some 0)) (λr13=>some r13))
theorem Zto (a0:List Zaa)(a1:List Zaa)(a2:Zaa->Zaa->Option Int)(Fa2:AV)(hFa2:Fr Fa2)(ea2:∃f fs cap,Fa2=.clo (.func f) fs cap)(ha2:∀(x0:Zaa)(x1:Zaa)(y0:Int),a2 x0 x1=some y0->CCl cx Fa2 [.agg [.c (.int .i64 x0.1),.c (.int .i64 x0.2)],.agg [.c (.int .i64 x1.1),.c (.int .i64 x1.2)]] (.c (.int .i64 y0))){r1:Int}(h:Zhk a0 a1 a2=some r1):ACall cx 104 [.sl 2 (a0.map cF),.sl 2 (a1.map cF),Fa2] (.c (.int .i64 r1)):=by
 obtain⟨fa2,sa2,qa2,rfl⟩:=ea2;refine aOf Tryz.func104 rfl (by decide) rfl (bT1 rfl) ?_;intro _;unfold Zhk at h;refine aSR λ_=>dr ?_;obtain⟨o1,h,hK2⟩:=Zae h;refine Zat (α:=Unit) (λ_=>mkS 39 [(0,.sl 2 (a0.map cF)),(1,.sl 2 (a1.map cF))] []) (λv=>o1=(.inl v)) ?_ ?_
 ·refine aSR λ_=>dr (aBk ?_);refine Zaj (α:=Nat×Int) (λx=>mkS 39 [(0,.sl 2 (a0.map cF)),(1,.sl 2 (a1.map cF)),(2,.clo (.func fa2) sa2 qa2),(11,.sl 2 (a0.map cF)),(12,.c (.int .i64 ((a0.map cF).length:Int))),(13,.c (.int .i64 x.2))] []) (λx=>Zb2 a0 a1 a2 x.1 x.2=some o1) (λx=>x.1) ((((a0.map cF).length:Int)).toNat+1,0) h ?_ ?_
  ·exact Zas
  ·intro x3 h;intro _;obtain⟨k23,m4,h⟩:=Zak (f:=λn=>Zb2 a0 a1 a2 n x3.2) rfl h;replace h:Zb2 a0 a1 a2 (k23+1) x3.2=some o1:=h;rw[Zb2]at h;refine aSR λ_=>dr (aSq (aCd λ_=>?_));refine spl h (λc5 h=>?_) (λc5 h=>?_)
   ·refine aSk (aSq (aBk (aSR λ_=>?_)));obtain⟨y24,w6,q7,h⟩:=Za9 h;refine Exists.intro (cF y24) (And.intro (Zad w6) λ_=>pr (dr (aSq (aSR λ_=>dr (aCd λ_=>?_)))));refine spl h (λc8 h=>?_) (λc8 h=>?_)
    ·refine aSR λ_=>dr (aRt ?_);have j9:=sI_ h;subst j9;replace h:=(Za4 hK2);exact zz4
    ·refine aSk (aSR λ_=>?_);obtain⟨y25,w10,q11,h⟩:=Za9 h;refine Exists.intro (cF y25) (And.intro (Zad w10) λ_=>pr (dr (aSR λ_=>?_)));obtain⟨z26,u12,h⟩:=Zae h;refine clc rfl (ha2 _ _ _ u12) hFa2 λ_=>dr (aSR λ_=>dr (aCd λ_=>?_));refine spl h (λc13 h=>?_) (λc13 h=>?_)
     ·refine aSR λ_=>dr (aRt ?_);have j14:=sI_ h;subst j14;replace h:=(Za4 hK2);exact zz4
     ·refine aSk (aRg λ_=>dr ⟨(k23,(IntKind.i64.wrap (x3.2+1))),h,ltS m4,?_⟩);exact Zas
   ·exact zz11
 ·rintro _ ho;have ho:=ho.symm;subst ho;intro _;replace h:=(Zcx hK2);refine aSq (aSR λ_=>dr (aCd λ_=>?_));refine spl h (λc15 h=>?_) (λc15 h=>?_)
  ·exact zz2
  ·refine aSk ?_;exact zz2
def Zho (a0:Int):Option (Bool):=some (a0 != a0)
theorem Zrp (a0:Int){r1:Bool}(h:Zho a0=some r1):ACall cx 138 [.c (.int .i64 a0)] (.c (.bool r1)):=by
 refine aOf Tryz.func138 rfl (by decide) rfl (bT1 rfl) ?_;intro _;unfold Zho at h;refine aSR λ_=>dr ?_;exact zz2
def Zf6 (a0:Int)(a1:Int):Option (Int):=ob1 (Zho a0) (λz1=>ob1 (Zho a1) (λz2=>sel z1 (sel z2 (some 0) (some (-1))) (sel z2 (some 1) (sel (decide (a0<a1)) (some (-1)) (sel (decide (a0>a1)) (some 1) (some 0))))))
theorem Zpg (a0:Int)(a1:Int){r1:Int}(h:Zf6 a0 a1=some r1):ACall cx 107 [.c (.int .i64 a0),.c (.int .i64 a1)] (.c (.int .i64 r1)):=by
 refine aOf Tryz.func107 rfl (by decide) rfl (bT1 rfl) ?_;intro _;unfold Zf6 at h;refine aSR λ_=>dr (aSR λ_=>?_);obtain⟨z1,u1,h⟩:=Zae h;refine cl rfl (Zrp a0 u1) λ_=>dr (aSR λ_=>?_);obtain⟨z2,u2,h⟩:=Zae h;refine cl rfl (Zrp a1 u2) λ_=>dr (aSq (aSR λ_=>dr (aCd λ_=>?_)));refine spl h (λc3 h=>?_) (λc3 h=>?_)
 ·refine aSq (aSR λ_=>dr (aCd λ_=>?_));refine spl h (λc4 h=>?_) (λc4 h=>?_)
  ·exact zz2
  ·refine aSk ?_;exact zz2
 ·refine aSk (aSq (aSR λ_=>dr (aCd λ_=>?_)));refine spl h (λc5 h=>?_) (λc5 h=>?_)
  ·exact zz2
  ·refine aSk (aSq (aSR λ_=>dr (aCd λ_=>?_)));refine spl h (λc6 h=>?_) (λc6 h=>?_)
   ·exact zz2
   ·refine aSk (aSq (aSR λ_=>dr (aCd λ_=>?_)));refine spl h (λc7 h=>?_) (λc7 h=>?_)
    ·exact zz2
    ·refine aSk ?_;exact zz2
def Ze8 (a0:List Int):Nat->Int->Option (Int)|0,_=>none|k5+1,v4=>sel (decide (v4<((a0.map cI).length:Int))) (ix a0 v4 (λy6=>sel (y6 != 0) (some y6) (Ze8 a0 k5 (IntKind.i64.wrap (v4+1))))) (some 0)
def Zmi (a0:List Int):Option (Int):=Ze8 a0 ((((a0.map cI).length:Int)).toNat+1) 0
theorem Zaei (a0:List Int){r1:Int}(h:Zmi a0=some r1):ACall cx 106 [.sl 1 (a0.map cI)] (.c (.int .i64 r1)):=by
 refine aOf Tryz.func106 rfl (by decide) rfl (bT1 rfl) ?_;intro _;unfold Zmi at h;refine aSR λ_=>dr (aSR λ_=>dr (aSq (aSR λ_=>dr (aBk ?_))));refine Zaj (α:=Nat×Int) (λx=>mkS 18 [(3,.c (.int .i64 0)),(6,.sl 1 (a0.map cI)),(7,.c (.int .i64 ((a0.map cI).length:Int))),(8,.c (.int .i64 x.2))] []) (λx=>Ze8 a0 x.1 x.2=some r1) (λx=>x.1) ((((a0.map cI).length:Int)).toNat+1,0) h ?_ ?_
 ·exact Zas
 ·intro x1 h;intro _;obtain⟨k5,m2,h⟩:=Zak (f:=λn=>Ze8 a0 n x1.2) rfl h;replace h:Ze8 a0 (k5+1) x1.2=some r1:=h;rw[Ze8]at h;refine aSR λ_=>dr (aSq (aCd λ_=>?_));refine spl h (λc3 h=>?_) (λc3 h=>?_)
  ·refine aSk (aSq (aBk (aSR λ_=>?_)));obtain⟨y6,w4,q5,h⟩:=Za9 h;refine Exists.intro (cI y6) (And.intro (Zad w4) λ_=>pr (dr (aSR λ_=>dr (aCd λ_=>?_))));refine spl h (λc6 h=>?_) (λc6 h=>?_)
   ·exact zz2
   ·refine aSk (aRg λ_=>dr ⟨(k5,(IntKind.i64.wrap (x1.2+1))),h,ltS m2,?_⟩);exact Zas
  ·exact zz9
def Zg3 (a0:Zaa)(a1:Zaa):Option (Int):=ob1 (Zf6 a0.1 a1.1) (λz1=>ob1 (Zf6 a0.2 a1.2) (λz2=>ob1 (Zmi [z1,z2]) (λz3=>some z3)))
theorem Zacr (a0:Zaa)(a1:Zaa){r1:Int}(h:Zg3 a0 a1=some r1):ACall cx 105 [.agg [.c (.int .i64 a0.1),.c (.int .i64 a0.2)],.agg [.c (.int .i64 a1.1),.c (.int .i64 a1.2)]] (.c (.int .i64 r1)):=by
 refine aOf Tryz.func105 rfl (by decide) rfl (bT1 rfl) ?_;intro _;unfold Zg3 at h;refine aSR λ_=>dr (aSR λ_=>?_);obtain⟨z1,u1,h⟩:=Zae h;refine cl rfl (Zpg a0.1 a1.1 u1) λ_=>?_;obtain⟨z2,u2,h⟩:=Zae h;refine cl rfl (Zpg a0.2 a1.2 u2) λ_=>?_;obtain⟨z3,u3,h⟩:=Zae h;refine clb [15] rfl rfl (Zaei [z1,z2] u3) ?_;exact zz0
def Zga (a0:List Zaa)(a1:List Zaa):Option (Int):=ob1 (Zhk a0 a1 Zg3) (λz1=>some z1)
theorem Zy7 (a0:List Zaa)(a1:List Zaa){r1:Int}(h:Zga a0 a1=some r1):ACall cx 86 [.sl 2 (a0.map cF),.sl 2 (a1.map cF)] (.c (.int .i64 r1)):=by
 refine aOf Tryz.func86 rfl (by decide) rfl (bT1 rfl) ?_;intro _;unfold Zga at h;refine aSR λ_=>dr (aSR λ_=>?_);obtain⟨z1,u1,h⟩:=Zae h;refine clb [] rfl rfl (Zto a0 a1 Zg3 (.clo (.func 105) [] []) (Fr.clo Zd2 FrE.h) ⟨_,_,_,rfl⟩ (λx0 x1 y0 hx=>⟨105,[],_,rfl,Zacr x0 x1 hx⟩) u1) ?_;exact zz0
def Zgb (a1:List (List Zaa))(g:Nat)(y153:List Zaa):Nat->Int->(List (List Zaa))->(List (List Zaa))->Option (((List (List Zaa))×(List (List Zaa)))⊕((List (List Zaa))×Er))|0,_,_,_=>none|k172+1,v169,v170,v171=>sel (decide (v169<((a1.map Zal).length:Int))) (ix a1 v169 (λy173=>ob2 (Zs2 y153 y173) (λz174 z175=>sel (!z175) (Zgb a1 g y153 k172 (IntKind.i64.wrap (v169+1)) v170 v171) (grd (v170.length<=140737488355328) (ob2 (Zcu g v170 z174 Zga) (λz176 z177=>sel z177 (Zgb a1 g y153 k172 (IntKind.i64.wrap (v169+1)) v170 v171) (sel (((v171.length:Nat):Int) == 1024) (some (.inr ([],(Er.no 5)))) (ob1 (Zr8 v170 z176 [z174]) (λz178=>grd ((v171.length+1)*24<=140737488355328) (Zgb a1 g y153 k172 (IntKind.i64.wrap (v169+1)) z178 (v171++[z174]))))))))))) (some (.inl (v170,v171)))
def Zgc (a0:List (List Zaa))(a1:List (List Zaa))(g:Nat):Nat->Int->(List (List Zaa))->(List (List Zaa))->Option ((List (List Zaa))×Er)|0,_,_,_=>none|k121+1,v118,v119,v120=>sel (decide (v118<((a0.map Zal).length:Int))) (ob1 (ix a0 v118 (λy153=>Zgb a1 g y153 ((((a1.map Zal).length:Int)).toNat+1) 0 v119 v120):Option (((List (List Zaa))×(List (List Zaa)))⊕((List (List Zaa))×Er))) (Zj9 (λ(v148,v149)=>Zgc a0 a1 g k121 (IntKind.i64.wrap (v118+1)) v148 v149) (λ(r150,r151)=>some (r150,r151)))) (grd (v120.length<=140737488355328) (some (v120,Er.nil)))
def Znc (g:Nat)(a0:List (List Zaa))(a1:List (List Zaa)):Option ((List (List Zaa))×Er):=Zgc a0 a1 g ((((a0.map Zal).length:Int)).toNat+1) 0 [] []
theorem Zai9 (g:Nat)(a0:List (List Zaa))(a1:List (List Zaa)){r1:List (List Zaa)}{r2:Er}(h:Znc g a0 a1=some (r1,r2)):ACall cx 102 [.sl 1 (a0.map Zal),.sl 1 (a1.map Zal)] (.tup [.sl 1 (r1.map Zal),eA r2]):=by
 refine aOf Tryz.func102 rfl (by decide) rfl (bT1 rfl) ?_;intro _;unfold Znc at h;refine aSR λ_=>dr (aSR λ_=>dr (aSq (aSR λ_=>dr (aBk ?_))));refine Zaj (α:=Nat×Int×(List (List Zaa))×(List (List Zaa))) (λx=>mkS 59 [(1,.sl 1 (a1.map Zal)),(6,.own 55 0 0 x.2.2.2.length),(7,.own 51 0 0 x.2.2.1.length),(16,.sl 1 (a0.map Zal)),(17,.c (.int .i64 ((a0.map Zal).length:Int))),(18,.c (.int .i64 x.2.1))] [(51,⟨23,1,false,x.2.2.1.map Zal⟩),(55,⟨23,1,false,x.2.2.2.map Zal⟩)]) (λx=>Zgc a0 a1 g x.1 x.2.1 x.2.2.1 x.2.2.2=some (r1,r2)) (λx=>x.1) ((((a0.map Zal).length:Int)).toNat+1,0,[],[]) h ?_ ?_
 ·exact Zas
 ·intro x1 h;intro _;obtain⟨k121,m2,h⟩:=Zak (f:=λn=>Zgc a0 a1 g n x1.2.1 x1.2.2.1 x1.2.2.2) rfl h;replace h:Zgc a0 a1 g (k121+1) x1.2.1 x1.2.2.1 x1.2.2.2=some (r1,r2):=h;rw[Zgc]at h;refine aSR λ_=>dr (aSq (aCd λ_=>?_));refine spl h (λc3 h=>?_) (λc3 h=>?_)
  ·refine aSk ?_;obtain⟨o4,h,hK5⟩:=Zae h;refine Zat (α:=(List (List Zaa))×(List (List Zaa))) (λ(v148,v149)=>mkS 59 [(1,.sl 1 (a1.map Zal)),(6,.own 55 0 0 v149.length),(7,.own 51 0 0 v148.length),(16,.sl 1 (a0.map Zal)),(17,.c (.int .i64 ((a0.map Zal).length:Int))),(18,.c (.int .i64 x1.2.1))] [(51,⟨23,1,false,v148.map Zal⟩),(55,⟨23,1,false,v149.map Zal⟩)]) (λv=>o4=(.inl v)) ?_ ?_
   ·refine aBk (aSR λ_=>?_);obtain⟨y153,w6,q7,h⟩:=Za9 h;refine Exists.intro (Zal y153) (And.intro (Zad w6) λ_=>pr (dr (aSR λ_=>dr (aBk ?_))));refine Zaj (α:=Nat×Int×(List (List Zaa))×(List (List Zaa))) (λx=>mkS 59 [(1,.sl 1 (a1.map Zal)),(6,.own 55 0 0 x.2.2.2.length),(7,.own 51 0 0 x.2.2.1.length),(9,.sl 2 (y153.map cF)),(16,.sl 1 (a0.map Zal)),(17,.c (.int .i64 ((a0.map Zal).length:Int))),(18,.c (.int .i64 x1.2.1)),(22,.sl 1 (a1.map Zal)),(23,.c (.int .i64 ((a1.map Zal).length:Int))),(24,.c (.int .i64 x.2.1))] [(51,⟨23,1,false,x.2.2.1.map Zal⟩),(55,⟨23,1,false,x.2.2.2.map Zal⟩)]) (λx=>Zgb a1 g y153 x.1 x.2.1 x.2.2.1 x.2.2.2=some o4) (λx=>x.1) ((((a1.map Zal).length:Int)).toNat+1,0,x1.2.2.1,x1.2.2.2) h ?_ ?_
    ·exact Zas
    ·intro x8 h;intro _;obtain⟨k172,m9,h⟩:=Zak (f:=λn=>Zgb a1 g y153 n x8.2.1 x8.2.2.1 x8.2.2.2) rfl h;replace h:Zgb a1 g y153 (k172+1) x8.2.1 x8.2.2.1 x8.2.2.2=some o4:=h;rw[Zgb]at h;refine aSR λ_=>dr (aSq (aCd λ_=>?_));refine spl h (λc10 h=>?_) (λc10 h=>?_)
     ·refine aSk (aSq (aBk (aSR λ_=>?_)));obtain⟨y173,w11,q12,h⟩:=Za9 h;refine Exists.intro (Zal y173) (And.intro (Zad w11) λ_=>pr (dr (aSR λ_=>?_)));obtain⟨z174,z175,u13,h⟩:=Zdv h;refine cl rfl (Zaqj y153 y173 u13) λ_=>dr (aSq (aSR λ_=>dr (aCd λ_=>?_)));refine spl h (λc14 h=>?_) (λc14 h=>?_)
      ·refine aEx (aRg λ_=>dr ⟨(k172,(IntKind.i64.wrap (x8.2.1+1)),x8.2.2.1,x8.2.2.2),h,ltS m9,?_⟩);exact Zas
      ·refine aSk (aSR λ_=>?_);obtain⟨q15,h⟩:=Zaf h;obtain⟨z176,z177,u16,h⟩:=Zdv h;refine clb [51] rfl rfl (Zov g x8.2.2.1 z174 Zga (.clo (.func 86) [] []) (Fr.clo Zd2 FrE.h) ⟨_,_,_,rfl⟩ (λx0 x1 y0 hx=>⟨86,[],_,rfl,Zy7 x0 x1 hx⟩) u16) ?_;intro _;refine dr (aSq (aSR λ_=>dr (aCd λ_=>?_)));refine spl h (λc17 h=>?_) (λc17 h=>?_)
       ·refine aEx (aRg λ_=>dr ⟨(k172,(IntKind.i64.wrap (x8.2.1+1)),x8.2.2.1,x8.2.2.2),h,ltS m9,?_⟩);exact Zas
       ·refine aSk (aSq (aSR λ_=>dr (aCd λ_=>?_)));refine spl h (λc18 h=>?_) (λc18 h=>?_)
        ·refine aSR λ_=>dr (aRt ?_);have j19:=sI_ h;subst j19;replace h:=(Za4 hK5);exact zz1
        ·refine aSk (aSR λ_=>?_);obtain⟨z178,u20,h⟩:=Zae h;refine clg [(0,51),(2,50),(0,51)] [] [(50,⟨2,none⟩),(51,⟨1,none⟩)] [(51,⟨2,some ⟨23,1,false,z178.map Zal⟩⟩)] (.own 51 2 0 z178.length) rfl rfl (Zam4 x8.2.2.1 z176 [z174] u20) λ_=>dr (aRg λ_=>?_);obtain⟨q21,h⟩:=Zaf h;refine pl (pl ?_);refine And.intro (by first|with_reducible assumption|(show(x8.2.2.2.length+1)*24<=140737488355328;with_reducible assumption)|omega|(simp;omega)) ?_;refine pe (dr (aRg λ_=>dr ⟨(k172,(IntKind.i64.wrap (x8.2.1+1)),z178,(x8.2.2.2++[z174])),h,ltS m9,?_⟩));exact Zas
     ·refine aEx ⟨(x8.2.2.1,x8.2.2.2),(sI_ h).symm,?_⟩;exact Zas
   ·rintro⟨v148,v149⟩ ho;have ho:=ho.symm;subst ho;intro _;replace h:=(Zcx hK5);refine aRg λ_=>dr ⟨(k121,(IntKind.i64.wrap (x1.2.1+1)),v148,v149),h,ltS m2,?_⟩;exact Zas
  ·refine aEx (aSR λ_=>dr (aRt ?_));obtain⟨q22,h⟩:=Zaf h;exact zz1
def Zkm (b0:List Zaa)(a0:List Zaa):Option (Bool):=ob1 (Zga a0 b0) (λz1=>some (z1 == 0))
theorem Zag4 (b0:List Zaa)(a0:List Zaa){r1:Bool}(h:Zkm b0 a0=some r1):ACall cx 126 [.sl 2 (a0.map cF),.pim [.sl 2 (b0.map cF)] 0] (.c (.bool r1)):=by
 refine aOf Tryz.func126 rfl (by decide) rfl (bT1 rfl) ?_;intro _;unfold Zkm at h;refine aSR λ_=>dr (aSR λ_=>?_);obtain⟨z1,u1,h⟩:=Zae h;refine cl rfl (Zy7 a0 b0 u1) ?_;exact zz0
def Zg2 (a1:GOp)(a2:Zaa):Nat->Int->(List Zaq)->Option (List Zaq)|0,_,_=>none|k17+1,v15,v16=>sel (decide (v15<((a1.Effs.map Zag).length:Int))) (ix a1.Effs v15 (λy18=>sel (y18.Var == a2.1) (grd ((v16.length+1)*40<=140737488355328) (Zg2 a1 a2 k17 (IntKind.i64.wrap (v15+1)) (v16++[y18]))) (Zg2 a1 a2 k17 (IntKind.i64.wrap (v15+1)) v16))) (some v16)
def Zfz (a0:List Int)(a2:Zaa)(g:Nat)(v9:List Zaq)(v780:Int):Nat->(List (List Zaa))->Int->Option ((List (List Zaa))⊕((List (List Zaa))×Er))|0,_,_=>none|k914+1,v912,v913=>sel (decide (v913<((v9.length-(IntKind.i64.wrap (v780+1)).toNat:Nat):Int))) (ixn v9 ((IntKind.i64.wrap (v780+1)).toNat+(v913).toNat) (λy915=>grd (0<=v913) (grd (v913<((v9.length-(IntKind.i64.wrap (v780+1)).toNat:Nat):Int)) (sel (y915.Val == a2.2) (Zfz a0 a2 g v9 v780 k914 v912 (IntKind.i64.wrap (v913+1))) (ob2 (Znj a0 y915) (λz916 z917=>erM z917 (ob2 (Znc g v912 z916) (λz919 z920=>erM z920 (Zfz a0 a2 g v9 v780 k914 z919 (IntKind.i64.wrap (v913+1))) (λe921=>some (.inr ([],(Er.no e921)))))) (λe918=>some (.inr ([],(Er.no e918)))))))))) (some (.inl v912))
def Zf0 (v892:List (List Zaa)):Nat->Int->(List (List Zaa))->Option ((List (List Zaa))⊕((List (List Zaa))×Er))|0,_,_=>none|k930+1,v928,v929=>sel (decide (v928<((v892.map Zal).length:Int))) (ix v892 v928 (λy931=>grd (v929.length<=140737488355328) (ob1 (Zb3 v929 (Zkm y931)) (λz932=>sel (!z932) (grd ((v929.length+1)*24<=140737488355328) (Zf0 v892 k930 (IntKind.i64.wrap (v928+1)) (v929++[y931]))) (Zf0 v892 k930 (IntKind.i64.wrap (v928+1)) v929))))) (some (.inl v929))
def Zf1 (a0:List Int)(a2:Zaa)(g:Nat)(v9:List Zaq):Nat->Int->(List (List Zaa))->Option ((List (List Zaa))⊕((List (List Zaa))×Er))|0,_,_=>none|k782+1,v780,v781=>sel (decide (v780>=(-1))) (ob1 (ob1 (sel (decide (v780>=0)) (ixn v9 ((v780).toNat) (λy864=>grd (0<=v780) (grd (v780<((v9.length:Nat):Int)) (sel (y864.Val != a2.2) (some (.inr ())) (ixn v9 ((v780).toNat) (λy865=>some (.inl [y865.When]))))))) (some (.inl [[a2]])):Option ((List (List Zaa))⊕Unit)) (Zj9 (λv862=>ob1 (grd (0<=(IntKind.i64.wrap (v780+1))) (grd ((IntKind.i64.wrap (v780+1)).toNat<=v9.length) (Zfz a0 a2 g v9 v780 ((((v9.length-(IntKind.i64.wrap (v780+1)).toNat:Nat):Int)).toNat+1) v862 0)):Option ((List (List Zaa))⊕((List (List Zaa))×Er))) (Zj9 (λv892=>Zf0 v892 ((((v892.map Zal).length:Int)).toNat+1) 0 v781) (λ(r893,r894)=>some (.inr (r893,r894))))) (λ_=>some (.inl v781))):Option ((List (List Zaa))⊕((List (List Zaa))×Er))) (Zj9 (λv856=>Zf1 a0 a2 g v9 k782 (IntKind.i64.wrap (v780-1)) v856) (λ(r857,r858)=>some (.inr (r857,r858))))) (some (.inl v781))
def Zpn (g:Nat)(a0:List Int)(a1:GOp)(a2:Zaa):Option ((List (List Zaa))×Er):=ob1 (Zg2 a1 a2 ((((a1.Effs.map Zag).length:Int)).toNat+1) 0 []:Option (List Zaq)) (λv9=>ob1 (Zf1 a0 a2 g v9 g (IntKind.i64.wrap (((v9.length:Nat):Int)-1)) []:Option ((List (List Zaa))⊕((List (List Zaa))×Er))) (Zj9 (λv474=>sel (decide (((v474.length:Nat):Int)>1024)) (some ([],(Er.no 5))) (grd (v474.length<=140737488355328) (some (v474,Er.nil)))) (λ(r475,r476)=>some (r475,r476))))
theorem Zam3 (g:Nat)(a0:List Int)(a1:GOp)(a2:Zaa){r1:List (List Zaa)}{r2:Er}(h:Zpn g a0 a1 a2=some (r1,r2)):ACall cx 101 [.sl 1 (a0.map cI),.agg [.c (.string a1.Name),.c (.int .i64 a1.Cost),.sl 2 (a1.Pre.map cF),.sl 3 (a1.Effs.map Zag)],.agg [.c (.int .i64 a2.1),.c (.int .i64 a2.2)]] (.tup [.sl 1 (r1.map Zal),eA r2]):=by
 refine aOf Tryz.func101 rfl (by decide) rfl (bT1 rfl) ?_;intro _;unfold Zpn at h;refine aSR λ_=>dr (aSR λ_=>dr ?_);obtain⟨o1,h,hK2⟩:=Zae h;refine Zat (α:=List Zaq) (λv9=>mkS 116 [(0,.sl 1 (a0.map cI)),(5,.ptr 5 0 0 0),(8,.own 35 0 0 v9.length)] [(5,⟨53,2,true,[[.c (.int .i64 a2.1),.c (.int .i64 a2.2)]]⟩),(35,⟨51,3,false,v9.map Zag⟩)]) (λv=>o1=v) ?_ ?_
 ·refine aSR λ_=>dr (aBk ?_);refine Zaj (α:=Nat×Int×(List Zaq)) (λx=>mkS 116 [(0,.sl 1 (a0.map cI)),(5,.ptr 5 0 0 0),(8,.own 35 0 0 x.2.2.length),(21,.sl 3 (a1.Effs.map Zag)),(22,.c (.int .i64 ((a1.Effs.map Zag).length:Int))),(23,.c (.int .i64 x.2.1))] [(5,⟨53,2,true,[[.c (.int .i64 a2.1),.c (.int .i64 a2.2)]]⟩),(35,⟨51,3,false,x.2.2.map Zag⟩)]) (λx=>Zg2 a1 a2 x.1 x.2.1 x.2.2=some o1) (λx=>x.1) ((((a1.Effs.map Zag).length:Int)).toNat+1,0,[]) h ?_ ?_
  ·exact Zas
  ·intro x3 h;intro _;obtain⟨k17,m4,h⟩:=Zak (f:=λn=>Zg2 a1 a2 n x3.2.1 x3.2.2) rfl h;replace h:Zg2 a1 a2 (k17+1) x3.2.1 x3.2.2=some o1:=h;rw[Zg2]at h;refine aSR λ_=>dr (aSq (aCd λ_=>?_));refine spl h (λc5 h=>?_) (λc5 h=>?_)
   ·refine aSk (aSq (aBk (aSR λ_=>?_)));obtain⟨y18,w6,q7,h⟩:=Za9 h;refine Exists.intro (Zag y18) (And.intro (Zad w6) λ_=>pr (dr (aSR λ_=>dr (aCd λ_=>?_))));refine spl h (λc8 h=>?_) (λc8 h=>?_)
    ·refine aRg λ_=>?_;obtain⟨q9,h⟩:=Zaf h;refine pl (pl ?_);refine And.intro (by first|with_reducible assumption|(show(x3.2.2.length+1)*40<=140737488355328;with_reducible assumption)|omega|(simp;omega)) ?_;refine pe (dr (aRg λ_=>dr ⟨(k17,(IntKind.i64.wrap (x3.2.1+1)),(x3.2.2++[y18])),h,ltS m4,?_⟩));exact Zas
    ·refine aSk (aRg λ_=>dr ⟨(k17,(IntKind.i64.wrap (x3.2.1+1)),x3.2.2),h,ltS m4,?_⟩);exact Zas
   ·refine aEx ⟨x3.2.2,(sI_ h).symm,?_⟩;exact Zas
 ·rintro v9 ho;have ho:=ho.symm;subst ho;intro _;replace h:=hK2;refine aSR λ_=>dr ?_;obtain⟨o10,h,hK11⟩:=Zae h;refine Zat (α:=List (List Zaa)) (λv474=>mkS 116 [(11,.own 109 0 0 v474.length)] [(109,⟨23,1,false,v474.map Zal⟩)]) (λv=>o10=(.inl v)) ?_ ?_
  ·refine aSR λ_=>dr (aBk ?_);refine Zaj (α:=Nat×Int×(List (List Zaa))) (λx=>mkS 116 [(0,.sl 1 (a0.map cI)),(5,.ptr 5 0 0 0),(8,.own 35 0 0 v9.length),(11,.own 109 0 0 x.2.2.length),(12,.c (.int .i64 x.2.1))] [(5,⟨53,2,true,[[.c (.int .i64 a2.1),.c (.int .i64 a2.2)]]⟩),(35,⟨51,3,false,v9.map Zag⟩),(109,⟨23,1,false,x.2.2.map Zal⟩)]) (λx=>Zf1 a0 a2 g v9 x.1 x.2.1 x.2.2=some o10) (λx=>x.1) (g,(IntKind.i64.wrap (((v9.length:Nat):Int)-1)),[]) h ?_ ?_
   ·exact Zas
   ·intro x12 h;intro _;obtain⟨k782,m13,h⟩:=Zak (f:=λn=>Zf1 a0 a2 g v9 n x12.2.1 x12.2.2) rfl h;replace h:Zf1 a0 a2 g v9 (k782+1) x12.2.1 x12.2.2=some o10:=h;rw[Zf1]at h;refine aSq (aSR λ_=>dr (aCd λ_=>?_));refine spl h (λc14 h=>?_) (λc14 h=>?_)
    ·refine aSk ?_;obtain⟨o15,h,hK16⟩:=Zae h;refine Zat (α:=List (List Zaa)) (λv856=>mkS 116 [(0,.sl 1 (a0.map cI)),(5,.ptr 5 0 0 0),(8,.own 35 0 0 v9.length),(11,.own 109 0 0 v856.length),(12,.c (.int .i64 x12.2.1))] [(5,⟨53,2,true,[[.c (.int .i64 a2.1),.c (.int .i64 a2.2)]]⟩),(35,⟨51,3,false,v9.map Zag⟩),(109,⟨23,1,false,v856.map Zal⟩)]) (λv=>o15=(.inl v)) ?_ ?_
     ·refine aBk (aSR λ_=>dr ?_);obtain⟨o17,h,hK18⟩:=Zae h;refine Zat (α:=List (List Zaa)) (λv862=>mkS 116 [(0,.sl 1 (a0.map cI)),(5,.ptr 5 0 0 0),(8,.own 35 0 0 v9.length),(11,.own 109 0 0 x12.2.2.length),(12,.c (.int .i64 x12.2.1)),(13,.sl 1 (v862.map Zal))] [(5,⟨53,2,true,[[.c (.int .i64 a2.1),.c (.int .i64 a2.2)]]⟩),(35,⟨51,3,false,v9.map Zag⟩),(109,⟨23,1,false,x12.2.2.map Zal⟩)]) (λv=>o17=(.inl v)) ?_ ?_
      ·refine aSR λ_=>dr (aCd λ_=>?_);refine spl h (λc19 h=>?_) (λc19 h=>?_)
       ·refine aSq (aSR λ_=>?_);obtain⟨y864,w20,h⟩:=Zcm h;refine Exists.intro (Zag y864) (And.intro (by first|exact Zad w20|(have w:=Zad (f:=Zag) w20;simpa [Zag,Value.cells] using w)) ?_);intro _;obtain⟨q21,h⟩:=Zaf h;obtain⟨q22,h⟩:=Zaf h;refine pr (pr (dr (aCd λ_=>?_)));refine spl h (λc23 h=>?_) (λc23 h=>?_)
        ·refine aEx ?_;have j24:=sI_ h;subst j24;replace h:=(Za4 hK18);refine⟨x12.2.2,(sI_ h).symm,?_⟩;exact Zas
        ·refine aSk (aRg λ_=>?_);obtain⟨y865,w25,h⟩:=Zcm h;refine Exists.intro (Zag y865) (And.intro (by first|exact Zad w25|(have w:=Zad (f:=Zag) w25;simpa [Zag,Value.cells] using w)) ?_);intro _;refine pr (pr (dr ⟨[y865.When],(sI_ h).symm,?_⟩));exact Zas
       ·refine aSk ⟨[[a2]],(sI_ h).symm,?_⟩;exact Zas
      ·rintro v862 ho;have ho:=ho.symm;subst ho;intro _;replace h:=(Zcx hK18);obtain⟨o26,h,hK27⟩:=Zae h;refine Zat (α:=List (List Zaa)) (λv892=>mkS 116 [(0,.sl 1 (a0.map cI)),(5,.ptr 5 0 0 0),(8,.own 35 0 0 v9.length),(11,.own 109 0 0 x12.2.2.length),(12,.c (.int .i64 x12.2.1)),(13,.sl 1 (v892.map Zal))] [(5,⟨53,2,true,[[.c (.int .i64 a2.1),.c (.int .i64 a2.2)]]⟩),(35,⟨51,3,false,v9.map Zag⟩),(109,⟨23,1,false,x12.2.2.map Zal⟩)]) (λv=>o26=(.inl v)) ?_ ?_
       ·refine aSR λ_=>?_;obtain⟨q28,h⟩:=Zaf h;obtain⟨q29,h⟩:=Zaf h;refine pr (pr (pr (dr (aBk ?_))));refine Zaj (α:=Nat×(List (List Zaa))×Int) (λx=>mkS 116 [(0,.sl 1 (a0.map cI)),(5,.ptr 5 0 0 0),(8,.own 35 0 0 v9.length),(11,.own 109 0 0 x12.2.2.length),(12,.c (.int .i64 x12.2.1)),(13,.sl 1 (x.2.1.map Zal)),(66,.own 35 0 ((IntKind.i64.wrap (x12.2.1+1)).toNat) (v9.length-(IntKind.i64.wrap (x12.2.1+1)).toNat)),(67,.c (.int .i64 ((v9.length-(IntKind.i64.wrap (x12.2.1+1)).toNat:Nat):Int))),(68,.c (.int .i64 x.2.2))] [(5,⟨53,2,true,[[.c (.int .i64 a2.1),.c (.int .i64 a2.2)]]⟩),(35,⟨51,3,false,v9.map Zag⟩),(109,⟨23,1,false,x12.2.2.map Zal⟩)]) (λx=>Zfz a0 a2 g v9 x12.2.1 x.1 x.2.1 x.2.2=some o26) (λx=>x.1) ((((v9.length-(IntKind.i64.wrap (x12.2.1+1)).toNat:Nat):Int)).toNat+1,v862,0) h ?_ ?_
        ·exact Zas
        ·intro x30 h;intro _;obtain⟨k914,m31,h⟩:=Zak (f:=λn=>Zfz a0 a2 g v9 x12.2.1 n x30.2.1 x30.2.2) rfl h;replace h:Zfz a0 a2 g v9 x12.2.1 (k914+1) x30.2.1 x30.2.2=some o26:=h;rw[Zfz]at h;refine aSR λ_=>dr (aSq (aCd λ_=>?_));refine spl h (λc32 h=>?_) (λc32 h=>?_)
         ·refine aSk (aSq (aBk (aSR λ_=>?_)));obtain⟨y915,w33,h⟩:=Zcm h;refine Exists.intro (Zag y915) (And.intro (by first|exact Zad w33|(have w:=Zad (f:=Zag) w33;simpa [Zag,Value.cells] using w)) ?_);intro _;obtain⟨q34,h⟩:=Zaf h;obtain⟨q35,h⟩:=Zaf h;refine pr (pr (dr (aSq (aSR λ_=>dr (aCd λ_=>?_)))));refine spl h (λc36 h=>?_) (λc36 h=>?_)
          ·refine aEx (aRg λ_=>dr ⟨(k914,x30.2.1,(IntKind.i64.wrap (x30.2.2+1))),h,ltS m31,?_⟩);exact Zas
          ·refine aSk (aSR λ_=>?_);obtain⟨z916,z917,u37,h⟩:=Zdv h;refine cl rfl (Zalc a0 y915 u37) λ_=>dr (aSq (aSq ?_));rcases z917 with _|e918
           ·replace h:=Zdn h;refine aRg λ_=>dr (aCd λ_=>Znf (aSk (aSR λ_=>?_)));obtain⟨z919,z920,u38,h⟩:=Zdv h;refine cl rfl (Zai9 g x30.2.1 z916 u38) λ_=>dr (aSq ?_);rcases z920 with _|e921
            ·replace h:=Zdn h;refine aRg λ_=>dr (aCd λ_=>Znf (aSk (aRg λ_=>dr ⟨(k914,z919,(IntKind.i64.wrap (x30.2.2+1))),h,ltS m31,?_⟩)));exact Zas
            ·replace h:=Zlf h;refine aRg λ_=>dr (aCd λ_=>Zll (aSR λ_=>dr (aRt ?_)));have j39:=sI_ h;subst j39;replace h:=(Za4 hK27);have j40:=sI_ h;subst j40;replace h:=(Za4 hK16);have j41:=sI_ h;subst j41;replace h:=(Za4 hK11);exact zz1
           ·replace h:=Zlf h;refine aRg λ_=>dr (aCd λ_=>Zll (aSR λ_=>dr (aRt ?_)));have j42:=sI_ h;subst j42;replace h:=(Za4 hK27);have j43:=sI_ h;subst j43;replace h:=(Za4 hK16);have j44:=sI_ h;subst j44;replace h:=(Za4 hK11);exact zz1
         ·refine aEx ⟨x30.2.1,(sI_ h).symm,?_⟩;exact Zas
       ·rintro v892 ho;have ho:=ho.symm;subst ho;intro _;replace h:=(Zcx hK27);refine aSR λ_=>dr (aBk ?_);refine Zaj (α:=Nat×Int×(List (List Zaa))) (λx=>mkS 116 [(0,.sl 1 (a0.map cI)),(5,.ptr 5 0 0 0),(8,.own 35 0 0 v9.length),(11,.own 109 0 0 x.2.2.length),(12,.c (.int .i64 x12.2.1)),(96,.sl 1 (v892.map Zal)),(97,.c (.int .i64 ((v892.map Zal).length:Int))),(98,.c (.int .i64 x.2.1))] [(5,⟨53,2,true,[[.c (.int .i64 a2.1),.c (.int .i64 a2.2)]]⟩),(35,⟨51,3,false,v9.map Zag⟩),(109,⟨23,1,false,x.2.2.map Zal⟩)]) (λx=>Zf0 v892 x.1 x.2.1 x.2.2=some o15) (λx=>x.1) ((((v892.map Zal).length:Int)).toNat+1,0,x12.2.2) h ?_ ?_
        ·exact Zas
        ·intro x45 h;intro _;obtain⟨k930,m46,h⟩:=Zak (f:=λn=>Zf0 v892 n x45.2.1 x45.2.2) rfl h;replace h:Zf0 v892 (k930+1) x45.2.1 x45.2.2=some o15:=h;rw[Zf0]at h;refine aSR λ_=>dr (aSq (aCd λ_=>?_));refine spl h (λc47 h=>?_) (λc47 h=>?_)
         ·refine aSk (aSq (aBk (aSR λ_=>?_)));obtain⟨y931,w48,q49,h⟩:=Za9 h;refine Exists.intro (Zal y931) (And.intro (Zad w48) λ_=>pr (dr (aSR λ_=>?_)));refine⟨_,Zadv rfl (bT1 rfl) rfl rfl,?_⟩;intro _;obtain⟨q50,h⟩:=Zaf h;obtain⟨z932,u51,h⟩:=Zae h;refine clb [19,109] rfl rfl (Zi0 x45.2.2 (Zkm y931) (.clo (.func 126) [] [.pim [.sl 2 (y931.map cF)] 0]) (Fr.clo Zd2 FrE.h) ⟨_,_,_,rfl⟩ (λx0 y0 hx=>⟨126,[],_,rfl,Zag4 y931 x0 hx⟩) u51) ?_;intro _;refine dr (aCd λ_=>?_);refine spl h (λc52 h=>?_) (λc52 h=>?_)
          ·refine aRg λ_=>?_;obtain⟨q53,h⟩:=Zaf h;refine pl (pl ?_);refine And.intro (by first|with_reducible assumption|(show(x45.2.2.length+1)*24<=140737488355328;with_reducible assumption)|omega|(simp;omega)) ?_;refine pe (dr (aRg λ_=>dr ⟨(k930,(IntKind.i64.wrap (x45.2.1+1)),(x45.2.2++[y931])),h,ltS m46,?_⟩));exact Zas
          ·refine aSk (aRg λ_=>dr ⟨(k930,(IntKind.i64.wrap (x45.2.1+1)),x45.2.2),h,ltS m46,?_⟩);exact Zas
         ·refine aEx ⟨x45.2.2,(sI_ h).symm,?_⟩;exact Zas
     ·rintro v856 ho;have ho:=ho.symm;subst ho;intro _;replace h:=(Zcx hK16);refine aRg λ_=>dr ⟨(k782,(IntKind.i64.wrap (x12.2.1-1)),v856),h,ltS m13,?_⟩;exact Zas
    ·refine aEx ⟨x12.2.2,(sI_ h).symm,?_⟩;exact Zas
  ·rintro v474 ho;have ho:=ho.symm;subst ho;intro _;replace h:=(Zcx hK11);refine aSq (aSR λ_=>dr (aCd λ_=>?_));refine spl h (λc54 h=>?_) (λc54 h=>?_)
   ·exact zz6
   ·refine aSk (aSR λ_=>dr (aRt ?_));obtain⟨q55,h⟩:=Zaf h;exact zz1
def Zfa (a0:Zah)(a2:List Zaa)(g:Nat)(y7:GOp):Nat->Int->(List (List (List Zaa)))->Option ((List (List (List Zaa)))⊕((List (List Zaa))×Er))|0,_,_=>none|k46+1,v44,v45=>sel (decide (v44<((a2.map cF).length:Int))) (ix a2 v44 (λy47=>ob2 (Zpn g a0.Vars y7 y47) (λz48 z49=>erM z49 (ixn v45 ((v44).toNat) (λ_=>grd (v44<((v45.length:Nat):Int)) (Zfa a0 a2 g y7 k46 (IntKind.i64.wrap (v44+1)) (v45.set ((v44).toNat) z48)))) (λe50=>some (.inr ([],(Er.no e50))))))) (some (.inl v45))
def Zfb (g:Nat)(v28:List (List (List Zaa))):Nat->(List (List Zaa))->Int->Option ((List (List Zaa))×Er)|0,_,_=>none|k65+1,v63,v64=>sel (decide (v64<((v28.length:Nat):Int))) (ixn v28 ((v64).toNat) (λy66=>grd (0<=v64) (grd (v64<((v28.length:Nat):Int)) (ob2 (Znc g v63 y66) (λz67 z68=>erM z68 (Zfb g v28 k65 z67 (IntKind.i64.wrap (v64+1))) (λe69=>some ([],(Er.no e69)))))))) (some (v63,Er.nil))
def Zmj (g:Nat)(a0:Zah)(a1:Int)(a2:List Zaa):Option ((List (List Zaa))×Er):=ob1 (Zf4 a0) (λz1=>erM z1 (ob1 (sel (decide (a1<0)) (some (.inr ([],(Er.no 1)))) (sel (decide (a1>=((a0.Ops.map Za0).length:Int))) (some (.inr ([],(Er.no 1)))) (some (.inl ()))):Option (Unit⊕((List (List Zaa))×Er))) (Zj9 (λ_=>ob1 (Zdx a0.Vars a2) (λz6=>sel (!z6) (some ([],(Er.no 2))) (ix a0.Ops a1 (λy7=>grd (0<=((a2.map cF).length:Int)) (grd (((a2.map cF).length:Int)*24<=281474976710656) (ob1 (Zfa a0 a2 g y7 ((((a2.map cF).length:Int)).toNat+1) 0 (List.replicate ((a2.map cF).length:Int).toNat []):Option ((List (List (List Zaa)))⊕((List (List Zaa))×Er))) (Zj9 (λv28=>ob1 (Zh8 y7.Pre) (λz52=>grd (z52.length<=140737488355328) (Zfb g v28 ((((v28.length:Nat):Int)).toNat+1) [z52] 0))) (λ(r29,r30)=>some (r29,r30))))))))) (λ(r3,r4)=>some (r3,r4)))) (λe2=>some ([],(Er.no e2))))
theorem zz7 {P:Prop}(w:P:=by replace h:=Zlf h;refine aRg ?_;intro _;refine dr (aCd ?_);intro _;refine Zll ?_;exact zz6):P:=w
theorem Zaej (g:Nat)(a0:Zah)(a1:Int)(a2:List Zaa){r1:List (List Zaa)}{r2:Er}(h:Zmj g a0 a1 a2=some (r1,r2)):ACall cx 83 [.agg [.sl 1 (a0.Vars.map cI),.sl 1 (a0.Init.map cI),.sl 2 (a0.Goal.map cF),.sl 4 (a0.Ops.map Za0)],.c (.int .i64 a1),.sl 2 (a2.map cF)] (.tup [.sl 1 (r1.map Zal),eA r2]):=by
 refine aOf Tryz.func83 rfl (by decide) rfl (bT1 rfl) ?_;intro _;unfold Zmj at h;refine aSR λ_=>dr (aSq (aSR λ_=>?_));obtain⟨z1,u1,h⟩:=Zae h;refine cl rfl (Zkp a0 u1) λ_=>dr (aSq ?_);rcases z1 with _|e2
 ·replace h:=Zdn h;refine aRg λ_=>dr (aCd λ_=>Znf (aSk ?_));obtain⟨o2,h,hK3⟩:=Zae h;refine Zat (α:=Unit) (λ_=>mkS 94 [(1,.c (.int .i64 a1)),(2,.sl 2 (a2.map cF)),(3,.ptr 3 0 0 0)] [(3,⟨26,4,true,[[.sl 1 (a0.Vars.map cI),.sl 1 (a0.Init.map cI),.sl 2 (a0.Goal.map cF),.sl 4 (a0.Ops.map Za0)]]⟩)]) (λv=>o2=(.inl v)) ?_ ?_
  ·refine aSR λ_=>?_;refine spf h (λc4 h=>?_) (λc4 h=>?_)
   ·intro _;refine dr (aCd λ_=>?_);refine spl h (λc5 h=>?_) (λc5 h=>?_)
    ·refine aSR λ_=>dr (aRt ?_);have j6:=sI_ h;subst j6;replace h:=(Za4 hK3);exact zz1
    ·exact zz10
   ·intro _;refine dr (aCd λ_=>Zll (aSR λ_=>dr (aRt ?_)));have j7:=sI_ h;subst j7;replace h:=(Za4 hK3);exact zz1
  ·rintro _ ho;have ho:=ho.symm;subst ho;intro _;replace h:=(Zcx hK3);refine aSq (aSR λ_=>?_);obtain⟨z6,u8,h⟩:=Zae h;refine cl rfl (Zkq a0.Vars a2 u8) λ_=>dr (aCd λ_=>?_);refine spl h (λc9 h=>?_) (λc9 h=>?_)
   ·exact zz6
   ·refine aSk (aSR λ_=>?_);obtain⟨y7,w10,q11,h⟩:=Za9 h;refine Exists.intro (Za0 y7) (And.intro (Zad w10) λ_=>pr (dr (aSR λ_=>?_)));obtain⟨q12,h⟩:=Zaf h;obtain⟨q13,h⟩:=Zaf h;refine⟨_,Zsn rfl rfl (bT1 rfl) (Zbz 177 _ rfl) rfl (Zbz 79 _ rfl) rfl rfl rfl (by first|assumption|omega) (by first|assumption|(show _*(24:Int)<=_;omega)|omega) (by omega) rfl (by simp only[Value.cells];simp[Value.oneCell']) (by decide),?_⟩;intro _;refine dr ?_;obtain⟨o14,h,hK15⟩:=Zae h;refine Zat (α:=List (List (List Zaa))) (λv28=>mkS 94 [(9,.ptr 9 0 0 0),(10,.own 48 0 0 v28.length)] [(9,⟨49,4,true,[[.c (.string y7.Name),.c (.int .i64 y7.Cost),.sl 2 (y7.Pre.map cF),.sl 3 (y7.Effs.map Zag)]]⟩),(48,⟨79,1,false,v28.map Zcp⟩)]) (λv=>o14=(.inl v)) ?_ ?_
    ·refine aSR λ_=>dr (aBk ?_);refine Zaj (α:=Nat×Int×(List (List (List Zaa)))) (λx=>mkS 94 [(3,.ptr 3 0 0 0),(9,.ptr 9 0 0 0),(10,.own 48 0 0 x.2.2.length),(49,.sl 2 (a2.map cF)),(50,.c (.int .i64 ((a2.map cF).length:Int))),(51,.c (.int .i64 x.2.1))] [(3,⟨26,4,true,[[.sl 1 (a0.Vars.map cI),.sl 1 (a0.Init.map cI),.sl 2 (a0.Goal.map cF),.sl 4 (a0.Ops.map Za0)]]⟩),(9,⟨49,4,true,[[.c (.string y7.Name),.c (.int .i64 y7.Cost),.sl 2 (y7.Pre.map cF),.sl 3 (y7.Effs.map Zag)]]⟩),(48,⟨79,1,false,x.2.2.map Zcp⟩)]) (λx=>Zfa a0 a2 g y7 x.1 x.2.1 x.2.2=some o14) (λx=>x.1) ((((a2.map cF).length:Int)).toNat+1,0,(List.replicate ((a2.map cF).length:Int).toNat [])) h ?_ ?_
     ·exact Zas
     ·intro x16 h;intro _;obtain⟨k46,m17,h⟩:=Zak (f:=λn=>Zfa a0 a2 g y7 n x16.2.1 x16.2.2) rfl h;replace h:Zfa a0 a2 g y7 (k46+1) x16.2.1 x16.2.2=some o14:=h;rw[Zfa]at h;refine aSR λ_=>dr (aSq (aCd λ_=>?_));refine spl h (λc18 h=>?_) (λc18 h=>?_)
      ·refine aSk (aSq (aBk (aSR λ_=>?_)));obtain⟨y47,w19,q20,h⟩:=Za9 h;refine Exists.intro (cF y47) (And.intro (Zad w19) λ_=>pr (dr (aSR λ_=>?_)));obtain⟨z48,z49,u21,h⟩:=Zdv h;refine cl rfl (Zam3 g a0.Vars y7 y47 u21) λ_=>dr (aSq (aSq ?_));rcases z49 with _|e50
       ·replace h:=Zdn h;refine aRg λ_=>dr (aCd λ_=>Znf (aSk (aRg λ_=>?_)));obtain⟨y51,w22,h⟩:=Zcm h;refine Exists.intro (Zcp y51) (And.intro (by first|exact Zad w22|(have w:=Zad (f:=Zcp) w22;simpa [Zcp,Value.cells] using w)) ?_);intro _;obtain⟨q23,h⟩:=Zaf h;refine pr (pr (dr (aRg λ_=>dr ⟨(k46,(IntKind.i64.wrap (x16.2.1+1)),(x16.2.2.set ((x16.2.1).toNat) z48)),h,ltS m17,?_⟩)));exact Zas
       ·replace h:=Zlf h;refine aRg λ_=>dr (aCd λ_=>Zll (aSR λ_=>dr (aRt ?_)));have j24:=sI_ h;subst j24;replace h:=(Za4 hK15);exact zz1
      ·refine aEx ⟨x16.2.2,(sI_ h).symm,?_⟩;exact Zas
    ·rintro v28 ho;have ho:=ho.symm;subst ho;intro _;replace h:=(Zcx hK15);refine aSR λ_=>?_;obtain⟨z52,u25,h⟩:=Zae h;refine clg [(0,74)] [] [] [(74,⟨2,some ⟨53,2,false,z52.map cF⟩⟩)] (.own 74 2 0 z52.length) rfl rfl (Zsz y7.Pre u25) λ_=>dr (aSq (aSR λ_=>dr (aBk ?_)));obtain⟨q26,h⟩:=Zaf h;refine Zaj (α:=Nat×(List (List Zaa))×Int) (λx=>mkS 94 [(15,.sl 1 (x.2.1.map Zal)),(76,.own 48 0 0 v28.length),(77,.c (.int .i64 ((v28.length:Nat):Int))),(78,.c (.int .i64 x.2.2))] [(48,⟨79,1,false,v28.map Zcp⟩)]) (λx=>Zfb g v28 x.1 x.2.1 x.2.2=some (r1,r2)) (λx=>x.1) ((((v28.length:Nat):Int)).toNat+1,[z52],0) h ?_ ?_
     ·exact Zas
     ·intro x27 h;intro _;obtain⟨k65,m28,h⟩:=Zak (f:=λn=>Zfb g v28 n x27.2.1 x27.2.2) rfl h;replace h:Zfb g v28 (k65+1) x27.2.1 x27.2.2=some (r1,r2):=h;rw[Zfb]at h;refine aSR λ_=>dr (aSq (aCd λ_=>?_));refine spl h (λc29 h=>?_) (λc29 h=>?_)
      ·refine aSk (aSq (aBk (aSR λ_=>?_)));obtain⟨y66,w30,h⟩:=Zcm h;refine Exists.intro (Zcp y66) (And.intro (by first|exact Zad w30|(have w:=Zad (f:=Zcp) w30;simpa [Zcp,Value.cells] using w)) ?_);intro _;obtain⟨q31,h⟩:=Zaf h;obtain⟨q32,h⟩:=Zaf h;refine pr (pr (dr (aSR λ_=>?_)));obtain⟨z67,z68,u33,h⟩:=Zdv h;refine cl rfl (Zai9 g x27.2.1 y66 u33) λ_=>dr (aSq (aSq ?_));rcases z68 with _|e69
       ·replace h:=Zdn h;refine aRg λ_=>dr (aCd λ_=>Znf (aSk (aRg λ_=>dr (aRg λ_=>dr ⟨(k65,z67,(IntKind.i64.wrap (x27.2.2+1))),h,ltS m28,?_⟩))));exact Zas
       ·exact zz7
      ·refine aEx ?_;exact zz6
 ·exact zz7
def Zja (a0:List Zaa)(a1:Int):Nat->Int->Option (Int)|0,_=>none|k5+1,v4=>sel (decide (v4<((a0.map cF).length:Int))) (ix a0 v4 (λy6=>sel (y6.1 == a1) (some y6.2) (Zja a0 a1 k5 (IntKind.i64.wrap (v4+1))))) (some (-1))
def Zmd (a0:List Zaa)(a1:Int):Option (Int):=Zja a0 a1 ((((a0.map cF).length:Int)).toNat+1) 0
theorem Zact (a0:List Zaa)(a1:Int){r1:Int}(h:Zmd a0 a1=some r1):ACall cx 123 [.sl 2 (a0.map cF),.c (.int .i64 a1)] (.c (.int .i64 r1)):=by
 refine aOf Tryz.func123 rfl (by decide) rfl (bT1 rfl) ?_;intro _;unfold Zmd at h;refine aSR λ_=>dr (aSq (aSR λ_=>dr (aBk ?_)));refine Zaj (α:=Nat×Int) (λx=>mkS 20 [(1,.c (.int .i64 a1)),(7,.sl 2 (a0.map cF)),(8,.c (.int .i64 ((a0.map cF).length:Int))),(9,.c (.int .i64 x.2))] []) (λx=>Zja a0 a1 x.1 x.2=some r1) (λx=>x.1) ((((a0.map cF).length:Int)).toNat+1,0) h ?_ ?_
 ·exact Zas
 ·intro x1 h;intro _;obtain⟨k5,m2,h⟩:=Zak (f:=λn=>Zja a0 a1 n x1.2) rfl h;replace h:Zja a0 a1 (k5+1) x1.2=some r1:=h;rw[Zja]at h;refine aSR λ_=>dr (aSq (aCd λ_=>?_));refine spl h (λc3 h=>?_) (λc3 h=>?_)
  ·refine aSk (aSq (aBk (aSR λ_=>?_)));obtain⟨y6,w4,q5,h⟩:=Za9 h;refine Exists.intro (cF y6) (And.intro (Zad w4) λ_=>pr (dr (aSR λ_=>dr (aCd λ_=>?_))));refine spl h (λc6 h=>?_) (λc6 h=>?_)
   ·exact zz2
   ·refine aSk (aRg λ_=>dr ⟨(k5,(IntKind.i64.wrap (x1.2+1))),h,ltS m2,?_⟩);exact Zas
  ·exact zz9
def Zfc (a0:List Zaa)(a1:List Zaa):Nat->Int->Option (Bool)|0,_=>none|k7+1,v6=>sel (decide (v6<((a1.map cF).length:Int))) (ix a1 v6 (λy8=>ob1 (Zmd a0 y8.1) (λz9=>sel (z9 != y8.2) (some false) (Zfc a0 a1 k7 (IntKind.i64.wrap (v6+1)))))) (some true)
def Zg4 (a0:List Zaa)(a1:List Zaa):Option (Bool):=Zfc a0 a1 ((((a1.map cF).length:Int)).toNat+1) 0
theorem Zrt (a0:List Zaa)(a1:List Zaa){r1:Bool}(h:Zg4 a0 a1=some r1):ACall cx 100 [.sl 2 (a0.map cF),.sl 2 (a1.map cF)] (.c (.bool r1)):=by
 refine aOf Tryz.func100 rfl (by decide) rfl (bT1 rfl) ?_;intro _;unfold Zg4 at h;refine aSR λ_=>dr (aSq (aSR λ_=>dr (aBk ?_)));refine Zaj (α:=Nat×Int) (λx=>mkS 21 [(0,.sl 2 (a0.map cF)),(7,.sl 2 (a1.map cF)),(8,.c (.int .i64 ((a1.map cF).length:Int))),(9,.c (.int .i64 x.2))] []) (λx=>Zfc a0 a1 x.1 x.2=some r1) (λx=>x.1) ((((a1.map cF).length:Int)).toNat+1,0) h ?_ ?_
 ·exact Zas
 ·intro x1 h;intro _;obtain⟨k7,m2,h⟩:=Zak (f:=λn=>Zfc a0 a1 n x1.2) rfl h;replace h:Zfc a0 a1 (k7+1) x1.2=some r1:=h;rw[Zfc]at h;refine aSR λ_=>dr (aSq (aCd λ_=>?_));refine spl h (λc3 h=>?_) (λc3 h=>?_)
  ·refine aSk (aSq (aBk (aSR λ_=>?_)));obtain⟨y8,w4,q5,h⟩:=Za9 h;refine Exists.intro (cF y8) (And.intro (Zad w4) λ_=>pr (dr (aSR λ_=>?_)));obtain⟨z9,u6,h⟩:=Zae h;refine cl rfl (Zact a0 y8.1 u6) λ_=>dr (aCd λ_=>?_);refine spl h (λc7 h=>?_) (λc7 h=>?_)
   ·exact zz2
   ·refine aSk (aRg λ_=>dr ⟨(k7,(IntKind.i64.wrap (x1.2+1))),h,ltS m2,?_⟩);exact Zas
  ·exact zz9
def Zdb (a0:List (List Zaa))(v115:Int)(y149:List Zaa):Nat->Int->Option (Bool)|0,_=>none|k173+1,v172=>sel (decide (v172<((a0.map Zal).length:Int))) (ix a0 v172 (λy174=>sel (v115 != v172) (ob1 (Zhp y174) (λz175=>sel z175 (ob1 (Zg4 y149 y174) (λz176=>sel z176 (sel (decide (((y174.map cF).length:Int)<((y149.map cF).length:Int))) (some false) (sel (decide (v172<v115)) (some false) (Zdb a0 v115 y149 k173 (IntKind.i64.wrap (v172+1))))) (Zdb a0 v115 y149 k173 (IntKind.i64.wrap (v172+1))))) (Zdb a0 v115 y149 k173 (IntKind.i64.wrap (v172+1))))) (Zdb a0 v115 y149 k173 (IntKind.i64.wrap (v172+1))))) (some true)
def Zdj (a0:List (List Zaa)):Nat->Int->(List (List Zaa))->Option (List (List Zaa))|0,_,_=>none|k117+1,v115,v116=>sel (decide (v115<((a0.map Zal).length:Int))) (ob1 (ix a0 v115 (λy149=>ob1 (Zhp y149) (λz150=>sel (!z150) (some v116) (ob1 (Zdb a0 v115 y149 ((((a0.map Zal).length:Int)).toNat+1) 0:Option (Bool)) (λv163=>sel v163 (ob1 (Zh8 y149) (λz177=>grd ((v116.length+1)*24<=140737488355328) (grd (z177.length<=140737488355328) (some (v116++[z177]))))) (some v116))))):Option (List (List Zaa))) (λv147=>Zdj a0 k117 (IntKind.i64.wrap (v115+1)) v147)) (some v116)
def Zny (a0:List (List Zaa)):Option (List (List Zaa)):=Zdj a0 ((((a0.map Zal).length:Int)).toNat+1) 0 []
theorem zz15 {P:Prop}(w:P:=by refine⟨false,(sI_ h).symm,?_⟩;exact Zas):P:=w
theorem Zag6 (a0:List (List Zaa)){r1:List (List Zaa)}(h:Zny a0=some r1):Zc8 cx 84 [.sl 1 (a0.map Zal)] [] [] (.own 0 0 0 r1.length) [(0,⟨23,1,false,r1.map Zal⟩)]:=by
 refine Zc4 60 Tryz.func84 rfl (by decide) rfl (bT1 rfl) rfl rfl ?_;intro _;unfold Zny at h;refine aSR λ_=>dr (aSR λ_=>dr (aSq (aSR λ_=>dr (aBk ?_))));refine Zaj (α:=Nat×Int×(List (List Zaa))) (λx=>mkG 59 60 [(0,.sl 1 (a0.map Zal)),(3,.own 56 0 0 x.2.2.length),(9,.sl 1 (a0.map Zal)),(10,.c (.int .i64 ((a0.map Zal).length:Int))),(11,.c (.int .i64 x.2.1))] [(56,⟨23,1,false,x.2.2.map Zal⟩)]) (λx=>Zdj a0 x.1 x.2.1 x.2.2=some r1) (λx=>x.1) ((((a0.map Zal).length:Int)).toNat+1,0,[]) h ?_ ?_
 ·exact Zas
 ·intro x1 h;intro _;obtain⟨k117,m2,h⟩:=Zak (f:=λn=>Zdj a0 n x1.2.1 x1.2.2) rfl h;replace h:Zdj a0 (k117+1) x1.2.1 x1.2.2=some r1:=h;rw[Zdj]at h;refine aSR λ_=>dr (aSq (aCd λ_=>?_));refine spl h (λc3 h=>?_) (λc3 h=>?_)
  ·refine aSk ?_;obtain⟨o4,h,hK5⟩:=Zae h;refine Zat (α:=List (List Zaa)) (λv147=>mkG 59 60 [(0,.sl 1 (a0.map Zal)),(3,.own 56 0 0 v147.length),(9,.sl 1 (a0.map Zal)),(10,.c (.int .i64 ((a0.map Zal).length:Int))),(11,.c (.int .i64 x1.2.1))] [(56,⟨23,1,false,v147.map Zal⟩)]) (λv=>o4=v) ?_ ?_
   ·refine aBk (aSR λ_=>?_);obtain⟨y149,w6,q7,h⟩:=Za9 h;refine Exists.intro (Zal y149) (And.intro (Zad w6) λ_=>pr (dr (aSq (aSR λ_=>?_))));obtain⟨z150,u8,h⟩:=Zae h;refine cl rfl (Znm y149 u8) λ_=>dr (aCd λ_=>?_);refine spl h (λc9 h=>?_) (λc9 h=>?_)
    ·refine aEx ⟨x1.2.2,(sI_ h).symm,?_⟩;exact Zas
    ·refine aSk (aSR λ_=>dr ?_);obtain⟨o10,h,hK11⟩:=Zae h;refine Zat (α:=Bool) (λv163=>mkG 59 60 [(0,.sl 1 (a0.map Zal)),(3,.own 56 0 0 x1.2.2.length),(5,.sl 2 (y149.map cF)),(6,.c (.bool v163)),(9,.sl 1 (a0.map Zal)),(10,.c (.int .i64 ((a0.map Zal).length:Int))),(11,.c (.int .i64 x1.2.1))] [(56,⟨23,1,false,x1.2.2.map Zal⟩)]) (λv=>o10=v) ?_ ?_
     ·refine aSR λ_=>dr (aBk ?_);refine Zaj (α:=Nat×Int) (λx=>mkG 59 60 [(0,.sl 1 (a0.map Zal)),(3,.own 56 0 0 x1.2.2.length),(4,.c (.int .i64 x1.2.1)),(5,.sl 2 (y149.map cF)),(6,.c (.bool true)),(9,.sl 1 (a0.map Zal)),(10,.c (.int .i64 ((a0.map Zal).length:Int))),(11,.c (.int .i64 x1.2.1)),(19,.sl 1 (a0.map Zal)),(20,.c (.int .i64 ((a0.map Zal).length:Int))),(21,.c (.int .i64 x.2))] [(56,⟨23,1,false,x1.2.2.map Zal⟩)]) (λx=>Zdb a0 x1.2.1 y149 x.1 x.2=some o10) (λx=>x.1) ((((a0.map Zal).length:Int)).toNat+1,0) h ?_ ?_
      ·exact Zas
      ·intro x12 h;intro _;obtain⟨k173,m13,h⟩:=Zak (f:=λn=>Zdb a0 x1.2.1 y149 n x12.2) rfl h;replace h:Zdb a0 x1.2.1 y149 (k173+1) x12.2=some o10:=h;rw[Zdb]at h;refine aSR λ_=>dr (aSq (aCd λ_=>?_));refine spl h (λc14 h=>?_) (λc14 h=>?_)
       ·refine aSk (aSq (aBk (aSR λ_=>?_)));obtain⟨y174,w15,q16,h⟩:=Za9 h;refine Exists.intro (Zal y174) (And.intro (Zad w15) λ_=>pr (dr (aSR λ_=>?_)));refine spl h (λc17 h=>?_) (λc17 h=>?_)
        ·intro _;obtain⟨z175,u18,h⟩:=Zae h;refine cl rfl (Znm y174 u18) λ_=>?_;refine spl h (λc19 h=>?_) (λc19 h=>?_)
         ·intro _;obtain⟨z176,u20,h⟩:=Zae h;refine cl rfl (Zrt y149 y174 u20) λ_=>?_;refine spl h (λc21 h=>?_) (λc21 h=>?_)
          ·intro _;refine spf h (λc22 h=>?_) (λc22 h=>?_)
           ·intro _;refine dr (aCd λ_=>?_);refine spl h (λc23 h=>?_) (λc23 h=>?_)
            ·refine aSR λ_=>dr (aEx ?_);exact zz15
            ·refine aSk (aRg λ_=>dr ⟨(k173,(IntKind.i64.wrap (x12.2+1))),h,ltS m13,?_⟩);exact Zas
           ·intro _;refine dr (aCd λ_=>Zll (aSR λ_=>dr (aEx ?_)));exact zz15
          ·intro _;refine dr (aCd λ_=>Znf (aSk (aRg λ_=>dr ⟨(k173,(IntKind.i64.wrap (x12.2+1))),h,ltS m13,?_⟩)));exact Zas
         ·intro _;refine dr (aCd λ_=>Znf (aSk (aRg λ_=>dr ⟨(k173,(IntKind.i64.wrap (x12.2+1))),h,ltS m13,?_⟩)));exact Zas
        ·intro _;refine dr (aCd λ_=>Znf (aSk (aRg λ_=>dr ⟨(k173,(IntKind.i64.wrap (x12.2+1))),h,ltS m13,?_⟩)));exact Zas
       ·refine aEx ⟨true,(sI_ h).symm,?_⟩;exact Zas
     ·rintro v163 ho;have ho:=ho.symm;subst ho;intro _;replace h:=hK11;refine aSR λ_=>dr (aCd λ_=>?_);refine spl h (λc24 h=>?_) (λc24 h=>?_)
      ·refine aRg λ_=>?_;obtain⟨z177,u25,h⟩:=Zae h;refine clg [(0,54)] [] [] [(54,⟨2,some ⟨53,2,false,z177.map cF⟩⟩)] (.own 54 2 0 z177.length) rfl rfl (Zsz y149 u25) λ_=>?_;obtain⟨q26,h⟩:=Zaf h;refine pl (pl ?_);refine And.intro (by first|with_reducible assumption|(show(x1.2.2.length+1)*24<=140737488355328;with_reducible assumption)|omega|(simp;omega)) ?_;refine pe (dr ?_);obtain⟨q27,h⟩:=Zaf h;refine⟨(x1.2.2++[z177]),(sI_ h).symm,?_⟩;exact Zas
      ·refine aSk ⟨x1.2.2,(sI_ h).symm,?_⟩;exact Zas
   ·rintro v147 ho;have ho:=ho.symm;subst ho;intro _;replace h:=hK5;refine aRg λ_=>dr ⟨(k117,(IntKind.i64.wrap (x1.2.1+1)),v147),h,ltS m2,?_⟩;exact Zas
  ·refine aEx (aSR λ_=>dr (aRt λ_=>?_));obtain rfl:=inj1 h;all_goals (refine Exists.intro [(0,56)] (And.intro rfl (And.intro ?_ ?_)));all_goals (exact gz3)
def Zfy (z4:List (List Zaa)):Nat->Int->(List (List Zaa))->Option ((List (List Zaa))×Er)|0,_,_=>none|k16+1,v14,v15=>sel (decide (v14<((z4.length:Nat):Int))) (ixn v15 ((v14).toNat) (λy17=>ob1 (Zh8 y17) (λz18=>ixn v15 ((v14).toNat) (λ_=>grd (0<=v14) (grd (v14<((v15.length:Nat):Int)) (grd (z18.length<=140737488355328) (Zfy z4 k16 (IntKind.i64.wrap (v14+1)) (v15.set ((v14).toNat) z18)))))))) (grd (v15.length<=140737488355328) (some (v15,Er.nil)))
def Zkl (g:Nat)(a0:Zah)(a1:Int)(a2:List Zaa):Option ((List (List Zaa))×Er):=ob2 (Zmj g a0 a1 a2) (λz1 z2=>erM z2 (ob1 (Zny z1) (λz4=>ob1 (Zaha z4) (λc5=>grd (c5.length=z4.length) (Zfy z4 ((((z4.length:Nat):Int)).toNat+1) 0 c5)))) (λe3=>some ([],(Er.no e3))))
theorem Zy6 (g:Nat)(a0:Zah)(a1:Int)(a2:List Zaa){r1:List (List Zaa)}{r2:Er}(h:Zkl g a0 a1 a2=some (r1,r2)):ACall cx 62 [.agg [.sl 1 (a0.Vars.map cI),.sl 1 (a0.Init.map cI),.sl 2 (a0.Goal.map cF),.sl 4 (a0.Ops.map Za0)],.c (.int .i64 a1),.sl 2 (a2.map cF)] (.tup [.sl 1 (r1.map Zal),eA r2]):=by
 refine aOf Tryz.func62 rfl (by decide) rfl (bT1 rfl) ?_;intro _;unfold Zkl at h;refine aSR λ_=>dr (aSR λ_=>?_);obtain⟨z1,z2,u1,h⟩:=Zdv h;refine cl rfl (Zaej g a0 a1 a2 u1) λ_=>dr (aSq (aSq ?_));rcases z2 with _|e3
 ·replace h:=Zdn h;refine aRg λ_=>dr (aCd λ_=>Znf (aSk (aSR λ_=>?_)));obtain⟨z4,u2,h⟩:=Zae h;refine clg [(0,23)] [] [] [(23,⟨2,some ⟨23,1,false,z4.map Zal⟩⟩)] (.own 23 2 0 z4.length) rfl rfl (Zag6 z1 u2) λ_=>dr (aSR λ_=>?_);obtain⟨c5,u3,h⟩:=Zae h;refine clg [(900,23)] [] [] [(23,⟨2,some ⟨23,1,false,c5.map Zal⟩⟩)] (.tup []) rfl rfl (Zatm z4 u3) ?_;obtain⟨q4,h⟩:=Zaf h;intro _;refine dr (aSq (aSR λ_=>dr (aBk ?_)));refine Zaj (α:=Nat×Int×(List (List Zaa))) (λx=>mkS 41 [(10,.own 23 0 0 x.2.2.length),(27,.c (.int .i64 ((z4.length:Nat):Int))),(28,.c (.int .i64 x.2.1))] [(23,⟨23,1,false,x.2.2.map Zal⟩)]) (λx=>Zfy z4 x.1 x.2.1 x.2.2=some (r1,r2)) (λx=>x.1) ((((z4.length:Nat):Int)).toNat+1,0,c5) h ?_ ?_
  ·exact Zas
  ·intro x5 h;intro _;obtain⟨k16,m6,h⟩:=Zak (f:=λn=>Zfy z4 n x5.2.1 x5.2.2) rfl h;replace h:Zfy z4 (k16+1) x5.2.1 x5.2.2=some (r1,r2):=h;rw[Zfy]at h;refine aSR λ_=>dr (aSq (aCd λ_=>?_));refine spl h (λc7 h=>?_) (λc7 h=>?_)
   ·refine aSk (aSq (aBk (aSR λ_=>dr (aRg λ_=>?_))));obtain⟨y17,w8,h⟩:=Zcm h;refine Exists.intro (Zal y17) (And.intro (by first|exact Zad w8|(have w:=Zad (f:=Zal) w8;simpa [Zal,Value.cells] using w)) ?_);intro _;obtain⟨z18,u9,h⟩:=Zae h;refine clg [(0,37)] [] [] [(37,⟨2,some ⟨53,2,false,z18.map cF⟩⟩)] (.own 37 2 0 z18.length) rfl rfl (Zsz y17 u9) λ_=>?_;obtain⟨y19,w10,h⟩:=Zcm h;refine Exists.intro (Zal y19) (And.intro (by first|exact Zad w10|(have w:=Zad (f:=Zal) w10;simpa [Zal,Value.cells] using w)) ?_);intro _;obtain⟨q11,h⟩:=Zaf h;obtain⟨q12,h⟩:=Zaf h;refine pr (pr (pr (pr (dr (aRg λ_=>dr ?_)))));obtain⟨q13,h⟩:=Zaf h;refine⟨(k16,(IntKind.i64.wrap (x5.2.1+1)),(x5.2.2.set ((x5.2.1).toNat) z18)),h,ltS m6,?_⟩;exact Zas
   ·refine aEx (aSR λ_=>dr (aRt ?_));obtain⟨q14,h⟩:=Zaf h;exact zz1
 ·exact zz7
def Zhz (a0:List Int)(a1:List Int):Nat->Int->Option (Bool)|0,_=>none|k9+1,v8=>sel (decide (v8<((a1.map cI).length:Int))) (ix a1 v8 (λy10=>sel (decide (y10<0)) (some false) (ix a1 v8 (λy11=>ix a0 v8 (λy12=>sel (decide (y11>=y12)) (some false) (Zhz a0 a1 k9 (IntKind.i64.wrap (v8+1)))))))) (some true)
def Zr0 (a0:List Int)(a1:List Int):Option (Bool):=sel (((a1.map cI).length:Int) != ((a0.map cI).length:Int)) (some false) (Zhz a0 a1 ((((a1.map cI).length:Int)).toNat+1) 0)
theorem Zam0 (a0:List Int)(a1:List Int){r1:Bool}(h:Zr0 a0 a1=some r1):ACall cx 56 [.sl 1 (a0.map cI),.sl 1 (a1.map cI)] (.c (.bool r1)):=by
 refine aOf Tryz.func56 rfl (by decide) rfl (bT1 rfl) ?_;intro _;unfold Zr0 at h;refine aSR λ_=>dr (aSq (aSR λ_=>dr (aCd λ_=>?_)));refine spl h (λc1 h=>?_) (λc1 h=>?_)
 ·exact zz2
 ·refine aSk (aSq (aSR λ_=>dr (aBk ?_)));refine Zaj (α:=Nat×Int) (λx=>mkS 33 [(0,.sl 1 (a0.map cI)),(1,.sl 1 (a1.map cI)),(12,.c (.int .i64 ((a1.map cI).length:Int))),(13,.c (.int .i64 x.2))] []) (λx=>Zhz a0 a1 x.1 x.2=some r1) (λx=>x.1) ((((a1.map cI).length:Int)).toNat+1,0) h ?_ ?_
  ·exact Zas
  ·intro x2 h;intro _;obtain⟨k9,m3,h⟩:=Zak (f:=λn=>Zhz a0 a1 n x2.2) rfl h;replace h:Zhz a0 a1 (k9+1) x2.2=some r1:=h;rw[Zhz]at h;refine aSR λ_=>dr (aSq (aCd λ_=>?_));refine spl h (λc4 h=>?_) (λc4 h=>?_)
   ·refine aSk (aSq (aBk (aSR λ_=>dr (aSR λ_=>?_))));obtain⟨y10,w5,q6,h⟩:=Za9 h;refine Exists.intro (cI y10) (And.intro (Zad w5) λ_=>?_);refine spf h (λc7 h=>?_) (λc7 h=>?_)
    ·intro _;obtain⟨y11,w8,q9,h⟩:=Za9 h;refine Exists.intro (cI y11) (And.intro (Zad w8) λ_=>?_);obtain⟨y12,w10,q11,h⟩:=Za9 h;refine Exists.intro (cI y12) (And.intro (Zad w10) λ_=>pr (pr (pr (dr (aCd λ_=>?_)))));refine spl h (λc12 h=>?_) (λc12 h=>?_)
     ·exact zz2
     ·refine aSk (aRg λ_=>dr ⟨(k9,(IntKind.i64.wrap (x2.2+1))),h,ltS m3,?_⟩);exact Zas
    ·intro _;refine pr (dr (aCd λ_=>Zll ?_));exact zz2
   ·exact zz9
def Zfs (a0:List Int)(a1:List Zaa):Nat->Int->Option (Bool)|0,_=>none|k8+1,v7=>sel (decide (v7<((a1.map cF).length:Int))) (ix a1 v7 (λy9=>sel (decide (y9.1<0)) (some false) (sel (decide (y9.1>=((a0.map cI).length:Int))) (some false) (sel (decide (y9.2<0)) (some false) (ix a0 y9.1 (λy10=>sel (decide (y9.2>=y10)) (some false) (sel (decide (v7>0)) (ix a1 (IntKind.i64.wrap (v7-1)) (λy11=>sel (decide (y11.1>=y9.1)) (some false) (Zfs a0 a1 k8 (IntKind.i64.wrap (v7+1))))) (Zfs a0 a1 k8 (IntKind.i64.wrap (v7+1)))))))))) (some true)
def Zig (a0:List Int)(a1:List Zaa):Option (Bool):=Zfs a0 a1 ((((a1.map cF).length:Int)).toNat+1) 0
theorem Zsy (a0:List Int)(a1:List Zaa){r1:Bool}(h:Zig a0 a1=some r1):ACall cx 57 [.sl 1 (a0.map cI),.sl 2 (a1.map cF)] (.c (.bool r1)):=by
 refine aOf Tryz.func57 rfl (by decide) rfl (bT1 rfl) ?_;intro _;unfold Zig at h;refine aSR λ_=>dr (aSq (aSR λ_=>dr (aBk ?_)));refine Zaj (α:=Nat×Int) (λx=>mkS 55 [(0,.sl 1 (a0.map cI)),(1,.sl 2 (a1.map cF)),(7,.sl 2 (a1.map cF)),(8,.c (.int .i64 ((a1.map cF).length:Int))),(9,.c (.int .i64 x.2))] []) (λx=>Zfs a0 a1 x.1 x.2=some r1) (λx=>x.1) ((((a1.map cF).length:Int)).toNat+1,0) h ?_ ?_
 ·exact Zas
 ·intro x1 h;intro _;obtain⟨k8,m2,h⟩:=Zak (f:=λn=>Zfs a0 a1 n x1.2) rfl h;replace h:Zfs a0 a1 (k8+1) x1.2=some r1:=h;rw[Zfs]at h;refine aSR λ_=>dr (aSq (aCd λ_=>?_));refine spl h (λc3 h=>?_) (λc3 h=>?_)
  ·refine aSk (aSq (aBk (aSR λ_=>?_)));obtain⟨y9,w4,q5,h⟩:=Za9 h;refine Exists.intro (cF y9) (And.intro (Zad w4) λ_=>pr (dr (aSR λ_=>?_)));refine spf h (λc6 h=>?_) (λc6 h=>?_)
   ·intro _;refine spf h (λc7 h=>?_) (λc7 h=>?_)
    ·intro _;refine spf h (λc8 h=>?_) (λc8 h=>?_)
     ·intro _;obtain⟨y10,w9,q10,h⟩:=Za9 h;refine Exists.intro (cI y10) (And.intro (Zad w9) λ_=>?_);refine spf h (λc11 h=>?_) (λc11 h=>?_)
      ·intro _;refine spl h (λc12 h=>?_) (λc12 h=>?_)
       ·intro _;obtain⟨y11,w13,q14,h⟩:=Za9 h;refine Exists.intro (cF y11) (And.intro (Zad w13) λ_=>pr (pr (dr (aCd λ_=>?_))));refine spl h (λc15 h=>?_) (λc15 h=>?_)
        ·exact zz2
        ·refine aSk (aRg λ_=>dr ⟨(k8,(IntKind.i64.wrap (x1.2+1))),h,ltS m2,?_⟩);exact Zas
       ·intro _;refine pr (dr (aCd λ_=>Znf (aSk (aRg λ_=>dr ⟨(k8,(IntKind.i64.wrap (x1.2+1))),h,ltS m2,?_⟩))));exact Zas
      ·intro _;refine pr (dr (aCd λ_=>Zll ?_));exact zz2
     ·exact zz5
    ·exact zz5
   ·exact zz5
  ·exact zz9
def Zd4 (a1:GOp):Nat->Int->Option (Unit⊕Bool)|0,_=>none|k12+1,v11=>sel (decide (v11<(a1.Name.size:Int))) (sel (decide ((byt a1.Name v11)<32)) (grd (0<=v11) (grd (v11<(a1.Name.size:Int)) (some (.inr false)))) (grd (0<=v11) (grd (v11<(a1.Name.size:Int)) (sel (decide ((byt a1.Name v11)>126)) (some (.inr false)) (Zd4 a1 k12 (IntKind.i64.wrap (v11+1))))))) (some (.inl ()))
def Zd5 (a0:List Int)(a1:GOp):Nat->Int->Option (Bool)|0,_=>none|k21+1,v20=>sel (decide (v20<((a1.Effs.map Zag).length:Int))) (ix a1.Effs v20 (λy22=>ob1 (Zig a0 y22.When) (λz23=>sel (!z23) (some false) (ob1 (Zig a0 [(y22.Var,y22.Val)]) (λz24=>sel (!z24) (some false) (Zd5 a0 a1 k21 (IntKind.i64.wrap (v20+1)))))))) (some true)
def Zkr (a0:List Int)(a1:GOp):Option (Bool):=ob1 (sel (decide (a1.Cost<0)) (some (.inr false)) (sel (decide (a1.Cost>1048576)) (some (.inr false)) (sel (decide (((a1.Effs.map Zag).length:Int)>64)) (some (.inr false)) (sel (decide ((a1.Name.size:Int)>256)) (some (.inr false)) (ob1 (Zig a0 a1.Pre) (λz4=>sel (!z4) (some (.inr false)) (some (.inl ()))))))):Option (Unit⊕Bool)) (Zj9 (λ_=>ob1 (Zd4 a1 (((a1.Name.size:Int)).toNat+1) 0:Option (Unit⊕Bool)) (Zj9 (λ_=>Zd5 a0 a1 ((((a1.Effs.map Zag).length:Int)).toNat+1) 0) (λr8=>some r8))) (λr2=>some r2))
theorem Zaeh (a0:List Int)(a1:GOp){r1:Bool}(h:Zkr a0 a1=some r1):ACall cx 58 [.sl 1 (a0.map cI),.agg [.c (.string a1.Name),.c (.int .i64 a1.Cost),.sl 2 (a1.Pre.map cF),.sl 3 (a1.Effs.map Zag)]] (.c (.bool r1)):=by
 refine aOf Tryz.func58 rfl (by decide) rfl (bT1 rfl) ?_;intro _;unfold Zkr at h;refine aSR λ_=>dr ?_;obtain⟨o1,h,hK2⟩:=Zae h;refine Zat (α:=Unit) (λ_=>mkS 78 [(0,.sl 1 (a0.map cI)),(3,.ptr 3 0 0 0)] [(3,⟨49,4,true,[[.c (.string a1.Name),.c (.int .i64 a1.Cost),.sl 2 (a1.Pre.map cF),.sl 3 (a1.Effs.map Zag)]]⟩)]) (λv=>o1=(.inl v)) ?_ ?_
 ·refine aSR λ_=>?_;refine spf h (λc3 h=>?_) (λc3 h=>?_)
  ·intro _;refine spf h (λc4 h=>?_) (λc4 h=>?_)
   ·intro _;refine spf h (λc5 h=>?_) (λc5 h=>?_)
    ·intro _;refine spf h (λc6 h=>?_) (λc6 h=>?_)
     ·intro _;obtain⟨z4,u7,h⟩:=Zae h;refine cl rfl (Zsy a0 a1.Pre u7) λ_=>dr (aCd λ_=>?_);refine spl h (λc8 h=>?_) (λc8 h=>?_)
      ·refine aSR λ_=>dr (aRt ?_);have j9:=sI_ h;subst j9;replace h:=(Za4 hK2);exact zz4
      ·exact zz10
     ·intro _;refine dr (aCd λ_=>Zll (aSR λ_=>dr (aRt ?_)));have j10:=sI_ h;subst j10;replace h:=(Za4 hK2);exact zz4
    ·intro _;refine dr (aCd λ_=>Zll (aSR λ_=>dr (aRt ?_)));have j11:=sI_ h;subst j11;replace h:=(Za4 hK2);exact zz4
   ·intro _;refine dr (aCd λ_=>Zll (aSR λ_=>dr (aRt ?_)));have j12:=sI_ h;subst j12;replace h:=(Za4 hK2);exact zz4
  ·intro _;refine dr (aCd λ_=>Zll (aSR λ_=>dr (aRt ?_)));have j13:=sI_ h;subst j13;replace h:=(Za4 hK2);exact zz4
 ·rintro _ ho;have ho:=ho.symm;subst ho;intro _;replace h:=(Zcx hK2);obtain⟨o14,h,hK15⟩:=Zae h;refine Zat (α:=Unit) (λ_=>mkS 78 [(0,.sl 1 (a0.map cI)),(3,.ptr 3 0 0 0)] [(3,⟨49,4,true,[[.c (.string a1.Name),.c (.int .i64 a1.Cost),.sl 2 (a1.Pre.map cF),.sl 3 (a1.Effs.map Zag)]]⟩)]) (λv=>o14=(.inl v)) ?_ ?_
  ·refine aSR λ_=>dr (aBk ?_);refine Zaj (α:=Nat×Int) (λx=>mkS 78 [(0,.sl 1 (a0.map cI)),(3,.ptr 3 0 0 0),(37,.c (.int .i64 (a1.Name.size:Int))),(38,.c (.int .i64 x.2))] [(3,⟨49,4,true,[[.c (.string a1.Name),.c (.int .i64 a1.Cost),.sl 2 (a1.Pre.map cF),.sl 3 (a1.Effs.map Zag)]]⟩)]) (λx=>Zd4 a1 x.1 x.2=some o14) (λx=>x.1) (((a1.Name.size:Int)).toNat+1,0) h ?_ ?_
   ·exact Zas
   ·intro x16 h;intro _;obtain⟨k12,m17,h⟩:=Zak (f:=λn=>Zd4 a1 n x16.2) rfl h;replace h:Zd4 a1 (k12+1) x16.2=some o14:=h;rw[Zd4]at h;refine aSR λ_=>dr (aSq (aCd λ_=>?_));refine spl h (λc18 h=>?_) (λc18 h=>?_)
    ·refine aSk (aSq (aBk (aSR λ_=>dr (aSR λ_=>?_))));refine spf h (λc19 h=>?_) (λc19 h=>?_)
     ·intro _;obtain⟨q20,h⟩:=Zaf h;obtain⟨q21,h⟩:=Zaf h;refine pr (pr (pr (pr (dr (aCd λ_=>?_)))));refine spl h (λc22 h=>?_) (λc22 h=>?_)
      ·refine aSR λ_=>dr (aRt ?_);have j23:=sI_ h;subst j23;replace h:=(Za4 hK15);exact zz4
      ·refine aSk (aRg λ_=>dr ⟨(k12,(IntKind.i64.wrap (x16.2+1))),h,ltS m17,?_⟩);exact Zas
     ·intro _;obtain⟨q24,h⟩:=Zaf h;obtain⟨q25,h⟩:=Zaf h;refine pr (pr (dr (aCd λ_=>Zll (aSR λ_=>dr (aRt ?_)))));have j26:=sI_ h;subst j26;replace h:=(Za4 hK15);exact zz4
    ·exact zz11
  ·rintro _ ho;have ho:=ho.symm;subst ho;intro _;replace h:=(Zcx hK15);refine aSq (aSR λ_=>dr (aBk ?_));refine Zaj (α:=Nat×Int) (λx=>mkS 78 [(0,.sl 1 (a0.map cI)),(55,.sl 3 (a1.Effs.map Zag)),(56,.c (.int .i64 ((a1.Effs.map Zag).length:Int))),(57,.c (.int .i64 x.2))] []) (λx=>Zd5 a0 a1 x.1 x.2=some r1) (λx=>x.1) ((((a1.Effs.map Zag).length:Int)).toNat+1,0) h ?_ ?_
   ·exact Zas
   ·intro x27 h;intro _;obtain⟨k21,m28,h⟩:=Zak (f:=λn=>Zd5 a0 a1 n x27.2) rfl h;replace h:Zd5 a0 a1 (k21+1) x27.2=some r1:=h;rw[Zd5]at h;refine aSR λ_=>dr (aSq (aCd λ_=>?_));refine spl h (λc29 h=>?_) (λc29 h=>?_)
    ·refine aSk (aSq (aBk (aSR λ_=>?_)));obtain⟨y22,w30,q31,h⟩:=Za9 h;refine Exists.intro (Zag y22) (And.intro (Zad w30) λ_=>pr (dr (aSR λ_=>?_)));obtain⟨z23,u32,h⟩:=Zae h;refine cl rfl (Zsy a0 y22.When u32) λ_=>?_;refine spf h (λc33 h=>?_) (λc33 h=>?_)
     ·intro _;obtain⟨z24,u34,h⟩:=Zae h;refine clb [73] rfl rfl (Zsy a0 [(y22.Var,y22.Val)] u34) λ_=>dr (aCd λ_=>?_);refine spl h (λc35 h=>?_) (λc35 h=>?_)
      ·exact zz2
      ·refine aSk (aRg λ_=>dr ⟨(k21,(IntKind.i64.wrap (x27.2+1))),h,ltS m28,?_⟩);exact Zas
     ·exact zz5
    ·exact zz9
def Zh6 (a0:Zah):Nat->Int->Option (Unit⊕Bool)|0,_=>none|k15+1,v14=>sel (decide (v14<((a0.Vars.map cI).length:Int))) (ix a0.Vars v14 (λy16=>sel (decide (y16<1)) (some (.inr false)) (sel (decide (y16>64)) (some (.inr false)) (Zh6 a0 k15 (IntKind.i64.wrap (v14+1)))))) (some (.inl ()))
def Zh7 (a0:Zah):Nat->Int->Option (Bool)|0,_=>none|k29+1,v28=>sel (decide (v28<((a0.Ops.map Za0).length:Int))) (ix a0.Ops v28 (λy30=>ob1 (Zkr a0.Vars y30) (λz31=>sel (!z31) (some false) (Zh7 a0 k29 (IntKind.i64.wrap (v28+1)))))) (some true)
def Zur (a0:Zah):Option (Bool):=ob1 (sel (decide (((a0.Vars.map cI).length:Int)>64)) (some (.inr false)) (sel (decide (((a0.Ops.map Za0).length:Int)>4096)) (some (.inr false)) (some (.inl ()))):Option (Unit⊕Bool)) (Zj9 (λ_=>ob1 (Zh6 a0 ((((a0.Vars.map cI).length:Int)).toNat+1) 0:Option (Unit⊕Bool)) (Zj9 (λ_=>ob1 (ob1 (Zr0 a0.Vars a0.Init) (λz21=>sel (!z21) (some (.inr false)) (ob1 (Zig a0.Vars a0.Goal) (λz22=>sel (!z22) (some (.inr false)) (some (.inl ()))))):Option (Unit⊕Bool)) (Zj9 (λ_=>Zh7 a0 ((((a0.Ops.map Za0).length:Int)).toNat+1) 0) (λr19=>some r19))) (λr9=>some r9))) (λr1=>some r1))
theorem Zaqg (a0:Zah){r1:Bool}(h:Zur a0=some r1):ACall cx 31 [.agg [.sl 1 (a0.Vars.map cI),.sl 1 (a0.Init.map cI),.sl 2 (a0.Goal.map cF),.sl 4 (a0.Ops.map Za0)]] (.c (.bool r1)):=by
 refine aOf Tryz.func31 rfl (by decide) rfl (bT1 rfl) ?_;intro _;unfold Zur at h;refine aSR λ_=>dr ?_;obtain⟨o1,h,hK2⟩:=Zae h;refine Zat (α:=Unit) (λ_=>mkS 58 [(1,.ptr 1 0 0 0)] [(1,⟨26,4,true,[[.sl 1 (a0.Vars.map cI),.sl 1 (a0.Init.map cI),.sl 2 (a0.Goal.map cF),.sl 4 (a0.Ops.map Za0)]]⟩)]) (λv=>o1=(.inl v)) ?_ ?_
 ·refine aSR λ_=>?_;refine spf h (λc3 h=>?_) (λc3 h=>?_)
  ·intro _;refine dr (aCd λ_=>?_);refine spl h (λc4 h=>?_) (λc4 h=>?_)
   ·refine aSR λ_=>dr (aRt ?_);have j5:=sI_ h;subst j5;replace h:=(Za4 hK2);exact zz4
   ·exact zz10
  ·intro _;refine dr (aCd λ_=>Zll (aSR λ_=>dr (aRt ?_)));have j6:=sI_ h;subst j6;replace h:=(Za4 hK2);exact zz4
 ·rintro _ ho;have ho:=ho.symm;subst ho;intro _;replace h:=(Zcx hK2);obtain⟨o7,h,hK8⟩:=Zae h;refine Zat (α:=Unit) (λ_=>mkS 58 [(1,.ptr 1 0 0 0)] [(1,⟨26,4,true,[[.sl 1 (a0.Vars.map cI),.sl 1 (a0.Init.map cI),.sl 2 (a0.Goal.map cF),.sl 4 (a0.Ops.map Za0)]]⟩)]) (λv=>o7=(.inl v)) ?_ ?_
  ·refine aSR λ_=>dr (aBk ?_);refine Zaj (α:=Nat×Int) (λx=>mkS 58 [(1,.ptr 1 0 0 0),(18,.sl 1 (a0.Vars.map cI)),(19,.c (.int .i64 ((a0.Vars.map cI).length:Int))),(20,.c (.int .i64 x.2))] [(1,⟨26,4,true,[[.sl 1 (a0.Vars.map cI),.sl 1 (a0.Init.map cI),.sl 2 (a0.Goal.map cF),.sl 4 (a0.Ops.map Za0)]]⟩)]) (λx=>Zh6 a0 x.1 x.2=some o7) (λx=>x.1) ((((a0.Vars.map cI).length:Int)).toNat+1,0) h ?_ ?_
   ·exact Zas
   ·intro x9 h;intro _;obtain⟨k15,m10,h⟩:=Zak (f:=λn=>Zh6 a0 n x9.2) rfl h;replace h:Zh6 a0 (k15+1) x9.2=some o7:=h;rw[Zh6]at h;refine aSR λ_=>dr (aSq (aCd λ_=>?_));refine spl h (λc11 h=>?_) (λc11 h=>?_)
    ·refine aSk (aSq (aBk (aSR λ_=>?_)));obtain⟨y16,w12,q13,h⟩:=Za9 h;refine Exists.intro (cI y16) (And.intro (Zad w12) λ_=>pr (dr (aSR λ_=>?_)));refine spf h (λc14 h=>?_) (λc14 h=>?_)
     ·intro _;refine dr (aCd λ_=>?_);refine spl h (λc15 h=>?_) (λc15 h=>?_)
      ·refine aSR λ_=>dr (aRt ?_);have j16:=sI_ h;subst j16;replace h:=(Za4 hK8);exact zz4
      ·refine aSk (aRg λ_=>dr ⟨(k15,(IntKind.i64.wrap (x9.2+1))),h,ltS m10,?_⟩);exact Zas
     ·intro _;refine dr (aCd λ_=>Zll (aSR λ_=>dr (aRt ?_)));have j17:=sI_ h;subst j17;replace h:=(Za4 hK8);exact zz4
    ·exact zz11
  ·rintro _ ho;have ho:=ho.symm;subst ho;intro _;replace h:=(Zcx hK8);obtain⟨o18,h,hK19⟩:=Zae h;refine Zat (α:=Unit) (λ_=>mkS 58 [(1,.ptr 1 0 0 0)] [(1,⟨26,4,true,[[.sl 1 (a0.Vars.map cI),.sl 1 (a0.Init.map cI),.sl 2 (a0.Goal.map cF),.sl 4 (a0.Ops.map Za0)]]⟩)]) (λv=>o18=(.inl v)) ?_ ?_
   ·refine aSR λ_=>?_;obtain⟨z21,u20,h⟩:=Zae h;refine cl rfl (Zam0 a0.Vars a0.Init u20) λ_=>?_;refine spf h (λc21 h=>?_) (λc21 h=>?_)
    ·intro _;obtain⟨z22,u22,h⟩:=Zae h;refine cl rfl (Zsy a0.Vars a0.Goal u22) λ_=>dr (aCd λ_=>?_);refine spl h (λc23 h=>?_) (λc23 h=>?_)
     ·refine aSR λ_=>dr (aRt ?_);have j24:=sI_ h;subst j24;replace h:=(Za4 hK19);exact zz4
     ·exact zz10
    ·intro _;refine dr (aCd λ_=>Zll (aSR λ_=>dr (aRt ?_)));have j25:=sI_ h;subst j25;replace h:=(Za4 hK19);exact zz4
   ·rintro _ ho;have ho:=ho.symm;subst ho;intro _;replace h:=(Zcx hK19);refine aSq (aSR λ_=>dr (aBk ?_));refine Zaj (α:=Nat×Int) (λx=>mkS 58 [(1,.ptr 1 0 0 0),(46,.sl 4 (a0.Ops.map Za0)),(47,.c (.int .i64 ((a0.Ops.map Za0).length:Int))),(48,.c (.int .i64 x.2))] [(1,⟨26,4,true,[[.sl 1 (a0.Vars.map cI),.sl 1 (a0.Init.map cI),.sl 2 (a0.Goal.map cF),.sl 4 (a0.Ops.map Za0)]]⟩)]) (λx=>Zh7 a0 x.1 x.2=some r1) (λx=>x.1) ((((a0.Ops.map Za0).length:Int)).toNat+1,0) h ?_ ?_
    ·exact Zas
    ·intro x26 h;intro _;obtain⟨k29,m27,h⟩:=Zak (f:=λn=>Zh7 a0 n x26.2) rfl h;replace h:Zh7 a0 (k29+1) x26.2=some r1:=h;rw[Zh7]at h;refine aSR λ_=>dr (aSq (aCd λ_=>?_));refine spl h (λc28 h=>?_) (λc28 h=>?_)
     ·refine aSk (aSq (aBk (aSR λ_=>?_)));obtain⟨y30,w29,q30,h⟩:=Za9 h;refine Exists.intro (Za0 y30) (And.intro (Zad w29) λ_=>pr (dr (aSR λ_=>?_)));obtain⟨z31,u31,h⟩:=Zae h;refine cl rfl (Zaeh a0.Vars y30 u31) λ_=>dr (aCd λ_=>?_);refine spl h (λc32 h=>?_) (λc32 h=>?_)
      ·exact zz2
      ·refine aSk (aRg λ_=>dr ⟨(k29,(IntKind.i64.wrap (x26.2+1))),h,ltS m27,?_⟩);exact Zas
     ·exact zz9
def Zi1 (a0:List Int)(a1:Int):Nat->Int->Int->Option (Int)|0,_,_=>none|k7+1,v5,v6=>sel (decide (v6<((a0.map cI).length:Int))) (ix a0 v6 (λy8=>sel (decide ((IntKind.i64.wrap (v5*(min (max y8 0) (IntKind.i64.wrap (a1+1)))))>a1)) (some (IntKind.i64.wrap (a1+1))) (Zi1 a0 a1 k7 (IntKind.i64.wrap (v5*(min (max y8 0) (IntKind.i64.wrap (a1+1))))) (IntKind.i64.wrap (v6+1))))) (some v5)
def Zs1 (a0:List Int)(a1:Int):Option (Int):=Zi1 a0 a1 ((((a0.map cI).length:Int)).toNat+1) 1 0
theorem Zai7 (a0:List Int)(a1:Int){r1:Int}(h:Zs1 a0 a1=some r1):ACall cx 5 [.sl 1 (a0.map cI),.c (.int .i64 a1)] (.c (.int .i64 r1)):=by
 refine aOf Tryz.func5 rfl (by decide) rfl (bT1 rfl) ?_;intro _;unfold Zs1 at h;refine aSR λ_=>dr (aSR λ_=>dr (aSq (aSR λ_=>dr (aBk ?_))));refine Zaj (α:=Nat×Int×Int) (λx=>mkS 28 [(1,.c (.int .i64 a1)),(5,.c (.int .i64 x.2.1)),(8,.sl 1 (a0.map cI)),(9,.c (.int .i64 ((a0.map cI).length:Int))),(10,.c (.int .i64 x.2.2))] []) (λx=>Zi1 a0 a1 x.1 x.2.1 x.2.2=some r1) (λx=>x.1) ((((a0.map cI).length:Int)).toNat+1,1,0) h ?_ ?_
 ·exact Zas
 ·intro x1 h;intro _;obtain⟨k7,m2,h⟩:=Zak (f:=λn=>Zi1 a0 a1 n x1.2.1 x1.2.2) rfl h;replace h:Zi1 a0 a1 (k7+1) x1.2.1 x1.2.2=some r1:=h;rw[Zi1]at h;refine aSR λ_=>dr (aSq (aCd λ_=>?_));refine spl h (λc3 h=>?_) (λc3 h=>?_)
  ·refine aSk (aSq (aBk (aSR λ_=>?_)));obtain⟨y8,w4,q5,h⟩:=Za9 h;refine Exists.intro (cI y8) (And.intro (Zad w4) λ_=>pr (dr (aSR λ_=>⟨_,Zaom rfl (bT1 rfl) rfl rfl,λ_=>⟨_,Zaf2 rfl (bT1 rfl) rfl rfl,λ_=>dr (aSR λ_=>dr (aCd λ_=>?_))⟩⟩)));refine spl h (λc6 h=>?_) (λc6 h=>?_)
   ·exact zz2
   ·refine aSk (aRg λ_=>dr ⟨(k7,(IntKind.i64.wrap (x1.2.1*(min (max y8 0) (IntKind.i64.wrap (a1+1))))),(IntKind.i64.wrap (x1.2.2+1))),h,ltS m2,?_⟩);exact Zas
  ·exact zz9
def Zhy (a0:Zah):Nat->Int->Option (Unit⊕Bool)|0,_=>none|k15+1,v14=>sel (decide (v14<((a0.Ops.map Za0).length:Int))) (ix a0.Ops v14 (λy16=>sel (decide (((y16.Effs.map Zag).length:Int)>8)) (some (.inr false)) (Zhy a0 k15 (IntKind.i64.wrap (v14+1))))) (some (.inl ()))
def Zrz (a0:Zah):Option (Bool):=ob1 (sel (decide (((a0.Vars.map cI).length:Int)>12)) (some (.inr false)) (sel (decide (((a0.Ops.map Za0).length:Int)>20)) (some (.inr false)) (some (.inl ()))):Option (Unit⊕Bool)) (Zj9 (λ_=>ob1 (Zhy a0 ((((a0.Ops.map Za0).length:Int)).toNat+1) 0:Option (Unit⊕Bool)) (Zj9 (λ_=>ob1 (Zur a0) (λz17=>sel z17 (ob1 (Zs1 a0.Vars 512) (λz18=>some (decide (z18<=512)))) (some false))) (λr9=>some r9))) (λr1=>some r1))
theorem Zamz (a0:Zah){r1:Bool}(h:Zrz a0=some r1):ACall cx 14 [.agg [.sl 1 (a0.Vars.map cI),.sl 1 (a0.Init.map cI),.sl 2 (a0.Goal.map cF),.sl 4 (a0.Ops.map Za0)]] (.c (.bool r1)):=by
 refine aOf Tryz.func14 rfl (by decide) rfl (bT1 rfl) ?_;intro _;unfold Zrz at h;refine aSR λ_=>dr ?_;obtain⟨o1,h,hK2⟩:=Zae h;refine Zat (α:=Unit) (λ_=>mkS 35 [(1,.ptr 1 0 0 0)] [(1,⟨26,4,true,[[.sl 1 (a0.Vars.map cI),.sl 1 (a0.Init.map cI),.sl 2 (a0.Goal.map cF),.sl 4 (a0.Ops.map Za0)]]⟩)]) (λv=>o1=(.inl v)) ?_ ?_
 ·refine aSR λ_=>?_;refine spf h (λc3 h=>?_) (λc3 h=>?_)
  ·intro _;refine dr (aCd λ_=>?_);refine spl h (λc4 h=>?_) (λc4 h=>?_)
   ·refine aSR λ_=>dr (aRt ?_);have j5:=sI_ h;subst j5;replace h:=(Za4 hK2);exact zz4
   ·exact zz10
  ·intro _;refine dr (aCd λ_=>Zll (aSR λ_=>dr (aRt ?_)));have j6:=sI_ h;subst j6;replace h:=(Za4 hK2);exact zz4
 ·rintro _ ho;have ho:=ho.symm;subst ho;intro _;replace h:=(Zcx hK2);obtain⟨o7,h,hK8⟩:=Zae h;refine Zat (α:=Unit) (λ_=>mkS 35 [(1,.ptr 1 0 0 0)] [(1,⟨26,4,true,[[.sl 1 (a0.Vars.map cI),.sl 1 (a0.Init.map cI),.sl 2 (a0.Goal.map cF),.sl 4 (a0.Ops.map Za0)]]⟩)]) (λv=>o7=(.inl v)) ?_ ?_
  ·refine aSR λ_=>dr (aBk ?_);refine Zaj (α:=Nat×Int) (λx=>mkS 35 [(1,.ptr 1 0 0 0),(16,.sl 4 (a0.Ops.map Za0)),(17,.c (.int .i64 ((a0.Ops.map Za0).length:Int))),(18,.c (.int .i64 x.2))] [(1,⟨26,4,true,[[.sl 1 (a0.Vars.map cI),.sl 1 (a0.Init.map cI),.sl 2 (a0.Goal.map cF),.sl 4 (a0.Ops.map Za0)]]⟩)]) (λx=>Zhy a0 x.1 x.2=some o7) (λx=>x.1) ((((a0.Ops.map Za0).length:Int)).toNat+1,0) h ?_ ?_
   ·exact Zas
   ·intro x9 h;intro _;obtain⟨k15,m10,h⟩:=Zak (f:=λn=>Zhy a0 n x9.2) rfl h;replace h:Zhy a0 (k15+1) x9.2=some o7:=h;rw[Zhy]at h;refine aSR λ_=>dr (aSq (aCd λ_=>?_));refine spl h (λc11 h=>?_) (λc11 h=>?_)
    ·refine aSk (aSq (aBk (aSR λ_=>?_)));obtain⟨y16,w12,q13,h⟩:=Za9 h;refine Exists.intro (Za0 y16) (And.intro (Zad w12) λ_=>pr (dr (aSR λ_=>dr (aCd λ_=>?_))));refine spl h (λc14 h=>?_) (λc14 h=>?_)
     ·refine aSR λ_=>dr (aRt ?_);have j15:=sI_ h;subst j15;replace h:=(Za4 hK8);exact zz4
     ·refine aSk (aRg λ_=>dr ⟨(k15,(IntKind.i64.wrap (x9.2+1))),h,ltS m10,?_⟩);exact Zas
    ·exact zz11
  ·rintro _ ho;have ho:=ho.symm;subst ho;intro _;replace h:=(Zcx hK8);refine aSR λ_=>?_;obtain⟨z17,u16,h⟩:=Zae h;refine cl rfl (Zaqg a0 u16) λ_=>?_;refine spl h (λc17 h=>?_) (λc17 h=>?_)
   ·intro _;obtain⟨z18,u18,h⟩:=Zae h;refine cl rfl (Zai7 a0.Vars 512 u18) ?_;exact zz0
   ·exact zz0
def Zi4 (a0:Zah):Nat->Int->Option (Unit⊕Bool)|0,_=>none|k14+1,v13=>sel (decide (v13<((a0.Vars.map cI).length:Int))) (ix a0.Vars v13 (λy15=>sel (decide (y15<2)) (some (.inr false)) (sel (decide (y15>4)) (some (.inr false)) (Zi4 a0 k14 (IntKind.i64.wrap (v13+1)))))) (some (.inl ()))
def Zhd (y125:GOp):Nat->Int->Int->Option (Int⊕Bool)|0,_,_=>none|k143+1,v141,v142=>sel (decide (v142<((y125.Effs.map Zag).length:Int))) (ix y125.Effs v142 (λy144=>sel (decide (((y144.When.map cF).length:Int)>2)) (some (.inr false)) (sel (decide (((y144.When.map cF).length:Int)>0)) (Zhd y125 k143 (IntKind.i64.wrap (v141+1)) (IntKind.i64.wrap (v142+1))) (Zhd y125 k143 v141 (IntKind.i64.wrap (v142+1)))))) (some (.inl v141))
def Zf9 (a0:Zah):Nat->Int->Option (Bool)|0,_=>none|k102+1,v101=>sel (decide (v101<((a0.Ops.map Za0).length:Int))) (ob1 (ix a0.Ops v101 (λy125=>ob1 (Zhd y125 ((((y125.Effs.map Zag).length:Int)).toNat+1) 0 0:Option (Int⊕Bool)) (Zj9 (λv134=>sel (decide (v134>3)) (some (.inr false)) (some (.inl ()))) (λr135=>some (.inr r135)))):Option (Unit⊕Bool)) (Zj9 (λ_=>Zf9 a0 k102 (IntKind.i64.wrap (v101+1))) (λr123=>some r123))) (some true)
def Zuv (a0:Zah):Option (Bool):=ob1 (Zrz a0) (λz1=>sel (!z1) (some false) (ob1 (Zi4 a0 ((((a0.Vars.map cI).length:Int)).toNat+1) 0:Option (Unit⊕Bool)) (Zj9 (λ_=>Zf9 a0 ((((a0.Ops.map Za0).length:Int)).toNat+1) 0) (λr8=>some r8))))
theorem Zaqi (a0:Zah){r1:Bool}(h:Zuv a0=some r1):ACall cx 4 [.agg [.sl 1 (a0.Vars.map cI),.sl 1 (a0.Init.map cI),.sl 2 (a0.Goal.map cF),.sl 4 (a0.Ops.map Za0)]] (.c (.bool r1)):=by
 refine aOf Tryz.func4 rfl (by decide) rfl (bT1 rfl) ?_;intro _;unfold Zuv at h;refine aSR λ_=>dr (aSq (aSR λ_=>?_));obtain⟨z1,u1,h⟩:=Zae h;refine cl rfl (Zamz a0 u1) λ_=>dr (aCd λ_=>?_);refine spl h (λc2 h=>?_) (λc2 h=>?_)
 ·exact zz2
 ·refine aSk ?_;obtain⟨o3,h,hK4⟩:=Zae h;refine Zat (α:=Unit) (λ_=>mkS 55 [(1,.ptr 1 0 0 0)] [(1,⟨26,4,true,[[.sl 1 (a0.Vars.map cI),.sl 1 (a0.Init.map cI),.sl 2 (a0.Goal.map cF),.sl 4 (a0.Ops.map Za0)]]⟩)]) (λv=>o3=(.inl v)) ?_ ?_
  ·refine aSR λ_=>dr (aBk ?_);refine Zaj (α:=Nat×Int) (λx=>mkS 55 [(1,.ptr 1 0 0 0),(14,.sl 1 (a0.Vars.map cI)),(15,.c (.int .i64 ((a0.Vars.map cI).length:Int))),(16,.c (.int .i64 x.2))] [(1,⟨26,4,true,[[.sl 1 (a0.Vars.map cI),.sl 1 (a0.Init.map cI),.sl 2 (a0.Goal.map cF),.sl 4 (a0.Ops.map Za0)]]⟩)]) (λx=>Zi4 a0 x.1 x.2=some o3) (λx=>x.1) ((((a0.Vars.map cI).length:Int)).toNat+1,0) h ?_ ?_
   ·exact Zas
   ·intro x5 h;intro _;obtain⟨k14,m6,h⟩:=Zak (f:=λn=>Zi4 a0 n x5.2) rfl h;replace h:Zi4 a0 (k14+1) x5.2=some o3:=h;rw[Zi4]at h;refine aSR λ_=>dr (aSq (aCd λ_=>?_));refine spl h (λc7 h=>?_) (λc7 h=>?_)
    ·refine aSk (aSq (aBk (aSR λ_=>?_)));obtain⟨y15,w8,q9,h⟩:=Za9 h;refine Exists.intro (cI y15) (And.intro (Zad w8) λ_=>pr (dr (aSR λ_=>?_)));refine spf h (λc10 h=>?_) (λc10 h=>?_)
     ·intro _;refine dr (aCd λ_=>?_);refine spl h (λc11 h=>?_) (λc11 h=>?_)
      ·refine aSR λ_=>dr (aRt ?_);have j12:=sI_ h;subst j12;replace h:=(Za4 hK4);exact zz4
      ·refine aSk (aRg λ_=>dr ⟨(k14,(IntKind.i64.wrap (x5.2+1))),h,ltS m6,?_⟩);exact Zas
     ·intro _;refine dr (aCd λ_=>Zll (aSR λ_=>dr (aRt ?_)));have j13:=sI_ h;subst j13;replace h:=(Za4 hK4);exact zz4
    ·exact zz11
  ·rintro _ ho;have ho:=ho.symm;subst ho;intro _;replace h:=(Zcx hK4);refine aSq (aSR λ_=>dr (aBk ?_));refine Zaj (α:=Nat×Int) (λx=>mkS 55 [(28,.sl 4 (a0.Ops.map Za0)),(29,.c (.int .i64 ((a0.Ops.map Za0).length:Int))),(30,.c (.int .i64 x.2))] []) (λx=>Zf9 a0 x.1 x.2=some r1) (λx=>x.1) ((((a0.Ops.map Za0).length:Int)).toNat+1,0) h ?_ ?_
   ·exact Zas
   ·intro x14 h;intro _;obtain⟨k102,m15,h⟩:=Zak (f:=λn=>Zf9 a0 n x14.2) rfl h;replace h:Zf9 a0 (k102+1) x14.2=some r1:=h;rw[Zf9]at h;refine aSR λ_=>dr (aSq (aCd λ_=>?_));refine spl h (λc16 h=>?_) (λc16 h=>?_)
    ·refine aSk ?_;obtain⟨o17,h,hK18⟩:=Zae h;refine Zat (α:=Unit) (λ_=>mkS 55 [(28,.sl 4 (a0.Ops.map Za0)),(29,.c (.int .i64 ((a0.Ops.map Za0).length:Int))),(30,.c (.int .i64 x14.2))] []) (λv=>o17=(.inl v)) ?_ ?_
     ·refine aBk (aSR λ_=>?_);obtain⟨y125,w19,q20,h⟩:=Za9 h;refine Exists.intro (Za0 y125) (And.intro (Zad w19) λ_=>pr (dr (aSR λ_=>dr ?_)));obtain⟨o21,h,hK22⟩:=Zae h;refine Zat (α:=Int) (λv134=>mkS 55 [(7,.c (.int .i64 v134)),(28,.sl 4 (a0.Ops.map Za0)),(29,.c (.int .i64 ((a0.Ops.map Za0).length:Int))),(30,.c (.int .i64 x14.2))] []) (λv=>o21=(.inl v)) ?_ ?_
      ·refine aSR λ_=>dr (aBk ?_);refine Zaj (α:=Nat×Int×Int) (λx=>mkS 55 [(7,.c (.int .i64 x.2.1)),(28,.sl 4 (a0.Ops.map Za0)),(29,.c (.int .i64 ((a0.Ops.map Za0).length:Int))),(30,.c (.int .i64 x14.2)),(35,.sl 3 (y125.Effs.map Zag)),(36,.c (.int .i64 ((y125.Effs.map Zag).length:Int))),(37,.c (.int .i64 x.2.2))] []) (λx=>Zhd y125 x.1 x.2.1 x.2.2=some o21) (λx=>x.1) ((((y125.Effs.map Zag).length:Int)).toNat+1,0,0) h ?_ ?_
       ·exact Zas
       ·intro x23 h;intro _;obtain⟨k143,m24,h⟩:=Zak (f:=λn=>Zhd y125 n x23.2.1 x23.2.2) rfl h;replace h:Zhd y125 (k143+1) x23.2.1 x23.2.2=some o21:=h;rw[Zhd]at h;refine aSR λ_=>dr (aSq (aCd λ_=>?_));refine spl h (λc25 h=>?_) (λc25 h=>?_)
        ·refine aSk (aSq (aBk (aSR λ_=>?_)));obtain⟨y144,w26,q27,h⟩:=Za9 h;refine Exists.intro (Zag y144) (And.intro (Zad w26) λ_=>pr (dr (aSq (aSR λ_=>dr (aCd λ_=>?_)))));refine spl h (λc28 h=>?_) (λc28 h=>?_)
         ·refine aSR λ_=>dr (aRt ?_);have j29:=sI_ h;subst j29;replace h:=(Za4 hK22);have j30:=sI_ h;subst j30;replace h:=(Za4 hK18);exact zz4
         ·refine aSk (aSR λ_=>dr (aCd λ_=>?_));refine spl h (λc31 h=>?_) (λc31 h=>?_)
          ·refine aRg λ_=>dr (aRg λ_=>dr ⟨(k143,(IntKind.i64.wrap (x23.2.1+1)),(IntKind.i64.wrap (x23.2.2+1))),h,ltS m24,?_⟩);exact Zas
          ·refine aSk (aRg λ_=>dr ⟨(k143,x23.2.1,(IntKind.i64.wrap (x23.2.2+1))),h,ltS m24,?_⟩);exact Zas
        ·refine aEx ⟨x23.2.1,(sI_ h).symm,?_⟩;exact Zas
      ·rintro v134 ho;have ho:=ho.symm;subst ho;intro _;replace h:=(Zcx hK22);refine aSR λ_=>dr (aCd λ_=>?_);refine spl h (λc32 h=>?_) (λc32 h=>?_)
       ·refine aSR λ_=>dr (aRt ?_);have j33:=sI_ h;subst j33;replace h:=(Za4 hK18);exact zz4
       ·exact zz10
     ·rintro _ ho;have ho:=ho.symm;subst ho;intro _;replace h:=(Zcx hK18);refine aRg λ_=>dr ⟨(k102,(IntKind.i64.wrap (x14.2+1))),h,ltS m15,?_⟩;exact Zas
    ·exact zz9
def Zfe (a0:List Zaa)(a1:List Int):Nat->Int->Option (Bool)|0,_=>none|k7+1,v6=>sel (decide (v6<((a0.map cF).length:Int))) (ix a0 v6 (λy8=>sel (decide (y8.1<0)) (some false) (sel (decide (y8.1>=((a1.map cI).length:Int))) (some false) (ix a1 y8.1 (λy9=>sel (y9 != y8.2) (some false) (Zfe a0 a1 k7 (IntKind.i64.wrap (v6+1)))))))) (some true)
def Zg7 (a0:List Zaa)(a1:List Int):Option (Bool):=Zfe a0 a1 ((((a0.map cF).length:Int)).toNat+1) 0
theorem Zrv (a0:List Zaa)(a1:List Int){r1:Bool}(h:Zg7 a0 a1=some r1):ACall cx 50 [.sl 2 (a0.map cF),.sl 1 (a1.map cI)] (.c (.bool r1)):=by
 refine aOf Tryz.func50 rfl (by decide) rfl (bT1 rfl) ?_;intro _;unfold Zg7 at h;refine aSR λ_=>dr (aSq (aSR λ_=>dr (aBk ?_)));refine Zaj (α:=Nat×Int) (λx=>mkS 34 [(1,.sl 1 (a1.map cI)),(7,.sl 2 (a0.map cF)),(8,.c (.int .i64 ((a0.map cF).length:Int))),(9,.c (.int .i64 x.2))] []) (λx=>Zfe a0 a1 x.1 x.2=some r1) (λx=>x.1) ((((a0.map cF).length:Int)).toNat+1,0) h ?_ ?_
 ·exact Zas
 ·intro x1 h;intro _;obtain⟨k7,m2,h⟩:=Zak (f:=λn=>Zfe a0 a1 n x1.2) rfl h;replace h:Zfe a0 a1 (k7+1) x1.2=some r1:=h;rw[Zfe]at h;refine aSR λ_=>dr (aSq (aCd λ_=>?_));refine spl h (λc3 h=>?_) (λc3 h=>?_)
  ·refine aSk (aSq (aBk (aSR λ_=>?_)));obtain⟨y8,w4,q5,h⟩:=Za9 h;refine Exists.intro (cF y8) (And.intro (Zad w4) λ_=>pr (dr (aSR λ_=>?_)));refine spf h (λc6 h=>?_) (λc6 h=>?_)
   ·intro _;refine spf h (λc7 h=>?_) (λc7 h=>?_)
    ·intro _;obtain⟨y9,w8,q9,h⟩:=Za9 h;refine Exists.intro (cI y9) (And.intro (Zad w8) λ_=>pr (dr (aCd λ_=>?_)));refine spl h (λc10 h=>?_) (λc10 h=>?_)
     ·exact zz2
     ·refine aSk (aRg λ_=>dr ⟨(k7,(IntKind.i64.wrap (x1.2+1))),h,ltS m2,?_⟩);exact Zas
    ·exact zz5
   ·exact zz5
  ·exact zz9
def Zft (y252:Int)(y294:List Int):Nat->Int->(List (List Int))->Option (List (List Int))|0,_,_=>none|k299+1,v297,v298=>sel (decide (v297<y252)) (grd ((0+y294.length)*8<=140737488355328) (grd ((y294.length+1)*8<=140737488355328) (grd ((v298.length+1)*24<=140737488355328) (grd (y294.length+1<=140737488355328) (Zft y252 y294 k299 (IntKind.i64.wrap (v297+1)) (v298++[(y294++[v297])])))))) (some v298)
def Zds (v199:List (List Int))(y252:Int):Nat->Int->(List (List Int))->Option (List (List Int))|0,_,_=>none|k285+1,v283,v284=>sel (decide (v283<((v199.map Zb4).length:Int))) (ob1 (ix v199 v283 (λy294=>Zft y252 y294 ((y252).toNat+1) 0 v284):Option (List (List Int))) (λv292=>Zds v199 y252 k285 (IntKind.i64.wrap (v283+1)) v292)) (some v284)
def Zd3 (a0:List Int):Nat->(List (List Int))->Int->Option (List (List Int))|0,_,_=>none|k201+1,v199,v200=>sel (decide (v200<((a0.map cI).length:Int))) (ob1 (ix a0 v200 (λy252=>Zds v199 y252 ((((v199.map Zb4).length:Int)).toNat+1) 0 []):Option (List (List Int))) (λv250=>grd (v250.length<=140737488355328) (Zd3 a0 k201 v250 (IntKind.i64.wrap (v200+1))))) (some v199)
def Znh (a0:List Int):Option (List (List Int)):=Zd3 a0 ((((a0.map cI).length:Int)).toNat+1) [[]] 0
theorem Zabs (a0:List Int){r1:List (List Int)}(h:Znh a0=some r1):ACall cx 53 [.sl 1 (a0.map cI)] (.sl 1 (r1.map Zb4)):=by
 refine aOf Tryz.func53 rfl (by decide) rfl (bT1 rfl) ?_;intro _;unfold Znh at h;refine aSR λ_=>dr (aSR λ_=>dr (aSq (aSR λ_=>dr (aBk ?_))));refine Zaj (α:=Nat×(List (List Int))×Int) (λx=>mkS 42 [(3,.sl 1 (x.2.1.map Zb4)),(12,.sl 1 (a0.map cI)),(13,.c (.int .i64 ((a0.map cI).length:Int))),(14,.c (.int .i64 x.2.2))] []) (λx=>Zd3 a0 x.1 x.2.1 x.2.2=some r1) (λx=>x.1) ((((a0.map cI).length:Int)).toNat+1,[[]],0) h ?_ ?_
 ·exact Zas
 ·intro x1 h;intro _;obtain⟨k201,m2,h⟩:=Zak (f:=λn=>Zd3 a0 n x1.2.1 x1.2.2) rfl h;replace h:Zd3 a0 (k201+1) x1.2.1 x1.2.2=some r1:=h;rw[Zd3]at h;refine aSR λ_=>dr (aSq (aCd λ_=>?_));refine spl h (λc3 h=>?_) (λc3 h=>?_)
  ·refine aSk ?_;obtain⟨o4,h,hK5⟩:=Zae h;refine Zat (α:=List (List Int)) (λv250=>mkS 42 [(3,.own 36 0 0 v250.length),(12,.sl 1 (a0.map cI)),(13,.c (.int .i64 ((a0.map cI).length:Int))),(14,.c (.int .i64 x1.2.2))] [(36,⟨22,1,false,v250.map Zb4⟩)]) (λv=>o4=v) ?_ ?_
   ·refine aBk (aSR λ_=>?_);obtain⟨y252,w6,q7,h⟩:=Za9 h;refine Exists.intro (cI y252) (And.intro (Zad w6) λ_=>pr (dr (aSR λ_=>dr (aSq (aSR λ_=>dr (aBk ?_))))));refine Zaj (α:=Nat×Int×(List (List Int))) (λx=>mkS 42 [(5,.c (.int .i64 y252)),(6,.own 36 0 0 x.2.2.length),(12,.sl 1 (a0.map cI)),(13,.c (.int .i64 ((a0.map cI).length:Int))),(14,.c (.int .i64 x1.2.2)),(18,.sl 1 (x1.2.1.map Zb4)),(19,.c (.int .i64 ((x1.2.1.map Zb4).length:Int))),(20,.c (.int .i64 x.2.1))] [(36,⟨22,1,false,x.2.2.map Zb4⟩)]) (λx=>Zds x1.2.1 y252 x.1 x.2.1 x.2.2=some o4) (λx=>x.1) ((((x1.2.1.map Zb4).length:Int)).toNat+1,0,[]) h ?_ ?_
    ·exact Zas
    ·intro x8 h;intro _;obtain⟨k285,m9,h⟩:=Zak (f:=λn=>Zds x1.2.1 y252 n x8.2.1 x8.2.2) rfl h;replace h:Zds x1.2.1 y252 (k285+1) x8.2.1 x8.2.2=some o4:=h;rw[Zds]at h;refine aSR λ_=>dr (aSq (aCd λ_=>?_));refine spl h (λc10 h=>?_) (λc10 h=>?_)
     ·refine aSk ?_;obtain⟨o11,h,hK12⟩:=Zae h;refine Zat (α:=List (List Int)) (λv292=>mkS 42 [(5,.c (.int .i64 y252)),(6,.own 36 0 0 v292.length),(12,.sl 1 (a0.map cI)),(13,.c (.int .i64 ((a0.map cI).length:Int))),(14,.c (.int .i64 x1.2.2)),(18,.sl 1 (x1.2.1.map Zb4)),(19,.c (.int .i64 ((x1.2.1.map Zb4).length:Int))),(20,.c (.int .i64 x8.2.1))] [(36,⟨22,1,false,v292.map Zb4⟩)]) (λv=>o11=v) ?_ ?_
      ·refine aBk (aSR λ_=>?_);obtain⟨y294,w13,q14,h⟩:=Za9 h;refine Exists.intro (Zb4 y294) (And.intro (Zad w13) λ_=>pr (dr (aSR λ_=>dr (aBk ?_))));refine Zaj (α:=Nat×Int×(List (List Int))) (λx=>mkS 42 [(5,.c (.int .i64 y252)),(6,.own 36 0 0 x.2.2.length),(8,.sl 1 (y294.map cI)),(12,.sl 1 (a0.map cI)),(13,.c (.int .i64 ((a0.map cI).length:Int))),(14,.c (.int .i64 x1.2.2)),(18,.sl 1 (x1.2.1.map Zb4)),(19,.c (.int .i64 ((x1.2.1.map Zb4).length:Int))),(20,.c (.int .i64 x8.2.1)),(24,.c (.int .i64 y252)),(25,.c (.int .i64 x.2.1))] [(36,⟨22,1,false,x.2.2.map Zb4⟩)]) (λx=>Zft y252 y294 x.1 x.2.1 x.2.2=some o11) (λx=>x.1) ((y252).toNat+1,0,x8.2.2) h ?_ ?_
       ·exact Zas
       ·intro x15 h;intro _;obtain⟨k299,m16,h⟩:=Zak (f:=λn=>Zft y252 y294 n x15.2.1 x15.2.2) rfl h;replace h:Zft y252 y294 (k299+1) x15.2.1 x15.2.2=some o11:=h;rw[Zft]at h;refine aSR λ_=>dr (aSq (aCd λ_=>?_));refine spl h (λc17 h=>?_) (λc17 h=>?_)
        ·refine aSk (aSq (aBk (aSR λ_=>dr (aRg λ_=>?_))));obtain⟨q18,h⟩:=Zaf h;obtain⟨q19,h⟩:=Zaf h;obtain⟨q20,h⟩:=Zaf h;refine pl ?_;refine And.intro (by first|with_reducible assumption|(show(0+y294.length)*8<=140737488355328;with_reducible assumption)|omega|(simp;omega)) ?_;refine pe (pl (pl ?_));refine And.intro (by first|with_reducible assumption|(show(y294.length+1)*8<=140737488355328;with_reducible assumption)|omega|(simp;omega)) ?_;refine pe (pl (pl ?_));refine And.intro (by first|with_reducible assumption|(show(x15.2.2.length+1)*24<=140737488355328;with_reducible assumption)|omega|(simp;omega)) ?_;refine pe (dr (aRg λ_=>dr ?_));obtain⟨q21,h⟩:=Zaf h;refine⟨(k299,(IntKind.i64.wrap (x15.2.1+1)),(x15.2.2++[(y294++[x15.2.1])])),h,ltS m16,?_⟩;exact Zas
        ·refine aEx ⟨x15.2.2,(sI_ h).symm,?_⟩;exact Zas
      ·rintro v292 ho;have ho:=ho.symm;subst ho;intro _;replace h:=hK12;refine aRg λ_=>dr ⟨(k285,(IntKind.i64.wrap (x8.2.1+1)),v292),h,ltS m9,?_⟩;exact Zas
     ·refine aEx (aRg λ_=>dr ⟨x8.2.2,(sI_ h).symm,?_⟩);exact Zas
   ·rintro v250 ho;have ho:=ho.symm;subst ho;intro _;replace h:=hK5;refine aRg λ_=>dr ?_;obtain⟨q22,h⟩:=Zaf h;refine⟨(k201,v250,(IntKind.i64.wrap (x1.2.2+1))),h,ltS m2,?_⟩;exact Zas
  ·exact zz9
def Zhx (a0:List Zaa)(a1:List Int):Nat->Int->Option (Bool)|0,_=>none|k7+1,v6=>sel (decide (v6<((a0.map cF).length:Int))) (ix a0 v6 (λy8=>sel (decide (y8.1<0)) (some false) (sel (decide (y8.1>=((a1.map cI).length:Int))) (some false) (ix a1 y8.1 (λy9=>sel (y9 != y8.2) (some false) (Zhx a0 a1 k7 (IntKind.i64.wrap (v6+1)))))))) (some true)
def Zky (a0:List Zaa)(a1:List Int):Option (Bool):=Zhx a0 a1 ((((a0.map cF).length:Int)).toNat+1) 0
theorem Zy3 (a0:List Zaa)(a1:List Int){r1:Bool}(h:Zky a0 a1=some r1):ACall cx 54 [.sl 2 (a0.map cF),.sl 1 (a1.map cI)] (.c (.bool r1)):=by
 refine aOf Tryz.func54 rfl (by decide) rfl (bT1 rfl) ?_;intro _;unfold Zky at h;refine aSR λ_=>dr (aSq (aSR λ_=>dr (aBk ?_)));refine Zaj (α:=Nat×Int) (λx=>mkS 34 [(1,.sl 1 (a1.map cI)),(7,.sl 2 (a0.map cF)),(8,.c (.int .i64 ((a0.map cF).length:Int))),(9,.c (.int .i64 x.2))] []) (λx=>Zhx a0 a1 x.1 x.2=some r1) (λx=>x.1) ((((a0.map cF).length:Int)).toNat+1,0) h ?_ ?_
 ·exact Zas
 ·intro x1 h;intro _;obtain⟨k7,m2,h⟩:=Zak (f:=λn=>Zhx a0 a1 n x1.2) rfl h;replace h:Zhx a0 a1 (k7+1) x1.2=some r1:=h;rw[Zhx]at h;refine aSR λ_=>dr (aSq (aCd λ_=>?_));refine spl h (λc3 h=>?_) (λc3 h=>?_)
  ·refine aSk (aSq (aBk (aSR λ_=>?_)));obtain⟨y8,w4,q5,h⟩:=Za9 h;refine Exists.intro (cF y8) (And.intro (Zad w4) λ_=>pr (dr (aSR λ_=>?_)));refine spf h (λc6 h=>?_) (λc6 h=>?_)
   ·intro _;refine spf h (λc7 h=>?_) (λc7 h=>?_)
    ·intro _;obtain⟨y9,w8,q9,h⟩:=Za9 h;refine Exists.intro (cI y9) (And.intro (Zad w8) λ_=>pr (dr (aCd λ_=>?_)));refine spl h (λc10 h=>?_) (λc10 h=>?_)
     ·exact zz2
     ·refine aSk (aRg λ_=>dr ⟨(k7,(IntKind.i64.wrap (x1.2+1))),h,ltS m2,?_⟩);exact Zas
    ·exact zz5
   ·exact zz5
  ·exact zz9
def Zgx (a1:List Int)(y8:GOp):Nat->Int->(List Int)->Option ((List Int)×Bool)|0,_,_=>none|k19+1,v17,v18=>sel (decide (v17<((y8.Effs.map Zag).length:Int))) (ix y8.Effs v17 (λy20=>ob1 (Zky y20.When a1) (λz21=>sel z21 (ixn v18 ((y20.Var).toNat) (λ_=>grd (0<=y20.Var) (grd (y20.Var<((v18.length:Nat):Int)) (Zgx a1 y8 k19 (IntKind.i64.wrap (v17+1)) (v18.set ((y20.Var).toNat) y20.Val))))) (Zgx a1 y8 k19 (IntKind.i64.wrap (v17+1)) v18)))) (grd (v18.length<=140737488355328) (some (v18,true)))
def Zpi (a0:Zah)(a1:List Int)(a2:Int):Option ((List Int)×Bool):=ob1 (sel (decide (a2<0)) (some (.inr ([],false))) (sel (decide (a2>=((a0.Ops.map Za0).length:Int))) (some (.inr ([],false))) (ix a0.Ops a2 (λy6=>ob1 (Zky y6.Pre a1) (λz7=>sel (!z7) (some (.inr ([],false))) (some (.inl ())))))):Option (Unit⊕((List Int)×Bool))) (Zj9 (λ_=>grd ((0+a1.length)*8<=140737488355328) (ix a0.Ops a2 (λy8=>Zgx a1 y8 ((((y8.Effs.map Zag).length:Int)).toNat+1) 0 a1))) (λ(r3,r4)=>some (r3,r4)))
theorem Zamx (a0:Zah)(a1:List Int)(a2:Int){r1:List Int}{r2:Bool}(h:Zpi a0 a1 a2=some (r1,r2)):ACall cx 79 [.agg [.sl 1 (a0.Vars.map cI),.sl 1 (a0.Init.map cI),.sl 2 (a0.Goal.map cF),.sl 4 (a0.Ops.map Za0)],.sl 1 (a1.map cI),.c (.int .i64 a2)] (.tup [.sl 1 (r1.map cI),.c (.bool r2)]):=by
 refine aOf Tryz.func79 rfl (by decide) rfl (bT1 rfl) ?_;intro _;unfold Zpi at h;refine aSR λ_=>dr ?_;obtain⟨o1,h,hK2⟩:=Zae h;refine Zat (α:=Unit) (λ_=>mkS 57 [(1,.sl 1 (a1.map cI)),(2,.c (.int .i64 a2)),(3,.ptr 3 0 0 0)] [(3,⟨26,4,true,[[.sl 1 (a0.Vars.map cI),.sl 1 (a0.Init.map cI),.sl 2 (a0.Goal.map cF),.sl 4 (a0.Ops.map Za0)]]⟩)]) (λv=>o1=(.inl v)) ?_ ?_
 ·refine aSR λ_=>?_;refine spf h (λc3 h=>?_) (λc3 h=>?_)
  ·intro _;refine spf h (λc4 h=>?_) (λc4 h=>?_)
   ·intro _;obtain⟨y6,w5,q6,h⟩:=Za9 h;refine Exists.intro (Za0 y6) (And.intro (Zad w5) λ_=>?_);obtain⟨z7,u7,h⟩:=Zae h;refine cl rfl (Zy3 y6.Pre a1 u7) λ_=>pr (dr (aCd λ_=>?_));refine spl h (λc8 h=>?_) (λc8 h=>?_)
    ·refine aSR λ_=>dr (aRt ?_);have j9:=sI_ h;subst j9;replace h:=(Za4 hK2);exact zz1
    ·exact zz10
   ·intro _;refine dr (aCd λ_=>Zll (aSR λ_=>dr (aRt ?_)));have j10:=sI_ h;subst j10;replace h:=(Za4 hK2);exact zz1
  ·intro _;refine dr (aCd λ_=>Zll (aSR λ_=>dr (aRt ?_)));have j11:=sI_ h;subst j11;replace h:=(Za4 hK2);exact zz1
 ·rintro _ ho;have ho:=ho.symm;subst ho;intro _;replace h:=(Zcx hK2);refine aSR λ_=>?_;obtain⟨q12,h⟩:=Zaf h;refine pl ?_;refine And.intro (by first|with_reducible assumption|(show(0+a1.length)*8<=140737488355328;with_reducible assumption)|omega|(simp;omega)) ?_;refine pe (dr (aSq (aSR λ_=>?_)));obtain⟨y8,w13,q14,h⟩:=Za9 h;refine Exists.intro (Za0 y8) (And.intro (Zad w13) λ_=>pr (dr (aBk ?_)));refine Zaj (α:=Nat×Int×(List Int)) (λx=>mkS 57 [(1,.sl 1 (a1.map cI)),(8,.own 31 0 0 x.2.2.length),(39,.sl 3 (y8.Effs.map Zag)),(40,.c (.int .i64 ((y8.Effs.map Zag).length:Int))),(41,.c (.int .i64 x.2.1))] [(31,⟨3,1,false,x.2.2.map cI⟩)]) (λx=>Zgx a1 y8 x.1 x.2.1 x.2.2=some (r1,r2)) (λx=>x.1) ((((y8.Effs.map Zag).length:Int)).toNat+1,0,a1) h ?_ ?_
  ·exact Zas
  ·intro x15 h;intro _;obtain⟨k19,m16,h⟩:=Zak (f:=λn=>Zgx a1 y8 n x15.2.1 x15.2.2) rfl h;replace h:Zgx a1 y8 (k19+1) x15.2.1 x15.2.2=some (r1,r2):=h;rw[Zgx]at h;refine aSR λ_=>dr (aSq (aCd λ_=>?_));refine spl h (λc17 h=>?_) (λc17 h=>?_)
   ·refine aSk (aSq (aBk (aSR λ_=>?_)));obtain⟨y20,w18,q19,h⟩:=Za9 h;refine Exists.intro (Zag y20) (And.intro (Zad w18) λ_=>pr (dr (aSR λ_=>?_)));obtain⟨z21,u20,h⟩:=Zae h;refine cl rfl (Zy3 y20.When a1 u20) λ_=>dr (aCd λ_=>?_);refine spl h (λc21 h=>?_) (λc21 h=>?_)
    ·refine aRg λ_=>?_;obtain⟨y22,w22,h⟩:=Zcm h;refine Exists.intro (cI y22) (And.intro (by first|exact Zad w22|(have w:=Zad (f:=cI) w22;simpa [cI,Value.cells] using w)) ?_);intro _;obtain⟨q23,h⟩:=Zaf h;obtain⟨q24,h⟩:=Zaf h;refine pr (pr (dr (aRg λ_=>dr ⟨(k19,(IntKind.i64.wrap (x15.2.1+1)),(x15.2.2.set ((y20.Var).toNat) y20.Val)),h,ltS m16,?_⟩)));exact Zas
    ·refine aSk (aRg λ_=>dr ⟨(k19,(IntKind.i64.wrap (x15.2.1+1)),x15.2.2),h,ltS m16,?_⟩);exact Zas
   ·refine aEx (aSR λ_=>dr (aRt ?_));obtain⟨q25,h⟩:=Zaf h;exact zz1
end Go.Proofs.YtpfnmpdcneejbaaGreatDoor.Am
namespace Go.Proofs.YtpfnmpdcneejbaaGreatDoor.Am
open Go.RowKit
abbrev bl (s:ByteArray):List UInt8:=s.data.toList
theorem Zaji (s:ByteArray):(bl s).length=s.size:=(Lib.size_eq s).symm
theorem Zav0 (s:ByteArray)(n:Nat)(h:n<s.size):byt s (n:Int)=(((bl s)[n]'(by rw[Zaji];exact h)).toNat:Int):=by
 show((s.data.getD ((n:Int)).toNat 0).toNat:Int)=_
 have h2:n<s.data.size:=h
 simp only[Int.toNat_natCast,aD_,aE_ h2]
 simp
section
variable {α β γ δ : Type}
theorem Zar {p:Prop} [Decidable p]{x y:Option α}:sel (decide p) x y=if p then x else y:=by
 unfold sel
 by_cases h:p <;> simp[h]
theorem Zby {x y:Option α}:sel true x y=x:=rfl
theorem Zbb {x y:Option α}:sel false x y=y:=rfl
theorem Zan {p:Prop} [Decidable p]{x:Option α}(h:p):grd p x=x:=if_pos h
theorem Zdp {l:List α}{n:Nat}{y:α}{k:α->Option β}(h:l[n]?=some y):ixn l n k=k y:=by rw[ixn,h]
theorem Zfv {l:List α}{n:Nat}{y:α}{k:α->Option β}(h:l[n]?=some y):ix l (n:Int) k=k y:=by
 rw[ix,Int.toNat_natCast,Zdp h,Zan (Int.natCast_nonneg n)]
theorem Zac {a:α}{k:α->Option β}:ob1 (some a) k=k a:=rfl
theorem Zc6 {a:α}{b:β}{k:α->β->Option γ}:ob2 (some (a,b)) k=k a b:=rfl
theorem Zyx {a:α}{b:β}{c:γ}{k:α->β->γ->Option δ}:ob3 (some (a,b,c)) k=k a b c:=rfl
theorem Zbv {f:α->Option γ}{g:β->Option γ}{a:α}:Zj9 f g (.inl a)=f a:=rfl
theorem Ziz {f:α->Option γ}{g:β->Option γ}{b:β}:Zj9 f g (.inr b)=g b:=rfl
theorem w64 {z:Int}(h1:-9223372036854775808<=z)(h2:z<=9223372036854775807):IntKind.i64.wrap z=z:=Zpd h1 h2
theorem w64s {n:Nat}(h:n<9223372036854775807):IntKind.i64.wrap ((n:Int)+1)=((n+1:Nat):Int):=by rw[w64 (by omega) (by omega)];rfl
theorem Zn4 {l:List α}{n:Nat}(h:n<l.length):∃y,l[n]?=some y/\l.drop n=y :: l.drop (n+1):=⟨l[n],gE_ h,List.drop_eq_getElem_cons h⟩
end
end Go.Proofs.YtpfnmpdcneejbaaGreatDoor.Am
namespace Go.Proofs.YtpfnmpdcneejbaaGreatDoor.Am
section
variable {α β γ : Type}
def ixv (y:α)(k:α->Option γ):Option γ:=k y
def Rg (B:α->Int->β->(β->Option γ)->Option γ)(E:β->Option γ):List α->Int->β->Option γ
 | [],_,v=>E v
 | y :: r,i,v=>B y i v (Rg B E r (i+1))
def Rn (B:Int->β->(β->Option γ)->Option γ)(E:β->Option γ):Nat->Int->β->Option γ
 | 0,_,v=>E v
 | m+1,i,v=>B i v (Rn B E m (i+1))
theorem Zah8 {l:List α}{n:Nat}{y:α}(h:l[n]?=some y):n<l.length:=(gS_.1 h).1
theorem Zca {n m:Nat}(h:n<m):decide ((n:Int)<(m:Int))=true:=by simp;omega
theorem Zfh {n:Nat}:decide ((n:Int)<(n:Int))=false:=by simp
theorem Zawy {l:List α}{L:Nat->Int->β->Option γ}{B:α->Int->β->(β->Option γ)->Option γ}{E:β->Option γ}(hl:l.length<9223372036854775807)
  (hs:∀(k n:Nat) (v:β) (y:α),l[n]?=some y->n<9223372036854775807->L (k+1) n v=B y n v (λv'=>L k ((n+1:Nat):Int) v')) (he:∀(k:Nat) (v:β),L (k+1) (l.length:Nat) v=E v) :
  ∀(k n:Nat) (v:β),n<=l.length->l.length<k+n->L k n v=Rg B E (l.drop n) n v
 | 0,n,v,h1,h2=>by omega
 | k+1,n,v,h1,h2=>by
  rcases Nat.lt_or_ge n l.length with hn|hn
  ·obtain⟨y,hy,hd⟩:=Zn4 hn
   rw[hs k n v y hy (by omega),hd,Rg]
   congr 1
   funext v'
   exact Zawy hl hs he k (n+1) v' hn (by omega)
  ·obtain rfl:n=l.length:=by omega
   rw[he,List.drop_length,Rg]
theorem Zawz {m:Nat}{L:Nat->Int->β->Option γ}{B:Int->β->(β->Option γ)->Option γ}{E:β->Option γ}(hl:m<9223372036854775807)
  (hs:∀(k n:Nat) (v:β),n<m->L (k+1) n v=B n v (λv'=>L k ((n+1:Nat):Int) v')) (he:∀(k:Nat) (v:β),L (k+1) (m:Nat) v=E v) :
  ∀(k n:Nat) (v:β),n<=m->m<k+n->L k n v=Rn B E (m-n) n v
 | 0,n,v,h1,h2=>by omega
 | k+1,n,v,h1,h2=>by
  rcases Nat.lt_or_ge n m with hn|hn
  ·rw[hs k n v hn,show m-n=(m-(n+1))+1 from by omega,Rn]
   congr 1
   funext v'
   exact Zawz hl hs he k (n+1) v' hn (by omega)
  ·obtain rfl:n=m:=by omega
   rw[he,Nat.sub_self,Rn]
theorem Zxf {l:List α}{f:α->List AV}{L:Nat->Int->β->Option γ}{B:α->Int->β->(β->Option γ)->Option γ}{E:β->Option γ}(hl:l.length<9223372036854775807)
  (hs:∀(k n:Nat) (v:β) (y:α),l[n]?=some y->n<l.length->IntKind.i64.wrap ((n:Int)+1)=((n+1:Nat):Int)->L (k+1) n v=B y n v (λv'=>L k ((n+1:Nat):Int) v')) (he:∀(k:Nat) (v:β),L (k+1) (l.length:Nat) v=E v) (v:β) :
  L (((l.map f).length:Int).toNat+1) 0 v=Rg B E l 0 v:=by
 have h:=Zawy (L:=L) (B:=B) (E:=E) hl (λk n v y hy hn=>hs k n v y hy (Zah8 hy) (w64s hn)) he (l.length+1) 0 v (Nat.zero_le _) (by omega)
 rw[lM_,Int.toNat_natCast]
 exact h
theorem Zdy {l:List α}{f:α->List AV}{L:Nat->Int->β->Option γ}{B:α->Int->β->(β->Option γ)->Option γ}{E:β->Option γ}(hl:l.length<9223372036854775807)
  (hs:∀(k:Nat) (i:Int) (v:β),L (k+1) i v=sel (decide (i<((l.map f).length:Int))) (ix l i λy=>B y i v λv'=>L k (IntKind.i64.wrap (i+1)) v') (E v)) (v:β) :
  L (((l.map f).length:Int).toNat+1) 0 v=Rg B E l 0 v :=
 Zxf hl (λk n v y hy hn h2=>by rw[hs,lM_,Zca hn,Zby,Zfv hy,h2]) (λk v=>by rw[hs,lM_,Zfh,Zbb]) v
theorem rn_e {m:Nat}{z:Int}{L:Nat->Int->β->Option γ}{B:Int->β->(β->Option γ)->Option γ}{E:β->Option γ}(hm:z=(m:Int))(hl:m<9223372036854775807)
  (hs:∀(k:Nat) (i:Int) (v:β),L (k+1) i v=sel (decide (i<z)) (B i v λv'=>L k (IntKind.i64.wrap (i+1)) v') (E v)) (v:β) :
  L (z.toNat+1) 0 v=Rn B E m 0 v:=by
 subst hm
 have h:=Zawz (L:=L) (B:=B) (E:=E) hl (λk n v hn=>by rw[hs,Zca hn,Zby,w64s (Nat.lt_trans hn hl)]) (λk v=>by rw[hs,Zfh,Zbb]) (m+1) 0 v (Nat.zero_le _) (by omega)
 rw[Int.toNat_natCast]
 exact h
end
def Ziv (_:GOp)(_y65:Zaq)(_:Int):((List (List Zaa)))->(((List (List Zaa)))->Option (List (List Zaa)))->Option (List (List Zaa)):=λv63 rc=>ixv _y65 (λy65=>grd ((v63.length+1)*24<=140737488355328) (rc ((v63++[y65.When]))))
def Ziw (_:GOp):((List (List Zaa)))->Option (List (List Zaa)):=λv63=>some v63
theorem Zqw (y57:GOp)(v63:List (List Zaa))(hl:y57.Effs.length<9223372036854775807):Zci y57 (((y57.Effs.map Zag).length:Int).toNat+1) 0 v63=Rg (Ziv y57) (Ziw y57) y57.Effs 0 v63:=Zdy (L:=λk i v63=>Zci y57 k i v63) hl (λ_ _ _=>rfl) v63
def Zer (_:Zah)(_y57:GOp)(_:Int):((List (List Zaa)))->(((List (List Zaa)))->Option (List (List Zaa)))->Option (List (List Zaa)):=λv44 rc=>ob1 (ixv _y57 (λy57=>grd ((v44.length+1)*24<=140737488355328) (Zci y57 ((((y57.Effs.map Zag).length:Int)).toNat+1) 0 (v44++[y57.Pre]))):Option (List (List Zaa))) (λv55=>rc (v55))
def Zgp (_:Zah):((List (List Zaa)))->Option (List (List Zaa)):=λv44=>grd (v44.length<=140737488355328) (some v44)
theorem Zqx (a0:Zah)(v44:List (List Zaa))(hl:a0.Ops.length<9223372036854775807):Zbp a0 (((a0.Ops.map Za0).length:Int).toNat+1) 0 v44=Rg (Zer a0) (Zgp a0) a0.Ops 0 v44:=Zxf (L:=λk i v44=>Zbp a0 k i v44) hl (λk n p y hy h1 h2=>by first|(simp only[Zbp,Zer,lM_,Zca h1,sel,Zfv hy,ixv,h2];done)|(simp only[lM_]at h1 hy;(simp only[Zbp,Zer,lM_,Zca h1,sel,Zfv hy,ixv,h2];done))) (λk p=>by simp only[Zbp,Zgp,lM_,Zfh,sel]) v44
def Zib (_:List (List Zaa))(a1:(List Zaa)->Option Bool)(_y8:List Zaa)(v6:Int):Unit->(Unit->Option (Int))->Option (Int):=λ_ rc=>ixv _y8 (λy8=>ob1 (a1 y8) (λz9=>sel z9 (some v6) (rc ())))
def Zlb (_:List (List Zaa))(_:(List Zaa)->Option Bool):Unit->Option (Int):=λ_=>some (-1)
theorem Zps (a0:List (List Zaa))(a1:(List Zaa)->Option Bool)  (hl:a0.length<9223372036854775807):Zcr a0 a1 (((a0.map Zal).length:Int).toNat+1) 0=Rg (Zib a0 a1) (Zlb a0 a1) a0 0 ():=Zdy (L:=λk i _=>Zcr a0 a1 k i) hl (λ_ _ _=>rfl) ()
def Zl7 (_:Zah)(_y8:GOp)(_:Int):Unit->(Unit->Option (Bool))->Option (Bool):=λ_ rc=>ixv _y8 (λy8=>sel (decide (((y8.Effs.map Zag).length:Int)>64)) (some true) (rc ()))
def Zp2 (a0:Zah):Unit->Option (Bool):=λ_=>ob1 (Zey a0) (λz9=>ob1 (Zb3 z9 Zij) (λz10=>some z10))
theorem Zvj (a0:Zah)  (hl:a0.Ops.length<9223372036854775807):Zff a0 (((a0.Ops.map Za0).length:Int).toNat+1) 0=Rg (Zl7 a0) (Zp2 a0) a0.Ops 0 ():=Zdy (L:=λk i _=>Zff a0 k i) hl (λ_ _ _=>rfl) ()
def Zld (a0:List Int)(_:List Int)(_y8:Int)(v6:Int):Unit->(Unit->Option (Bool))->Option (Bool):=λ_ rc=>ixv _y8 (λy8=>sel (decide (y8<0)) (some false) (ix a0 v6 (λy9=>sel (decide (y8>=y9)) (some false) (rc ()))))
def Zog (_:List Int)(_:List Int):Unit->Option (Bool):=λ_=>some true
theorem Zub (a0:List Int)(a1:List Int)  (hl:a1.length<9223372036854775807):Zek a0 a1 (((a1.map cI).length:Int).toNat+1) 0=Rg (Zld a0 a1) (Zog a0 a1) a1 0 ():=Zdy (L:=λk i _=>Zek a0 a1 k i) hl (λ_ _ _=>rfl) ()
def Zl6 (a0:List Int)(_:List Zaa)(_y10:Zaa)(_:Int):((Int))->(((Int))->Option (Bool))->Option (Bool):=λv7 rc=>ixv _y10 (λy10=>sel (decide (y10.1<=v7)) (some false) (sel (decide (y10.1>=((a0.map cI).length:Int))) (some false) (sel (decide (y10.2<0)) (some false) (ix a0 y10.1 (λy11=>sel (decide (y10.2>=y11)) (some false) (rc (y10.1)))))))
def Zpz (_:List Int)(_:List Zaa):((Int))->Option (Bool):=λ_=>some true
theorem Zvh (a0:List Int)(a1:List Zaa)(v7:Int)(hl:a1.length<9223372036854775807):Zfd a0 a1 (((a1.map cF).length:Int).toNat+1) v7 0=Rg (Zl6 a0 a1) (Zpz a0 a1) a1 0 v7:=Zdy (L:=λk i v7=>Zfd a0 a1 k v7 i) hl (λ_ _ _=>rfl) v7
def Zl8 (a0:ByteArray)(v2:Int):Unit->(Unit->Option (Bool))->Option (Bool):=λ_ rc=>sel (decide ((byt a0 v2)<32)) (grd (0<=v2) (grd (v2<(a0.size:Int)) (some false))) (grd (0<=v2) (grd (v2<(a0.size:Int)) (sel (decide ((byt a0 v2)>126)) (some false) (rc ()))))
def Zl9 (a0:ByteArray):Unit->Option (Bool):=λ_=>some (decide ((a0.size:Int)<=256))
theorem Zvk (a0:ByteArray)  {m:Nat}(hm:(a0.size:Int)=(m:Int))(hl:m<9223372036854775807):Zfg a0 (((a0.size:Int)).toNat+1) 0=Rn (Zl8 a0) (Zl9 a0) m 0 ():=rn_e (L:=λk i _=>Zfg a0 k i) hm hl (λ_ _ _=>rfl) ()
def Zpt (_:Zah)(_y15:Int)(_:Int):Unit->(Unit->Option (Unit⊕Er))->Option (Unit⊕Er):=λ_ rc=>ixv _y15 (λy15=>sel (decide (y15<1)) (some (.inr (Er.no 1))) (sel (decide (y15>64)) (some (.inr (Er.no 1))) (rc ())))
def Zwq (_:Zah):Unit->Option (Unit⊕Er):=λ_=>some (.inl ())
theorem Zvb (a0:Zah)  (hl:a0.Vars.length<9223372036854775807):Zeb a0 (((a0.Vars.map cI).length:Int).toNat+1) 0=Rg (Zpt a0) (Zwq a0) a0.Vars 0 ():=Zdy (L:=λk i _=>Zeb a0 k i) hl (λ_ _ _=>rfl) ()
def Zpu (_:Zah)(_y29:GOp)(_:Int):Unit->(Unit->Option (Unit⊕Er))->Option (Unit⊕Er):=λ_ rc=>ixv _y29 (λy29=>sel (decide (y29.Cost<0)) (some (.inr (Er.no 1))) (sel (decide (y29.Cost>1048576)) (some (.inr (Er.no 1))) (rc ())))
def Zwr (_:Zah):Unit->Option (Unit⊕Er):=λ_=>some (.inl ())
theorem Zvc (a0:Zah)  (hl:a0.Ops.length<9223372036854775807):Zec a0 (((a0.Ops.map Za0).length:Int).toNat+1) 0=Rg (Zpu a0) (Zwr a0) a0.Ops 0 ():=Zdy (L:=λk i _=>Zec a0 k i) hl (λ_ _ _=>rfl) ()
def Zpv (a0:Zah)(_:List (List Zaa))(_y51:List Zaa)(_:Int):Unit->(Unit->Option (Unit⊕Er))->Option (Unit⊕Er):=λ_ rc=>ixv _y51 (λy51=>ob1 (Zdx a0.Vars y51) (λz52=>sel (!z52) (some (.inr (Er.no 2))) (rc ())))
def Zws (_:Zah)(_:List (List Zaa)):Unit->Option (Unit⊕Er):=λ_=>some (.inl ())
theorem Zvd (a0:Zah)(z43:List (List Zaa))  (hl:z43.length<9223372036854775807):Zed a0 z43 (((z43.map Zal).length:Int).toNat+1) 0=Rg (Zpv a0 z43) (Zws a0 z43) z43 0 ():=Zdy (L:=λk i _=>Zed a0 z43 k i) hl (λ_ _ _=>rfl) ()
def Zpw (a0:Zah)(_:GOp)(_y191:Zaq)(_:Int):Unit->(Unit->Option (Unit⊕Er))->Option (Unit⊕Er):=λ_ rc=>ixv _y191 (λy191=>ob1 (Zdx a0.Vars [(y191.Var,y191.Val)]) (λz192=>sel (!z192) (some (.inr (Er.no 2))) (rc ())))
def Zwt (_:Zah)(_:GOp):Unit->Option (Unit⊕Er):=λ_=>some (.inl ())
theorem Zve (a0:Zah)(y183:GOp)  (hl:y183.Effs.length<9223372036854775807):Zdl a0 y183 (((y183.Effs.map Zag).length:Int).toNat+1) 0=Rg (Zpw a0 y183) (Zwt a0 y183) y183.Effs 0 ():=Zdy (L:=λk i _=>Zdl a0 y183 k i) hl (λ_ _ _=>rfl) ()
def Zjv (a0:Zah)(_y183:GOp)(_:Int):Unit->(Unit->Option (Unit⊕Er))->Option (Unit⊕Er):=λ_ rc=>ob1 (ixv _y183 (λy183=>Zdl a0 y183 ((((y183.Effs.map Zag).length:Int)).toNat+1) 0):Option (Unit⊕Er)) (Zj9 (λ_=>rc ()) (λr181=>some (.inr r181)))
def Zpx (_:Zah):Unit->Option (Unit⊕Er):=λ_=>some (.inl ())
theorem Zvf (a0:Zah)  (hl:a0.Ops.length<9223372036854775807):Zct a0 (((a0.Ops.map Za0).length:Int).toNat+1) 0=Rg (Zjv a0) (Zpx a0) a0.Ops 0 ():=Zxf (L:=λk i _=>Zct a0 k i) hl (λk n p y hy h1 h2=>by first|(simp only[Zct,Zjv,lM_,Zca h1,sel,Zfv hy,ixv,h2];done)|(simp only[lM_]at h1 hy;(simp only[Zct,Zjv,lM_,Zca h1,sel,Zfv hy,ixv,h2];done))) (λk p=>by simp only[Zct,Zpx,lM_,Zfh,sel]) ()
def Zpy (_:Zah)(_y200:GOp)(_:Int):Unit->(Unit->Option (Er))->Option (Er):=λ_ rc=>ixv _y200 (λy200=>ob1 (Zku y200.Name) (λz201=>sel (!z201) (some (Er.no 8)) (rc ())))
def Zwu (_:Zah):Unit->Option (Er):=λ_=>some Er.nil
theorem Zvg (a0:Zah)  (hl:a0.Ops.length<9223372036854775807):Zee a0 (((a0.Ops.map Za0).length:Int).toNat+1) 0=Rg (Zpy a0) (Zwu a0) a0.Ops 0 ():=Zdy (L:=λk i _=>Zee a0 k i) hl (λ_ _ _=>rfl) ()
def Znw (y102:Zaa)(_:Int)(v106:Int):((List (List Zaa)))->(((List (List Zaa)))->Option (List (List Zaa)))->Option (List (List Zaa)):=λv107 rc=>sel (v106 != y102.2) (grd ((v107.length+1)*24<=140737488355328) (rc ((v107++[[(y102.1,v106)]])))) (rc (v107))
def Znx (_:Zaa)(_:Int):((List (List Zaa)))->Option (List (List Zaa)):=λv107=>some v107
theorem Zyi (y102:Zaa)(y103:Int)(v107:List (List Zaa)){m:Nat}(hm:y103=(m:Int))(hl:m<9223372036854775807):Ze2 y102 y103 ((y103).toNat+1) 0 v107=Rn (Znw y102 y103) (Znx y102 y103) m 0 v107:=rn_e (L:=λk i v107=>Ze2 y102 y103 k i v107) hm hl (λ_ _ _=>rfl) v107
def Zi8 (a0:List Int)(_:Zaq)(_y102:Zaa)(_:Int):((List (List Zaa)))->(((List (List Zaa)))->Option (List (List Zaa)))->Option (List (List Zaa)):=λv91 rc=>ob1 (ixv _y102 (λy102=>ix a0 y102.1 (λy103=>Ze2 y102 y103 ((y103).toNat+1) 0 v91)):Option (List (List Zaa))) (λv100=>rc (v100))
def Zk7 (_:List Int)(_:Zaq):((List (List Zaa)))->Option (List (List Zaa)):=λv91=>some v91
theorem Zyj (a0:List Int)(a1:Zaq)(v91:List (List Zaa))(hl:a1.When.length<9223372036854775807):Zd8 a0 a1 (((a1.When.map cF).length:Int).toNat+1) 0 v91=Rg (Zi8 a0 a1) (Zk7 a0 a1) a1.When 0 v91:=Zxf (L:=λk i v91=>Zd8 a0 a1 k i v91) hl (λk n p y hy h1 h2=>by first|(simp only[Zd8,Zi8,lM_,Zca h1,sel,Zfv hy,ixv,h2];done)|(simp only[lM_]at h1 hy;(simp only[Zd8,Zi8,lM_,Zca h1,sel,Zfv hy,ixv,h2];done))) (λk p=>by simp only[Zd8,Zk7,lM_,Zfh,sel]) v91
def Zme (a0:List Zaa)(_y7:Zaa)(v5:Int):Unit->(Unit->Option (Bool))->Option (Bool):=λ_ rc=>ixv _y7 (λy7=>sel (decide (y7.1<0)) (some false) (sel (decide (y7.2<0)) (some false) (sel (decide (v5>0)) (ix a0 (IntKind.i64.wrap (v5-1)) (λy8=>sel (decide (y8.1>=y7.1)) (some false) (rc ()))) (rc ()))))
def Zo8 (_:List Zaa):Unit->Option (Bool):=λ_=>some true
theorem Zzl (a0:List Zaa)  (hl:a0.length<9223372036854775807):Zg5 a0 (((a0.map cF).length:Int).toNat+1) 0=Rg (Zme a0) (Zo8 a0) a0 0 ():=Zdy (L:=λk i _=>Zg5 a0 k i) hl (λ_ _ _=>rfl) ()
def Zu6 (_:List Zaa)(_y15:Zaa)(_:Int):Unit->(Unit->Option (Unit⊕((List Zaa)×Er)))->Option (Unit⊕((List Zaa)×Er)):=λ_ rc=>ixv _y15 (λy15=>sel (decide (y15.1<0)) (some (.inr ([],(Er.no 1)))) (sel (decide (y15.2<0)) (some (.inr ([],(Er.no 1)))) (rc ())))
def Zu7 (_:List Zaa):Unit->Option (Unit⊕((List Zaa)×Er)):=λ_=>some (.inl ())
theorem Zabf (a0:List Zaa)  (hl:a0.length<9223372036854775807):Zi9 a0 (((a0.map cF).length:Int).toNat+1) 0=Rg (Zu6 a0) (Zu7 a0) a0 0 ():=Zdy (L:=λk i _=>Zi9 a0 k i) hl (λ_ _ _=>rfl) ()
def Zhf (_:List Zaa)(a1:List Zaa)(a2:Zaa->Zaa->Option Int)(_y24:Zaa)(v22:Int):Unit->(Unit->Option (Unit⊕Int))->Option (Unit⊕Int):=λ_ rc=>ixv _y24 (λy24=>sel (decide (v22>=((a1.map cF).length:Int))) (some (.inr 1)) (ix a1 v22 (λy25=>ob1 (a2 y24 y25) (λz26=>sel (z26 != 0) (some (.inr z26)) (rc ())))))
def Zhg (_:List Zaa)(_:List Zaa)(_:Zaa->Zaa->Option Int):Unit->Option (Unit⊕Int):=λ_=>some (.inl ())
theorem Zod (a0:List Zaa)(a1:List Zaa)(a2:Zaa->Zaa->Option Int)  (hl:a0.length<9223372036854775807):Zb2 a0 a1 a2 (((a0.map cF).length:Int).toNat+1) 0=Rg (Zhf a0 a1 a2) (Zhg a0 a1 a2) a0 0 ():=Zdy (L:=λk i _=>Zb2 a0 a1 a2 k i) hl (λ_ _ _=>rfl) ()
def Zpl (_:List Int)(_y6:Int)(_:Int):Unit->(Unit->Option (Int))->Option (Int):=λ_ rc=>ixv _y6 (λy6=>sel (y6 != 0) (some y6) (rc ()))
def Zpm (_:List Int):Unit->Option (Int):=λ_=>some 0
theorem Zu1 (a0:List Int)  (hl:a0.length<9223372036854775807):Ze8 a0 (((a0.map cI).length:Int).toNat+1) 0=Rg (Zpl a0) (Zpm a0) a0 0 ():=Zdy (L:=λk i _=>Ze8 a0 k i) hl (λ_ _ _=>rfl) ()
def Zqj (_:List (List Zaa))(g:Nat)(y153:List Zaa)(_y173:List Zaa)(_:Int):((List (List Zaa))×(List (List Zaa)))->(((List (List Zaa))×(List (List Zaa)))->Option (((List (List Zaa))×(List (List Zaa)))⊕((List (List Zaa))×Er)))->Option (((List (List Zaa))×(List (List Zaa)))⊕((List (List Zaa))×Er)):=λ(v170,v171) rc=>ixv _y173 (λy173=>ob2 (Zs2 y153 y173) (λz174 z175=>sel (!z175) (rc (v170,v171)) (grd (v170.length<=140737488355328) (ob2 (Zcu g v170 z174 Zga) (λz176 z177=>sel z177 (rc (v170,v171)) (sel (((v171.length:Nat):Int) == 1024) (some (.inr ([],(Er.no 5)))) (ob1 (Zr8 v170 z176 [z174]) (λz178=>grd ((v171.length+1)*24<=140737488355328) (rc (z178,(v171++[z174])))))))))))
def Zu2 (_:List (List Zaa))(_:Nat)(_:List Zaa):((List (List Zaa))×(List (List Zaa)))->Option (((List (List Zaa))×(List (List Zaa)))⊕((List (List Zaa))×Er)):=λ(v170,v171)=>some (.inl (v170,v171))
theorem Zabd (a1:List (List Zaa))(g:Nat)(y153:List Zaa)(v170:List (List Zaa))(v171:List (List Zaa))(hl:a1.length<9223372036854775807):Zgb a1 g y153 (((a1.map Zal).length:Int).toNat+1) 0 v170 v171=Rg (Zqj a1 g y153) (Zu2 a1 g y153) a1 0 (v170,v171):=Zdy (L:=λk i p=>match p with|(v170,v171)=>Zgb a1 g y153 k i v170 v171) hl (λ_ _ ⟨_,_⟩=>rfl) (v170,v171)
def Zk6 (_:List (List Zaa))(a1:List (List Zaa))(g:Nat)(_y153:List Zaa)(_:Int):((List (List Zaa))×(List (List Zaa)))->(((List (List Zaa))×(List (List Zaa)))->Option ((List (List Zaa))×Er))->Option ((List (List Zaa))×Er):=λ(v119,v120) rc=>ob1 (ixv _y153 (λy153=>Zgb a1 g y153 ((((a1.map Zal).length:Int)).toNat+1) 0 v119 v120):Option (((List (List Zaa))×(List (List Zaa)))⊕((List (List Zaa))×Er))) (Zj9 (λ(v148,v149)=>rc (v148,v149)) (λ(r150,r151)=>some (r150,r151)))
def Znd (_:List (List Zaa))(_:List (List Zaa))(_:Nat):((List (List Zaa))×(List (List Zaa)))->Option ((List (List Zaa))×Er):=λ(_,v120)=>grd (v120.length<=140737488355328) (some (v120,Er.nil))
theorem Zabe (a0:List (List Zaa))(a1:List (List Zaa))(g:Nat)(v119:List (List Zaa))(v120:List (List Zaa))(hl:a0.length<9223372036854775807):Zgc a0 a1 g (((a0.map Zal).length:Int).toNat+1) 0 v119 v120=Rg (Zk6 a0 a1 g) (Znd a0 a1 g) a0 0 (v119,v120):=Zxf (L:=λk i p=>match p with|(v119,v120)=>Zgc a0 a1 g k i v119 v120) hl (λk n p y hy h1 h2=>by first|(simp only[Zgc,Zk6,lM_,Zca h1,sel,Zfv hy,ixv,h2];done)|(simp only[lM_]at h1 hy;(simp only[Zgc,Zk6,lM_,Zca h1,sel,Zfv hy,ixv,h2];done))) (λk p=>by simp only[Zgc,Znd,lM_,Zfh,sel]) (v119,v120)
def Zo3 (_:GOp)(a2:Zaa)(_y18:Zaq)(_:Int):((List Zaq))->(((List Zaq))->Option (List Zaq))->Option (List Zaq):=λv16 rc=>ixv _y18 (λy18=>sel (y18.Var == a2.1) (grd ((v16.length+1)*40<=140737488355328) (rc ((v16++[y18])))) (rc (v16)))
def Zo4 (_:GOp)(_:Zaa):((List Zaq))->Option (List Zaq):=λv16=>some v16
theorem Zzi (a1:GOp)(a2:Zaa)(v16:List Zaq)(hl:a1.Effs.length<9223372036854775807):Zg2 a1 a2 (((a1.Effs.map Zag).length:Int).toNat+1) 0 v16=Rg (Zo3 a1 a2) (Zo4 a1 a2) a1.Effs 0 v16:=Zdy (L:=λk i v16=>Zg2 a1 a2 k i v16) hl (λ_ _ _=>rfl) v16
def Zo5 (a0:List Int)(a2:Zaa)(g:Nat)(v9:List Zaq)(v780:Int)(v913:Int):((List (List Zaa)))->(((List (List Zaa)))->Option ((List (List Zaa))⊕((List (List Zaa))×Er)))->Option ((List (List Zaa))⊕((List (List Zaa))×Er)):=λv912 rc=>ixn v9 ((IntKind.i64.wrap (v780+1)).toNat+(v913).toNat) (λy915=>grd (0<=v913) (grd (v913<((v9.length-(IntKind.i64.wrap (v780+1)).toNat:Nat):Int)) (sel (y915.Val == a2.2) (rc (v912)) (ob2 (Znj a0 y915) (λz916 z917=>erM z917 (ob2 (Znc g v912 z916) (λz919 z920=>erM z920 (rc (z919)) (λe921=>some (.inr ([],(Er.no e921)))))) (λe918=>some (.inr ([],(Er.no e918)))))))))
def Zo6 (_:List Int)(_:Zaa)(_:Nat)(_:List Zaq)(_:Int):((List (List Zaa)))->Option ((List (List Zaa))⊕((List (List Zaa))×Er)):=λv912=>some (.inl v912)
theorem Zzj (a0:List Int)(a2:Zaa)(g:Nat)(v9:List Zaq)(v780:Int)(v912:List (List Zaa)){m:Nat}(hm:((v9.length-(IntKind.i64.wrap (v780+1)).toNat:Nat):Int)=(m:Int))(hl:m<9223372036854775807):Zfz a0 a2 g v9 v780 ((((v9.length-(IntKind.i64.wrap (v780+1)).toNat:Nat):Int)).toNat+1) v912 0=Rn (Zo5 a0 a2 g v9 v780) (Zo6 a0 a2 g v9 v780) m 0 v912:=rn_e (L:=λk i v912=>Zfz a0 a2 g v9 v780 k v912 i) hm hl (λ_ _ _=>rfl) v912
def Zo7 (_:List (List Zaa))(_y931:List Zaa)(_:Int):((List (List Zaa)))->(((List (List Zaa)))->Option ((List (List Zaa))⊕((List (List Zaa))×Er)))->Option ((List (List Zaa))⊕((List (List Zaa))×Er)):=λv929 rc=>ixv _y931 (λy931=>grd (v929.length<=140737488355328) (ob1 (Zb3 v929 (Zkm y931)) (λz932=>sel (!z932) (grd ((v929.length+1)*24<=140737488355328) (rc ((v929++[y931])))) (rc (v929)))))
def Ztx (_:List (List Zaa)):((List (List Zaa)))->Option ((List (List Zaa))⊕((List (List Zaa))×Er)):=λv929=>some (.inl v929)
theorem Zzk (v892:List (List Zaa))(v929:List (List Zaa))(hl:v892.length<9223372036854775807):Zf0 v892 (((v892.map Zal).length:Int).toNat+1) 0 v929=Rg (Zo7 v892) (Ztx v892) v892 0 v929:=Zdy (L:=λk i v929=>Zf0 v892 k i v929) hl (λ_ _ _=>rfl) v929
def Zjr (a0:Zah)(_:List Zaa)(g:Nat)(y7:GOp)(_y47:Zaa)(v44:Int):((List (List (List Zaa))))->(((List (List (List Zaa))))->Option ((List (List (List Zaa)))⊕((List (List Zaa))×Er)))->Option ((List (List (List Zaa)))⊕((List (List Zaa))×Er)):=λv45 rc=>ixv _y47 (λy47=>ob2 (Zpn g a0.Vars y7 y47) (λz48 z49=>erM z49 (ixn v45 ((v44).toNat) (λ_=>grd (v44<((v45.length:Nat):Int)) (rc ((v45.set ((v44).toNat) z48))))) (λe50=>some (.inr ([],(Er.no e50))))))
def Zjs (_:Zah)(_:List Zaa)(_:Nat)(_:GOp):((List (List (List Zaa))))->Option ((List (List (List Zaa)))⊕((List (List Zaa))×Er)):=λv45=>some (.inl v45)
theorem Zu3 (a0:Zah)(a2:List Zaa)(g:Nat)(y7:GOp)(v45:List (List (List Zaa)))(hl:a2.length<9223372036854775807):Zfa a0 a2 g y7 (((a2.map cF).length:Int).toNat+1) 0 v45=Rg (Zjr a0 a2 g y7) (Zjs a0 a2 g y7) a2 0 v45:=Zdy (L:=λk i v45=>Zfa a0 a2 g y7 k i v45) hl (λ_ _ _=>rfl) v45
def Zl2 (g:Nat)(v28:List (List (List Zaa)))(v64:Int):((List (List Zaa)))->(((List (List Zaa)))->Option ((List (List Zaa))×Er))->Option ((List (List Zaa))×Er):=λv63 rc=>ixn v28 ((v64).toNat) (λy66=>grd (0<=v64) (grd (v64<((v28.length:Nat):Int)) (ob2 (Znc g v63 y66) (λz67 z68=>erM z68 (rc (z67)) (λe69=>some ([],(Er.no e69)))))))
def Zl3 (_:Nat)(_:List (List (List Zaa))):((List (List Zaa)))->Option ((List (List Zaa))×Er):=λv63=>some (v63,Er.nil)
theorem Zu4 (g:Nat)(v28:List (List (List Zaa)))(v63:List (List Zaa)){m:Nat}(hm:((v28.length:Nat):Int)=(m:Int))(hl:m<9223372036854775807):Zfb g v28 ((((v28.length:Nat):Int)).toNat+1) v63 0=Rn (Zl2 g v28) (Zl3 g v28) m 0 v63:=rn_e (L:=λk i v63=>Zfb g v28 k v63 i) hm hl (λ_ _ _=>rfl) v63
def Zqk (_:List Zaa)(a1:Int)(_y6:Zaa)(_:Int):Unit->(Unit->Option (Int))->Option (Int):=λ_ rc=>ixv _y6 (λy6=>sel (y6.1 == a1) (some y6.2) (rc ()))
def Zva (_:List Zaa)(_:Int):Unit->Option (Int):=λ_=>some (-1)
theorem Zabg (a0:List Zaa)(a1:Int)  (hl:a0.length<9223372036854775807):Zja a0 a1 (((a0.map cF).length:Int).toNat+1) 0=Rg (Zqk a0 a1) (Zva a0 a1) a0 0 ():=Zdy (L:=λk i _=>Zja a0 a1 k i) hl (λ_ _ _=>rfl) ()
def Zpq (a0:List Zaa)(_:List Zaa)(_y8:Zaa)(_:Int):Unit->(Unit->Option (Bool))->Option (Bool):=λ_ rc=>ixv _y8 (λy8=>ob1 (Zmd a0 y8.1) (λz9=>sel (z9 != y8.2) (some false) (rc ())))
def Zpr (_:List Zaa)(_:List Zaa):Unit->Option (Bool):=λ_=>some true
theorem Zu9 (a0:List Zaa)(a1:List Zaa)  (hl:a1.length<9223372036854775807):Zfc a0 a1 (((a1.map cF).length:Int).toNat+1) 0=Rg (Zpq a0 a1) (Zpr a0 a1) a1 0 ():=Zdy (L:=λk i _=>Zfc a0 a1 k i) hl (λ_ _ _=>rfl) ()
def Zmu (_:List (List Zaa))(v115:Int)(y149:List Zaa)(_y174:List Zaa)(v172:Int):Unit->(Unit->Option (Bool))->Option (Bool):=λ_ rc=>ixv _y174 (λy174=>sel (v115 != v172) (ob1 (Zhp y174) (λz175=>sel z175 (ob1 (Zg4 y149 y174) (λz176=>sel z176 (sel (decide (((y174.map cF).length:Int)<((y149.map cF).length:Int))) (some false) (sel (decide (v172<v115)) (some false) (rc ()))) (rc ()))) (rc ()))) (rc ()))
def Zrf (_:List (List Zaa))(_:Int)(_:List Zaa):Unit->Option (Bool):=λ_=>some true
theorem Zwj (a0:List (List Zaa))(v115:Int)(y149:List Zaa)  (hl:a0.length<9223372036854775807):Zdb a0 v115 y149 (((a0.map Zal).length:Int).toNat+1) 0=Rg (Zmu a0 v115 y149) (Zrf a0 v115 y149) a0 0 ():=Zdy (L:=λk i _=>Zdb a0 v115 y149 k i) hl (λ_ _ _=>rfl) ()
def Zid (a0:List (List Zaa))(_y149:List Zaa)(v115:Int):((List (List Zaa)))->(((List (List Zaa)))->Option (List (List Zaa)))->Option (List (List Zaa)):=λv116 rc=>ob1 (ixv _y149 (λy149=>ob1 (Zhp y149) (λz150=>sel (!z150) (some v116) (ob1 (Zdb a0 v115 y149 ((((a0.map Zal).length:Int)).toNat+1) 0:Option (Bool)) (λv163=>sel v163 (ob1 (Zh8 y149) (λz177=>grd ((v116.length+1)*24<=140737488355328) (grd (z177.length<=140737488355328) (some (v116++[z177]))))) (some v116))))):Option (List (List Zaa))) (λv147=>rc (v147))
def Zkf (_:List (List Zaa)):((List (List Zaa)))->Option (List (List Zaa)):=λv116=>some v116
theorem Zwk (a0:List (List Zaa))(v116:List (List Zaa))(hl:a0.length<9223372036854775807):Zdj a0 (((a0.map Zal).length:Int).toNat+1) 0 v116=Rg (Zid a0) (Zkf a0) a0 0 v116:=Zxf (L:=λk i v116=>Zdj a0 k i v116) hl (λk n p y hy h1 h2=>by first|(simp only[Zdj,Zid,lM_,Zca h1,sel,Zfv hy,ixv,h2];done)|(simp only[lM_]at h1 hy;(simp only[Zdj,Zid,lM_,Zca h1,sel,Zfv hy,ixv,h2];done))) (λk p=>by simp only[Zdj,Zkf,lM_,Zfh,sel]) v116
def Zms (_:List (List Zaa))(v14:Int):((List (List Zaa)))->(((List (List Zaa)))->Option ((List (List Zaa))×Er))->Option ((List (List Zaa))×Er):=λv15 rc=>ixn v15 ((v14).toNat) (λy17=>ob1 (Zh8 y17) (λz18=>ixn v15 ((v14).toNat) (λ_=>grd (0<=v14) (grd (v14<((v15.length:Nat):Int)) (grd (z18.length<=140737488355328) (rc ((v15.set ((v14).toNat) z18))))))))
def Zmt (_:List (List Zaa)):((List (List Zaa)))->Option ((List (List Zaa))×Er):=λv15=>grd (v15.length<=140737488355328) (some (v15,Er.nil))
theorem Zwi (z4:List (List Zaa))(v15:List (List Zaa)){m:Nat}(hm:((z4.length:Nat):Int)=(m:Int))(hl:m<9223372036854775807):Zfy z4 ((((z4.length:Nat):Int)).toNat+1) 0 v15=Rn (Zms z4) (Zmt z4) m 0 v15:=rn_e (L:=λk i v15=>Zfy z4 k i v15) hm hl (λ_ _ _=>rfl) v15
def Zoz (a0:List Int)(a1:List Int)(_y10:Int)(v8:Int):Unit->(Unit->Option (Bool))->Option (Bool):=λ_ rc=>ixv _y10 (λy10=>sel (decide (y10<0)) (some false) (ix a1 v8 (λy11=>ix a0 v8 (λy12=>sel (decide (y11>=y12)) (some false) (rc ())))))
def Ztv (_:List Int)(_:List Int):Unit->Option (Bool):=λ_=>some true
theorem Zzg (a0:List Int)(a1:List Int)  (hl:a1.length<9223372036854775807):Zhz a0 a1 (((a1.map cI).length:Int).toNat+1) 0=Rg (Zoz a0 a1) (Ztv a0 a1) a1 0 ():=Zdy (L:=λk i _=>Zhz a0 a1 k i) hl (λ_ _ _=>rfl) ()
def Zkz (a0:List Int)(a1:List Zaa)(_y9:Zaa)(v7:Int):Unit->(Unit->Option (Bool))->Option (Bool):=λ_ rc=>ixv _y9 (λy9=>sel (decide (y9.1<0)) (some false) (sel (decide (y9.1>=((a0.map cI).length:Int))) (some false) (sel (decide (y9.2<0)) (some false) (ix a0 y9.1 (λy10=>sel (decide (y9.2>=y10)) (some false) (sel (decide (v7>0)) (ix a1 (IntKind.i64.wrap (v7-1)) (λy11=>sel (decide (y11.1>=y9.1)) (some false) (rc ()))) (rc ())))))))
def Znq (_:List Int)(_:List Zaa):Unit->Option (Bool):=λ_=>some true
theorem Zyc (a0:List Int)(a1:List Zaa)  (hl:a1.length<9223372036854775807):Zfs a0 a1 (((a1.map cF).length:Int).toNat+1) 0=Rg (Zkz a0 a1) (Znq a0 a1) a1 0 ():=Zdy (L:=λk i _=>Zfs a0 a1 k i) hl (λ_ _ _=>rfl) ()
def Zlz (a1:GOp)(v11:Int):Unit->(Unit->Option (Unit⊕Bool))->Option (Unit⊕Bool):=λ_ rc=>sel (decide ((byt a1.Name v11)<32)) (grd (0<=v11) (grd (v11<(a1.Name.size:Int)) (some (.inr false)))) (grd (0<=v11) (grd (v11<(a1.Name.size:Int)) (sel (decide ((byt a1.Name v11)>126)) (some (.inr false)) (rc ()))))
def Zpj (_:GOp):Unit->Option (Unit⊕Bool):=λ_=>some (.inl ())
theorem Zuy (a1:GOp)  {m:Nat}(hm:(a1.Name.size:Int)=(m:Int))(hl:m<9223372036854775807):Zd4 a1 (((a1.Name.size:Int)).toNat+1) 0=Rn (Zlz a1) (Zpj a1) m 0 ():=rn_e (L:=λk i _=>Zd4 a1 k i) hm hl (λ_ _ _=>rfl) ()
def Zpk (a0:List Int)(_:GOp)(_y22:Zaq)(_:Int):Unit->(Unit->Option (Bool))->Option (Bool):=λ_ rc=>ixv _y22 (λy22=>ob1 (Zig a0 y22.When) (λz23=>sel (!z23) (some false) (ob1 (Zig a0 [(y22.Var,y22.Val)]) (λz24=>sel (!z24) (some false) (rc ())))))
def Zwe (_:List Int)(_:GOp):Unit->Option (Bool):=λ_=>some true
theorem Zuz (a0:List Int)(a1:GOp)  (hl:a1.Effs.length<9223372036854775807):Zd5 a0 a1 (((a1.Effs.map Zag).length:Int).toNat+1) 0=Rg (Zpk a0 a1) (Zwe a0 a1) a1.Effs 0 ():=Zdy (L:=λk i _=>Zd5 a0 a1 k i) hl (λ_ _ _=>rfl) ()
def Zus (_:Zah)(_y16:Int)(_:Int):Unit->(Unit->Option (Unit⊕Bool))->Option (Unit⊕Bool):=λ_ rc=>ixv _y16 (λy16=>sel (decide (y16<1)) (some (.inr false)) (sel (decide (y16>64)) (some (.inr false)) (rc ())))
def Zacy (_:Zah):Unit->Option (Unit⊕Bool):=λ_=>some (.inl ())
theorem Zaa6 (a0:Zah)  (hl:a0.Vars.length<9223372036854775807):Zh6 a0 (((a0.Vars.map cI).length:Int).toNat+1) 0=Rg (Zus a0) (Zacy a0) a0.Vars 0 ():=Zdy (L:=λk i _=>Zh6 a0 k i) hl (λ_ _ _=>rfl) ()
def Zut (a0:Zah)(_y30:GOp)(_:Int):Unit->(Unit->Option (Bool))->Option (Bool):=λ_ rc=>ixv _y30 (λy30=>ob1 (Zkr a0.Vars y30) (λz31=>sel (!z31) (some false) (rc ())))
def Zacz (_:Zah):Unit->Option (Bool):=λ_=>some true
theorem Zaa7 (a0:Zah)  (hl:a0.Ops.length<9223372036854775807):Zh7 a0 (((a0.Ops.map Za0).length:Int).toNat+1) 0=Rg (Zut a0) (Zacz a0) a0.Ops 0 ():=Zdy (L:=λk i _=>Zh7 a0 k i) hl (λ_ _ _=>rfl) ()
def Zqe (_:List Int)(a1:Int)(_y8:Int)(_:Int):((Int))->(((Int))->Option (Int))->Option (Int):=λv5 rc=>ixv _y8 (λy8=>sel (decide ((IntKind.i64.wrap (v5*(min (max y8 0) (IntKind.i64.wrap (a1+1)))))>a1)) (some (IntKind.i64.wrap (a1+1))) (rc ((IntKind.i64.wrap (v5*(min (max y8 0) (IntKind.i64.wrap (a1+1))))))))
def Zuu (_:List Int)(_:Int):((Int))->Option (Int):=λv5=>some v5
theorem Zaa8 (a0:List Int)(a1:Int)(v5:Int)(hl:a0.length<9223372036854775807):Zi1 a0 a1 (((a0.map cI).length:Int).toNat+1) v5 0=Rg (Zqe a0 a1) (Zuu a0 a1) a0 0 v5:=Zdy (L:=λk i v5=>Zi1 a0 a1 k v5 i) hl (λ_ _ _=>rfl) v5
def Ztt (_:Zah)(_y16:GOp)(_:Int):Unit->(Unit->Option (Unit⊕Bool))->Option (Unit⊕Bool):=λ_ rc=>ixv _y16 (λy16=>sel (decide (((y16.Effs.map Zag).length:Int)>8)) (some (.inr false)) (rc ()))
def Ztu (_:Zah):Unit->Option (Unit⊕Bool):=λ_=>some (.inl ())
theorem Zzf (a0:Zah)  (hl:a0.Ops.length<9223372036854775807):Zhy a0 (((a0.Ops.map Za0).length:Int).toNat+1) 0=Rg (Ztt a0) (Ztu a0) a0.Ops 0 ():=Zdy (L:=λk i _=>Zhy a0 k i) hl (λ_ _ _=>rfl) ()
def Zuw (_:Zah)(_y15:Int)(_:Int):Unit->(Unit->Option (Unit⊕Bool))->Option (Unit⊕Bool):=λ_ rc=>ixv _y15 (λy15=>sel (decide (y15<2)) (some (.inr false)) (sel (decide (y15>4)) (some (.inr false)) (rc ())))
def Zux (_:Zah):Unit->Option (Unit⊕Bool):=λ_=>some (.inl ())
theorem Zaba (a0:Zah)  (hl:a0.Vars.length<9223372036854775807):Zi4 a0 (((a0.Vars.map cI).length:Int).toNat+1) 0=Rg (Zuw a0) (Zux a0) a0.Vars 0 ():=Zdy (L:=λk i _=>Zi4 a0 k i) hl (λ_ _ _=>rfl) ()
def Zm9 (_:GOp)(_y144:Zaq)(_:Int):((Int))->(((Int))->Option (Int⊕Bool))->Option (Int⊕Bool):=λv141 rc=>ixv _y144 (λy144=>sel (decide (((y144.When.map cF).length:Int)>2)) (some (.inr false)) (sel (decide (((y144.When.map cF).length:Int)>0)) (rc ((IntKind.i64.wrap (v141+1)))) (rc (v141))))
def Zqh (_:GOp):((Int))->Option (Int⊕Bool):=λv141=>some (.inl v141)
theorem Zabb (y125:GOp)(v141:Int)(hl:y125.Effs.length<9223372036854775807):Zhd y125 (((y125.Effs.map Zag).length:Int).toNat+1) v141 0=Rg (Zm9 y125) (Zqh y125) y125.Effs 0 v141:=Zdy (L:=λk i v141=>Zhd y125 k v141 i) hl (λ_ _ _=>rfl) v141
def Zna (_:Zah)(_y125:GOp)(_:Int):Unit->(Unit->Option (Bool))->Option (Bool):=λ_ rc=>ob1 (ixv _y125 (λy125=>ob1 (Zhd y125 ((((y125.Effs.map Zag).length:Int)).toNat+1) 0 0:Option (Int⊕Bool)) (Zj9 (λv134=>sel (decide (v134>3)) (some (.inr false)) (some (.inl ()))) (λr135=>some (.inr r135)))):Option (Unit⊕Bool)) (Zj9 (λ_=>rc ()) (λr123=>some r123))
def Zqi (_:Zah):Unit->Option (Bool):=λ_=>some true
theorem Zabc (a0:Zah)  (hl:a0.Ops.length<9223372036854775807):Zf9 a0 (((a0.Ops.map Za0).length:Int).toNat+1) 0=Rg (Zna a0) (Zqi a0) a0.Ops 0 ():=Zxf (L:=λk i _=>Zf9 a0 k i) hl (λk n p y hy h1 h2=>by first|(simp only[Zf9,Zna,lM_,Zca h1,sel,Zfv hy,ixv,h2];done)|(simp only[lM_]at h1 hy;(simp only[Zf9,Zna,lM_,Zca h1,sel,Zfv hy,ixv,h2];done))) (λk p=>by simp only[Zf9,Zqi,lM_,Zfh,sel]) ()
def Zp0 (_:List Zaa)(a1:List Int)(_y8:Zaa)(_:Int):Unit->(Unit->Option (Bool))->Option (Bool):=λ_ rc=>ixv _y8 (λy8=>sel (decide (y8.1<0)) (some false) (sel (decide (y8.1>=((a1.map cI).length:Int))) (some false) (ix a1 y8.1 (λy9=>sel (y9 != y8.2) (some false) (rc ())))))
def Zp1 (_:List Zaa)(_:List Int):Unit->Option (Bool):=λ_=>some true
theorem Zvi (a0:List Zaa)(a1:List Int)  (hl:a0.length<9223372036854775807):Zfe a0 a1 (((a0.map cF).length:Int).toNat+1) 0=Rg (Zp0 a0 a1) (Zp1 a0 a1) a0 0 ():=Zdy (L:=λk i _=>Zfe a0 a1 k i) hl (λ_ _ _=>rfl) ()
def Znr (_:Int)(y294:List Int)(v297:Int):((List (List Int)))->(((List (List Int)))->Option (List (List Int)))->Option (List (List Int)):=λv298 rc=>grd ((0+y294.length)*8<=140737488355328) (grd ((y294.length+1)*8<=140737488355328) (grd ((v298.length+1)*24<=140737488355328) (grd (y294.length+1<=140737488355328) (rc ((v298++[(y294++[v297])]))))))
def Zns (_:Int)(_:List Int):((List (List Int)))->Option (List (List Int)):=λv298=>some v298
theorem Zyd (y252:Int)(y294:List Int)(v298:List (List Int)){m:Nat}(hm:y252=(m:Int))(hl:m<9223372036854775807):Zft y252 y294 ((y252).toNat+1) 0 v298=Rn (Znr y252 y294) (Zns y252 y294) m 0 v298:=rn_e (L:=λk i v298=>Zft y252 y294 k i v298) hm hl (λ_ _ _=>rfl) v298
def Zi2 (_:List (List Int))(y252:Int)(_y294:List Int)(_:Int):((List (List Int)))->(((List (List Int)))->Option (List (List Int)))->Option (List (List Int)):=λv284 rc=>ob1 (ixv _y294 (λy294=>Zft y252 y294 ((y252).toNat+1) 0 v284):Option (List (List Int))) (λv292=>rc (v292))
def Zk1 (_:List (List Int))(_:Int):((List (List Int)))->Option (List (List Int)):=λv284=>some v284
theorem Zye (v199:List (List Int))(y252:Int)(v284:List (List Int))(hl:v199.length<9223372036854775807):Zds v199 y252 (((v199.map Zb4).length:Int).toNat+1) 0 v284=Rg (Zi2 v199 y252) (Zk1 v199 y252) v199 0 v284:=Zxf (L:=λk i v284=>Zds v199 y252 k i v284) hl (λk n p y hy h1 h2=>by first|(simp only[Zds,Zi2,lM_,Zca h1,sel,Zfv hy,ixv,h2];done)|(simp only[lM_]at h1 hy;(simp only[Zds,Zi2,lM_,Zca h1,sel,Zfv hy,ixv,h2];done))) (λk p=>by simp only[Zds,Zk1,lM_,Zfh,sel]) v284
def Zi3 (_:List Int)(_y252:Int)(_:Int):((List (List Int)))->(((List (List Int)))->Option (List (List Int)))->Option (List (List Int)):=λv199 rc=>ob1 (ixv _y252 (λy252=>Zds v199 y252 ((((v199.map Zb4).length:Int)).toNat+1) 0 []):Option (List (List Int))) (λv250=>grd (v250.length<=140737488355328) (rc (v250)))
def Znt (_:List Int):((List (List Int)))->Option (List (List Int)):=λv199=>some v199
theorem Zyf (a0:List Int)(v199:List (List Int))(hl:a0.length<9223372036854775807):Zd3 a0 (((a0.map cI).length:Int).toNat+1) v199 0=Rg (Zi3 a0) (Znt a0) a0 0 v199:=Zxf (L:=λk i v199=>Zd3 a0 k v199 i) hl (λk n p y hy h1 h2=>by first|(simp only[Zd3,Zi3,lM_,Zca h1,sel,Zfv hy,ixv,h2];done)|(simp only[lM_]at h1 hy;(simp only[Zd3,Zi3,lM_,Zca h1,sel,Zfv hy,ixv,h2];done))) (λk p=>by simp only[Zd3,Znt,lM_,Zfh,sel]) v199
def Ztr (_:List Zaa)(a1:List Int)(_y8:Zaa)(_:Int):Unit->(Unit->Option (Bool))->Option (Bool):=λ_ rc=>ixv _y8 (λy8=>sel (decide (y8.1<0)) (some false) (sel (decide (y8.1>=((a1.map cI).length:Int))) (some false) (ix a1 y8.1 (λy9=>sel (y9 != y8.2) (some false) (rc ())))))
def Zts (_:List Zaa)(_:List Int):Unit->Option (Bool):=λ_=>some true
theorem Zze (a0:List Zaa)(a1:List Int)  (hl:a0.length<9223372036854775807):Zhx a0 a1 (((a0.map cF).length:Int).toNat+1) 0=Rg (Ztr a0 a1) (Zts a0 a1) a0 0 ():=Zdy (L:=λk i _=>Zhx a0 a1 k i) hl (λ_ _ _=>rfl) ()
def Zox (a1:List Int)(_:GOp)(_y20:Zaq)(_:Int):((List Int))->(((List Int))->Option ((List Int)×Bool))->Option ((List Int)×Bool):=λv18 rc=>ixv _y20 (λy20=>ob1 (Zky y20.When a1) (λz21=>sel z21 (ixn v18 ((y20.Var).toNat) (λ_=>grd (0<=y20.Var) (grd (y20.Var<((v18.length:Nat):Int)) (rc ((v18.set ((y20.Var).toNat) y20.Val)))))) (rc (v18))))
def Zoy (_:List Int)(_:GOp):((List Int))->Option ((List Int)×Bool):=λv18=>grd (v18.length<=140737488355328) (some (v18,true))
theorem Zzd (a1:List Int)(y8:GOp)(v18:List Int)(hl:y8.Effs.length<9223372036854775807):Zgx a1 y8 (((y8.Effs.map Zag).length:Int).toNat+1) 0 v18=Rg (Zox a1 y8) (Zoy a1 y8) y8.Effs 0 v18:=Zdy (L:=λk i v18=>Zgx a1 y8 k i v18) hl (λ_ _ _=>rfl) v18
end Go.Proofs.YtpfnmpdcneejbaaGreatDoor.Am
namespace Go.Proofs.YtpfnmpdcneejbaaGreatDoor.Am
open Go.RowKit
section
variable {α β : Type}
theorem Zlh {l:List α}{i:Int}{d:α}{k:α->Option β}(h0:0<=i)(h1:i<l.length):ix l i k=k (l.getD i.toNat d):=by
 obtain⟨n,rfl⟩:∃n:Nat,i=n:=⟨i.toNat,by omega⟩
 have hn:n<l.length:=by omega
 rw[Zfv (gE_ hn),Int.toNat_natCast]
 simp[hn]
end
abbrev Sh {α:Type}(l:List α):Prop:=l.length<=140737488355328
theorem Sh.lt {α:Type}{l:List α}(h:Sh l):l.length<9223372036854775807:=Nat.lt_of_le_of_lt h (by decide)
def Zbi (vars:List Int):Int->List Zaa->Bool
 | _,[]=>true
 | last,y :: r=>decide (last<y.1/\y.1<vars.length/\0<=y.2/\y.2<vars.getD y.1.toNat 0)&&Zbi vars y.1 r
theorem Zab0 (vars:List Int)(l:List Zaa):∀(r:List Zaa)(i last:Int),-1<=last->Rg (Zl6 vars l) (Zpz vars l) r i last=some (Zbi vars last r)
 | [],_,_,_=>rfl
 | y :: r,i,last,hl=>by
  rw[Rg,Zbi]
  simp only[Zl6,ixv,Zar,lM_]
  by_cases h1:y.1<=last
  ·rw[if_pos h1,decide_eq_false (by omega)];rfl
  ·rw[if_neg h1]
   by_cases h2:y.1>=vars.length
   ·rw[if_pos h2,decide_eq_false (by omega)];rfl
   ·rw[if_neg h2]
    by_cases h3:y.2<0
    ·rw[if_pos h3,decide_eq_false (by omega)];rfl
    ·rw[if_neg h3,Zlh (d:=0) (by omega) (by omega)]
     by_cases h4:y.2>=vars.getD y.1.toNat 0
     ·rw[if_pos h4,decide_eq_false (by omega)];rfl
     ·rw[if_neg h4,decide_eq_true (by omega),Zab0 vars l r (i+1) y.1 (by omega)];rfl
theorem Zta (vars:List Int)(l:List Zaa)(hl:Sh l):Zdx vars l=some (Zbi vars (-1) l):=by
 rw[Zdx,Zvh _ _ _ hl.lt]
 exact Zab0 vars l l 0 (-1) (by omega)
theorem Zaaq (vars:List Int)(l:List Zaa)(hs:Sh l):∀(r:List Zaa)(n:Nat)(last:Int),l.drop n=r->n<=l.length->-1<=last->(n=0->last=-1)->(∀m,n=m+1->∃x,l[m]?=some x/\x.1=last)->Rg (Zkz vars l) (Znq vars l) r n ()=some (Zbi vars last r)
 | [],_,_,_,_,_,_,_=>rfl
 | y :: r,n,last,hd,hn,hl,h0,hp=>by
  rw[Rg,Zbi]
  have hlt:n<l.length:=by
   rcases Nat.lt_or_ge n l.length with h|h
   ·exact h
   ·rw[List.drop_eq_nil_of_le h]at hd;cases hd
  have hy:l[n]?=some y:=by
   have:=congrArg (·[0]?) hd
   simpa [List.getElem?_drop] using this
  have hd':l.drop (n+1)=r:=by
   have:=congrArg List.tail hd
   simpa using this
  have hrec:=Zaaq vars l hs r (n+1) y.1 hd' hlt
  have hih:0<=y.1->Rg (Zkz vars l) (Znq vars l) r ((n:Int)+1) ()=some (Zbi vars y.1 r):=λh=>hrec (by omega) (by omega) (λm hm=>⟨y,by rw[show m=n by omega];exact hy,rfl⟩)
  simp only[Zkz,ixv,Zar,lM_]
  by_cases h1:y.1<0
  ·rw[if_pos h1,decide_eq_false (by omega)];rfl
  ·rw[if_neg h1]
   by_cases h2:y.1>=vars.length
   ·rw[if_pos h2,decide_eq_false (by omega)];rfl
   ·rw[if_neg h2]
    by_cases h3:y.2<0
    ·rw[if_pos h3,decide_eq_false (by omega)];rfl
    ·rw[if_neg h3,Zlh (d:=0) (by omega) (by omega)]
     by_cases h4:y.2>=vars.getD y.1.toNat 0
     ·rw[if_pos h4,decide_eq_false (by omega)];rfl
     ·rw[if_neg h4]
      cases n with
      | zero =>
       have:=h0 rfl
       rw[if_neg (by omega),decide_eq_true (by omega)]
       exact hih (by omega)
      | succ m =>
       obtain⟨x,hx,hxl⟩:=hp m rfl
       rw[if_pos (by omega),w64 (by omega) (by have:=hs;unfold Sh at this;omega),show(((m+1:Nat):Int)-1)=(m:Int)by omega,Zfv hx]
       by_cases h5:x.1>=y.1
       ·rw[if_pos h5,decide_eq_false (by omega)];rfl
       ·rw[if_neg h5,decide_eq_true (by omega)]
        exact hih (by omega)
theorem Zvz (vars:List Int)(l:List Zaa)(hl:Sh l):Zig vars l=some (Zbi vars (-1) l):=by
 rw[Zig,Zyc _ _ hl.lt]
 exact Zaaq vars l hl l 0 (-1) rfl (Nat.zero_le _) (by omega) (λ_=>rfl) (λm hm=>by omega)
def Za6 : List Int->List Int->Bool
 | [],[]=>true
 | n :: r,x :: s=>decide (0<=x/\x<n)&&Za6 r s
 | _,_=>false
theorem Zxm : ∀{v s:List Int},v.length≠s.length->Za6 v s=false
 | [],[],h=>absurd rfl h
 | [],_ :: _,_=>rfl
 | _ :: _,[],_=>rfl
 | n :: r,x :: s,h=>by rw[Za6,Zxm (by simpa using h),Bool.and_false]
theorem Zc5 {α:Type}{l r:List α}{n:Nat}{y:α}(h:l.drop n=y :: r):l[n]?=some y/\l.drop (n+1)=r/\n<l.length:=by
 have hlt:n<l.length:=by
  rcases Nat.lt_or_ge n l.length with h'|h'
  ·exact h'
  ·rw[List.drop_eq_nil_of_le h']at h;cases h
 refine⟨?_,?_,hlt⟩
 ·have:=congrArg (·[0]?) h
  simpa [List.getElem?_drop] using this
 ·have:=congrArg List.tail h
  simpa using this
theorem Zya (vars l:List Int):∀(r s:List Int)(n:Nat),l.drop n=r->vars.drop n=s->r.length=s.length->Rg (Zld vars l) (Zog vars l) r n ()=some (Za6 s r)
 | [],[],_,_,_,_=>rfl
 | [],_ :: _,_,_,_,h=>by simp at h
 | _ :: _,[],_,_,_,h=>by simp at h
 | y :: r,v :: s,n,h1,h2,h3=>by
  obtain⟨a1,a2,_⟩:=Zc5 h1
  obtain⟨b1,b2,_⟩:=Zc5 h2
  have ih:=Zya vars l r s (n+1) a2 b2 (by simpa using h3)
  rw[Rg,Za6]
  simp only[Zld,ixv,Zar,Zfv b1]
  by_cases c1:y<0
  ·rw[if_pos c1,decide_eq_false (by omega)];rfl
  ·rw[if_neg c1]
   by_cases c2:y>=v
   ·rw[if_pos c2,decide_eq_false (by omega)];rfl
   ·rw[if_neg c2,decide_eq_true (by omega)]
    exact ih
theorem Zacj (vars l:List Int):∀(r s:List Int)(n:Nat),l.drop n=r->vars.drop n=s->r.length=s.length->Rg (Zoz vars l) (Ztv vars l) r n ()=some (Za6 s r)
 | [],[],_,_,_,_=>rfl
 | [],_ :: _,_,_,_,h=>by simp at h
 | _ :: _,[],_,_,_,h=>by simp at h
 | y :: r,v :: s,n,h1,h2,h3=>by
  obtain⟨a1,a2,_⟩:=Zc5 h1
  obtain⟨b1,b2,_⟩:=Zc5 h2
  have ih:=Zacj vars l r s (n+1) a2 b2 (by simpa using h3)
  rw[Rg,Za6]
  simp only[Zoz,ixv,Zar,Zfv b1,Zfv a1]
  by_cases c1:y<0
  ·rw[if_pos c1,decide_eq_false (by omega)];rfl
  ·rw[if_neg c1]
   by_cases c2:y>=v
   ·rw[if_pos c2,decide_eq_false (by omega)];rfl
   ·rw[if_neg c2,decide_eq_true (by omega)]
    exact ih
theorem Zani (a b:Nat):((a:Int) != (b:Int))=decide (a≠b):=by
 by_cases h:a=b
 ·subst h;simp
 ·have:¬ ((a:Int)=(b:Int)):=by omega
  simp[h,this,bne]
theorem Zacl (vars l:List Int)(hl:Sh l):Zjw vars l=some (Za6 vars l):=by
 rw[Zjw,Zub _ _ hl.lt,lM_,lM_,Zani,Zar]
 split
 ·rename_i h;rw[Zxm (λe=>h e.symm)]
 ·rename_i h;exact Zya vars l l vars 0 rfl rfl (by omega)
theorem Zar9 (vars l:List Int)(hl:Sh l):Zr0 vars l=some (Za6 vars l):=by
 rw[Zr0,Zzg _ _ hl.lt,lM_,lM_,Zani,Zar]
 split
 ·rename_i h;rw[Zxm (λe=>h e.symm)]
 ·rename_i h;exact Zacj vars l l vars 0 rfl rfl (by omega)
theorem Zh1 {α γ:Type}{B:α->Int->Unit->(Unit->Option γ)->Option γ}{E:Unit->Option γ}{p:α->Bool}{c:Option γ}:∀{l:List α}{i:Int},(∀y∈l,∀i rc,B y i () rc=if p y=true then rc ()else c)->Rg B E l i ()=if l.all p=true then E ()else c
 | [],_,_=>rfl
 | y :: r,i,h=>by
  rw[Rg,h y (by simp),List.all_cons]
  cases hp:p y
  ·simp
  ·simp only[Bool.true_and,if_true]
   exact Zh1 (λz hz=>h z (by simp[hz]))
theorem Zao8 {γ:Type}{B:Int->Unit->(Unit->Option γ)->Option γ}{E:Unit->Option γ}{p:Nat->Bool}{c:Option γ}:∀{m n:Nat},(∀k,n<=k->k<n+m->∀rc,B k () rc=if p k=true then rc ()else c)->Rn B E m n ()=if(List.range' n m).all p=true then E ()else c
 | 0,_,_=>rfl
 | m+1,n,h=>by
  rw[Rn,h n (Nat.le_refl _) (by omega),List.range'_succ,List.all_cons]
  cases hp:p n
  ·simp
  ·simp only[Bool.true_and,if_true]
   have:=Zao8 (m:=m) (n:=n+1) (E:=E) (λk h1 h2=>h k (by omega) (by omega))
   exact this
def Zvn (c:UInt8):Bool:=decide (32<=c.toNat/\c.toNat<=126)
theorem Zasn (s:ByteArray)(k:Nat)(h:k<s.size):∃c,(bl s)[k]?=some c/\byt s (k:Int)=(c.toNat:Int):=by
 have h':k<(bl s).length:=by rw[Zaji];exact h
 exact⟨(bl s)[k],gE_ h',Zav0 s k h⟩
theorem Zaar (s:ByteArray)(p:UInt8->Bool):(List.range' 0 s.size).all (λk=>match(bl s)[k]? with|some c=>p c|none=>false)=(bl s).all p:=by
 rw[Bool.eq_iff_iff,List.all_eq_true,List.all_eq_true]
 constructor
 ·intro h c hc
  obtain⟨k,hk⟩:=List.getElem?_of_mem hc
  have hlt:k<s.size:=by rw[<-Zaji];exact(gS_.1 hk).1
  have:=h k (by simp;exact hlt)
  rw[hk]at this
  exact this
 ·intro h k hk
  have hlt:k<(bl s).length:=by rw[Zaji];simpa using hk
  rw[gE_ hlt]
  exact h _ (List.getElem_mem hlt)
theorem Zarm (s:ByteArray)(hs:s.size<=9223372036854775806):Zku s=some ((bl s).all Zvn&&decide (s.size<=256)):=by
 rw[Zku,Zvk _ rfl (by omega)]
 have:=Zao8 (γ:=Bool) (B:=Zl8 s) (E:=Zl9 s) (p:=λk=>match(bl s)[k]? with|some c=>Zvn c|none=>false) (c:=some false) (m:=s.size) (n:=0) (λk _ hk rc=>by
  obtain⟨c,h1,h2⟩:=Zasn s k (by omega)
  have g1:(0:Int)<=(k:Int):=by omega
  have g2:(k:Int)<(s.size:Int):=by omega
  simp only[Zl8,h1,h2,Zar,Zan g1,Zan g2]
  unfold Zvn
  by_cases c1:(c.toNat:Int)<32
  ·rw[if_pos c1,if_neg (by simp;omega)]
  ·rw[if_neg c1]
   by_cases c2:(c.toNat:Int)>126
   ·rw[if_pos c2,if_neg (by simp;omega)]
   ·rw[if_neg c2,if_pos (by simp;omega)])
 rw[show((0:Int))=((0:Nat):Int)from rfl,this,Zaar]
 cases (bl s).all Zvn
 ·rfl
 ·by_cases h:s.size<=256 <;> simp[Zl9,h] <;> omega
def effF (vars:List Int)(e:Zaq):Bool:=Zbi vars (-1) e.When&&Zbi vars (-1) [(e.Var,e.Val)]
def opF (vars:List Int)(o:GOp):Bool:=decide (0<=o.Cost/\o.Cost<=1048576/\o.Effs.length<=64/\o.Name.size<=256)&&(Zbi vars (-1) o.Pre&&((bl o.Name).all Zvn&&o.Effs.all (effF vars)))
def Ze5 (t:Zah):Bool:=decide (t.Vars.length<=64/\t.Ops.length<=4096)&&(t.Vars.all (λn=>decide (1<=n/\n<=64))&&(Za6 t.Vars t.Init&&(Zbi t.Vars (-1) t.Goal&&t.Ops.all (opF t.Vars))))
structure ShO (o:GOp):Prop where
 name:o.Name.size<=9223372036854775806
 pre:Sh o.Pre
 effs:Sh o.Effs
 when:∀e∈o.Effs,Sh e.When
structure ShT (t:Zah):Prop where
 vars:Sh t.Vars
 init:Sh t.Init
 goal:Sh t.Goal
 ops:Sh t.Ops
 op:∀o∈t.Ops,ShO o
theorem Zamv {α:Type}{b1 b2:Bool}{c x:Option α}:sel (!b1) c (sel (!b2) c x)=if(b1&&b2)=true then x else c:=by cases b1 <;> cases b2 <;> rfl
theorem Zaib (vars:List Int)(o:GOp)(ho:ShO o):Zkr vars o=some (opF vars o):=by
 have hn:=ho.name
 have e1:Zd4 o (((o.Name.size:Int)).toNat+1) 0=if(bl o.Name).all Zvn=true then some (.inl ())else some (.inr false):=by
  rw[Zuy _ rfl (by omega)]
  have:=Zao8 (γ:=Unit⊕Bool) (B:=Zlz o) (E:=Zpj o) (p:=λk=>match(bl o.Name)[k]? with|some c=>Zvn c|none=>false) (c:=some (.inr false)) (m:=o.Name.size) (n:=0) (λk _ hk rc=>by
   obtain⟨c,h1,h2⟩:=Zasn o.Name k (by omega)
   have g1:(0:Int)<=(k:Int):=by omega
   have g2:(k:Int)<(o.Name.size:Int):=by omega
   simp only[Zlz,h1,h2,Zar,Zan g1,Zan g2]
   unfold Zvn
   by_cases c1:(c.toNat:Int)<32
   ·rw[if_pos c1,if_neg (by simp;omega)]
   ·rw[if_neg c1]
    by_cases c2:(c.toNat:Int)>126
    ·rw[if_pos c2,if_neg (by simp;omega)]
    ·rw[if_neg c2,if_pos (by simp;omega)])
  rw[show((0:Int))=((0:Nat):Int)from rfl,this,Zaar]
  rfl
 have e2:Zd5 vars o ((((o.Effs.map Zag).length:Int)).toNat+1) 0=some (o.Effs.all (effF vars)):=by
  rw[Zuz _ _ ho.effs.lt,Zh1 (p:=effF vars) (c:=some false) (λe he i rc=>by
   simp only[Zpk,ixv,Zvz vars _ (ho.when e he),Zvz vars [(e.Var,e.Val)] (by simp[Sh]),Zac,effF]
   exact Zamv)]
  cases o.Effs.all (effF vars) <;> rfl
 rw[Zkr,e1,e2,Zvz _ _ ho.pre]
 unfold opF
 simp only[Zar,lM_,Zac]
 by_cases c1:o.Cost<0
 ·rw[if_pos c1,decide_eq_false (by omega)];rfl
 ·rw[if_neg c1]
  by_cases c2:o.Cost>1048576
  ·rw[if_pos c2,decide_eq_false (by omega)];rfl
  ·rw[if_neg c2]
   by_cases c3:(o.Effs.length:Int)>64
   ·rw[if_pos c3,decide_eq_false (by omega)];rfl
   ·rw[if_neg c3]
    by_cases c4:(o.Name.size:Int)>256
    ·rw[if_pos c4,decide_eq_false (by omega)];rfl
    ·rw[if_neg c4,decide_eq_true (by omega)]
     cases Zbi vars (-1) o.Pre
     ·rfl
     ·cases (bl o.Name).all Zvn <;> rfl
theorem Zauc (t:Zah)(ht:ShT t):Zur t=some (Ze5 t):=by
 have e1:Zh6 t ((((t.Vars.map cI).length:Int)).toNat+1) 0=if t.Vars.all (λn=>decide (1<=n/\n<=64))=true then some (.inl ())else some (.inr false):=by
  rw[Zaa6 _ ht.vars.lt,Zh1 (p:=λn=>decide (1<=n/\n<=64)) (c:=some (.inr false)) (λn _ i rc=>by
   simp only[Zus,ixv,Zar]
   by_cases c1:n<1
   ·rw[if_pos c1,if_neg (by simp;omega)]
   ·rw[if_neg c1]
    by_cases c2:n>64
    ·rw[if_pos c2,if_neg (by simp;omega)]
    ·rw[if_neg c2,if_pos (by simp;omega)])]
  rfl
 have e2:Zh7 t ((((t.Ops.map Za0).length:Int)).toNat+1) 0=some (t.Ops.all (opF t.Vars)):=by
  rw[Zaa7 _ ht.ops.lt,Zh1 (p:=opF t.Vars) (c:=some false) (λo ho i rc=>by
   simp only[Zut,ixv,Zaib t.Vars o (ht.op o ho),Zac]
   cases opF t.Vars o <;> rfl)]
  cases t.Ops.all (opF t.Vars) <;> rfl
 rw[Zur,e1,e2,Zar9 _ _ ht.init,Zvz _ _ ht.goal]
 unfold Ze5
 simp only[Zar,lM_,Zac]
 by_cases c1:(t.Vars.length:Int)>64
 ·rw[if_pos c1,decide_eq_false (by omega)];rfl
 ·rw[if_neg c1]
  by_cases c2:(t.Ops.length:Int)>4096
  ·rw[if_pos c2,decide_eq_false (by omega)];rfl
  ·rw[if_neg c2,decide_eq_true (by omega)]
   cases t.Vars.all (λn=>decide (1<=n/\n<=64))
   ·rfl
   ·cases Za6 t.Vars t.Init
    ·rfl
    ·cases Zbi t.Vars (-1) t.Goal <;> rfl
theorem Zawd {l:List (List Zaa)}{f:List Zaa->Option Bool}{p:List Zaa->Bool}(hl:Sh l)(h:∀y∈l,f y=some (p y)):∃z,Zg6 l f=some z/\(0<=z↔l.any p=true):=by
 rw[Zg6,Zps _ _ hl.lt]
 have key:∀(r:List (List Zaa)) (n:Nat),(∀y∈r,f y=some (p y))->∃z,Rg (Zib l f) (Zlb l f) r n ()=some z/\(0<=z↔r.any p=true):=by
  intro r
  induction r with
  | nil=>intro n _;exact⟨-1,rfl,by simp⟩
  | cons y r ih =>
   intro n hr
   rw[Rg]
   simp only[Zib,ixv,hr y (by simp),Zac]
   cases hp:p y
   ·obtain⟨z,h1,h2⟩:=ih (n+1) (λw hw=>hr w (by simp[hw]))
    exact⟨z,h1,by rw[h2,List.any_cons,hp,Bool.false_or]⟩
   ·exact⟨n,rfl,by simp[hp]⟩
 exact key l 0 h
theorem Zn2 {l:List (List Zaa)}{f:List Zaa->Option Bool}{p:List Zaa->Bool}(hl:Sh l)(h:∀y∈l,f y=some (p y)):Zb3 l f=some (l.any p):=by
 obtain⟨z,h1,h2⟩:=Zawd hl h
 rw[Zb3,h1,Zac]
 congr 1
 rw[Bool.eq_iff_iff,decide_eq_true_iff,ge_iff_le,h2]
def Zxw (o:GOp):List (List Zaa):=o.Pre :: o.Effs.map (·.When)
def Zp5 (t:Zah):List (List Zaa):=t.Goal :: t.Ops.flatMap Zxw
theorem Zasp (o:GOp):∀(r:List Zaq)(i:Int)(v:List (List Zaa)),v.length+r.length<=1000000->Rg (Ziv o) (Ziw o) r i v=some (v++r.map (·.When))
 | [],_,v,_=>by simp[Rg,Ziw]
 | e :: r,i,v,h=>by
  simp only[lC_]at h
  rw[Rg]
  simp only[Ziv,ixv,Zan (show(v.length+1)*24<=140737488355328 by omega)]
  rw[Zasp o r (i+1) (v++[e.When]) (by simp;omega)]
  simp
theorem Zasq (t:Zah):∀(r:List GOp)(i:Int)(v:List (List Zaa)),(∀o∈r,o.Effs.length<=64)->v.length+r.length*65<=1000000->Rg (Zer t) (Zgp t) r i v=some (v++r.flatMap Zxw)
 | [],_,v,_,h=>by
  simp only[List.length_nil]at h
  simp[Rg,Zgp,Zan (show v.length<=140737488355328 by omega)]
 | o :: r,i,v,hr,h=>by
  simp only[lC_]at h
  have ho:=hr o (by simp)
  rw[Rg]
  simp only[Zer,ixv,Zan (show(v.length+1)*24<=140737488355328 by omega)]
  rw[Zqw o _ (by omega),Zasp o o.Effs 0 (v++[o.Pre]) (by simp;omega),Zac,Zasq t r (i+1) _ (λq hq=>hr q (by simp[hq])) (by simp;omega)]
  simp[Zxw]
theorem Zajp (t:Zah)(h1:t.Ops.length<=4096)(h2:∀o∈t.Ops,o.Effs.length<=64):Zey t=some (Zp5 t):=by
 rw[Zey,Zqx _ _ (by omega),Zasq t t.Ops 0 [t.Goal] h2 (by simp;omega)]
 rfl
theorem Zaju : ∀(r:List GOp),(∀o∈r,o.Effs.length<=64)->(r.flatMap Zxw).length<=r.length*65
 | [],_=>by simp
 | o :: r,h=>by
  have h1:=Zaju r (λq hq=>h q (by simp[hq]))
  have h2:=h o (by simp)
  have h3:(Zxw o).length=o.Effs.length+1:=by simp[Zxw]
  rw[List.flatMap_cons,lA_,lC_]
  omega
theorem Zae7 (t:Zah)(h1:t.Ops.length<=4096)(h2:∀o∈t.Ops,o.Effs.length<=64):(Zp5 t).length<=300000:=by
 have:=Zaju t.Ops h2
 rw[Zp5,lC_]
 omega
def Zxz (t:Zah):Bool:=decide (t.Vars.length>64)||(decide (t.Ops.length>4096)||(t.Ops.any (λo=>decide (o.Effs.length>64))||(Zp5 t).any (λl=>decide (l.length>64))))
theorem Zard (t:Zah)(ht:ShT t):Zml t=some (Zxz t):=by
 rw[Zml]
 unfold Zxz
 simp only[Zar,lM_]
 by_cases c1:(t.Vars.length:Int)>64
 ·rw[if_pos c1,decide_eq_true (by omega)];rfl
 ·rw[if_neg c1,decide_eq_false (by omega)]
  by_cases c2:(t.Ops.length:Int)>4096
  ·rw[if_pos c2,decide_eq_true (p:=t.Ops.length>4096) (by omega)];rfl
  ·rw[if_neg c2,decide_eq_false (p:=t.Ops.length>4096) (by omega),Zac,Zbv]
   have e:=Zvj t ht.ops.lt
   rw[lM_]at e
   rw[e]
   simp only[Bool.false_or]
   by_cases c3:∃o∈t.Ops,o.Effs.length>64
   ·have:(t.Ops.any (λo=>decide (o.Effs.length>64)))=true:=by
     rw[List.any_eq_true]
     obtain⟨o,h1,h2⟩:=c3
     exact⟨o,h1,by simpa using h2⟩
    rw[this,Bool.true_or,Zh1 (p:=λo=>decide (o.Effs.length<=64)) (c:=some true) (λo _ i rc=>by
     simp only[Zl7,ixv,Zar,lM_]
     by_cases c:(o.Effs.length:Int)>64
     ·rw[if_pos c,if_neg (by simp;omega)]
     ·rw[if_neg c,if_pos (by simp;omega)]),if_neg]
    rw[List.all_eq_true]
    intro h
    obtain⟨o,h1,h2⟩:=c3
    have:=h o h1
    simp at this
    omega
   ·have hall:∀o∈t.Ops,o.Effs.length<=64:=λo ho=>by
     rcases Nat.lt_or_ge 64 o.Effs.length with h|h
     ·exact absurd ⟨o,ho,h⟩ c3
     ·exact h
    have:(t.Ops.any (λo=>decide (o.Effs.length>64)))=false:=by
     rw[List.any_eq_false]
     intro o ho
     have:=hall o ho
     simp;omega
    rw[this,Bool.false_or,Zh1 (p:=λo=>decide (o.Effs.length<=64)) (c:=some true) (λo _ i rc=>by
     simp only[Zl7,ixv,Zar,lM_]
     by_cases c:(o.Effs.length:Int)>64
     ·rw[if_pos c,if_neg (by simp;omega)]
     ·rw[if_neg c,if_pos (by simp;omega)]),if_pos (by rw[List.all_eq_true];intro o ho;have:=hall o ho;simpa using this)]
    have hc:=Zae7 t (by omega) hall
    rw[Zp2,Zajp t (by omega) hall,Zac,Zn2 (p:=λl=>decide (l.length>64)) (by unfold Sh;omega) (λy _=>by
     rw[Zij,lM_]
     congr 1
     rw[Bool.eq_iff_iff,decide_eq_true_iff,decide_eq_true_iff]
     omega)]
    rfl
def Zty (t:Zah):Er :=
 if Zxz t=true then .no 5
 else if t.Vars.all (λn=>decide (1<=n/\n<=64))=true then
  if t.Ops.all (λo=>decide (0<=o.Cost/\o.Cost<=1048576))=true then
   if(Za6 t.Vars t.Init&&((Zp5 t).all (Zbi t.Vars (-1))&&t.Ops.all (λo=>o.Effs.all (λe=>Zbi t.Vars (-1) [(e.Var,e.Val)]))))=true then
    if t.Ops.all (λo=>(bl o.Name).all Zvn&&decide (o.Name.size<=256))=true then .nil else .no 8
   else .no 2
  else .no 1
 else .no 1
theorem Zadx {t:Zah}(h:Zxz t=false):t.Vars.length<=64/\t.Ops.length<=4096/\(∀o∈t.Ops,o.Effs.length<=64)/\∀l∈Zp5 t,l.length<=64:=by
 unfold Zxz at h
 simp only[Bool.or_eq_false_iff,decide_eq_false_iff_not,List.any_eq_false,decide_eq_true_iff]at h
 obtain⟨h1,h2,h3,h4⟩:=h
 exact⟨by omega,by omega,λo ho=>by have:=h3 o ho;omega,λl hl=>by have:=h4 l hl;omega⟩
theorem Zaq1 {t:Zah}(ht:ShT t):∀l∈Zp5 t,Sh l:=by
 intro l hl
 simp only[Zp5,List.mem_cons,List.mem_flatMap,Zxw,List.mem_map]at hl
 rcases hl with rfl|⟨o,ho,rfl|⟨e,he,rfl⟩⟩
 ·exact ht.goal
 ·exact(ht.op o ho).pre
 ·exact(ht.op o ho).when e he
theorem Zvo (t:Zah)(ht:ShT t):Zf4 t=some (Zty t):=by
 have e1:Zeb t ((((t.Vars.map cI).length:Int)).toNat+1) 0=if t.Vars.all (λn=>decide (1<=n/\n<=64))=true then some (.inl ())else some (.inr (Er.no 1)):=by
  rw[Zvb _ ht.vars.lt,Zh1 (p:=λn=>decide (1<=n/\n<=64)) (c:=some (.inr (Er.no 1))) (λn _ i rc=>by
   simp only[Zpt,ixv,Zar]
   by_cases c1:n<1
   ·rw[if_pos c1,if_neg (by simp;omega)]
   ·rw[if_neg c1]
    by_cases c2:n>64
    ·rw[if_pos c2,if_neg (by simp;omega)]
    ·rw[if_neg c2,if_pos (by simp;omega)])]
  rfl
 have e2:Zec t ((((t.Ops.map Za0).length:Int)).toNat+1) 0=if t.Ops.all (λo=>decide (0<=o.Cost/\o.Cost<=1048576))=true then some (.inl ())else some (.inr (Er.no 1)):=by
  rw[Zvc _ ht.ops.lt,Zh1 (p:=λo=>decide (0<=o.Cost/\o.Cost<=1048576)) (c:=some (.inr (Er.no 1))) (λo _ i rc=>by
   simp only[Zpu,ixv,Zar]
   by_cases c1:o.Cost<0
   ·rw[if_pos c1,if_neg (by simp;omega)]
   ·rw[if_neg c1]
    by_cases c2:o.Cost>1048576
    ·rw[if_pos c2,if_neg (by simp;omega)]
    ·rw[if_neg c2,if_pos (by simp;omega)])]
  rfl
 have e3:∀z:List (List Zaa),Sh z->(∀l∈z,Sh l)->Zed t z ((((z.map Zal).length:Int)).toNat+1) 0=if z.all (Zbi t.Vars (-1))=true then some (.inl ())else some (.inr (Er.no 2)):=λz hz hz2=>by
  rw[Zvd _ _ hz.lt,Zh1 (p:=Zbi t.Vars (-1)) (c:=some (.inr (Er.no 2))) (λl hl i rc=>by
   simp only[Zpv,ixv,Zta t.Vars l (hz2 l hl),Zac]
   cases Zbi t.Vars (-1) l <;> rfl)]
  rfl
 have e4:∀o∈t.Ops,Zdl t o ((((o.Effs.map Zag).length:Int)).toNat+1) 0=if o.Effs.all (λe=>Zbi t.Vars (-1) [(e.Var,e.Val)])=true then some (.inl ())else some (.inr (Er.no 2)):=λo ho=>by
  rw[Zve _ _ (ht.op o ho).effs.lt,Zh1 (p:=λe=>Zbi t.Vars (-1) [(e.Var,e.Val)]) (c:=some (.inr (Er.no 2))) (λe _ i rc=>by
   simp only[Zpw,ixv,Zta t.Vars [(e.Var,e.Val)] (by simp[Sh]),Zac]
   cases Zbi t.Vars (-1) [(e.Var,e.Val)] <;> rfl)]
  rfl
 have e5:Zct t ((((t.Ops.map Za0).length:Int)).toNat+1) 0=if t.Ops.all (λo=>o.Effs.all (λe=>Zbi t.Vars (-1) [(e.Var,e.Val)]))=true then some (.inl ())else some (.inr (Er.no 2)):=by
  rw[Zvf _ ht.ops.lt,Zh1 (p:=λo=>o.Effs.all (λe=>Zbi t.Vars (-1) [(e.Var,e.Val)])) (c:=some (.inr (Er.no 2))) (λo ho i rc=>by
   simp only[Zjv,ixv,e4 o ho]
   split <;> rfl)]
  rfl
 have e6:Zee t ((((t.Ops.map Za0).length:Int)).toNat+1) 0=if t.Ops.all (λo=>(bl o.Name).all Zvn&&decide (o.Name.size<=256))=true then some .nil else some (Er.no 8):=by
  rw[Zvg _ ht.ops.lt,Zh1 (p:=λo=>(bl o.Name).all Zvn&&decide (o.Name.size<=256)) (c:=some (Er.no 8)) (λo ho i rc=>by
   have:=(ht.op o ho).name
   simp only[Zpy,ixv,Zarm o.Name (by omega),Zac]
   cases (bl o.Name).all Zvn&&decide (o.Name.size<=256) <;> rfl)]
  rfl
 rw[Zf4,Zard t ht,Zac,e1,e2,e5,e6,Zacl _ _ ht.init]
 unfold Zty
 cases hlg:Zxz t
 ·obtain⟨l1,l2,l3,l4⟩:=Zadx hlg
  have hc:=Zae7 t l2 l3
  simp only[Zajp t l2 l3,Zac,e3 (Zp5 t) (by unfold Sh;omega) (Zaq1 ht),sel,Bool.false_eq_true,if_false]
  cases t.Vars.all (λn=>decide (1<=n/\n<=64))
  ·rfl
  ·cases t.Ops.all (λo=>decide (0<=o.Cost/\o.Cost<=1048576))
   ·rfl
   ·cases Za6 t.Vars t.Init
    ·rfl
    ·cases (Zp5 t).all (Zbi t.Vars (-1))
     ·rfl
     ·cases t.Ops.all (λo=>o.Effs.all (λe=>Zbi t.Vars (-1) [(e.Var,e.Val)]))
      ·rfl
      ·cases t.Ops.all (λo=>(bl o.Name).all Zvn&&decide (o.Name.size<=256)) <;> rfl
 ·rfl
theorem Zage (vars:List Int):∀(l:List Zaa)(last:Int),Zbi vars last l=true->last<vars.length->(l.length:Int)+last<vars.length
 | [],_,_,h=>by simpa using h
 | y :: r,last,h,hl=>by
  rw[Zbi,bA_,decide_eq_true_iff]at h
  have:=Zage vars r y.1 h.2 h.1.2.1
  simp only[lC_]
  omega
theorem Ztg {vars:List Int}{l:List Zaa}(h:Zbi vars (-1) l=true):l.length<=vars.length:=by
 have:=Zage vars l (-1) h (by omega)
 omega
theorem Znk (t:Zah):Ze5 t=true↔Zty t=.nil:=by
 have hcond:(Zp5 t).all (Zbi t.Vars (-1))=true↔Zbi t.Vars (-1) t.Goal=true/\∀o∈t.Ops,Zbi t.Vars (-1) o.Pre=true/\∀e∈o.Effs,Zbi t.Vars (-1) e.When=true:=by
  simp only[Zp5,List.all_cons,bA_,List.all_eq_true,List.mem_flatMap,Zxw,List.mem_cons,List.mem_map]
  constructor
  ·rintro⟨h1,h2⟩
   exact⟨h1,λo ho=>⟨h2 _ ⟨o,ho,.inl rfl⟩,λe he=>h2 _ ⟨o,ho,.inr ⟨e,he,rfl⟩⟩⟩⟩
  ·rintro⟨h1,h2⟩
   refine⟨h1,?_⟩
   rintro l ⟨o,ho,rfl|⟨e,he,rfl⟩⟩
   ·exact(h2 o ho).1
   ·exact(h2 o ho).2 e he
 constructor
 ·intro h
  simp only[Ze5,bA_,decide_eq_true_iff,List.all_eq_true,opF,effF]at h
  obtain⟨⟨g1,g2⟩,g3,g4,g5,g6⟩:=h
  have hc:(Zp5 t).all (Zbi t.Vars (-1))=true:=hcond.2 ⟨g5,λo ho=>⟨(g6 o ho).2.1,λe he=>((g6 o ho).2.2.2 e he).1⟩⟩
  have hl:Zxz t=false:=by
   unfold Zxz
   simp only[Bool.or_eq_false_iff,decide_eq_false_iff_not,List.any_eq_false,decide_eq_true_iff]
   refine⟨by omega,by omega,λo ho=>by have:=(g6 o ho).1;omega,λl hl=>?_⟩
   have:=Ztg (List.all_eq_true.1 hc l hl)
   omega
  unfold Zty
  rw[if_neg (by rw[hl];simp),if_pos (by rw[List.all_eq_true];intro n hn;simpa using g3 n hn),if_pos (by rw[List.all_eq_true];intro o ho;have:=(g6 o ho).1;simp;omega),if_pos,if_pos]
  ·rw[List.all_eq_true];intro o ho;simp only[bA_,decide_eq_true_iff];exact⟨List.all_eq_true.2 (g6 o ho).2.2.1,(g6 o ho).1.2.2.2⟩
  ·rw[g4,hc,Bool.true_and,Bool.true_and,List.all_eq_true];intro o ho;rw[List.all_eq_true];intro e he;exact((g6 o ho).2.2.2 e he).2
 ·intro h
  unfold Zty at h
  split at h
  ·cases h
  ·rename_i hl
   obtain⟨l1,l2,l3,_⟩:=Zadx (by simpa using hl)
   split at h
   ·rename_i h1
    split at h
    ·rename_i h2
     split at h
     ·rename_i h3
      split at h
      ·rename_i h4
       simp only[bA_]at h3
       obtain⟨h3,h5,h6⟩:=h3
       obtain⟨h7,h8⟩:=hcond.1 h5
       simp only[Ze5,bA_,decide_eq_true_iff]
       refine⟨⟨l1,l2⟩,h1,h3,h7,?_⟩
       rw[List.all_eq_true]at h2 h4 h6 ⊢
       intro o ho
       have a2:=h2 o ho
       have a4:=h4 o ho
       have a6:=h6 o ho
       rw[List.all_eq_true]at a6
       simp only[bA_,decide_eq_true_iff]at a2 a4
       show(decide _&&(_&&(_&&_)))=true
       rw[(h8 o ho).1,a4.1,decide_eq_true ⟨a2.1,a2.2,l3 o ho,a4.2⟩,Bool.true_and,Bool.true_and,Bool.true_and]
       rw[List.all_eq_true]
       intro e he
       show(Zbi _ _ _&&Zbi _ _ _)=true
       rw[(h8 o ho).2 e he,a6 e he];rfl
      ·cases h
     ·cases h
    ·cases h
   ·cases h
def Asc (l:List Zaa):Prop:=l.Pairwise λa b=>a.1<b.1
def LeF (a b:Zaa):Prop:=a.1<b.1\/(a.1=b.1/\a.2<=b.2)
def LtF (a b:Zaa):Prop:=a.1<b.1\/(a.1=b.1/\a.2<b.2)
def Zabu (l:List Zaa):Prop:=∀x∈l,0<=x.1/\0<=x.2
theorem Zatt {l:List Zaa}(h:Asc l){a b:Zaa}(ha:a∈l)(hb:b∈l)(e:a.1=b.1):a=b:=by
 induction l with
 | nil=>cases ha
 | cons z r ih =>
  obtain⟨h1,h2⟩:=List.pairwise_cons.1 h
  rcases List.mem_cons.1 ha with ea|ha'
  ·rcases List.mem_cons.1 hb with eb|hb'
   ·rw[ea,eb]
   ·have:=h1 b hb';rw[<-ea]at this;omega
  ·rcases List.mem_cons.1 hb with eb|hb'
   ·have:=h1 a ha';rw[<-eb]at this;omega
   ·exact ih h2 ha' hb'
theorem Zav2 (x:Zaa)(l:List Zaa):∀p,(x∈dd p l->x∈l)/\(x∈l->x∈dd p l\/p=some x):=by
 induction l with
 | nil=>intro p;simp[dd]
 | cons y r ih =>
  intro p
  rw[dd]
  obtain⟨h1,h2⟩:=ih (some y)
  split
  ·rename_i hp
   refine⟨λh=>by simp[h1 h],λh=>?_⟩
   rcases List.mem_cons.1 h with rfl|h
   ·exact .inr hp
   ·rcases h2 h with h|h
    ·exact .inl h
    ·injection h with h;subst h;exact .inr hp
  ·refine⟨λh=>?_,λh=>?_⟩
   ·rcases List.mem_cons.1 h with rfl|h
    ·simp
    ·simp[h1 h]
   ·rcases List.mem_cons.1 h with rfl|h
    ·exact .inl (by simp)
    ·rcases h2 h with h|h
     ·exact .inl (by simp[h])
     ·injection h with h;subst h;exact .inl (by simp)
theorem Zae5 (x:Zaa)(l:List Zaa):x∈Zd0 l↔x∈l:=by
 obtain⟨h1,h2⟩:=Zav2 x l none
 exact⟨h1,λh=>(h2 h).elim id (λh=>by cases h)⟩
theorem Zays (l:List Zaa):∀p,l.Pairwise LeF->(∀y,p=some y->∀x∈l,LeF y x)->(dd p l).Pairwise LtF/\∀y,p=some y->∀x∈dd p l,LtF y x:=by
 induction l with
 | nil=>intro p _ _;simp[dd]
 | cons z r ih =>
  intro p hs hp
  obtain⟨h1,h2⟩:=List.pairwise_cons.1 hs
  obtain⟨h3,h4⟩:=ih (some z) h2 (λy hy x hx=>by injection hy with hy;subst hy;exact h1 x hx)
  rw[dd]
  split
  ·rename_i hz
   exact⟨h3,λy hy x hx=>by rw[hz]at hy;injection hy with hy;subst hy;exact h4 z rfl x hx⟩
  ·rename_i hz
   refine⟨List.pairwise_cons.2 ⟨λx hx=>h4 z rfl x hx,h3⟩,λy hy x hx=>?_⟩
   have hyz:LtF y z:=by
    have hle:=hp y hy z (by simp)
    have hne:¬ y=z:=λe=>hz (by rw[hy,e])
    unfold LeF at hle
    unfold LtF
    rcases hle with h|⟨h,h'⟩
    ·exact .inl h
    ·by_cases e:y.2=z.2
     ·exact absurd (Prod.ext h e) hne
     ·exact .inr ⟨h,by omega⟩
   rcases List.mem_cons.1 hx with rfl|hx
   ·exact hyz
   ·have:=h4 z rfl x hx
    unfold LtF at *
    omega
theorem Zar6 (l:List Zaa):(Zra l).Pairwise LeF:=by
 have h:=List.pairwise_mergeSort (le:=λx y=>!ltF y x) (by
  intro a b c h1 h2
  simp[ltF]at *
  omega) (by
  intro a b
  simp[ltF]
  omega) l
 refine List.Pairwise.imp ?_ h
 intro a b hab
 simp[ltF]at hab
 unfold LeF
 omega
theorem Zapp (x:Zaa)(l:List Zaa):x∈Zra l↔x∈l:=(List.mergeSort_perm l _).mem_iff
def Zv4 (l:List Zaa):List Zaa:=Zd0 (Zra l)
theorem Zsx (x:Zaa)(l:List Zaa):x∈Zv4 l↔x∈l:=by rw[Zv4,Zae5,Zapp]
theorem Zase (l:List Zaa):(Zv4 l).Pairwise LtF:=(Zays (Zra l) none (Zar6 l) (λy hy=>by cases hy)).1
theorem Zasr : ∀(l:List Zaa)(p:Option Zaa),(dd p l).length<=l.length
 | [],_=>Nat.le_refl _
 | y :: r,p=>by
  rw[dd]
  have:=Zasr r (some y)
  split
  ·simp;omega
  ·simp;omega
theorem Zap4 (l:List Zaa):(Zv4 l).length<=l.length:=by
 have:=Zasr (Zra l) none
 rw[Zjm]at this
 exact this
def vF : Int->List Zaa->Bool
 | _,[]=>true
 | last,y :: r=>decide (last<y.1/\0<=y.2)&&vF y.1 r
theorem Zacn (l:List Zaa)(hs:Sh l):∀(r:List Zaa)(n:Nat)(last:Int),l.drop n=r->n<=l.length->-1<=last->(n=0->last=-1)->(∀m,n=m+1->∃x,l[m]?=some x/\x.1=last)->Rg (Zme l) (Zo8 l) r n ()=some (vF last r)
 | [],_,_,_,_,_,_,_=>rfl
 | y :: r,n,last,hd,hn,hl,h0,hp=>by
  rw[Rg,vF]
  obtain⟨hy,hd',hlt⟩:=Zc5 hd
  have hih:0<=y.1->Rg (Zme l) (Zo8 l) r ((n:Int)+1) ()=some (vF y.1 r):=λh=>Zacn l hs r (n+1) y.1 hd' hlt (by omega) (by omega) (λm hm=>⟨y,by rw[show m=n by omega];exact hy,rfl⟩)
  simp only[Zme,ixv,Zar]
  by_cases h1:y.1<0
  ·rw[if_pos h1,decide_eq_false (by omega)];rfl
  ·rw[if_neg h1]
   by_cases h3:y.2<0
   ·rw[if_pos h3,decide_eq_false (by omega)];rfl
   ·rw[if_neg h3]
    cases n with
    | zero =>
     have:=h0 rfl
     rw[if_neg (by omega),decide_eq_true (by omega)]
     exact hih (by omega)
    | succ m =>
     obtain⟨x,hx,hxl⟩:=hp m rfl
     rw[if_pos (by omega),w64 (by omega) (by have:=hs;unfold Sh at this;omega),show(((m+1:Nat):Int)-1)=(m:Int)by omega,Zfv hx]
     by_cases h5:x.1>=y.1
     ·rw[if_pos h5,decide_eq_false (by omega)];rfl
     ·rw[if_neg h5,decide_eq_true (by omega)]
      exact hih (by omega)
theorem Zv7 (l:List Zaa)(hl:Sh l):Zhp l=some (vF (-1) l):=by
 rw[Zhp,Zzl _ hl.lt]
 exact Zacn l hl l 0 (-1) rfl (Nat.zero_le _) (by omega) (λ_=>rfl) (λm hm=>by omega)
theorem Zate : ∀(l:List Zaa)(last:Int),vF last l=true↔(∀x∈l,last<x.1/\0<=x.2)/\Asc l
 | [],last=>by simp[vF,Asc]
 | y :: r,last=>by
  rw[vF,bA_,decide_eq_true_iff,Zate r y.1]
  unfold Asc
  rw[List.pairwise_cons]
  constructor
  ·rintro⟨h1,h2,h3⟩
   refine⟨λx hx=>?_,λx hx=>(h2 x hx).1,h3⟩
   rcases List.mem_cons.1 hx with rfl|hx
   ·exact h1
   ·have:=h2 x hx;omega
  ·rintro⟨h1,h2,h3⟩
   exact⟨h1 y (by simp),λx hx=>⟨h2 x hx,(h1 x (by simp[hx])).2⟩,h3⟩
theorem Zgv (l:List Zaa):vF (-1) l=true↔Zabu l/\Asc l:=by
 rw[Zate]
 constructor
 ·rintro⟨h1,h2⟩
  exact⟨λx hx=>⟨by have:=(h1 x hx).1;omega,(h1 x hx).2⟩,h2⟩
 ·rintro⟨h1,h2⟩
  exact⟨λx hx=>⟨by have:=(h1 x hx).1;omega,(h1 x hx).2⟩,h2⟩
theorem Zaks (vars:List Int):∀(l:List Zaa)(last:Int),Zbi vars last l=true->vF last l=true
 | [],_,_=>rfl
 | y :: r,last,h=>by
  rw[Zbi,bA_,decide_eq_true_iff]at h
  rw[vF,Zaks vars r y.1 h.2,decide_eq_true ⟨h.1.1,h.1.2.2.1⟩]
  rfl
theorem Zfr (vars:List Int):∀(l:List Zaa)(last:Int),Zbi vars last l=true↔vF last l=true/\∀x∈l,x.1<vars.length/\x.2<vars.getD x.1.toNat 0
 | [],last=>by simp[Zbi,vF]
 | y :: r,last=>by
  rw[Zbi,vF,bA_,bA_,decide_eq_true_iff,decide_eq_true_iff,Zfr vars r y.1]
  constructor
  ·rintro⟨⟨a,b,c,d⟩,e,f⟩
   refine⟨⟨⟨a,c⟩,e⟩,λx hx=>?_⟩
   rcases List.mem_cons.1 hx with rfl|hx
   ·exact⟨b,d⟩
   ·exact f x hx
  ·rintro⟨⟨⟨a,c⟩,e⟩,f⟩
   exact⟨⟨a,(f y (by simp)).1,c,(f y (by simp)).2⟩,e,λx hx=>f x (by simp[hx])⟩
def Zaeo (l:List Zaa):Prop:=∀x∈l,∀y∈l,x.1=y.1->x.2=y.2
theorem Zali {l:List Zaa}(h:Asc l):Zaeo l:=λx hx y hy e=>by rw[Zatt h hx hy e]
theorem Zap3 {l:List Zaa}:Asc (Zv4 l)↔Zaeo l:=by
 constructor
 ·intro h x hx y hy e
  exact Zali h x ((Zsx x l).2 hx) y ((Zsx y l).2 hy) e
 ·intro h
  have h2:∀x∈Zv4 l,x∈l:=λx hx=>(Zsx x l).1 hx
  have h1:=Zase l
  generalize Zv4 l=t at h1 h2
  induction t with
  | nil=>exact List.Pairwise.nil
  | cons z r ih =>
   obtain⟨a,b⟩:=List.pairwise_cons.1 h1
   refine List.pairwise_cons.2 ⟨λx hx=>?_,ih b (λx hx=>h2 x (by simp[hx]))⟩
   have h3:=a x hx
   unfold LtF at h3
   rcases h3 with h3|⟨h3,h4⟩
   ·exact h3
   ·have:=h z (h2 z (by simp)) x (h2 x (by simp[hx])) h3
    omega
theorem Zai2 {l:List Zaa}(hn:Zabu l):vF (-1) (Zv4 l)=true↔Zaeo l:=by
 rw[Zgv,Zap3]
 exact⟨λh=>h.2,λh=>⟨λx hx=>hn x ((Zsx x l).1 hx),h⟩⟩
theorem Zauq (l:List Zaa)(hl:l.length*16<=140737488355328)(hn:Zabu l):Zu5 l=some (if vF (-1) (Zv4 l)=true then(Zv4 l,Er.nil)else([],Er.no 2)):=by
 have hs:Sh l:=by unfold Sh;omega
 have ht:=Zap4 l
 rw[Zu5,Zabf _ hs.lt,Zh1 (p:=λ_=>true) (c:=none) (λy hy i rc=>by
  obtain⟨h1,h2⟩:=hn y hy
  simp only[Zu6,ixv,Zar]
  rw[if_neg (by omega),if_neg (by omega)];simp),if_pos (by simp)]
 rw[Zu7,Zac,Zbv,Zh8,Zan hl,Zac,Zag9,Zan (by omega),Zac,Zan (Zjm l),Zwh,Zan (by rw[Zjm];exact hl),Zac]
 have:Zd0 (Zra l)=Zv4 l:=rfl
 rw[this,Zan (by omega),Zv7 _ (by unfold Sh;omega),Zac]
 cases vF (-1) (Zv4 l) <;> rfl
def Zui (a b:List Zaa):Option (List Zaa):=if vF (-1) (Zv4 (a++b))=true then some (Zv4 (a++b))else none
def Zarc (a b:List Zaa):List Zaa×Bool:=match Zui a b with|some p=>(p,true)|none=>([],false)
theorem Zauh (a b:List Zaa)(hl:(a.length+b.length)*16<=140737488355328)(ha:vF (-1) a=true)(hb:vF (-1) b=true):Zs2 a b=some (Zarc a b):=by
 have h1:=(Zgv a).1 ha
 have h2:=(Zgv b).1 hb
 have hlen:(a++b).length=a.length+b.length:=lA_
 rw[Zs2,Zv7 _ (by unfold Sh;omega),ha,Zac,Zv7 _ (by unfold Sh;omega),hb]
 show ob1 (Zh8 a) _=_
 rw[Zh8,Zan (by omega),Zac,Zan (by omega),Zauq (a++b) (by omega) (λx hx=>by
  rcases List.mem_append.1 hx with hx|hx
  ·exact h1.1 x hx
  ·exact h2.1 x hx)]
 unfold Zarc Zui
 split
 ·rw[Zc6,Zan (by omega)];rfl
 ·rw[Zc6,Zan (by omega)];rfl
theorem Zab6 {a b p:List Zaa}(h:Zui a b=some p):vF (-1) p=true/\∀x,x∈p↔x∈a\/x∈b:=by
 unfold Zui at h
 split at h
 ·rename_i h1
  injection h with h
  subst h
  exact⟨h1,λx=>by rw[Zsx,List.mem_append]⟩
 ·cases h
theorem Zal8 {a b:List Zaa}(ha:vF (-1) a=true)(hb:vF (-1) b=true)(h:Zui a b=none):¬ Zaeo (a++b):=by
 intro hc
 unfold Zui at h
 rw[if_pos ((Zai2 (λx hx=>by
  rcases List.mem_append.1 hx with hx|hx
  ·exact((Zgv a).1 ha).1 x hx
  ·exact((Zgv b).1 hb).1 x hx)).2 hc)]at h
 cases h
end Go.Proofs.YtpfnmpdcneejbaaGreatDoor.Am
