/- stratagemlaw33.MutexTable returns true for every input. No condition beyond the row's own. -/
import Derived.Test.YtinnphmnhmdcgaaGreatB2
import Derived.Test.YtinnphmnhmdcgaaGreatB5
import Derived.Test.YtinnphmnhmdcgaaGreatB3
import Derived.Test.YtinnphmnhmdcgaaGreatB4
import Derived.Test.YtinnphmnhmdcgaaGreatB1
import Derived.Deep.Slices
import Derived.Deep.Fields
import Derived.ChangeSame
import Derived.SizedLaws
import Derived.Lib.SmallJoins
import Derived.Below
import Derived.OpenShut
import Derived.Carry
import Derived.Test.YtinnphmnhmdcgaaGreatRows
import Derived.Deep.DeepHandedRow
import Derived.Lib.LaidTab
set_option linter.unusedVariables false
set_option linter.unusedSectionVars false
set_option linter.unusedSimpArgs false
open List renaming getElem?_eq_getElem→gE_, length_map→lM_, length_append→lA_, mem_cons_of_mem→mC_, length_cons→lC_, mem_cons_self→mS_, mem_of_getElem?→mG_, getElem?_eq_some_iff→gS_, getD_eq_getElem?_getD→gD_, length_nil→lN_, mem_singleton→mI_
open Option.some renaming inj→sI_
open Bool renaming and_eq_true→bA_
open Option renaming bind_some→oB_
namespace Go.Proofs.YtinnphmnhmdcgaaGreat.Am
theorem bT3 {n m:Nat}(h:Nat.ble n m=true):n≤m:=Nat.le_of_ble_eq_true h
set_option maxHeartbeats 16000000
set_option maxRecDepth 100000
open Go.RowKit
def M_l33_awake (g:Nat):Option (Bool):=ob2 (M_mutex_New g ({ Vars:=[3],Init:=[0],Goal:=[],Ops:=[{ Name:=(⟨#[]⟩:ByteArray),Cost:=0,Pre:=[],Effs:=[{ When:=[],Var:=0,Val:=1:GEffect }]:GOp }]:GTask })) (fun z1 z2=>erM z2 (opM z1 (some false) (fun z4=>ob1 (M_stratagem_mutex_Table_Reached (some z4) (0,1)) (fun z5=>sel z5 (ob1 (M_stratagem_mutex_Table_Reached (some z4) (0,2)) (fun z6=>some (!z6))) (some false)))) (fun _=>some false))
theorem A_l33_awake (g:Nat){r1:Bool}(h:M_l33_awake g=some r1):ACall cx 12 [] (.c (.bool r1)):=by
 refine aOf Tryz.func12 rfl (by decide) rfl (bT3 rfl) ?_;intro _;unfold M_l33_awake at h;refine aSR ?_;intro _;refine dr (aSR ?_);intro _;obtain⟨z1,z2,u1,h⟩:=ob2_ok h;refine clf [(4,⟨2,none⟩),(5,⟨2,none⟩),(7,⟨2,none⟩),(9,⟨2,none⟩)] rfl rfl (A_mutex_New g ({ Vars:=[3],Init:=[0],Goal:=[],Ops:=[{ Name:=(⟨#[]⟩:ByteArray),Cost:=0,Pre:=[],Effs:=[{ When:=[],Var:=0,Val:=1:GEffect }]:GOp }]:GTask }) u1) ?_;intro _;refine dr (aSq ?_);rcases z2 with _|e3
 ·replace h:=erM_nil h;rcases z1 with _|z4
  ·replace h:=opM_none h;refine aRg ?_;intro _;refine litT ?_;intro _;refine⟨_,lf_nilQ rfl (bT3 rfl) rfl (by kernel_rfl) (.inr ⟨rfl,rfl⟩),?_⟩;intro _;refine litF ?_;intro _;refine dr (aRt ?_);intro _;obtain rfl:=inj1 h;exact ca_0
  ·replace h:=opM_some h;refine aRg ?_;intro _;refine litT ?_;intro _;refine⟨_,lf_nilP rfl (bT3 rfl) rfl (by kernel_rfl) (.inr ⟨rfl,rfl⟩),?_⟩;intro _;refine litT ?_;intro _;obtain⟨z5,u2,h⟩:=ob1_ok h;refine cl rfl (A_stratagem_mutex_Table_Reached (some z4) (0,1) u2) ?_;intro _;refine spl h (fun c3 h=>?_) (fun c3 h=>?_)
   ·intro _;obtain⟨z6,u4,h⟩:=ob1_ok h;refine cl rfl (A_stratagem_mutex_Table_Reached (some z4) (0,2) u4) ?_;intro _;refine dr (aRt ?_);intro _;obtain rfl:=inj1 h;exact ca_0
   ·intro _;refine dr (aRt ?_);intro _;obtain rfl:=inj1 h;exact ca_0
 ·replace h:=erM_no h;refine aRg ?_;intro _;refine litF ?_;intro _;refine dr (aRt ?_);intro _;obtain rfl:=inj1 h;exact ca_0
def M_l33_fit (a0:GTask):Option (Bool):=ob1 (M_b_Tame a0) (fun z1=>sel z1 (sel (decide (((a0.Ops.map cGOp).length:Int)≤10)) (some (decide (((a0.Vars.map cI).length:Int)≤6))) (some false)) (some false))
theorem A_l33_fit (a0:GTask){r1:Bool}(h:M_l33_fit a0=some r1):ACall cx 10 [.agg [.sl 1 (a0.Vars.map cI),.sl 1 (a0.Init.map cI),.sl 2 (a0.Goal.map cF),.sl 4 (a0.Ops.map cGOp)]] (.c (.bool r1)):=by
 refine aOf Tryz.func10 rfl (by decide) rfl (bT3 rfl) ?_;intro _;unfold M_l33_fit at h;refine aSR ?_;intro _;refine dr (aSR ?_);intro _;obtain⟨z1,u1,h⟩:=ob1_ok h;refine cl rfl (A_b_Tame a0 u1) ?_;intro _;refine spl h (fun c2 h=>?_) (fun c2 h=>?_)
 ·intro _;refine spl h (fun c3 h=>?_) (fun c3 h=>?_)
  ·intro _;refine dr (aRt ?_);intro _;obtain rfl:=inj1 h;exact ca_0
  ·intro _;refine dr (aRt ?_);intro _;obtain rfl:=inj1 h;exact ca_0
 ·intro _;refine dr (aRt ?_);intro _;obtain rfl:=inj1 h;exact ca_0
def M_b_Facts_L1 (a0:List Fact)(a1:List Fact):Nat→Int→Option (Bool)|0,_=>none|k7+1,v6=>sel (decide (v6<((a0.map cF).length:Int))) (ix a0 v6 (fun y8=>ix a1 v6 (fun y9=>sel (!(y8.1 == y9.1&&y8.2 == y9.2)) (some false) (M_b_Facts_L1 a0 a1 k7 (IntKind.i64.wrap (v6+1)))))) (some true)
def M_b_Facts (a0:List Fact)(a1:List Fact):Option (Bool):=sel (((a0.map cF).length:Int) != ((a1.map cF).length:Int)) (some false) (M_b_Facts_L1 a0 a1 ((((a0.map cF).length:Int)).toNat+1) 0)
theorem A_b_Facts (a0:List Fact)(a1:List Fact){r1:Bool}(h:M_b_Facts a0 a1=some r1):ACall cx 57 [.sl 2 (a0.map cF),.sl 2 (a1.map cF)] (.c (.bool r1)):=by
 refine aOf Tryz.func57 rfl (by decide) rfl (bT3 rfl) ?_;intro _;unfold M_b_Facts at h;refine aSR ?_;intro _;refine dr (aSq (aSR ?_));intro _;refine dr (aCd ?_);intro _;refine spl h (fun c1 h=>?_) (fun c1 h=>?_)
 ·refine aSR ?_;intro _;refine dr (aRt ?_);intro _;obtain rfl:=inj1 h;exact ca_0
 ·refine aSk (aSq (aSR ?_));intro _;refine dr (aBk ?_);refine awp_loop (α:=Nat×Int) (fun x=>mkS 26 [(0,.sl 2 (a0.map cF)),(1,.sl 2 (a1.map cF)),(12,.c (.int .i64 ((a0.map cF).length:Int))),(13,.c (.int .i64 x.2))] []) (fun x=>M_b_Facts_L1 a0 a1 x.1 x.2=some r1) (fun x=>x.1) ((((a0.map cF).length:Int)).toNat+1,0) h ?_ ?_
  ·exact ca_0
  ·intro x2 h;intro _;obtain⟨k7,m3,h⟩:=succ_of (f:=fun n=>M_b_Facts_L1 a0 a1 n x2.2) rfl h;replace h:M_b_Facts_L1 a0 a1 (k7+1) x2.2=some r1:=h;rw[M_b_Facts_L1]at h;refine aSR ?_;intro _;refine dr (aSq (aCd ?_));intro _;refine spl h (fun c4 h=>?_) (fun c4 h=>?_)
   ·refine aSk (aSq (aBk (aSR ?_)));intro _;refine dr (aSR ?_);intro _;obtain⟨y8,w5,q6,h⟩:=ix_ok h;refine Exists.intro (cF y8) (And.intro (map_at' w5) ?_);intro _;obtain⟨y9,w7,q8,h⟩:=ix_ok h;refine Exists.intro (cF y9) (And.intro (map_at' w7) ?_);intro _;refine⟨_,lf_eq2 rfl (bT3 rfl) rfl rfl (eqFact _ _ _ _) (eqFactG _ _ _ _ _ _ _) (.inr ⟨rfl,rfl⟩),?_⟩;intro _;refine pr (pr (dr (aCd ?_)));intro _;refine spl h (fun c9 h=>?_) (fun c9 h=>?_)
    ·refine aSR ?_;intro _;refine dr (aRt ?_);intro _;obtain rfl:=inj1 h;exact ca_0
    ·refine aSk (aRg ?_);intro _;refine dr ?_;refine⟨(k7,(IntKind.i64.wrap (x2.2+1))),h,ltS m3,?_⟩;exact ca_0
   ·refine aEx (aSR ?_);intro _;refine dr (aRt ?_);intro _;obtain rfl:=inj1 h;exact ca_0
def M_r33_Facts_L1 (v31:Int)(y42:Int):Nat→Int→(List Fact)→Option (List Fact)|0,_,_=>none|k47+1,v45,v46=>sel (decide (v45<y42)) (grd ((v46.length+1)*16≤140737488355328) (M_r33_Facts_L1 v31 y42 k47 (IntKind.i64.wrap (v45+1)) (v46++[(v31,v45)]))) (some v46)
def M_r33_Facts_L2 (a0:List Int):Nat→Int→(List Fact)→Option (List Fact)|0,_,_=>none|k33+1,v31,v32=>sel (decide (v31<((a0.map cI).length:Int))) (ob1 (ix a0 v31 (fun y42=>M_r33_Facts_L1 v31 y42 ((y42).toNat+1) 0 v32):Option (List Fact)) (fun v40=>M_r33_Facts_L2 a0 k33 (IntKind.i64.wrap (v31+1)) v40)) (grd (v32.length≤140737488355328) (some v32))
def M_r33_Facts (a0:List Int):Option (List Fact):=M_r33_Facts_L2 a0 ((((a0.map cI).length:Int)).toNat+1) 0 []
theorem A_r33_Facts (a0:List Int){r1:List Fact}(h:M_r33_Facts a0=some r1):ACall cx 15 [.sl 1 (a0.map cI)] (.sl 2 (r1.map cF)):=by
 refine aOf Tryz.func15 rfl (by decide) rfl (bT3 rfl) ?_;intro _;unfold M_r33_Facts at h;refine aSR ?_;intro _;refine dr (aSR ?_);intro _;refine dr (aSq (aSR ?_));intro _;refine dr (aBk ?_);refine awp_loop (α:=Nat×Int×(List Fact)) (fun x=>mkS 27 [(3,.own 23 0 0 x.2.2.length),(7,.sl 1 (a0.map cI)),(8,.c (.int .i64 ((a0.map cI).length:Int))),(9,.c (.int .i64 x.2.1))] [(23,⟨39,2,false,x.2.2.map cF⟩)]) (fun x=>M_r33_Facts_L2 a0 x.1 x.2.1 x.2.2=some r1) (fun x=>x.1) ((((a0.map cI).length:Int)).toNat+1,0,[]) h ?_ ?_
 ·exact ca_0
 ·intro x1 h;intro _;obtain⟨k33,m2,h⟩:=succ_of (f:=fun n=>M_r33_Facts_L2 a0 n x1.2.1 x1.2.2) rfl h;replace h:M_r33_Facts_L2 a0 (k33+1) x1.2.1 x1.2.2=some r1:=h;rw[M_r33_Facts_L2]at h;refine aSR ?_;intro _;refine dr (aSq (aCd ?_));intro _;refine spl h (fun c3 h=>?_) (fun c3 h=>?_)
  ·refine aSk ?_;obtain⟨o4,h,hK5⟩:=ob1_ok h;refine awp_cut (α:=List Fact) (fun v40=>mkS 27 [(3,.own 23 0 0 v40.length),(7,.sl 1 (a0.map cI)),(8,.c (.int .i64 ((a0.map cI).length:Int))),(9,.c (.int .i64 x1.2.1))] [(23,⟨39,2,false,v40.map cF⟩)]) (fun v=>o4=v) ?_ ?_
   ·refine aBk (aSR ?_);intro _;obtain⟨y42,w6,q7,h⟩:=ix_ok h;refine Exists.intro (cI y42) (And.intro (map_at' w6) ?_);intro _;refine pr (dr (aSR ?_));intro _;refine dr (aBk ?_);refine awp_loop (α:=Nat×Int×(List Fact)) (fun x=>mkS 27 [(3,.own 23 0 0 x.2.2.length),(4,.c (.int .i64 x1.2.1)),(7,.sl 1 (a0.map cI)),(8,.c (.int .i64 ((a0.map cI).length:Int))),(9,.c (.int .i64 x1.2.1)),(14,.c (.int .i64 y42)),(15,.c (.int .i64 x.2.1))] [(23,⟨39,2,false,x.2.2.map cF⟩)]) (fun x=>M_r33_Facts_L1 x1.2.1 y42 x.1 x.2.1 x.2.2=some o4) (fun x=>x.1) ((y42).toNat+1,0,x1.2.2) h ?_ ?_
    ·exact ca_0
    ·intro x8 h;intro _;obtain⟨k47,m9,h⟩:=succ_of (f:=fun n=>M_r33_Facts_L1 x1.2.1 y42 n x8.2.1 x8.2.2) rfl h;replace h:M_r33_Facts_L1 x1.2.1 y42 (k47+1) x8.2.1 x8.2.2=some o4:=h;rw[M_r33_Facts_L1]at h;refine aSR ?_;intro _;refine dr (aSq (aCd ?_));intro _;refine spl h (fun c10 h=>?_) (fun c10 h=>?_)
     ·refine aSk (aSq (aBk (aSR ?_)));intro _;refine dr (aRg ?_);intro _;obtain⟨q11,h⟩:=grd_ok h;refine pl (pl ?_);refine And.intro (by first|with_reducible assumption|(show(x8.2.2.length+1)*16≤140737488355328;with_reducible assumption)|omega|(simp;omega)) ?_;refine pe (dr (aRg ?_));intro _;refine dr ?_;refine⟨(k47,(IntKind.i64.wrap (x8.2.1+1)),(x8.2.2++[(x1.2.1,x8.2.1)])),h,ltS m9,?_⟩;exact ca_0
     ·refine aEx ?_;refine⟨x8.2.2,(sI_ h).symm,?_⟩;exact ca_0
   ·rintro v40 ho;have ho:=ho.symm;subst ho;intro _;replace h:=hK5;refine aRg ?_;intro _;refine dr ?_;refine⟨(k33,(IntKind.i64.wrap (x1.2.1+1)),v40),h,ltS m2,?_⟩;exact ca_0
  ·refine aEx (aSR ?_);intro _;refine dr (aRt ?_);obtain⟨q12,h⟩:=grd_ok h;intro _;obtain rfl:=inj1 h;exact ca_0
def M_b_Facts_L1_B (_:List Fact)(a1:List Fact)(_y8:Fact)(v6:Int):Unit→(Unit→Option (Bool))→Option (Bool):=fun _ rc=>ixv _y8 (fun y8=>ix a1 v6 (fun y9=>sel (!(y8.1 == y9.1&&y8.2 == y9.2)) (some false) (rc ())))
def M_b_Facts_L1_E (_:List Fact)(_:List Fact):Unit→Option (Bool):=fun _=>some true
theorem M_b_Facts_L1_eq (a0:List Fact)(a1:List Fact)  (hl:a0.length<9223372036854775807):M_b_Facts_L1 a0 a1 (((a0.map cF).length:Int).toNat+1) 0=Rg (M_b_Facts_L1_B a0 a1) (M_b_Facts_L1_E a0 a1) a0 0 ():=rg_e1 (L:=fun k i _=>M_b_Facts_L1 a0 a1 k i) hl (fun _ _ _=>rfl) ()
def M_r33_Facts_L1_B (v31:Int)(_:Int)(v45:Int):((List Fact))→(((List Fact))→Option (List Fact))→Option (List Fact):=fun v46 rc=>grd ((v46.length+1)*16≤140737488355328) (rc ((v46++[(v31,v45)])))
def M_r33_Facts_L1_E (_:Int)(_:Int):((List Fact))→Option (List Fact):=fun v46=>some v46
theorem M_r33_Facts_L1_eq (v31:Int)(y42:Int)(v46:List Fact){m:Nat}(hm:y42=(m:Int))(hl:m<9223372036854775807):M_r33_Facts_L1 v31 y42 ((y42).toNat+1) 0 v46=Rn (M_r33_Facts_L1_B v31 y42) (M_r33_Facts_L1_E v31 y42) m 0 v46:=rn_e (L:=fun k i v46=>M_r33_Facts_L1 v31 y42 k i v46) hm hl (fun _ _ _=>rfl) v46
def M_r33_Facts_L2_B (_:List Int)(_y42:Int)(v31:Int):((List Fact))→(((List Fact))→Option (List Fact))→Option (List Fact):=fun v32 rc=>ob1 (ixv _y42 (fun y42=>M_r33_Facts_L1 v31 y42 ((y42).toNat+1) 0 v32):Option (List Fact)) (fun v40=>rc (v40))
def M_r33_Facts_L2_E (_:List Int):((List Fact))→Option (List Fact):=fun v32=>grd (v32.length≤140737488355328) (some v32)
theorem M_r33_Facts_L2_eq (a0:List Int)(v32:List Fact)(hl:a0.length<9223372036854775807):M_r33_Facts_L2 a0 (((a0.map cI).length:Int).toNat+1) 0 v32=Rg (M_r33_Facts_L2_B a0) (M_r33_Facts_L2_E a0) a0 0 v32:=rg_e2 (L:=fun k i v32=>M_r33_Facts_L2 a0 k i v32) hl (fun k n p y hy h1 h2=>by first|(simp only[M_r33_Facts_L2,M_r33_Facts_L2_B,lM_,decide_lt h1,sel,ix_at hy,ixv,h2];done)|(simp only[lM_]at h1 hy;(simp only[M_r33_Facts_L2,M_r33_Facts_L2_B,lM_,decide_lt h1,sel,ix_at hy,ixv,h2];done))) (fun k p=>by simp only[M_r33_Facts_L2,M_r33_Facts_L2_E,lM_,decide_ge,sel]) v32
end Go.Proofs.YtinnphmnhmdcgaaGreat.Am
namespace Go.Proofs.YtinnphmnhmdcgaaGreat.Am
open Go.RowKit
structure EdgP (t:GTask)(e:GEdge):Prop where
 ex:∃ (a b q:Nat) (s:List Int) (o:GOp),e.From=(a:Int)∧e.To=(b:Int)∧e.Op=(q:Int)∧(allF t)[a]?=some s∧(allF t)[b]?=some (nextF s o)∧t.Ops[q]?=some o∧holdsF s o.Pre=true
def fit3F (t:GTask):Bool:=tameF t&&(decide (t.Ops.length≤10)&&decide (t.Vars.length≤6))
theorem fit3_eq (t:GTask)(ht:ShT t):M_l33_fit t=some (fit3F t):=by
 rw[M_l33_fit,tame_eq t ht,ob1_some,lM_,lM_,fit3F]
 have e1:decide ((t.Ops.length:Int)≤10)=decide (t.Ops.length≤10):=decide_eq_decide.2 (by omega)
 have e2:decide ((t.Vars.length:Int)≤6)=decide (t.Vars.length≤6):=decide_eq_decide.2 (by omega)
 rw[e1,e2]
 cases tameF t <;> cases decide (t.Ops.length≤10) <;> rfl
theorem fit3_of {t:GTask}(h:fit3F t=true):Fit3 t:=by
 unfold fit3F at h
 rw[bA_,bA_,decide_eq_true_iff,decide_eq_true_iff]at h
 obtain⟨h1,h2,h3⟩:=h
 have hs:=tame_small h1
 obtain⟨hg,hv,-⟩:=small_good hs
 unfold tameF at h1
 simp only[bA_,List.all_eq_true,decide_eq_true_iff]at h1
 have hd:=h1.2.1
 have hp:prodN t.Vars≤512:=by
  have hm:=manyF_prod 512 t.Vars 1 (fun k hk=>by have:=hd k hk;omega) (by decide) (by decide)
  rw[show((512:Nat):Int)=512 from rfl,show((1:Nat):Int)=1 from rfl,Nat.one_mul]at hm
  have h512:manyF 512 t.Vars 1≤512:=by
   have:=hs
   unfold smallF at this
   simp only[bA_,decide_eq_true_iff]at this
   exact this.2.2.2
  rw[hm]at h512
  split at h512 <;> omega
 refine⟨hg,hs,h2,h3,hd,hp,fun o ho=>?_⟩
 have:=h1.2.2 o ho
 unfold tameO twoF at this
 simp only[bA_,List.all_eq_true,decide_eq_true_iff]at this
 exact this
def tA : GTask:={ Vars:=[3],Init:=[0],Goal:=[],Ops:=[{ Name:=(⟨#[]⟩:ByteArray),Cost:=0,Pre:=[],Effs:=[{ When:=[],Var:=0,Val:=1:GEffect }]:GOp }] }
def oA : GOp:={ Name:=(⟨#[]⟩:ByteArray),Cost:=0,Pre:=[],Effs:=[{ When:=[],Var:=0,Val:=1:GEffect }] }
theorem tA_fit : Fit3 tA:=fit3_of (by rfl)
theorem tA_sh : ShT tA:=⟨by show _≤_;decide,by show _≤_;decide,by show _≤_;decide,by show _≤_;decide,fun o ho=>by
 obtain rfl:o=oA:=mI_.1 ho
 exact⟨by show _≤_;decide,by show _≤_;decide,by show _≤_;decide,fun e he=>by
  obtain rfl:=mI_.1 he
  show _≤_
  decide⟩⟩
theorem tA_not : regG [3] oA [(0,2)] [[]]=some []:=by rfl
theorem tA_reg : regS tA oA [(0,2)]=[]:=by
 have h:regO tA.Vars oA [(0,2)]=some (sortLL (minF [])):=by
  rw[regO]
  show(regG [3] oA [(0,2)] [[]]).map _=_
  rw[tA_not]
  rfl
 rw[regS,h,Option.getD_some]
 refine List.length_eq_zero_iff.1 ?_
 rw[sortLL_length]
 rfl
theorem tA_new (g:Nat)(hg:1000000≤g):∃ R,M_mutex_New g tA=some (some (tbl tA R),Er.nil)∧MxR tA R∧isF tA R (0,2) (0,2)=false:=by
 have h2:InV tA.Vars (0,2):=⟨by decide,by decide,by decide,by decide⟩
 refine new_eq tA_fit tA_sh g hg (Q:=fun R=>isF tA R (0,2) (0,2)=false) (fun R a b hR _ hq hs hm=>?_) (fun R _ _ hi=>?_)
 ·refine Bool.eq_false_iff.2 fun h=>?_
  rcases(put_is hR tA_fit.sz.pos hs.ia hs.ib h2 h2).1 h with h|⟨h,h'⟩|⟨h,h'⟩
  ·rw[hq]at h;cases h
  ·rw[← h,← h']at hm
   obtain⟨o,ho,hm⟩:=List.any_eq_true.1 hm
   obtain rfl:o=oA:=mI_.1 ho
   rw[madeO,show pset ((0:Int),(2:Int)) (0,2)=[(0,2)]from rfl,tA_reg,List.any_nil,Bool.and_false]at hm
   cases hm
  ·rw[← h,← h']at hm
   obtain⟨o,ho,hm⟩:=List.any_eq_true.1 hm
   obtain rfl:o=oA:=mI_.1 ho
   rw[madeO,show pset ((0:Int),(2:Int)) (0,2)=[(0,2)]from rfl,tA_reg,List.any_nil,Bool.and_false]at hm
   cases hm
 ·refine Bool.eq_false_iff.2 fun h=>?_
  have:=((hi _ _ h2 h2).1 h).1
  exact absurd this (by decide)
theorem awake3 (g:Nat)(hg:1000000≤g):M_l33_awake g=some true:=by
 obtain⟨R,h1,h2,h3⟩:=tA_new g hg
 have hz:=tA_fit.sz
 have hin:InV tA.Vars (0,1):=⟨by decide,by decide,by decide,by decide⟩
 have hs:StP tA.Vars tA.Init:=stateF_st (good_init tA_fit.good)
 have hal:Alive tA R tA.Init:=fun a b ha hb=>h2.init a b ha hb
 have h4:isF tA R (0,1) (0,1)=true:=alive_step tA_fit h2.closed hs hal (o:=oA) (mI_.2 rfl) (by decide) ⟨hin,hin,.inl rfl⟩ (by decide) (by decide) (.inl rfl)
 rw[M_l33_awake]
 show ob2 (M_mutex_New g tA) _=_
 rw[h1,ob2_some]
 show ob1 (M_stratagem_mutex_Table_Reached (some (tbl tA R)) (0,1)) _=_
 have e1:reaF tA R (0,1)=true:=by rw[reaF,h4];rfl
 have e2:reaF tA R (0,2)=false:=by rw[reaF,h3,Bool.and_false]
 rw[reached_eq hz h2.rk,ob1_some,e1,sel_tt,reached_eq hz h2.rk,ob1_some,e2]
 rfl
section
variable {C : Cx} {n : Nat} {o : Oper} {τ : Nat → AV} {η : Nat → Ent} {t e : TypeId} {ti te : TI}
theorem lf_rowRd {x y:Operand}{lo ty b:Nat}{r:List Bool}{kd:IntKind}{z:Int}{q:Bool}(ho:o.op=.indexAddr t x y)(hd:InB n o.dst)(hx:evA τ x=.rowb lo ty b r)(hy:evA τ y=.c (.int kd z))(ht:TyOk C.P t ti)(hk:ti.kind=.slice e)(hte:TyOk C.P e te)(hsz:te.sz=1)
  (h0:0≤z) (h1:r[z.toNat]?=some q):LF C n o τ η ⟨.pim [.c (.bool q)] 0,[],[]⟩:=by
 refine lf_pure hd (fun τ' η' g1 _=>?_)
 intro w0 X m a w h
 have e1:=h.ev x
 have e2:=h.ev y
 rw[g1 x (by simp[ho,Op.operands]),hx]at e1
 rw[g1 y (by simp[ho,Op.operands]),hy]at e2
 obtain⟨hu,hno,_,hb,hm⟩:=rv_rowb e1
 have hlt:=(gS_.1 h1).1
 have hz:z<r.length:=by omega
 refine⟨.pointer (some ⟨b,z.toNat+0,none⟩),?_,?_⟩
 ·simp[execOp,ho,hu,rv_c e2,Instr.indexAt,asIntOf,run_underlying (ht.sliceU hk),hte.size,h0,hz,add_plain,hsz]
 ·refine .pim (off:=z.toNat) (f:=fun _=>.bool q) hno (lt_of_block hb) (fun j x' hx'=>?_) (fun j x' hx'=>?_)
  ·cases j with
   | succ j=>simp at hx'
   | zero=>simp[World.cell?,hb,h1]
  ·cases j with
   | succ j=>simp at hx'
   | zero=>simp at hx';subst hx';exact .c _
end
theorem Rep.revealS {C:Cx}{n:Nat}{w0:World}{X:XX}{τ:Nat→AV}{η:Nat→Ent}{m:MM}{a:Act}{w:World}{lo i j s ver v ty ety len:Nat}{T:Tab}(h:Rep C n w0 X τ η m a w)(hC:C.Pw w0 X→w0.heap.size=lo∧∀ b,¬ X.X b)
  (hi:η i=⟨ver,some ⟨ty,1,false,List.replicate len [.c (.bool false)]⟩⟩) (hj:η j=⟨v,some ⟨ety,1,false,rwT lo ty T⟩⟩) (hne:i≠j) (hin:i<n) (hs:τ s=.ownx i ver len) :
  ∃ b,b∉T.map (·.1)∧Rep C n w0 X (fun t=>if t=s then .rowb lo ty b (List.replicate len false)else τ t) (updE η i ⟨ver+1,none⟩) m a w:=by
 obtain⟨hlo,hX⟩:=hC h.pw
 have okj:=h.mem.ok j _ (by rw[hj])
 have oki:=h.mem.ok i _ (by rw[hi])
 have si:shp η i=(ver,some 1):=by simp[shp,hi]
 have v3:=h.tm s
 rw[hs]at v3
 rcases rv_ownx v3 with hst|⟨sz,b,ty',x1,x2,x3,x4,hval⟩
 ·rw[si]at hst
  exact absurd hst (Nat.lt_irrefl _)
 ·rw[si]at x1
  injection x1 with _ x1
  injection x1 with x1
  subst x1
  rw[Nat.mul_one]at x4
  rw[x2]at oki
  obtain⟨arri,d1,d2,d3⟩:=oki
  have hb:=d1.shape x4
  have hsz:arri.size=len:=by
   have:=x4
   simp only[World.shape?,hb]at this
   injection this with this
   injection this
  have harr:arri=((List.replicate len false).map Value.bool).toArray:=by
   apply Array.ext
   ·simp[hsz]
   ·intro k k1 k2
    have hk:k<len:=by omega
    obtain⟨u,u1,_,u3⟩:=(d3 k [.c (.bool false)] (by simp[hk])).2 0 _ rfl
    have:=rv_c u3
    subst this
    simp only[Nat.mul_one,Nat.add_zero]at u1
    rw[Array.getElem?_eq_getElem k1]at u1
    injection u1 with u1
    rw[u1]
    simp
  rw[harr]at hb
  have hlivei:(η i).blk≠none:=by rw[hi];simp
  have hown:Owned (shp η) m b:=.inr ⟨i,blk_live.2 hlivei,x2⟩
  have hnb:b∉T.map (·.1):=by
   intro hm
   obtain⟨q,hq,rfl⟩:=List.mem_map.1 hm
   obtain⟨k,hk⟩:=List.mem_iff_getElem?.1 hq
   cases hmj:m j with
   | none =>
    rw[hmj]at okj
    have:=okj.1
    have hk2:=rwT_at1 (lo:=lo) (ty:=ty) hk
    have h0:rwT lo ty T=[]:=this
    rw[h0]at hk2
    simp at hk2
   | some bj =>
    rw[hmj]at okj
    obtain⟨arr,c1,c2,c3⟩:=okj
    obtain⟨u,_,_,u3⟩:=(c3 k _ (rwT_at1 hk)).2 0 _ rfl
    exact(rv_rowb u3).2.1 hown
  refine⟨b,hnb,?_⟩
  generalize hη':(updE η i ⟨ver+1,none⟩)=η'
  have ei:η' i=⟨ver+1,none⟩:=by rw[← hη'];simp[updE]
  have eo:∀ k,k≠i→η' k=η k:=fun k k1=>by rw[← hη'];simp[updE,k1]
  have live:∀ k,(η' k).blk≠none→(η k).blk≠none∧k≠i:=fun k hk=>by
   by_cases k1:k=i
   ·subst k1;rw[ei]at hk;exact absurd rfl hk
   ·rw[eo k k1]at hk;exact⟨hk,k1⟩
  have hm:Mono w (shp η) m w (shp η') m:=by
   refine⟨Nat.le_refl _,fun _ _ _=>rfl,fun b' _ hno ho=>hno ?_,fun k=>?_,fun k hk=>?_⟩
   ·rcases ho with ho|⟨k,k1,k2⟩
    ·exact .inl ho
    ·exact .inr ⟨k,blk_live.2 (live k (blk_live.1 k1)).1,k2⟩
   ·by_cases k1:k=i
    ·subst k1;simp[shp,ei,hi]
    ·simp[shp,eo k k1]
   ·by_cases k1:k=i
    ·subst k1;simp[shp,ei,hi]at hk
    ·exact⟨by simp[shp,eo k k1],fun _=>⟨rfl,fun _ _=>rfl⟩⟩
  have hnob:¬ Owned (shp η') m b:=by
   rintro(ho|⟨k,k1,k2⟩)
   ·exact h.mem.sep i b hlivei x2 ho
   ·obtain⟨l1,l2⟩:=live k (blk_live.1 k1)
    exact l2 (h.mem.inj k i b l1 hlivei k2 x2)
  have hlob:lo≤b:=by
   rcases h.own i b hlivei x2 with ho|ho
   ·exact absurd ho (hX b)
   ·omega
  have R:=h.move hm ⟨fun k B hB=>by
    by_cases k1:k=i
    ·subst k1;rw[ei]at hB;cases hB
    ·rw[eo k k1]at hB
     exact(h.mem.ok k B hB).mono hm (fun _ _=>rfl),fun k k' b' l1 l2=>h.mem.inj k k' b' (live k l1).1 (live k' l2).1,fun k b' l1=>h.mem.low k b' (live k l1).1,fun k b' l1=>h.mem.sep k b' (live k l1).1,h.mem.olt,h.mem.big⟩ h.kin rfl (fun k b' l1=>h.own k b' (live k l1).1) (fun k hk=>by rw[eo k (by omega)])
  refine⟨fun t=>?_,R.sz,R.df,R.mem,R.kin,R.oo,R.own,R.gl,R.kk,R.pw⟩
  by_cases ht:t=s
  ·subst ht
   rw[if_pos rfl,hval]
   have:=RV.rowb (w:=w) (vs:=shp η') (m:=m) (lo:=lo) (ty:=ty) (b:=b) (r:=List.replicate len false) hnob hlob hb (by simpa using x3)
   simpa using this
  ·rw[if_neg ht];exact R.tm t
theorem tmF_setU {tm:List AV}{s:Nat}{x:AV}(h:s<tm.length):tmF (tm.set s x)=fun t=>if t=s then x else tmF tm t:=by
 funext t
 show(tm.set s x).getD t _=_
 rw[gD_,List.getElem?_set]
 by_cases ht:s=t
 ·subst ht;simp[h]
 ·(rw[if_neg ht,if_neg (fun e=>ht e.symm),← gD_]) <;> rfl
theorem awp_revealS {C:Cx}{c:Code}{Q:Exit→St→Prop}{tm:List AV}{hp:List Ent}{lo ver v ty ety len:Nat}{T:Tab}(i j s:Nat)(hC:∀ w0 X,C.Pw w0 X→w0.heap.size=lo∧∀ b,¬ X.X b)(hi:hp[i]?=some ⟨ver,some ⟨ty,1,false,List.replicate len [.c (.bool false)]⟩⟩)
  (hj:hp[j]?=some ⟨v,some ⟨ety,1,false,rwT lo ty T⟩⟩) (hs:tm[s]?=some (.ownx i ver len)) (hne:i≠j) (hin:i<tm.length) (h:∀ b,b∉T.map (·.1)→forceK (tm.set s (.rowb lo ty b (List.replicate len false))) (fun tm'=>forceK (hp.set i ⟨ver+1,none⟩) (fun hp'=>True→AWP C c Q ⟨tm',hp'⟩))):AWP C c Q ⟨tm,hp⟩:=by
 unfold AWP at h ⊢
 intro w0 X m a w hr
 have li:=(gS_.1 hi).1
 have ls:=(gS_.1 hs).1
 have hs':tmF tm s=.ownx i ver len:=by
  show tm.getD s _=_
  rw[gD_,hs];rfl
 obtain⟨b,hb,hr'⟩:=Rep.revealS (C:=C) (n:=tm.length) (lo:=lo) (T:=T) hr (hC w0 X) (hp_get hi) (hp_get hj) hne hin hs'
 refine wp_mono (forceK_ok (forceK_ok (h b hb)) trivial w0 X m a w ?_) ?_
 ·unfold RepS
  show Rep C (tm.set s _).length w0 X (tmF _) (hpF _) m a w
  rw[List.length_set,tmF_setU ls,hpF_setU li]
  exact hr'
 ·rintro e a' w' ⟨s',m',h1,h2,h3⟩
  exact⟨s',m',by rw[h1];exact List.length_set,h2,h3⟩
section
variable {C : Cx} {n : Nat} {ops : Array Oper} {Q : Exit → Act → World → Prop} {i : Nat} {rest : List Nat} {o : Oper} {tm tm' : List AV} {hp : List Ent} {w0 : World} {X : XX} {m : MM} {a : Act} {w : World}
theorem rowStore {t:TypeId}{ti:TI}{x y:Operand}{lo ty b j t0:Nat}{r:List Bool}{c:Bool}{τ:Nat→AV}(hi:ops[i]?=some o)(hg:o.guard=none)(hr:Rep C tm.length w0 X τ (hpF hp) m a w)(ho:o.op=.store t x y)(hd:o.dst=none)(hx:evA τ x=.c (.pointer (some ⟨b,j,none⟩)))(hy:evA τ y=.c (.bool c))
  (ht:TyOk C.P t ti) (hsz:ti.sz=1) (hag:ti.kind.agg=false) (hrow:τ t0=.rowb lo ty b r) (hj:j<r.length) (hlo:w0.heap.size=lo) (hN:C.N=0) (hτ:∀ t,US [(b,r,r.set j c)] (τ t) (tmF tm' t)) (hη:UHL [(b,r,r.set j c)] hp) (hl:tm'.length=tm.length)
  (hk:∀ w',RepS C w0 X ⟨tm',hp⟩ m a w'→wpOps C.P ops Q rest a w'):wpOps C.P ops Q (i :: rest) a w:=by
 have h0:=hr.tm t0
 rw[hrow]at h0
 obtain⟨_,h1,h2,h3,_⟩:=rv_rowb h0
 refine wpOps_at hi hg (wp_storeB hr ho hd hx hy ht hsz hag h3 hj (hk _ ?_))
 unfold RepS
 show Rep C tm'.length w0 X (tmF tm') (hpF hp) m a _
 rw[hl]
 exact hr.rows (rows_one h3) (fun b' hb'=>by simp at hb';subst hb';exact h1) (fun b' hb'=>by simp at hb';subst hb';exact .inr (by omega)) hN hτ hη.at_
end
theorem tab_at {T:Tab}{k:Nat}{y:List Bool}(h:(T.map (·.2))[k]?=some y):∃ q,T[k]?=some q∧q.2=y:=by
 rw[List.getElem?_map]at h
 exact Option.map_eq_some_iff.1 h
section
variable {C : Cx} {n : Nat} {ops : Array Oper} {Q : Exit → Act → World → Prop}
def sufF (ops:Array Oper)(p f g:Nat):Bool:=(List.range ops.size).all fun j=>decide (j<p)||(List.range j).all fun k=>(decide (k=f)&&decide (j<g))||((befs ops.toList []).getD j 0).testBit k
theorem sufF_at {p f g j k:Nat}(h:sufF ops p f g=true)(hj:j<ops.size)(hp:p≤j)(hk:k<j)(hf:k≠f∨g≤j):((befs ops.toList []).getD j 0).testBit k=true:=by
 unfold sufF at h
 rw[List.all_eq_true]at h
 have:=h j (List.mem_range.2 hj)
 rw[Bool.or_eq_true]at this
 rcases this with h1|h1
 ·have:=of_decide_eq_true h1;omega
 ·rw[List.all_eq_true]at h1
  have:=h1 k (List.mem_range.2 hk)
  rw[Bool.or_eq_true,bA_]at this
  rcases this with⟨h2,h3⟩|h2
  ·have:=of_decide_eq_true h2
   have:=of_decide_eq_true h3
   omega
  ·exact h2
theorem behindF {p f g:Nat}(hs:sufF ops p f g=true){listed:Array Bool}(hz:listed.size=ops.size)(hc:Closed ops (listD listed)){i:Nat}(hi:i∈Region.ready .any ops listed)(hp:p≤i):∀ q,q<i→(q≠f∨g≤i)→listD listed q=true:=by
 intro q hq hf
 obtain⟨o,h1,h2,h3⟩:=(ready_iff hz).1 hi
 have hil:=(Array.getElem?_eq_some_iff.1 h1).1
 have hc':Closed ops (fun k=>decide (k=i)||listD listed k):=by
  intro k ok hk hd e he hb
  simp only[Bool.or_eq_true,decide_eq_true_eq]at hd ⊢
  rcases hd with rfl|hd
  ·rw[h1]at hk
   injection hk with hk
   subst hk
   exact .inr (h3 e he hb)
  ·exact .inr (hc k ok hk hd e he hb)
 have hg':=befs_good hc' ops.toList [] (fun j o' hj=>by simpa using hj) (fun j k hjk=>by simp at hjk)
 have:=hg' i q (sufF_at hs hil hp hq hf) (by simp)
 simp only[Bool.or_eq_true,decide_eq_true_eq]at this
 exact this.resolve_left (by omega)
theorem wpAny_tailF {p f g:Nat}(hback:backOk ops.toList 0=true)(hsuf:sufF ops p f g=true)(hfp:f<p):∀ (k q:Nat),q+k=ops.size→p≤q→∀ (fuel:Nat)(listed:Array Bool)(a:Act)(w:World),listed.size=ops.size→Closed ops (listD listed)→ops.size≤listed.toList.countP id+fuel →
  (∀ j,j<q→listD listed j=true)→(∀ j,q≤j→listD listed j=false)→wpOps C.P ops Q (idxs q k) a w→wpAny C.P .any ops Q fuel listed a w
 | k,q,hqk,hpq,0,listed,a,w,hz,hc,hf,hlo,hhi,h=>by
  have hr:=ready_all hz (by omega)
  have hq:k=0:=by
   rcases Nat.eq_zero_or_pos k with h0|h0
   ·exact h0
   ·have:=ready_nil hback hz hr q (by omega)
    rw[hhi q (Nat.le_refl _)]at this
    cases this
  subst hq
  exact⟨hr,h⟩
 | k,q,hqk,hpq,fuel+1,listed,a,w,hz,hc,hf,hlo,hhi,h=>by
  refine⟨fun hr=>?_,fun i hi=>?_⟩
  ·have hq:k=0:=by
    rcases Nat.eq_zero_or_pos k with h0|h0
    ·exact h0
    ·have:=ready_nil hback hz hr q (by omega)
     rw[hhi q (Nat.le_refl _)]at this
     cases this
   subst hq
   exact h
  ·obtain⟨o,h1,h2,h3⟩:=(ready_iff hz).1 hi
   have hil:=(Array.getElem?_eq_some_iff.1 h1).1
   have hiq:i=q:=by
    rcases Nat.lt_trichotomy i q with hlt|rfl|hgt
    ·rw[hlo i hlt]at h2;cases h2
    ·rfl
    ·have:=behindF hsuf hz hc hi (by omega) q hgt (.inl (by omega))
     rw[hhi q (Nat.le_refl _)]at this
     cases this
   subst hiq
   obtain⟨k',rfl⟩:∃ k',k=k'+1:=⟨k-1,by omega⟩
   rw[idxs_succ,wpOps_cons]at h
   refine wpOp_mono (fun a' w' h'=>?_) h
   refine wpAny_tailF hback hsuf hfp k' (i+1) (by omega) (by omega) fuel _ a' w' (by simp[hz]) (closed_set hz hc h1 h3) (by rw[count_set (by omega) h2];omega) (fun j hj=>?_) (fun j hj=>?_) h'
   ·rw[listed_set (by omega)]
    split
    ·rfl
    ·exact hlo j (by omega)
   ·rw[listed_set (by omega),if_neg (by omega)]
    exact hhi j (by omega)
def wpFl (P:Program)(ops:Array Oper)(Q:Exit→Act→World→Prop)(f:Nat):Nat→Nat→Act→World→Prop
 | 0,q,a,w=>wpOps P ops Q (f :: idxs q (ops.size-q)) a w
 | d+1,q,a,w=>wpOps P ops Q (f :: idxs q (ops.size-q)) a w∧wpOp P ops Q q (wpFl P ops Q f d (q+1)) a w
theorem wpFl_now {P:Program}{f d q:Nat}{a:Act}{w:World}(h:wpFl P ops Q f d q a w):wpOps P ops Q (f :: idxs q (ops.size-q)) a w:=by
 cases d with
 | zero=>exact h
 | succ d=>exact h.1
theorem wpAny_fl {p f g:Nat}(hback:backOk ops.toList 0=true)(hsuf:sufF ops p f g=true)(hfp:f<p)(hg:g≤ops.size):∀ (d q:Nat),q+d=g→p≤q→∀ (fuel:Nat)(listed:Array Bool)(a:Act)(w:World),listed.size=ops.size→Closed ops (listD listed)→ops.size≤listed.toList.countP id+fuel →
  (∀ j,j<q→j≠f→listD listed j=true)→(∀ j,q≤j→listD listed j=false)→listD listed f=false→wpFl C.P ops Q f d q a w→wpAny C.P .any ops Q fuel listed a w
 | d,q,hqd,hpq,0,listed,a,w,hz,hc,hf,hlo,hhi,hff,h=>by
  have hr:=ready_all hz (by omega)
  have:=ready_nil hback hz hr f (by omega)
  rw[hff]at this
  cases this
 | d,q,hqd,hpq,fuel+1,listed,a,w,hz,hc,hf,hlo,hhi,hff,h=>by
  refine⟨fun hr=>?_,fun i hi=>?_⟩
  ·have:=ready_nil hback hz hr f (by omega)
   rw[hff]at this
   cases this
  ·obtain⟨o,h1,h2,h3⟩:=(ready_iff hz).1 hi
   have hil:=(Array.getElem?_eq_some_iff.1 h1).1
   by_cases hif:i=f
   ·subst hif
    have h':=wpFl_now h
    rw[wpOps_cons]at h'
    refine wpOp_mono (fun a' w' h''=>?_) h'
    refine wpAny_tailF hback hsuf hfp (ops.size-q) q (by omega) hpq fuel _ a' w' (by simp[hz]) (closed_set hz hc h1 h3) (by rw[count_set (by omega) h2];omega) (fun j hj=>?_) (fun j hj=>?_) h''
    ·rw[listed_set (by omega)]
     split
     ·rfl
     ·exact hlo j (by omega) (by assumption)
    ·rw[listed_set (by omega),if_neg (by omega)]
     exact hhi j (by omega)
   ·have hqi:q≤i:=by
     rcases Nat.lt_or_ge i q with hlt|hge
     ·rw[hlo i hlt hif]at h2;cases h2
     ·exact hge
    cases d with
    | zero =>
     have:=behindF hsuf hz hc hi (by omega) f (by omega) (.inr (by omega))
     rw[hff]at this
     cases this
    | succ d =>
     have hiq:i=q:=by
      rcases Nat.eq_or_lt_of_le hqi with h|hgt
      ·exact h.symm
      ·have:=behindF hsuf hz hc hi (by omega) q hgt (.inl (by omega))
       rw[hhi q (Nat.le_refl _)]at this
       cases this
     subst hiq
     refine wpOp_mono (fun a' w' h'=>?_) h.2
     refine wpAny_fl hback hsuf hfp hg d (i+1) (by omega) (by omega) fuel _ a' w' (by simp[hz]) (closed_set hz hc h1 h3) (by rw[count_set (by omega) h2];omega) (fun j hj hjf=>?_) (fun j hj=>?_) ?_ h'
     ·rw[listed_set (by omega)]
      split
      ·rfl
      ·exact hlo j (by omega) hjf
     ·rw[listed_set (by omega),if_neg (by omega)]
      exact hhi j (by omega)
     ·rw[listed_set (by omega),if_neg (by omega)]
      exact hff
theorem wpAny_sufF {p f g:Nat}{w0:World}{X:XX}{s0:SE}{τ':Nat→AV}{η':Nat→Ent}{fs:List Foot}{of:Oper}{ff:Foot}{d:Tmp}(hp:p<ops.size)(hfp:p=f+1)(hpg:p≤g)(hg:g≤ops.size)(htr:Tr C n ops (ops.toList.take p) s0.1 s0.2 fs τ' η')(hind:indepOk ops fs=true)(hback:backOk ops.toList 0=true)(hsuf:sufF ops p f g=true)
  (hof:ops[f]?=some of) (hff:fs[f]?=some ff) (hod:of.dst=some d) (hup:ff.ups=[])
  (hq:∀ m' a' w',Rep C n w0 X τ' η' m' a' w'→wpOps C.P ops Q (idxs p (ops.size-p)) a' w')
  (hq2:∀ m' a' w',Rep C n w0 X (fun t=>if t=d then .dead else τ' t) η' m' a' w'→wpFl C.P ops Q f (g-p) p a' w'):∀ (fuel:Nat) (listed:Array Bool) (m:MM) (a:Act) (w:World),listed.size=ops.size→Closed ops (listD listed)→ops.size≤listed.toList.countP id+fuel →
   (∀ j,p≤j→listD listed j=false)→Rep C n w0 X (appD (listD listed) (ops.toList.zip fs) 0 s0).1 (appD (listD listed) (ops.toList.zip fs) 0 s0).2 m a w→wpAny C.P .any ops Q fuel listed a w:=by
 have hlen0:=tr_len _ _ _ _ _ _ htr
 have hlen:fs.length=p:=by rw[← hlen0];simp;omega
 have hz:=zip_take (ops:=ops) hlen
 obtain⟨hall,hat⟩:=tr_at (ops.toList.take p) 0 s0 fs τ' η' htr
 rw[← hz]at hall hat
 have hzl:(ops.toList.zip fs).length=p:=by simp;omega
 have hnr:∀ listed:Array Bool,listed.size=ops.size→(∀ j,p≤j→listD listed j=false)→Region.ready .any ops listed≠[]:=by
  intro listed hs hhi hr
  have:=ready_nil hback hs hr p hp
  rw[hhi p (Nat.le_refl _)]at this
  cases this
 intro fuel
 induction fuel with
 | zero =>
  intro listed m a w hs hc hf hhi hrep
  exact absurd (ready_all hs (by omega)) (hnr listed hs hhi)
 | succ fuel ih =>
  intro listed m a w hs hc hf hhi hrep
  refine⟨fun hr=>absurd hr (hnr listed hs hhi),fun i hi=>?_⟩
  obtain⟨o,h1,h2,h3⟩:=(ready_iff hs).1 hi
  have hil:=(Array.getElem?_eq_some_iff.1 h1).1
  rcases Nat.lt_or_ge i p with hip|hip
  ·obtain⟨f',hfi⟩:∃ f,fs[i]?=some f:=⟨fs[i]'(by omega),gE_ _⟩
   have hp':(ops.toList.zip fs)[i]?=some (o,f'):=by
    rw[List.getElem?_zip_eq_some]
    exact⟨by simpa using h1,hfi⟩
   have hts:=hat i (o,f') hp'
   rw[Nat.zero_add]at hts
   have hgood:=befs_good hc ops.toList [] (fun j o' hj=>by simpa using hj) (fun j k hjk=>by simp at hjk)
   have hno:∀ (j:Nat) (q:Oper×Foot),i<j→(ops.toList.zip fs)[j]?=some q→confl ops (o,f') q=true→listD listed j=false:=by
    intro j q hij hqj hcf
    cases hd:listD listed j
    ·rfl
    ·have:=hgood j i (indep_at hind hp' hqj hij hcf) hd
     rw[h2]at this
     cases this
   have hyes:∀ (j:Nat) (q:Oper×Foot),j<i→(ops.toList.zip fs)[j]?=some q→confl ops q (o,f')=true→listD listed j=true:=by
    intro j q hij hqj hcf
    have hc':Closed ops (fun k=>decide (k=i)||listD listed k):=by
     intro k ok hk hd e he hb
     simp only[Bool.or_eq_true,decide_eq_true_eq]at hd ⊢
     rcases hd with rfl|hd
     ·rw[h1]at hk
      injection hk with hk
      subst hk
      exact .inr (h3 e he hb)
     ·exact .inr (hc k ok hk hd e he hb)
    have hg':=befs_good hc' ops.toList [] (fun j o' hj=>by simpa using hj) (fun j k hjk=>by simp at hjk)
    have:=hg' i j (indep_at hind hqj hp' hij hcf) (by simp)
    simp only[Bool.or_eq_true,decide_eq_true_eq]at this
    exact this.resolve_left (by omega)
   have hagT:∀ t∈o.looksAt ops,(appD (listD listed) (ops.toList.zip fs) 0 s0).1 t=(appD (fun j=>decide (j<i)) (ops.toList.zip fs) 0 s0).1 t:=by
    intro t ht
    refine appD_tmp _ _ t _ 0 _ _ rfl (fun j q hq hd=>?_)
    rw[Nat.zero_add]
    rcases Nat.lt_trichotomy j i with hj|hj|hj
    ·rw[hyes j q hj hq (confl_tmp hd (.inl ht))];simp[hj]
    ·subst hj;rw[h2];simp
    ·rw[hno j q hj hq (confl_tmp' hd ht)];simp;omega
   have hagE:∀ k,k∈f'.rb∨k∈f'.ids→(appD (listD listed) (ops.toList.zip fs) 0 s0).2 k=(appD (fun j=>decide (j<i)) (ops.toList.zip fs) 0 s0).2 k:=by
    intro k hk
    refine appD_ent _ _ k _ 0 _ _ rfl (fun j q hq hd=>?_)
    rw[Nat.zero_add]
    rcases Nat.lt_trichotomy j i with hj|hj|hj
    ·rw[hyes j q hj hq (confl_ent hd hk)];simp[hj]
    ·subst hj;rw[h2];simp
    ·have:confl ops (o,f') q=true:=by
      rcases hk with hk|hk
      ·exact confl_ent' hk hd
      ·exact confl_ent hk (.inr hd)
     rw[hno j q hj hq this];simp;omega
   refine wpOp_of h1 (fun a' w' hK=>?_) (hts _ _ hagT hagE w0 X m a w hrep)
   obtain⟨m',hrep'⟩:=hK
   refine ih (listed.setIfInBounds i true) m' a' w' (by simp[hs]) (closed_set hs hc h1 h3) (by rw[count_set (by omega) h2];omega) (fun j hj=>by rw[listed_set (by omega),if_neg (by omega)];exact hhi j hj) ?_
   rw[appD_add (D:=listD listed) (D':=listD (listed.setIfInBounds i true)) hp' h2 (by rw[listed_set (by omega)];simp) (fun j hj=>by rw[listed_set (by omega),if_neg hj]) (fun j q hij hqj hd=>?_)]
   ·exact hrep'
   ·refine⟨fun d hd1 hd2=>?_,fun k hk1 hk2=>?_⟩
    ·have:=hno j q hij hqj (confl_tmp hd1 (.inr hd2))
     rw[hd]at this
     cases this
    ·have:=hno j q hij hqj (confl_ent hk1 (.inr hk2))
     rw[hd]at this
     cases this
  ·have hbe:=behindF hsuf hs hc hi hip
   have hip':i=p:=by
    rcases Nat.eq_or_lt_of_le hip with h|h
    ·exact h.symm
    ·have:=hbe p h (.inl (by omega))
     rw[hhi p (Nat.le_refl _)]at this
     cases this
   subst hip'
   cases hfl:listD listed f with
   | true =>
    have hbe':∀ q,q<i→listD listed q=true:=fun q hq=>by
     by_cases e:q=f
     ·subst e;exact hfl
     ·exact hbe q hq (.inl e)
    rw[appD_congr (listD listed) (fun _=>true) _ 0 s0 (fun j hj=>by rw[Nat.zero_add];exact hbe' j (by omega)),hall]at hrep
    have h:=hq m a w hrep
    obtain⟨k',hk'⟩:∃ k',ops.size-i=k'+1:=⟨ops.size-i-1,by omega⟩
    rw[hk',idxs_succ,wpOps_cons]at h
    refine wpOp_mono (fun a' w' h'=>?_) h
    refine wpAny_tailF hback hsuf (by omega) k' (i+1) (by omega) (by omega) fuel _ a' w' (by simp[hs]) (closed_set hs hc h1 h3) (by rw[count_set (by omega) h2];omega) (fun j hj=>?_) (fun j hj=>?_) h'
    ·rw[listed_set (by omega)]
     split
     ·rfl
     ·exact hbe' j (by omega)
    ·rw[listed_set (by omega),if_neg (by omega)]
     exact hhi j (by omega)
   | false =>
    have hpf:(ops.toList.zip fs)[f]?=some (of,ff):=by
     rw[List.getElem?_zip_eq_some]
     exact⟨by simpa using hof,hff⟩
    have hadd:=appD_add (D:=listD listed) (D':=fun j=>decide (j=f)||listD listed j) (s:=s0) hpf hfl (by simp) (fun j hj=>by simp[hj]) (fun j q hij hqj _=>by
     have:=(gS_.1 hqj).1
     omega)
    rw[appD_congr (fun j=>decide (j=f)||listD listed j) (fun _=>true) _ 0 s0 (fun j hj=>by
     rw[Nat.zero_add]
     by_cases e:j=f
     ·simp[e]
     ·simp[e,hbe j (by omega) (.inl e)]),hall]at hadd
    obtain⟨e1,e2⟩:=Prod.mk.inj hadd
    rw[hup]at e2
    have e2:η'=(appD (listD listed) (ops.toList.zip fs) 0 s0).2:=e2
    have hrep2:Rep C n w0 X (fun t=>if t=d then .dead else τ' t) η' m a w:=by
     rw[e2]
     refine⟨fun t=>?_,hrep.sz,hrep.df,hrep.mem,hrep.kin,hrep.oo,hrep.own,hrep.gl,hrep.kk,hrep.pw⟩
     by_cases ht:t=d
     ·rw[if_pos ht];exact .dead _
     ·rw[if_neg ht,e1]
      show RV w _ m (putA _ of.dst ff.x t) _
      rw[putA_at (by rw[hod];intro e;injection e with e;exact ht e.symm)]
      exact hrep.tm t
    have h:=hq2 m a w hrep2
    refine(wpAny_fl (C:=C) (Q:=Q) hback hsuf (by omega) hg (g-i) i (by omega) (Nat.le_refl _) (fuel+1) listed a w hs hc (by omega) (fun j hj hjf=>hbe j hj (.inl hjf)) hhi hfl h).2 i hi
theorem ups_of {fs:List Foot}{f:Nat}(h:((fs[f]?).map (·.ups.isEmpty))=some true):∃ ff,fs[f]?=some ff∧ff.ups=[]:=by
 obtain⟨ff,h1,h2⟩:=Option.map_eq_some_iff.1 h
 exact⟨ff,h1,List.isEmpty_iff.1 h2⟩
theorem awp_regionF {Q:Exit→St→Prop}{id:Nat}{draw:Bool}{tm:List AV}{hp:List Ent}(ks:List Nat)(f g:Nat){of:Oper}{d:Tmp}(hp0:Nat.blt (f+1) ops.size=true)(hg0:Nat.ble g ops.size=true)(hfg:Nat.ble (f+1) g=true)(hof:ops[f]?=some of)(hod:of.dst=some d)(h:vcO C ops ks (ops.toList.take (f+1)) tm hp [] (fun fs tm' hp'=>(draw=true→indepOk ops fs=true∧backOk ops.toList 0=true∧sufF ops (f+1) f g=true∧(fs[f]?).map (·.ups.isEmpty)=some true) ∧
   ∀ w0 X,(∀ m a w,RepS C w0 X ⟨tm',hp'⟩ m a w→wpOps C.P ops (fun e a' w'=>∃ s' m',s'.tm.length=tm.length∧Q e s'∧RepS C w0 X s' m' a' w') (idxs (f+1) (ops.size-(f+1))) a w) ∧
    ∀ m a w,Rep C tm.length w0 X (fun t=>if t=d then .dead else tmF tm' t) (hpF hp') m a w→wpFl C.P ops (fun e a' w'=>∃ s' m',s'.tm.length=tm.length∧Q e s'∧RepS C w0 X s' m' a' w') f (g-(f+1)) (f+1) a w)):AWP C (.region id ops draw) Q ⟨tm,hp⟩:=by
 unfold AWP
 intro w0 X m a w hr
 obtain⟨fs,tm',hp',h1,⟨h3,h4⟩,h5⟩:=vcO_ok _ _ _ _ _ _ h
 simp only[List.nil_append]at h3
 obtain⟨h4,h6⟩:=h4 w0 X
 generalize hpp:f+1=p at *
 have hlt:p<ops.size:=bT3 hp0
 have fin:∀ (m':MM) (a':Act) (w':World),Rep C tm.length w0 X (tmF tm') (hpF hp') m' a' w'→wpOps C.P ops (fun e a' w'=>∃ s' m',s'.tm.length=tm.length∧Q e s'∧RepS C w0 X s' m' a' w') (idxs p (ops.size-p)) a' w':=fun m' a' w' hr'=>h4 m' a' w' (by unfold RepS;rw[h5];exact hr')
 cases draw with
 | true =>
  obtain⟨g1,g2,g3,g4⟩:=h3 rfl
  obtain⟨ff,k1,k2⟩:=ups_of g4
  refine wp_region_any C.mixed (wpAny_sufF (s0:=(tmF tm,hpF hp)) hlt hpp.symm (bT3 hfg) (bT3 hg0) h1 g1 g2 g3 hof k1 hod k2 fin h6 ops.size (Array.replicate ops.size false) m a _ (by simp) (fun j o hj hd=>?_) (by omega) (fun j _=>?_) ?_)
  ·exfalso
   simp only[listD,Array.getD_eq_getD_getElem?]at hd
   rcases Nat.lt_or_ge j ops.size with h|h
   ·simp[h]at hd
   ·simp[Nat.not_lt.2 h]at hd
  ·simp only[listD,Array.getD_eq_getD_getElem?]
   rcases Nat.lt_or_ge j ops.size with h|h
   ·simp[h]
   ·simp[Nat.not_lt.2 h]
  ·have e:appD (listD (Array.replicate ops.size false)) (ops.toList.zip fs) 0 (tmF tm,hpF hp)=(tmF tm,hpF hp):=by
    have:∀ (L:List (Oper×Foot)) (q:Nat) (s:SE),appD (listD (Array.replicate ops.size false)) L q s=s:=by
     intro L
     induction L with
     | nil=>intro q s;rfl
     | cons x r ih =>
      intro q s
      rw[appD,ih,if_neg]
      simp only[listD,Array.getD_eq_getD_getElem?]
      rcases Nat.lt_or_ge q ops.size with h|h
      ·simp[h]
      ·simp[Nat.not_lt.2 h]
    exact this _ _ _
   rw[e]
   exact Rep.drew hr _
 | false =>
  refine wp_region ?_
  have e:List.range ops.size=idxs 0 p++idxs p (ops.size-p):=by
   unfold idxs
   have e0:(List.range p).map (0+·)=List.range p:=by
    have:((fun x=>0+x):Nat→Nat)=fun x=>x:=funext fun x=>Nat.zero_add x
    rw[this];exact List.map_id' _
   rw[e0]
   conv=>lhs;rw[show ops.size=p+(ops.size-p)from by omega]
   exact List.range_add
  rw[e]
  refine wpOps_app _ _ _ _ ?_
  have hl:(ops.toList.take p).length=p:=by simp;omega
  have:=tr_seq (Q:=fun e a w=>match e with | .normal=>wpOps C.P ops (fun e a' w'=>∃ s' m',s'.tm.length=tm.length∧Q e s'∧RepS C w0 X s' m' a' w') (idxs p (ops.size-p)) a w|e=>∃ s' m',s'.tm.length=tm.length∧Q e s'∧RepS C w0 X s' m' a w) (ops.toList.take p) 0 _ _ fs _ _ h1 (fun j o hj=>by
   rw[Nat.zero_add]
   rw[List.getElem?_take]at hj
   split at hj
   ·simpa using hj
   ·cases hj) w0 X m a w hr fin
  rw[hl]at this
  exact this
theorem wpOp_lf {i:Nat}{o:Oper}{τ:Nat→AV}{η:Nat→Ent}{w0:World}{X:XX}{m:MM}{a:Act}{w:World}{f:Foot}{K:Act→World→Prop}(hi:ops[i]?=some o)(hg:o.guard=none)(hr:Rep C n w0 X τ η m a w)(hlf:LF C n o τ η f)(hk:∀ m' a' w',Rep C n w0 X (putA τ o.dst f.x) (updAll η f.ups) m' a' w'→K a' w'):wpOp C.P ops Q i K a w :=
 wpOp_of hi (fun a' w' ⟨m',h⟩=>hk m' a' w' h) (ts_run hlf (.inl hg) τ η (fun _ _=>rfl) (fun _ _=>rfl) w0 X m a w hr)
end
section
variable {ch : Chg}
theorem us_two {a b:Int}:∀ e∈[[AV.c (.int .i64 a),.c (.int .i64 b)]],∀ x∈e,US ch x x:=by
 intro e he x hx
 simp only[List.mem_cons,List.not_mem_nil,or_false]at he
 subst he
 simp only[List.mem_cons,List.not_mem_nil,or_false]at hx
 rcases hx with rfl|rfl <;> exact .c
theorem us_op {s:ByteArray}{c:Int}{l:List Fact}{l':List GEffect}:∀ e∈[[AV.c (.string s),.c (.int .i64 c),.sl 2 (l.map cF),.sl 3 (l'.map cGEffect)]],∀ x∈e,US ch x x:=by
 intro e he x hx
 simp only[List.mem_cons,List.not_mem_nil,or_false]at he
 subst he
 simp only[List.mem_cons,List.not_mem_nil,or_false]at hx
 rcases hx with rfl|rfl|rfl|rfl
 ·exact .c
 ·exact .c
 ·exact .ub (ub_cF _)
 ·exact .ub (ub_cE _)
theorem us_rows {lo ty b:Nat}{r r':List Bool}{T:Tab}(hb:b∉T.map (·.1)):∀ e∈rwT lo ty T,∀ x∈e,US [(b,r,r')] x x:=by
 intro e he x hx
 obtain⟨q,hq,rfl⟩:=List.mem_map.1 he
 simp only[List.mem_cons,List.not_mem_nil,or_false]at hx
 subst hx
 refine .ub (.rowo (fun hm=>hb ?_))
 have:q.1=b:=by simpa using hm
 rw[← this]
 exact List.mem_map.2 ⟨q,hq,rfl⟩
end
theorem us_four {ch:Chg}{a b c d:Int}:∀ e∈[[AV.c (.int .i64 a),.c (.int .i64 b)],[AV.c (.int .i64 c),.c (.int .i64 d)]],∀ x∈e,US ch x x:=by
 intro e he x hx
 simp only[List.mem_cons,List.not_mem_nil,or_false]at he
 rcases he with rfl|rfl <;> (simp only[List.mem_cons,List.not_mem_nil,or_false]at hx;rcases hx with rfl|rfl <;> exact .c)
theorem awp_cv {C:Cx}{c:Code}{Q:Exit→St→Prop}{tm:List AV}{hp:List Ent}{x y:AV}(s:Nat)(hs:tm[s]?=some x)(hcv:Cv x y)(h:forceK (tm.set s y) (fun tm'=>True→AWP C c Q ⟨tm',hp⟩)):AWP C c Q ⟨tm,hp⟩:=by
 unfold AWP at h ⊢
 intro w0 X m a w hr
 have ls:=(gS_.1 hs).1
 have hs':tmF tm s=x:=by
  show tm.getD s _=_
  rw[gD_,hs];rfl
 have hr:Rep C tm.length w0 X (tmF tm) (hpF hp) m a w:=hr
 refine wp_mono (forceK_ok h trivial w0 X m a w ?_) ?_
 ·unfold RepS
  show Rep C (tm.set s _).length w0 X (tmF _) (hpF _) m a w
  rw[List.length_set,tmF_setU ls]
  refine⟨fun t=>?_,hr.sz,hr.df,hr.mem,hr.kin,hr.oo,hr.own,hr.gl,hr.kk,hr.pw⟩
  by_cases ht:t=s
  ·subst ht
   rw[if_pos rfl]
   have:=hr.tm t
   rw[hs']at this
   exact hcv _ _ _ _ this
  ·rw[if_neg ht]
   exact hr.tm t
 ·rintro e a' w' ⟨s',m',h1,h2,h3⟩
  exact⟨s',m',by rw[h1];exact List.length_set,h2,h3⟩
theorem put_both {lo:Nat}{T:Tab}{ops:Array Oper}{Q:Exit→Act→World→Prop}{tm:List AV}{hp:List Ent}{w0:World}{X:XX}{i j:Int}{qa qb:Nat×List Bool}{tm':Tab→AV→List AV}{o0 o1 o2 o3 o4 o5:Oper}(hsz:ops.size=15)
  (h0:ops[9]?=some o0) (p0:o0.op=.move (.tmp 11)) (d0:o0.dst=some 120) (q0:o0.guard=none)
  (h1:ops[10]?=some o1) (p1:o1.op=.indexAddr 41 (.tmp 114) (.tmp 115)) (d1:o1.dst=some 121) (q1:o1.guard=none)
  (h2:ops[11]?=some o2) (p2:o2.op=.store 4 (.tmp 121) (.const (.bool true))) (d2:o2.dst=none) (q2:o2.guard=none)
  (h3:ops[12]?=some o3) (p3:o3.op=.indexAddr 41 (.tmp 119) (.tmp 120)) (d3:o3.dst=some 122) (q3:o3.guard=none)
  (h4:ops[13]?=some o4) (p4:o4.op=.store 4 (.tmp 122) (.const (.bool true))) (d4:o4.dst=none) (q4:o4.guard=none)
  (h5:ops[14]?=some o5) (p5:o5.op=.assign (.const (.bool true))) (d5:o5.dst=some 10) (q5:o5.guard=none)
  (hl:tm.length=127) (e11:tmF tm 11=.c (.int .i64 i)) (e114:tmF tm 114=.rowb lo 4 qa.1 qa.2) (e115:tmF tm 115=.c (.int .i64 j)) (e119:tmF tm 119=.rowb lo 4 qb.1 qb.2) (e120:tmF tm 120=.c (.int .i64 i))
  (hn:(T.map (·.1)).Nodup) (ta:T[i.toNat]?=some qa) (tb:T[j.toNat]?=some qb) (g1:0≤i) (g3:0≤j) (g5:j.toNat<qa.2.length) (g6:i.toNat<qb.2.length)
  (hset:∀ T2 x,(tm' T2 .dead).set 10 x=tm' T2 x) (hln:∀ T2 x,(tm' T2 x).length=127) (z0:∀ T2,tmF (tm' T2 .dead) 11=.c (.int .i64 i)) (z1:∀ T2,tmF (tm' T2 .dead) 119=.dead) (z2:∀ T2,tmF (tm' T2 .dead) 120=.dead) (z3:∀ T2,tmF (tm' T2 .dead) 122=.dead) (z4:∀ T2,tmF (tm' T2 .dead) 121=.dead)
  (hT:∀ ch T2,UB ch (.sl 1 (rwT lo 4 T)) (.sl 1 (rwT lo 4 T2))→USL ch tm (tm' T2 .dead))
  (hT2:∀ ch T1 T2,UB ch (.sl 1 (rwT lo 4 T1)) (.sl 1 (rwT lo 4 T2))→USL ch (tm' T1 .dead) (tm' T2 .dead)) (hU:∀ ch,UHL ch hp)
  (hQ:∀ m' a' w',RepS (cxL cx lo) w0 X ⟨tm' (setT (setT T i.toNat j.toNat) j.toNat i.toNat) (.c (.bool true)),hp⟩ m' a' w'→Q .normal a' w') :
  (∀ mm a w,RepS (cxL cx lo) w0 X ⟨tm,hp⟩ mm a w→wpOps (cxL cx lo).P ops Q (idxs 10 (ops.size-10)) a w)∧∀ mm a w,Rep (cxL cx lo) tm.length w0 X (fun t=>if t=120 then .dead else tmF tm t) (hpF hp) mm a w→wpFl (cxL cx lo).P ops Q 9 2 10 a w:=by
 obtain⟨b1,r1⟩:=qa
 obtain⟨b2,r2⟩:=qb
 have g5:j.toNat<r1.length:=g5
 have g6:i.toNat<r2.length:=g6
 obtain⟨r3,t3,l3,hu⟩:=ub_row (lo:=lo) (ty:=4) (j:=j.toNat) hn ta tb
 have u1:=(hT _ _ (ub_tab (lo:=lo) (ty:=4) (j:=j.toNat) hn ta)).at_
 have u1':=fun T1 T2 h=>(hT2 [(b2,r3,r3.set i.toNat true)] T1 T2 h).at_
 have hn1:((setT T i.toNat j.toNat).map (·.1)).Nodup:=by rw[setT_fst];exact hn
 have i10:idxs 10 (ops.size-10)=[10,11,12,13,14]:=by rw[hsz];rfl
 have i11:idxs 11 (ops.size-11)=[11,12,13,14]:=by rw[hsz];rfl
 have i12:idxs 12 (ops.size-12)=[12,13,14]:=by rw[hsz];rfl
 generalize hτ1:(fun(x:AV) (t:Nat)=>if t=119 then AV.rowb lo 4 b2 r3 else if t=120 then x else tmF (tm' (setT T i.toNat j.toNat) .dead) t)=τ1
 have s9:∀ {τ:Nat→AV} {m:MM} {a:Act} {w:World} {K:Act→World→Prop},Rep (cxL cx lo) 127 w0 X τ (hpF hp) m a w→τ 11=.c (.int .i64 i)→(∀ m' a' w',Rep (cxL cx lo) 127 w0 X (putA τ (some 120) (.c (.int .i64 i))) (hpF hp) m' a' w'→K a' w')→wpOp (cxL cx lo).P ops Q 9 K a w:=by
  intro τ m a w K hr he hk
  have hlf:LF (cxL cx lo) 127 o0 τ (hpF hp) ⟨.c (.int .i64 i),[],[]⟩:=lf_pure (by rw[d0];exact bT3 rfl) (fun τ' η' k1 k2=>by
   have:=p_move (C:=cxL cx lo) (n:=127) (o:=o0) (τ:=τ') (η:=η') (.inl p0)
   rw[k1 _ (by simp[p0,Op.operands])]at this
   rw[show evA τ (.tmp 11)=.c (.int .i64 i)from he]at this
   exact this)
  exact wpOp_lf h0 q0 hr hlf (fun m' a' w' h=>hk m' a' w' (by rw[d0]at h;exact h))
 have s10:∀ {τ:Nat→AV} {m:MM} {a:Act} {w:World} {K:Act→World→Prop},Rep (cxL cx lo) 127 w0 X τ (hpF hp) m a w→(∀ t,t≠120→t≠121→τ t=tmF tm t)→(∀ m' a' w',Rep (cxL cx lo) 127 w0 X (putA τ (some 121) (.c (.pointer (some ⟨b1,j.toNat,none⟩)))) (hpF hp) m' a' w'→K a' w')→wpOp (cxL cx lo).P ops Q 10 K a w:=by
  intro τ m a w K hr he hk
  have hlf:=lf_rowAt (C:=cxL cx lo) (n:=127) (o:=o1) (τ:=τ) (η:=hpF hp) p1 (by rw[d1];exact bT3 rfl) ((he 114 (by decide) (by decide)).trans e114) ((he 115 (by decide) (by decide)).trans e115) (tyTab_ok 41 _ rfl) rfl (tyTab_ok 4 _ rfl) rfl g3 (by omega)
  exact wpOp_lf h1 q1 hr hlf (fun m' a' w' h=>hk m' a' w' (by rw[d1]at h;exact h))
 have s11:∀ {τ:Nat→AV} {m:MM} {a:Act} {w:World} {rest:List Nat} (x:AV),Rep (cxL cx lo) 127 w0 X τ (hpF hp) m a w→(∀ t,t≠120→t≠121→τ t=tmF tm t)→τ 121=.c (.pointer (some ⟨b1,j.toNat,none⟩))→τ 120=.c (.int .i64 i)∨x=.dead→(x=.c (.int .i64 i)∨x=.dead)→∀ {K:Act→World→Prop},(∀ m' a' w',Rep (cxL cx lo) 127 w0 X (τ1 x) (hpF hp) m' a' w'→K a' w')→wpOp (cxL cx lo).P ops Q 11 K a w:=by
  intro τ m a w _ x hr he hptr hx hx2 K hk
  have hpw:w0.heap.size=lo∧∀ b,¬ X.X b:=hr.pw
  have hx1:w0.heap.size≤b1:=by
   have:=hr.tm 114
   rw[he 114 (by decide) (by decide),e114]at this
   rw[hpw.1]
   exact(rv_rowb this).2.2.1
  have h0:=hr.tm 114
  rw[he 114 (by decide) (by decide),e114]at h0
  obtain⟨_,k1,_,k3,_⟩:=rv_rowb h0
  have hwp:=wp_storeB (Q:=Q) (K:=K) hr p2 d2 (show evA τ (.tmp 121)=_ from hptr) rfl (tyTab_ok 4 _ rfl) rfl rfl k3 g5 (hk m _ _ (hr.rows (rows_one k3) (fun b' hb'=>by simp at hb';subst hb';exact k1) (fun b' hb'=>by simp at hb';subst hb';exact .inr hx1) rfl (fun t=>by
   rw[← hτ1]
   by_cases c0:t=119
   ·subst c0
    simp only[if_true]
    rw[he 119 (by decide) (by decide),e119]
    exact .ub hu
   ·by_cases c1:t=120
    ·subst c1
     simp only[if_neg c0,if_true]
     rcases hx2 with rfl|rfl
     ·rcases hx with h|h
      ·rw[h];exact .c
      ·cases h
     ·exact .dead
    ·simp only[if_neg c0,if_neg c1]
     by_cases c2:t=121
     ·subst c2
      rw[z4]
      exact .dead
     ·rw[he t c1 c2]
      exact u1 t) (hU _).at_))
  unfold wpOp
  rw[h2]
  simp only[Region.wanted,q2]
  exact .inl hwp
 have core:∀ {m:MM} {a:Act} {w:World},Rep (cxL cx lo) 127 w0 X (τ1 (.c (.int .i64 i))) (hpF hp) m a w→wpOps (cxL cx lo).P ops Q [12,13,14] a w:=by
  intro m a w hr2
  have hpw:w0.heap.size=lo∧∀ b,¬ X.X b:=hr2.pw
  have x2:w0.heap.size≤b2:=by
   have:=hr2.tm 119
   rw[← hτ1]at this
   rw[hpw.1]
   exact(rv_rowb this).2.2.1
  have hlf3:=lf_rowAt (C:=cxL cx lo) (n:=127) (o:=o3) (τ:=τ1 (.c (.int .i64 i))) (η:=hpF hp) p3 (by rw[d3];exact bT3 rfl) (show evA (τ1 _) (.tmp 119)=_ from by rw[← hτ1];rfl) (show evA (τ1 _) (.tmp 120)=_ from by rw[← hτ1];rfl) (tyTab_ok 41 _ rfl) rfl (tyTab_ok 4 _ rfl) rfl g1 (by omega)
  refine wpOps_lf h3 q3 hr2 hlf3 (fun m3 a3 w3 hr3=>?_)
  rw[d3]at hr3
  refine wpOps_storeB (t0:=119) (j:=i.toNat) (τ':=tmF (tm' (setT (setT T i.toNat j.toNat) j.toNat i.toNat) .dead)) h4 q4 hr3 p4 d4 (by simp[evA,putA]) rfl (tyTab_ok 4 _ rfl) rfl rfl (by rw[← hτ1];rfl) (by rw[l3];exact g6) (.inr x2) rfl (fun t=>?_) (hU _).at_ (fun w4 hr4=>?_)
  ·by_cases c0:t=119
   ·subst c0
    rw[z1]
    exact .dead
   ·by_cases c1:t=120
    ·subst c1
     rw[z2]
     exact .dead
    ·by_cases c2:t=122
     ·subst c2
      rw[z3]
      exact .dead
     ·have:putA (τ1 (.c (.int .i64 i))) (some 122) (.c (.pointer (some ⟨b2,i.toNat,none⟩))) t=tmF (tm' (setT T i.toNat j.toNat) .dead) t:=by rw[← hτ1];simp[putA,c0,c1,c2]
      rw[this]
      exact u1' _ _ (ub_tab (lo:=lo) (ty:=4) (j:=i.toNat) hn1 t3) t
  have hlf5:LF (cxL cx lo) 127 o5 (tmF (tm' (setT (setT T i.toNat j.toNat) j.toNat i.toNat) .dead)) (hpF hp) ⟨.c (.bool true),[],[]⟩:=lf_pure (by rw[d5];exact bT3 rfl) (fun τ' η' g1 g2=>by
   have:=p_move (C:=cxL cx lo) (n:=127) (o:=o5) (τ:=τ') (η:=η') (.inr p5)
   exact this)
  refine wpOps_lf h5 q5 hr4 hlf5 (fun m5 a5 w5 hr5=>?_)
  rw[d5]at hr5
  refine hQ m5 a5 w5 ?_
  unfold RepS
  show Rep (cxL cx lo) (tm' _ _).length w0 X (tmF (tm' _ _)) (hpF hp) m5 a5 w5
  rw[hln,← hset,tmF_setU (by rw[hln];decide)]
  exact hr5
 have e9:putA (τ1 .dead) (some 120) (.c (.int .i64 i))=τ1 (.c (.int .i64 i)):=by
  funext t
  rw[← hτ1]
  by_cases c0:t=119
  ·subst c0;rfl
  ·by_cases c1:t=120
   ·subst c1;rfl
   ·simp[putA,c0,c1]
 have t11:∀ x,τ1 x 11=.c (.int .i64 i):=fun x=>by rw[← hτ1];exact z0 _
 have both:∀ {τ:Nat→AV} {m:MM} {a:Act} {w:World},Rep (cxL cx lo) 127 w0 X τ (hpF hp) m a w→(∀ t,t≠120→t≠121→τ t=tmF tm t)→τ 120=.c (.int .i64 i)→wpOps (cxL cx lo).P ops Q [10,11,12,13,14] a w:=by
  intro τ m a w hr he hx
  rw[wpOps_cons]
  refine s10 hr he (fun m1 a1 w1 hr1=>?_)
  rw[wpOps_cons]
  refine s11 (rest:=[]) (.c (.int .i64 i)) hr1 (fun t c0 c1=>by simp only[putA,if_neg c1];exact he t c0 c1) (by simp[putA]) (.inl (by simp only[putA];exact hx)) (.inl rfl) (fun m2 a2 w2 hr2=>core hr2)
 refine⟨fun mm a w hrep=>?_,fun mm a w hrep=>?_⟩
 ·have hrep:Rep (cxL cx lo) 127 w0 X (tmF tm) (hpF hp) mm a w:=by
   unfold RepS at hrep
   rw[hl]at hrep
   exact hrep
  rw[i10]
  exact both hrep (fun _ _ _=>rfl) e120
 ·rw[hl]at hrep
  generalize hτ0:(fun t=>if t=120 then AV.dead else tmF tm t)=τ0 at hrep
  have he0:∀ t,t≠120→t≠121→τ0 t=tmF tm t:=fun t c0 _=>by rw[← hτ0];exact if_neg c0
  refine⟨?_,s10 hrep he0 (fun m1 a1 w1 hr1=>⟨?_,s11 (rest:=[]) .dead hr1 (fun t c0 c1=>by simp only[putA,if_neg c1];exact he0 t c0 c1) (by simp[putA]) (.inr rfl) (.inr rfl) (fun m2 a2 w2 hr2=>?_)⟩)⟩
  ·rw[i10,wpOps_cons]
   refine s9 hrep (by rw[← hτ0];exact e11) (fun m1 a1 w1 hr1=>both hr1 (fun t c0 c1=>by simp only[putA,if_neg c0];exact he0 t c0 c1) (by simp[putA]))
  ·show wpOps _ ops Q (9 :: idxs 11 (ops.size-11)) a1 w1
   rw[i11,wpOps_cons]
   refine s9 hr1 (by simp only[putA];exact(he0 11 (by decide) (by decide)).trans e11) (fun m2 a2 w2 hr2=>?_)
   rw[wpOps_cons]
   refine s11 (rest:=[]) (.c (.int .i64 i)) hr2 (fun t c0 c1=>by simp only[putA,if_neg c0,if_neg c1];exact he0 t c0 c1) (by simp[putA]) (.inl (by simp[putA])) (.inl rfl) (fun m3 a3 w3 hr3=>core hr3)
  ·show wpOps _ ops Q (9 :: idxs 12 (ops.size-12)) a2 w2
   rw[i12,wpOps_cons]
   refine s9 hr2 (t11 _) (fun m3 a3 w3 hr3=>?_)
   rw[e9]at hr3
   exact core hr3
end Go.Proofs.YtinnphmnhmdcgaaGreat.Am
namespace Go.Proofs.YtinnphmnhmdcgaaGreat.Am
set_option maxHeartbeats 16000000
set_option maxRecDepth 100000
open Go.RowKit
theorem zb_XRef {P:Prop}(h:P:=by repeat (first|exact BWL.nil|exact bwll_nil|exact bw_c|exact BW.sl|exact BW.nil|exact bwll_same rfl FrI.h|refine BWL.cons ?_ ?_|refine bwll_cons ?_ ?_|(refine bw_own3 rfl rfl rfl FrI.h ?_ ?_ ?_)|exact BW.fr FrV.h|exact bw_fr2 rfl FrV.h|exact BW.fr (by assumption)|refine bw_agg ?_|refine bw_clo ?_|refine bw_ptr rfl rfl rfl ?_|(refine bw_own rfl rfl rfl ?_ FrI.h ?_ ?_)|assumption|omega|rfl|(rw[lM_,← lA_];assumption)|(refine bwll_same ?_ FrI.h;(simp[cGTask,cI,cF,cGOp,cGEffect,cB,cL_cB] <;> fail))|(rw[List.map_set];refine bwll_set (by first|rfl|omega|simp) ?_ ?_)|refine bwll_set (by first|rfl|omega|simp) ?_ ?_|(rw[List.map_replicate];refine bwll_rep ?_)|refine bwll_rep ?_|(rw[List.map_append];refine bwll_append ?_ ?_)|refine bwll_append ?_ ?_|(simp[cGTask,cI,cF,cGOp,cGEffect,cB,cL_cB,take_len_map] <;> fail)|(rw[List.drop_zero,List.take_of_length_le] <;> first|rfl|(simp[cGTask,cI,cF,cGOp,cGEffect,cB,cL_cB] <;> fail))|(simp;omega)|(simp only[lM_,lA_,List.drop_zero,lC_,lN_,Nat.zero_add,Nat.add_zero]at *;omega))):P:=h
theorem ci_XRef {p K:Prop}(k:K)(h:p:=by first|rfl|exact⟨rfl,rfl⟩|exact BW.fr FrV.h|exact bw_fr2 rfl FrV.h|(refine BW.fr ?_;assumption)|(refine⟨rfl,?_⟩;(simp[cGTask,cI,cF,cGOp,cGEffect,cB,cL_cB,take_len_map];done))|(refine RowK.same ?_ FrI.h;first|rfl|(simp[cGTask,cI,cF,cGOp,cGEffect,cB,cL_cB,take_len_map];done))|(refine row_part1 ?_;(exact zb_XRef);done)|((exact zb_XRef);done)|(simp[cGTask,cI,cF,cGOp,cGEffect,cB,cL_cB,take_len_map];done)):p∧K:=⟨h,k⟩
theorem ca_XRef {P:Prop}(h:P:=by repeat (first|exact True.intro|refine ci_XRef ?_)):P:=h
theorem pr_XRef {p K:Prop}(k:K)(h:p:=by first|assumption|exact Int.natCast_nonneg _|exact Nat.le_refl _|exact Nat.zero_le _|omega|(simp;done)|(simp;omega)):p∧K:=⟨h,k⟩
theorem pl_XRef {p K:Prop}(k:K)(h:p:=by first|rfl|exact lM_ _|(simp;done)|(simp;omega)):p∧K:=⟨h,k⟩
theorem pe_XRef {p K:Prop}(k:K)(h:p:=by first|omega|(simp;omega)|(simp only[lM_,lC_,lN_,lA_];omega)|(simp only[lM_,List.drop_zero,lC_,lN_,Nat.zero_add,Nat.add_zero]at *;omega)):p∧K:=⟨h,k⟩
theorem dr_XRef {b:Bool}{p K:Prop}(k:K)(h:b=true→p:=by intro h;first|(cases h;done)|exact⟨by kernel_rfl,by kernel_rfl⟩):(b=true→p)∧K:=⟨h,k⟩
theorem cl_XRef {C:Cx}{n:Nat}{o:Oper}{τ:Nat→AV}{η:Nat→Ent}{f:FuncId}{os:Array Operand}{ats:Array TypeId}{r:AV}{args:List AV}{K:Foot→Prop}(ho:o.op=.call ⟨.value (.func f),os,ats⟩)(hc:ACall C f args r)(k:K ⟨r,[],[]⟩)
  (hd:InB n o.dst:=by exact bT3 rfl) (hargs:os.toList.map (evA τ)=args:=by first|rfl|(simp[cGTask,cI,cF,cGOp,cGEffect,cB,cL_cB];done)|(repeat (first|exact rfl|refine cons_eq ?_ ?_|exact sl_dt rfl))) (hfr:frs args:=by repeat (first|exact trivial|exact fr1_eA _|exact fr0_eA _|exact fr1_fr (by assumption)|exact FrV.h|exact fr0_fr FrV.h|exact fr1_fr FrV.h|refine And.intro ?_ ?_)) (hr:fr1 r:=by repeat (first|exact trivial|exact fr1_eA _|exact fr0_eA _|exact fr1_fr (by assumption)|exact FrV.h|exact fr0_fr FrV.h|exact fr1_fr FrV.h|refine And.intro ?_ ?_)):∃ f:Foot,LF C n o τ η f∧K f:=⟨_,lf_call ho hd hargs hc hfr hr,k⟩
theorem clb_XRef {C:Cx}{n:Nat}{o:Oper}{τ:Nat→AV}{η:Nat→Ent}{f:FuncId}{os:Array Operand}{ats:Array TypeId}{r:AV}{xs ys:List AV}{K:Foot→Prop}(bs:List Nat)(ho:o.op=.call ⟨.value (.func f),os,ats⟩)(hargs:os.toList.map (evA τ)=xs)(hc:ACall C f ys r)(k:K ⟨r,[],bs⟩)
  (hd:InB n o.dst:=by exact bT3 rfl) (hb:BWL η (dropB η bs) xs ys:=by exact zb_XRef) (hr:scal r:=by repeat (first|exact trivial|exact scal0_eA _|exact scal_eA _|refine And.intro ?_ ?_)):∃ f:Foot,LF C n o τ η f∧K f:=⟨_,lf_callB bs ho hd hargs hb hc hr,k⟩
theorem clf_XRef {C:Cx}{n:Nat}{o:Oper}{τ:Nat→AV}{η:Nat→Ent}{f:FuncId}{os:Array Operand}{ats:Array TypeId}{r:AV}{xs ys:List AV}{K:Foot→Prop}(us:List (Nat×Ent))(ho:o.op=.call ⟨.value (.func f),os,ats⟩)(hargs:os.toList.map (evA τ)=xs)(hc:ACall C f ys r)(k:K ⟨r,us,[]⟩)
  (hus:allUs η us:=by repeat (first|exact trivial|refine And.intro rfl ?_)) (hul:ltUs n us:=by repeat (first|exact trivial|refine And.intro (bT3 rfl) ?_)) (hd:InB n o.dst:=by exact bT3 rfl) (hb:BWL η (dropB η (us.map (·.1))) xs ys:=by exact zb_XRef) (hr:fr1 r:=by repeat (first|exact trivial|exact fr1_eA _|exact fr0_eA _|exact fr1_fr (by assumption)|exact FrV.h|exact fr0_fr FrV.h|exact fr1_fr FrV.h|refine And.intro ?_ ?_)):∃ f:Foot,LF C n o τ η f∧K f:=⟨_,lf_callF us (allUs_at hus) (ltUs_at hul) ho hd hargs hb hc hr,k⟩
def M_r33_needs_L1 (a0:GOp)(y183:Fact):Nat→Bool→Int→Int→Option (Bool×Int)|0,_,_,_=>none|k205+1,v202,v203,v204=>sel (decide (v204<((a0.Effs.map cGEffect).length:Int))) (ix a0.Effs v204 (fun y206=>sel (y206.Var == y183.1) (M_r33_needs_L1 a0 y183 k205 true y206.Val (IntKind.i64.wrap (v204+1))) (M_r33_needs_L1 a0 y183 k205 v202 v203 (IntKind.i64.wrap (v204+1))))) (some (v202,v203))
def M_r33_needs_L2 (v144:List Fact)(y183:Fact):Nat→Int→Option ((List Fact)⊕((List Fact)×Bool))|0,_=>none|k214+1,v213=>sel (decide (v213<((v144.length:Nat):Int))) (ixn v144 ((v213).toNat) (fun y215=>grd (0≤v213) (grd (v213<((v144.length:Nat):Int)) (sel (y215.1 == y183.1) (sel (y215.2 != y183.2) (some (.inr ([],false))) (M_r33_needs_L2 v144 y183 k214 (IntKind.i64.wrap (v213+1)))) (M_r33_needs_L2 v144 y183 k214 (IntKind.i64.wrap (v213+1))))))) (grd ((v144.length+1)*16≤140737488355328) (some (.inl (v144++[y183]))))
def M_r33_needs_L3 (a0:GOp)(a1:List Fact):Nat→Int→(List Fact)→Option ((List Fact)×Bool)|0,_,_=>none|k145+1,v143,v144=>sel (decide (v143<((a1.map cF).length:Int))) (ob1 (ix a1 v143 (fun y183=>ob1 (M_r33_needs_L1 a0 y183 ((((a0.Effs.map cGEffect).length:Int)).toNat+1) false 0 0:Option (Bool×Int)) (fun(v194,v195)=>ob1 (sel v194 (sel (v195 != y183.2) (some (.inr ([],false))) (some (.inl ()))) (some (.inl ())):Option (Unit⊕((List Fact)×Bool))) (osum (fun _=>sel v194 (some (.inl v144)) (M_r33_needs_L2 v144 y183 ((((v144.length:Nat):Int)).toNat+1) 0)) (fun(r207,r208)=>some (.inr (r207,r208)))))):Option ((List Fact)⊕((List Fact)×Bool))) (osum (fun v179=>M_r33_needs_L3 a0 a1 k145 (IntKind.i64.wrap (v143+1)) v179) (fun(r180,r181)=>some (r180,r181)))) (grd (v144.length≤140737488355328) (some (v144,true)))
def M_r33_needs (a0:GOp)(a1:List Fact):Option ((List Fact)×Bool):=grd ((0+a0.Pre.length)*16≤140737488355328) (M_r33_needs_L3 a0 a1 ((((a1.map cF).length:Int)).toNat+1) 0 a0.Pre)
theorem A_r33_needs (a0:GOp)(a1:List Fact){r1:List Fact}{r2:Bool}(h:M_r33_needs a0 a1=some (r1,r2)):ACall cx 46 [.agg [.c (.string a0.Name),.c (.int .i64 a0.Cost),.sl 2 (a0.Pre.map cF),.sl 3 (a0.Effs.map cGEffect)],.sl 2 (a1.map cF)] (.tup [.sl 2 (r1.map cF),.c (.bool r2)]):=by
 refine aOf Tryz.func46 rfl (by decide) rfl (bT3 rfl) ?_;intro _;unfold M_r33_needs at h;refine aSR ?_;intro _;refine dr_XRef ?_;refine aSR ?_;intro _;obtain⟨q1,h⟩:=grd_ok h;refine pl_XRef ?_;refine And.intro (by first|with_reducible assumption|(show(0+a0.Pre.length)*16≤140737488355328;with_reducible assumption)|omega|(simp;omega)) ?_;refine pe_XRef ?_;refine dr_XRef ?_;refine aSq (aSR ?_);intro _;refine dr_XRef ?_;refine aBk ?_;refine awp_loop (α:=Nat×Int×(List Fact)) (fun x=>mkS 73 [(2,.ptr 2 0 0 0),(6,.own 15 0 0 x.2.2.length),(19,.sl 2 (a1.map cF)),(20,.c (.int .i64 ((a1.map cF).length:Int))),(21,.c (.int .i64 x.2.1))] [(2,⟨60,4,true,[[.c (.string a0.Name),.c (.int .i64 a0.Cost),.sl 2 (a0.Pre.map cF),.sl 3 (a0.Effs.map cGEffect)]]⟩),(15,⟨39,2,false,x.2.2.map cF⟩)]) (fun x=>M_r33_needs_L3 a0 a1 x.1 x.2.1 x.2.2=some (r1,r2)) (fun x=>x.1) ((((a1.map cF).length:Int)).toNat+1,0,a0.Pre) h ?_ ?_
 ·exact ca_XRef
 ·intro x2 h;intro _;obtain⟨k145,m3,h⟩:=succ_of (f:=fun n=>M_r33_needs_L3 a0 a1 n x2.2.1 x2.2.2) rfl h;replace h:M_r33_needs_L3 a0 a1 (k145+1) x2.2.1 x2.2.2=some (r1,r2):=h;rw[M_r33_needs_L3]at h;refine aSR ?_;intro _;refine dr_XRef ?_;refine aSq (aCd ?_);intro _;refine spl h (fun c4 h=>?_) (fun c4 h=>?_)
  ·refine aSk ?_;obtain⟨o5,h,hK6⟩:=ob1_ok h;refine awp_cut (α:=List Fact) (fun v179=>mkS 73 [(2,.ptr 2 0 0 0),(6,.own 15 0 0 v179.length),(19,.sl 2 (a1.map cF)),(20,.c (.int .i64 ((a1.map cF).length:Int))),(21,.c (.int .i64 x2.2.1))] [(2,⟨60,4,true,[[.c (.string a0.Name),.c (.int .i64 a0.Cost),.sl 2 (a0.Pre.map cF),.sl 3 (a0.Effs.map cGEffect)]]⟩),(15,⟨39,2,false,v179.map cF⟩)]) (fun v=>o5=(.inl v)) ?_ ?_
   ·refine aBk (aSR ?_);intro _;obtain⟨y183,w7,q8,h⟩:=ix_ok h;refine Exists.intro (cF y183) (And.intro (map_at' w7) ?_);intro _;refine pr_XRef ?_;refine dr_XRef ?_;refine aSR ?_;intro _;refine dr_XRef ?_;obtain⟨o9,h,hK10⟩:=ob1_ok h;refine awp_cut (α:=Bool×Int) (fun(v194,v195)=>mkS 73 [(2,.ptr 2 0 0 0),(6,.own 15 0 0 x2.2.2.length),(8,.ptr 8 0 0 0),(9,.c (.bool v194)),(10,.c (.int .i64 v195)),(19,.sl 2 (a1.map cF)),(20,.c (.int .i64 ((a1.map cF).length:Int))),(21,.c (.int .i64 x2.2.1))] [(2,⟨60,4,true,[[.c (.string a0.Name),.c (.int .i64 a0.Cost),.sl 2 (a0.Pre.map cF),.sl 3 (a0.Effs.map cGEffect)]]⟩),(8,⟨39,2,true,[[.c (.int .i64 y183.1),.c (.int .i64 y183.2)]]⟩),(15,⟨39,2,false,x2.2.2.map cF⟩)]) (fun v=>o9=v) ?_ ?_
    ·refine aSR ?_;intro _;refine dr_XRef ?_;refine aBk ?_;refine awp_loop (α:=Nat×Bool×Int×Int) (fun x=>mkS 73 [(2,.ptr 2 0 0 0),(6,.own 15 0 0 x2.2.2.length),(8,.ptr 8 0 0 0),(9,.c (.bool x.2.1)),(10,.c (.int .i64 x.2.2.1)),(19,.sl 2 (a1.map cF)),(20,.c (.int .i64 ((a1.map cF).length:Int))),(21,.c (.int .i64 x2.2.1)),(26,.sl 3 (a0.Effs.map cGEffect)),(27,.c (.int .i64 ((a0.Effs.map cGEffect).length:Int))),(28,.c (.int .i64 x.2.2.2))] [(2,⟨60,4,true,[[.c (.string a0.Name),.c (.int .i64 a0.Cost),.sl 2 (a0.Pre.map cF),.sl 3 (a0.Effs.map cGEffect)]]⟩),(8,⟨39,2,true,[[.c (.int .i64 y183.1),.c (.int .i64 y183.2)]]⟩),(15,⟨39,2,false,x2.2.2.map cF⟩)]) (fun x=>M_r33_needs_L1 a0 y183 x.1 x.2.1 x.2.2.1 x.2.2.2=some o9) (fun x=>x.1) ((((a0.Effs.map cGEffect).length:Int)).toNat+1,false,0,0) h ?_ ?_
     ·exact ca_XRef
     ·intro x11 h;intro _;obtain⟨k205,m12,h⟩:=succ_of (f:=fun n=>M_r33_needs_L1 a0 y183 n x11.2.1 x11.2.2.1 x11.2.2.2) rfl h;replace h:M_r33_needs_L1 a0 y183 (k205+1) x11.2.1 x11.2.2.1 x11.2.2.2=some o9:=h;rw[M_r33_needs_L1]at h;refine aSR ?_;intro _;refine dr_XRef ?_;refine aSq (aCd ?_);intro _;refine spl h (fun c13 h=>?_) (fun c13 h=>?_)
      ·refine aSk (aSq (aBk (aSR ?_)));intro _;obtain⟨y206,w14,q15,h⟩:=ix_ok h;refine Exists.intro (cGEffect y206) (And.intro (map_at' w14) ?_);intro _;refine pr_XRef ?_;refine dr_XRef ?_;refine aSR ?_;intro _;refine dr_XRef ?_;refine aCd ?_;intro _;refine spl h (fun c16 h=>?_) (fun c16 h=>?_)
       ·refine aRg ?_;intro _;refine dr_XRef ?_;refine aRg ?_;intro _;refine dr_XRef ?_;refine⟨(k205,true,y206.Val,(IntKind.i64.wrap (x11.2.2.2+1))),h,ltS m12,?_⟩;exact ca_XRef
       ·refine aSk (aRg ?_);intro _;refine dr_XRef ?_;refine⟨(k205,x11.2.1,x11.2.2.1,(IntKind.i64.wrap (x11.2.2.2+1))),h,ltS m12,?_⟩;exact ca_XRef
      ·refine aEx ?_;refine⟨(x11.2.1,x11.2.2.1),(sI_ h).symm,?_⟩;exact ca_XRef
    ·rintro⟨v194,v195⟩ ho;have ho:=ho.symm;subst ho;intro _;replace h:=hK10;obtain⟨o17,h,hK18⟩:=ob1_ok h;refine awp_cut (α:=Unit) (fun _=>mkS 73 [(2,.ptr 2 0 0 0),(6,.own 15 0 0 x2.2.2.length),(8,.ptr 8 0 0 0),(9,.c (.bool v194)),(19,.sl 2 (a1.map cF)),(20,.c (.int .i64 ((a1.map cF).length:Int))),(21,.c (.int .i64 x2.2.1))] [(2,⟨60,4,true,[[.c (.string a0.Name),.c (.int .i64 a0.Cost),.sl 2 (a0.Pre.map cF),.sl 3 (a0.Effs.map cGEffect)]]⟩),(8,⟨39,2,true,[[.c (.int .i64 y183.1),.c (.int .i64 y183.2)]]⟩),(15,⟨39,2,false,x2.2.2.map cF⟩)]) (fun v=>o17=(.inl v)) ?_ ?_
     ·refine aSR ?_;intro _;refine spl h (fun c19 h=>?_) (fun c19 h=>?_)
      ·intro _;refine dr_XRef ?_;refine aCd ?_;intro _;refine spl h (fun c20 h=>?_) (fun c20 h=>?_)
       ·refine aSR ?_;intro _;refine dr_XRef ?_;refine aRt ?_;have j21:=sI_ h;subst j21;replace h:=(osum_r hK18);have j22:=sI_ h;subst j22;replace h:=(osum_r hK6);intro _;obtain⟨rfl,rfl⟩:=inj2 h;exact ca_XRef
       ·refine aSk ?_;refine⟨(),(sI_ h).symm,?_⟩;exact ca_XRef
      ·intro _;refine dr_XRef ?_;refine aCd ?_;intro _;refine litF (aSk ?_);refine⟨(),(sI_ h).symm,?_⟩;exact ca_XRef
     ·rintro _ ho;have ho:=ho.symm;subst ho;intro _;replace h:=(osum_l hK18);refine aSq (aSR ?_);intro _;refine dr_XRef ?_;refine aCd ?_;intro _;refine spl h (fun c23 h=>?_) (fun c23 h=>?_)
      ·refine aEx ?_;refine⟨x2.2.2,(sI_ h).symm,?_⟩;exact ca_XRef
      ·refine aSk (aSq (aSR ?_));intro _;refine dr_XRef ?_;refine aBk ?_;refine awp_loop (α:=Nat×Int) (fun x=>mkS 73 [(2,.ptr 2 0 0 0),(6,.own 15 0 0 x2.2.2.length),(8,.ptr 8 0 0 0),(19,.sl 2 (a1.map cF)),(20,.c (.int .i64 ((a1.map cF).length:Int))),(21,.c (.int .i64 x2.2.1)),(48,.own 15 0 0 x2.2.2.length),(49,.c (.int .i64 ((x2.2.2.length:Nat):Int))),(50,.c (.int .i64 x.2))] [(2,⟨60,4,true,[[.c (.string a0.Name),.c (.int .i64 a0.Cost),.sl 2 (a0.Pre.map cF),.sl 3 (a0.Effs.map cGEffect)]]⟩),(8,⟨39,2,true,[[.c (.int .i64 y183.1),.c (.int .i64 y183.2)]]⟩),(15,⟨39,2,false,x2.2.2.map cF⟩)]) (fun x=>M_r33_needs_L2 x2.2.2 y183 x.1 x.2=some o5) (fun x=>x.1) ((((x2.2.2.length:Nat):Int)).toNat+1,0) h ?_ ?_
       ·exact ca_XRef
       ·intro x24 h;intro _;obtain⟨k214,m25,h⟩:=succ_of (f:=fun n=>M_r33_needs_L2 x2.2.2 y183 n x24.2) rfl h;replace h:M_r33_needs_L2 x2.2.2 y183 (k214+1) x24.2=some o5:=h;rw[M_r33_needs_L2]at h;refine aSR ?_;intro _;refine dr_XRef ?_;refine aSq (aCd ?_);intro _;refine spl h (fun c26 h=>?_) (fun c26 h=>?_)
        ·refine aSk (aSq (aBk (aSR ?_)));intro _;obtain⟨y215,w27,h⟩:=ixn_ok h;refine Exists.intro (cF y215) (And.intro (by first|exact map_at' w27|(have w:=map_at' (f:=cF) w27;simpa [cF,Value.cells] using w)) ?_);intro _;obtain⟨q28,h⟩:=grd_ok h;obtain⟨q29,h⟩:=grd_ok h;refine pr_XRef ?_;refine pr_XRef ?_;refine dr_XRef ?_;refine aSR ?_;intro _;refine spl h (fun c30 h=>?_) (fun c30 h=>?_)
         ·intro _;refine dr_XRef ?_;refine aCd ?_;intro _;refine spl h (fun c31 h=>?_) (fun c31 h=>?_)
          ·refine aSR ?_;intro _;refine dr_XRef ?_;refine aRt ?_;have j32:=sI_ h;subst j32;replace h:=(osum_r hK6);intro _;obtain⟨rfl,rfl⟩:=inj2 h;exact ca_XRef
          ·refine aSk (aRg ?_);intro _;refine dr_XRef ?_;refine⟨(k214,(IntKind.i64.wrap (x24.2+1))),h,ltS m25,?_⟩;exact ca_XRef
         ·intro _;refine dr_XRef ?_;refine aCd ?_;intro _;refine litF (aSk (aRg ?_));intro _;refine dr_XRef ?_;refine⟨(k214,(IntKind.i64.wrap (x24.2+1))),h,ltS m25,?_⟩;exact ca_XRef
        ·refine aEx (aRg ?_);intro _;obtain⟨q33,h⟩:=grd_ok h;refine pl_XRef ?_;refine pl_XRef ?_;refine And.intro (by first|with_reducible assumption|(show(x2.2.2.length+1)*16≤140737488355328;with_reducible assumption)|omega|(simp;omega)) ?_;refine pe_XRef ?_;refine dr_XRef ?_;refine⟨(x2.2.2++[y183]),(sI_ h).symm,?_⟩;exact ca_XRef
   ·rintro v179 ho;have ho:=ho.symm;subst ho;intro _;replace h:=(osum_l hK6);refine aRg ?_;intro _;refine dr_XRef ?_;refine⟨(k145,(IntKind.i64.wrap (x2.2.1+1)),v179),h,ltS m3,?_⟩;exact ca_XRef
  ·refine aEx (aSR ?_);intro _;refine dr_XRef ?_;refine aRt ?_;obtain⟨q34,h⟩:=grd_ok h;intro _;obtain⟨rfl,rfl⟩:=inj2 h;exact ca_XRef
def M_r33_index_L1 (a0:List Int)(a1:Fact):Nat→Int→Int→Option (Int)|0,_,_=>none|k7+1,v5,v6=>sel (decide (v6<a1.1)) (ix a0 v6 (fun y8=>M_r33_index_L1 a0 a1 k7 (IntKind.i64.wrap (v5+y8)) (IntKind.i64.wrap (v6+1)))) (some (IntKind.i64.wrap (v5+a1.2)))
def M_r33_index (a0:List Int)(a1:Fact):Option (Int):=M_r33_index_L1 a0 a1 ((a1.1).toNat+1) 0 0
theorem A_r33_index (a0:List Int)(a1:Fact){r1:Int}(h:M_r33_index a0 a1=some r1):ACall cx 79 [.sl 1 (a0.map cI),.agg [.c (.int .i64 a1.1),.c (.int .i64 a1.2)]] (.c (.int .i64 r1)):=by
 refine aOf Tryz.func79 rfl (by decide) rfl (bT3 rfl) ?_;intro _;unfold M_r33_index at h;refine aSR ?_;intro _;refine dr_XRef ?_;refine aSR ?_;intro _;refine dr_XRef ?_;refine aSq (aSR ?_);intro _;refine dr_XRef ?_;refine aBk ?_;refine awp_loop (α:=Nat×Int×Int) (fun x=>mkS 23 [(0,.sl 1 (a0.map cI)),(3,.ptr 3 0 0 0),(5,.c (.int .i64 x.2.1)),(8,.c (.int .i64 a1.1)),(9,.c (.int .i64 x.2.2))] [(3,⟨39,2,true,[[.c (.int .i64 a1.1),.c (.int .i64 a1.2)]]⟩)]) (fun x=>M_r33_index_L1 a0 a1 x.1 x.2.1 x.2.2=some r1) (fun x=>x.1) ((a1.1).toNat+1,0,0) h ?_ ?_
 ·exact ca_XRef
 ·intro x1 h;intro _;obtain⟨k7,m2,h⟩:=succ_of (f:=fun n=>M_r33_index_L1 a0 a1 n x1.2.1 x1.2.2) rfl h;replace h:M_r33_index_L1 a0 a1 (k7+1) x1.2.1 x1.2.2=some r1:=h;rw[M_r33_index_L1]at h;refine aSR ?_;intro _;refine dr_XRef ?_;refine aSq (aCd ?_);intro _;refine spl h (fun c3 h=>?_) (fun c3 h=>?_)
  ·refine aSk (aSq (aBk (aSR ?_)));intro _;refine dr_XRef ?_;refine aRg ?_;intro _;obtain⟨y8,w4,q5,h⟩:=ix_ok h;refine Exists.intro (cI y8) (And.intro (map_at' w4) ?_);intro _;refine pr_XRef ?_;refine dr_XRef ?_;refine aRg ?_;intro _;refine dr_XRef ?_;refine⟨(k7,(IntKind.i64.wrap (x1.2.1+y8)),(IntKind.i64.wrap (x1.2.2+1))),h,ltS m2,?_⟩;exact ca_XRef
  ·refine aEx (aSR ?_);intro _;refine dr_XRef ?_;refine aRt ?_;intro _;obtain rfl:=inj1 h;exact ca_XRef
def M_r33_all_L1 (a0:List Int)(a1:List (List Bool))(a2:List Fact)(y105:Fact):Nat→Int→Option (Unit⊕Bool)|0,_=>none|k118+1,v117=>sel (decide (v117<((a2.map cF).length:Int))) (ix a2 v117 (fun y119=>ob1 (M_r33_index a0 y105) (fun z120=>ix a1 z120 (fun y121=>ob1 (M_r33_index a0 y119) (fun z122=>ix y121 z122 (fun y123=>sel (!y123) (some (.inr false)) (M_r33_all_L1 a0 a1 a2 y105 k118 (IntKind.i64.wrap (v117+1))))))))) (some (.inl ()))
def M_r33_all_L2 (a0:List Int)(a1:List (List Bool))(a2:List Fact):Nat→Int→Option (Bool)|0,_=>none|k83+1,v82=>sel (decide (v82<((a2.map cF).length:Int))) (ob1 (ix a2 v82 (fun y105=>M_r33_all_L1 a0 a1 a2 y105 ((((a2.map cF).length:Int)).toNat+1) 0):Option (Unit⊕Bool)) (osum (fun _=>M_r33_all_L2 a0 a1 a2 k83 (IntKind.i64.wrap (v82+1))) (fun r103=>some r103))) (some true)
def M_r33_all (a0:List Int)(a1:List (List Bool))(a2:List Fact):Option (Bool):=M_r33_all_L2 a0 a1 a2 ((((a2.map cF).length:Int)).toNat+1) 0
theorem A_r33_all (a0:List Int)(a1:List (List Bool))(a2:List Fact){r1:Bool}(h:M_r33_all a0 a1 a2=some r1):ACall cx 47 [.sl 1 (a0.map cI),.sl 1 (a1.map cL_cB),.sl 2 (a2.map cF)] (.c (.bool r1)):=by
 refine aOf Tryz.func47 rfl (by decide) rfl (bT3 rfl) ?_;intro _;unfold M_r33_all at h;refine aSR ?_;intro _;refine dr_XRef ?_;refine aSq (aSR ?_);intro _;refine dr_XRef ?_;refine aBk ?_;refine awp_loop (α:=Nat×Int) (fun x=>mkS 37 [(0,.sl 1 (a0.map cI)),(1,.sl 1 (a1.map cL_cB)),(2,.sl 2 (a2.map cF)),(11,.sl 2 (a2.map cF)),(12,.c (.int .i64 ((a2.map cF).length:Int))),(13,.c (.int .i64 x.2))] []) (fun x=>M_r33_all_L2 a0 a1 a2 x.1 x.2=some r1) (fun x=>x.1) ((((a2.map cF).length:Int)).toNat+1,0) h ?_ ?_
 ·exact ca_XRef
 ·intro x1 h;intro _;obtain⟨k83,m2,h⟩:=succ_of (f:=fun n=>M_r33_all_L2 a0 a1 a2 n x1.2) rfl h;replace h:M_r33_all_L2 a0 a1 a2 (k83+1) x1.2=some r1:=h;rw[M_r33_all_L2]at h;refine aSR ?_;intro _;refine dr_XRef ?_;refine aSq (aCd ?_);intro _;refine spl h (fun c3 h=>?_) (fun c3 h=>?_)
  ·refine aSk ?_;obtain⟨o4,h,hK5⟩:=ob1_ok h;refine awp_cut (α:=Unit) (fun _=>mkS 37 [(0,.sl 1 (a0.map cI)),(1,.sl 1 (a1.map cL_cB)),(2,.sl 2 (a2.map cF)),(11,.sl 2 (a2.map cF)),(12,.c (.int .i64 ((a2.map cF).length:Int))),(13,.c (.int .i64 x1.2))] []) (fun v=>o4=(.inl v)) ?_ ?_
   ·refine aBk (aSR ?_);intro _;obtain⟨y105,w6,q7,h⟩:=ix_ok h;refine Exists.intro (cF y105) (And.intro (map_at' w6) ?_);intro _;refine pr_XRef ?_;refine dr_XRef ?_;refine aSR ?_;intro _;refine dr_XRef ?_;refine aBk ?_;refine awp_loop (α:=Nat×Int) (fun x=>mkS 37 [(0,.sl 1 (a0.map cI)),(1,.sl 1 (a1.map cL_cB)),(2,.sl 2 (a2.map cF)),(8,.ptr 8 0 0 0),(11,.sl 2 (a2.map cF)),(12,.c (.int .i64 ((a2.map cF).length:Int))),(13,.c (.int .i64 x1.2)),(17,.sl 2 (a2.map cF)),(18,.c (.int .i64 ((a2.map cF).length:Int))),(19,.c (.int .i64 x.2))] [(8,⟨39,2,true,[[.c (.int .i64 y105.1),.c (.int .i64 y105.2)]]⟩)]) (fun x=>M_r33_all_L1 a0 a1 a2 y105 x.1 x.2=some o4) (fun x=>x.1) ((((a2.map cF).length:Int)).toNat+1,0) h ?_ ?_
    ·exact ca_XRef
    ·intro x8 h;intro _;obtain⟨k118,m9,h⟩:=succ_of (f:=fun n=>M_r33_all_L1 a0 a1 a2 y105 n x8.2) rfl h;replace h:M_r33_all_L1 a0 a1 a2 y105 (k118+1) x8.2=some o4:=h;rw[M_r33_all_L1]at h;refine aSR ?_;intro _;refine dr_XRef ?_;refine aSq (aCd ?_);intro _;refine spl h (fun c10 h=>?_) (fun c10 h=>?_)
     ·refine aSk (aSq (aBk (aSR ?_)));intro _;obtain⟨y119,w11,q12,h⟩:=ix_ok h;refine Exists.intro (cF y119) (And.intro (map_at' w11) ?_);intro _;refine pr_XRef ?_;refine dr_XRef ?_;refine aSR ?_;intro _;obtain⟨z120,u13,h⟩:=ob1_ok h;refine cl_XRef rfl (A_r33_index a0 y105 u13) ?_;intro _;obtain⟨y121,w14,q15,h⟩:=ix_ok h;refine Exists.intro (cL_cB y121) (And.intro (map_at' w14) ?_);intro _;obtain⟨z122,u16,h⟩:=ob1_ok h;refine cl_XRef rfl (A_r33_index a0 y119 u16) ?_;intro _;obtain⟨y123,w17,q18,h⟩:=ix_ok h;refine Exists.intro (cB y123) (And.intro (map_at' w17) ?_);intro _;refine pr_XRef ?_;refine pr_XRef ?_;refine dr_XRef ?_;refine aCd ?_;intro _;refine spl h (fun c19 h=>?_) (fun c19 h=>?_)
      ·refine aSR ?_;intro _;refine dr_XRef ?_;refine aRt ?_;have j20:=sI_ h;subst j20;replace h:=(osum_r hK5);intro _;obtain rfl:=inj1 h;exact ca_XRef
      ·refine aSk (aRg ?_);intro _;refine dr_XRef ?_;refine⟨(k118,(IntKind.i64.wrap (x8.2+1))),h,ltS m9,?_⟩;exact ca_XRef
     ·refine aEx ?_;refine⟨(),(sI_ h).symm,?_⟩;exact ca_XRef
   ·rintro _ ho;have ho:=ho.symm;subst ho;intro _;replace h:=(osum_l hK5);refine aRg ?_;intro _;refine dr_XRef ?_;refine⟨(k83,(IntKind.i64.wrap (x1.2+1))),h,ltS m2,?_⟩;exact ca_XRef
  ·refine aEx (aSR ?_);intro _;refine dr_XRef ?_;refine aRt ?_;intro _;obtain rfl:=inj1 h;exact ca_XRef
def put2 (R:List (List Bool))(j i:Int):List (List Bool):=setR (setR R i.toNat j.toNat) j.toNat i.toNat
def M_r33_New_L1 (a0:GTask)(v172:List (List Bool))(y191:Fact)(z1:List Fact):Nat→Int→(List Bool)→Option (List (List Bool))|0,_,_=>none|k202+1,v200,v201=>sel (decide (v200<((z1.map cF).length:Int))) (ix z1 v200 (fun y203=>ob1 (M_b_Holds [y191,y203] a0.Init) (fun z204=>ixn v201 ((v200).toNat) (fun _=>grd (v200<((v201.length:Nat):Int)) (M_r33_New_L1 a0 v172 y191 z1 k202 (IntKind.i64.wrap (v200+1)) (v201.set ((v200).toNat) z204)))))) (grd ((v172.length+1)*24≤140737488355328) (grd (v201.length≤140737488355328) (some (v172++[v201]))))
def M_r33_New_L2 (a0:GTask)(z1:List Fact):Nat→Int→(List (List Bool))→Option (List (List Bool))|0,_,_=>none|k173+1,v171,v172=>sel (decide (v171<((z1.map cF).length:Int))) (ob1 (ix z1 v171 (fun y191=>grd (0≤((z1.map cF).length:Int)) (grd (((z1.map cF).length:Int)*1≤140737488355328) (M_r33_New_L1 a0 v172 y191 z1 ((((z1.map cF).length:Int)).toNat+1) 0 (List.replicate ((z1.map cF).length:Int).toNat false)))):Option (List (List Bool))) (fun v189=>M_r33_New_L2 a0 z1 k173 (IntKind.i64.wrap (v171+1)) v189)) (grd (v172.length≤140737488355328) (some v172))
def M_r33_New_L3 (a0:GTask)(v9228:Int)(v9672:Int)(y9497:Fact)(y9719:Fact):Nat→Bool→Int→(List (List Bool))→Option (Bool×(List (List Bool)))|0,_,_,_=>none|k9750+1,v9747,v9748,v9749=>sel (decide (v9748<((a0.Ops.map cGOp).length:Int))) (ix a0.Ops v9748 (fun y9751=>ob2 (M_r33_needs y9751 [y9497,y9719]) (fun z9752 z9753=>ob1 (sel z9753 (grd (v9749.length≤140737488355328) (ob1 (M_r33_all a0.Vars v9749 z9752) (fun z9757=>some z9757))) (some false):Option (Bool)) (fun v9755=>sel v9755 (ixn v9749 ((v9228).toNat) (fun yr1=>ixn v9749 ((v9672).toNat) (fun yr2=>grd (0≤v9228) (grd (v9228<((v9749.length:Nat):Int)) (grd (0≤v9672) (grd (v9672<((v9749.length:Nat):Int)) (grd (v9672.toNat<yr1.length) (grd (v9228.toNat<yr2.length) (M_r33_New_L3 a0 v9228 v9672 y9497 y9719 k9750 true (IntKind.i64.wrap (v9748+1)) (put2 v9749 v9672 v9228)))))))))) (M_r33_New_L3 a0 v9228 v9672 y9497 y9719 k9750 v9747 (IntKind.i64.wrap (v9748+1)) v9749))))) (some (v9747,v9749))
def M_r33_New_L4 (a0:GTask)(v9228:Int)(y9497:Fact)(z1:List Fact):Nat→Bool→Int→(List (List Bool))→Option (Bool×(List (List Bool)))|0,_,_,_=>none|k9674+1,v9671,v9672,v9673=>sel (decide (v9672<((z1.map cF).length:Int))) (ob1 (ix z1 v9672 (fun y9719=>ob1 (grd (0≤v9228) (ixn v9673 ((v9228).toNat) (fun y9724=>ix y9724 v9672 (fun y9725=>sel y9725 (grd (0≤v9228) (grd (v9228<((v9673.length:Nat):Int)) (some (.inr ())))) (sel (y9497.1 == y9719.1) (grd (0≤v9228) (grd (v9228<((v9673.length:Nat):Int)) (sel (v9228 != v9672) (some (.inr ())) (some (.inl (v9228 != v9672)))))) (grd (0≤v9228) (grd (v9228<((v9673.length:Nat):Int)) (some (.inl false)))))))):Option (Bool⊕Unit)) (osum (fun _=>M_r33_New_L3 a0 v9228 v9672 y9497 y9719 ((((a0.Ops.map cGOp).length:Int)).toNat+1) v9671 0 v9673) (fun _=>some (v9671,v9673)))):Option (Bool×(List (List Bool)))) (fun(v9716,v9717)=>M_r33_New_L4 a0 v9228 y9497 z1 k9674 v9716 (IntKind.i64.wrap (v9672+1)) v9717)) (some (v9671,v9673))
def M_r33_New_L5 (a0:GTask)(z1:List Fact):Nat→Bool→Int→(List (List Bool))→Option (Bool×(List (List Bool)))|0,_,_,_=>none|k9230+1,v9227,v9228,v9229=>sel (decide (v9228<((z1.map cF).length:Int))) (ob1 (ix z1 v9228 (fun y9497=>M_r33_New_L4 a0 v9228 y9497 z1 ((((z1.map cF).length:Int)).toNat+1) v9227 0 v9229):Option (Bool×(List (List Bool)))) (fun(v9494,v9495)=>M_r33_New_L5 a0 z1 k9230 v9494 (IntKind.i64.wrap (v9228+1)) v9495)) (some (v9227,v9229))
def M_r33_New_L6 (a0:GTask)(z1:List Fact):Nat→Bool→(List (List Bool))→Option (List (List Bool))|0,_,_=>none|k6576+1,v6574,v6575=>sel v6574 (ob1 (M_r33_New_L5 a0 z1 ((((z1.map cF).length:Int)).toNat+1) false 0 v6575:Option (Bool×(List (List Bool)))) (fun(v8167,v8168)=>M_r33_New_L6 a0 z1 k6576 v8167 v8168)) (grd (v6575.length≤140737488355328) (some v6575))
def M_r33_New (g:Nat)(a0:GTask):Option (List (List Bool)):=ob1 (M_r33_Facts a0.Vars) (fun z1=>ob1 (M_r33_New_L2 a0 z1 ((((z1.map cF).length:Int)).toNat+1) 0 []:Option (List (List Bool))) (fun v103=>M_r33_New_L6 a0 z1 g true v103))
theorem A_r33_New (g:Nat)(a0:GTask){r1:List (List Bool)}(h:M_r33_New g a0=some r1):ACall cx 14 [.agg [.sl 1 (a0.Vars.map cI),.sl 1 (a0.Init.map cI),.sl 2 (a0.Goal.map cF),.sl 4 (a0.Ops.map cGOp)]] (.sl 1 (r1.map cL_cB)):=by
 refine acall_ofL Tryz.func14 rfl (by decide) rfl (bT3 rfl) (fun lo=>?_);intro _;unfold M_r33_New at h;refine aSR ?_;intro _;refine dr_XRef ?_;refine aSR ?_;intro _;obtain⟨z1,u1,h⟩:=ob1_ok h;refine cl_XRef rfl (A_r33_Facts a0.Vars u1) ?_;intro _;refine dr_XRef ?_;refine aSR ?_;intro _;refine dr_XRef ?_;obtain⟨o2,h,hK3⟩:=ob1_ok h;refine awp_cut (α:=Tab) (fun v103=>mkS 127 [(1,.ptr 1 0 0 0),(3,.sl 2 (z1.map cF)),(4,.sl 1 (rwT lo 4 v103))] [(1,⟨26,4,true,[[.sl 1 (a0.Vars.map cI),.sl 1 (a0.Init.map cI),.sl 2 (a0.Goal.map cF),.sl 4 (a0.Ops.map cGOp)]]⟩)]) (fun v=>o2=v.map (·.2)∧((v).map (·.1)).Nodup) ?_ ?_
 ·refine aSR ?_;intro _;refine dr_XRef ?_;refine aBk ?_;refine awp_loop (α:=Nat×Int×Tab) (fun x=>mkS 127 [(1,.ptr 1 0 0 0),(3,.sl 2 (z1.map cF)),(4,.own 22 0 0 x.2.2.length),(23,.sl 2 (z1.map cF)),(24,.c (.int .i64 ((z1.map cF).length:Int))),(25,.c (.int .i64 x.2.1))] [(1,⟨26,4,true,[[.sl 1 (a0.Vars.map cI),.sl 1 (a0.Init.map cI),.sl 2 (a0.Goal.map cF),.sl 4 (a0.Ops.map cGOp)]]⟩),(22,⟨41,1,false,rwT lo 4 x.2.2⟩)]) (fun x=>M_r33_New_L2 a0 z1 x.1 x.2.1 (x.2.2.map (·.2))=some o2∧((x.2.2).map (·.1)).Nodup) (fun x=>x.1) ((((z1.map cF).length:Int)).toNat+1,0,[]) ⟨h,List.nodup_nil⟩ ?_ ?_
  ·exact ca_XRef
  ·intro x4 ⟨h,nx4⟩;intro _;obtain⟨k173,m5,h⟩:=succ_of (f:=fun n=>M_r33_New_L2 a0 z1 n x4.2.1 (x4.2.2.map (·.2))) rfl h;replace h:M_r33_New_L2 a0 z1 (k173+1) x4.2.1 (x4.2.2.map (·.2))=some o2:=h;rw[M_r33_New_L2]at h;refine aSR ?_;intro _;refine dr_XRef ?_;refine aSq (aCd ?_);intro _;refine spl h (fun c6 h=>?_) (fun c6 h=>?_)
   ·refine aSk ?_;obtain⟨o7,h,hK8⟩:=ob1_ok h;refine awp_cut (α:=Tab) (fun v189=>mkS 127 [(1,.ptr 1 0 0 0),(3,.sl 2 (z1.map cF)),(4,.own 22 0 0 v189.length),(23,.sl 2 (z1.map cF)),(24,.c (.int .i64 ((z1.map cF).length:Int))),(25,.c (.int .i64 x4.2.1))] [(1,⟨26,4,true,[[.sl 1 (a0.Vars.map cI),.sl 1 (a0.Init.map cI),.sl 2 (a0.Goal.map cF),.sl 4 (a0.Ops.map cGOp)]]⟩),(22,⟨41,1,false,rwT lo 4 v189⟩)]) (fun v=>o7=v.map (·.2)∧((v).map (·.1)).Nodup) ?_ ?_
    ·refine aBk (aSR ?_);intro _;obtain⟨y191,w9,q10,h⟩:=ix_ok h;refine Exists.intro (cF y191) (And.intro (map_at' w9) ?_);intro _;refine pr_XRef ?_;refine dr_XRef ?_;refine aSR ?_;intro _;obtain⟨q11,h⟩:=grd_ok h;obtain⟨q12,h⟩:=grd_ok h;refine⟨_,lf_makeX rfl rfl (bT3 rfl) (tyTab_ok 41 _ rfl) rfl (tyTab_ok 4 _ rfl) rfl rfl rfl q11 (by show _*(1:Int)≤_;omega) (by omega) rfl (by simp only[Value.cells];simp[Value.oneCell']) (by decide),?_⟩;intro _;refine dr_XRef ?_;refine awp_revealS (lo:=lo) (T:=x4.2.2) 31 22 7 (fun w0 X h=>h) rfl rfl rfl (by decide) (bT3 rfl) (fun b hb=>?_);intro _;refine aSq (aSR ?_);intro _;refine dr_XRef ?_;refine aBk ?_;refine awp_loop (α:=Nat×Int×(List Bool)) (fun x=>mkS 127 [(1,.ptr 1 0 0 0),(3,.sl 2 (z1.map cF)),(4,.own 22 0 0 x4.2.2.length),(6,.ptr 6 0 0 0),(7,.rowb lo 4 b x.2.2),(23,.sl 2 (z1.map cF)),(24,.c (.int .i64 ((z1.map cF).length:Int))),(25,.c (.int .i64 x4.2.1)),(32,.sl 2 (z1.map cF)),(33,.c (.int .i64 ((z1.map cF).length:Int))),(34,.c (.int .i64 x.2.1))] [(1,⟨26,4,true,[[.sl 1 (a0.Vars.map cI),.sl 1 (a0.Init.map cI),.sl 2 (a0.Goal.map cF),.sl 4 (a0.Ops.map cGOp)]]⟩),(6,⟨39,2,true,[[.c (.int .i64 y191.1),.c (.int .i64 y191.2)]]⟩),(22,⟨41,1,false,rwT lo 4 x4.2.2⟩)]) (fun x=>M_r33_New_L1 a0 (x4.2.2.map (·.2)) y191 z1 x.1 x.2.1 x.2.2=some o7) (fun x=>x.1) ((((z1.map cF).length:Int)).toNat+1,0,(List.replicate ((z1.map cF).length:Int).toNat false)) h ?_ ?_
     ·exact ca_XRef
     ·intro x13 h;intro _;obtain⟨k202,m14,h⟩:=succ_of (f:=fun n=>M_r33_New_L1 a0 (x4.2.2.map (·.2)) y191 z1 n x13.2.1 x13.2.2) rfl h;replace h:M_r33_New_L1 a0 (x4.2.2.map (·.2)) y191 z1 (k202+1) x13.2.1 x13.2.2=some o7:=h;rw[M_r33_New_L1]at h;refine aSR ?_;intro _;refine dr_XRef ?_;refine aSq (aCd ?_);intro _;refine spl h (fun c15 h=>?_) (fun c15 h=>?_)
      ·refine aSk (aSq (aBk (aSR ?_)));intro _;obtain⟨y203,w16,q17,h⟩:=ix_ok h;refine Exists.intro (cF y203) (And.intro (map_at' w16) ?_);intro _;refine pr_XRef ?_;refine dr_XRef ?_;refine awp_regionS [8] 9 rfl ?_;intro _;obtain⟨z204,u18,h⟩:=ob1_ok h;refine clb_XRef [43] rfl rfl (A_b_Holds [y191,y203] a0.Init u18) ?_;(try intro _);obtain⟨y205,w19,h⟩:=ixn_ok h;obtain⟨q20,h⟩:=grd_ok h;have hlt:=(gS_.1 w19).1;(try intro _);refine⟨rfl,_,lf_rowAt rfl (bT3 rfl) rfl rfl (tyTab_ok 41 _ rfl) rfl (tyTab_ok 4 _ rfl) rfl (by assumption) (by omega),?_⟩;(try intro _);refine And.intro (by intro h;first|(cases h;done)|exact⟨by kernel_rfl,by kernel_rfl,by kernel_rfl⟩) ?_;intro w0 X m a w hr;have hpw:w0.heap.size=lo∧∀ b,¬ X.X b:=hr.pw;refine rowStore (t0:=39) (lo:=lo) (b:=b) (r:=x13.2.2) (j:=(x13.2.1).toNat) (c:=z204) (tm':=mkT 0 127 [(1,.ptr 1 0 0 0),(3,.sl 2 (z1.map cF)),(4,.own 22 0 0 x4.2.2.length),(6,.ptr 6 0 0 0),(7,.rowb lo 4 b (x13.2.2.set (x13.2.1).toNat z204)),(23,.sl 2 (z1.map cF)),(24,.c (.int .i64 ((z1.map cF).length:Int))),(25,.c (.int .i64 x4.2.1)),(32,.sl 2 (z1.map cF)),(33,.c (.int .i64 ((z1.map cF).length:Int))),(34,.c (.int .i64 x13.2.1))]) rfl rfl hr rfl rfl rfl rfl (tyTab_ok 4 _ rfl) rfl rfl rfl hlt hpw.1 rfl (USL.at_ ?_) ?_ rfl (fun w' hr'=>?_)
       ·repeat (first|exact USL.nil|refine USL.cons US.dead ?_|refine USL.cons US.c ?_|refine USL.cons (.ub (ub_cF _)) ?_|refine USL.cons (.ub .ptr) ?_|refine USL.cons (.ub .own) ?_|refine USL.cons (.ub (.row (mI_.2 rfl))) ?_)
       ·repeat (first|exact UHL.nil|refine UHL.none ?_|refine UHL.some (by first|exact us_box|exact us_two|exact us_four|exact us_rows hb) ?_)
       refine⟨⟨mkT 0 127 [(1,.ptr 1 0 0 0),(3,.sl 2 (z1.map cF)),(4,.own 22 0 0 x4.2.2.length),(6,.ptr 6 0 0 0),(7,.rowb lo 4 b (x13.2.2.set (x13.2.1).toNat z204)),(23,.sl 2 (z1.map cF)),(24,.c (.int .i64 ((z1.map cF).length:Int))),(25,.c (.int .i64 x4.2.1)),(32,.sl 2 (z1.map cF)),(33,.c (.int .i64 ((z1.map cF).length:Int))),(34,.c (.int .i64 x13.2.1))],_⟩,m,rfl,?_,hr'⟩;refine awp_wk (mkS 127 [(1,.ptr 1 0 0 0),(3,.sl 2 (z1.map cF)),(4,.own 22 0 0 x4.2.2.length),(6,.ptr 6 0 0 0),(7,.rowb lo 4 b (x13.2.2.set (x13.2.1).toNat z204)),(23,.sl 2 (z1.map cF)),(24,.c (.int .i64 ((z1.map cF).length:Int))),(25,.c (.int .i64 x4.2.1)),(32,.sl 2 (z1.map cF)),(33,.c (.int .i64 ((z1.map cF).length:Int))),(34,.c (.int .i64 x13.2.1))] [(1,⟨26,4,true,[[.sl 1 (a0.Vars.map cI),.sl 1 (a0.Init.map cI),.sl 2 (a0.Goal.map cF),.sl 4 (a0.Ops.map cGOp)]]⟩),(6,⟨39,2,true,[[.c (.int .i64 y191.1),.c (.int .i64 y191.2)]]⟩),(22,⟨41,1,false,rwT lo 4 x4.2.2⟩)]) ?_ ?_
       ·exact ca_XRef
       intro _;refine aRg ?_;intro _;refine dr_XRef ?_;refine⟨(k202,(IntKind.i64.wrap (x13.2.1+1)),(x13.2.2.set ((x13.2.1).toNat) z204)),h,ltS m14,?_⟩;exact ca_XRef
      ·refine aEx (aRg ?_);intro _;obtain⟨q21,h⟩:=grd_ok h;refine pl_XRef ?_;refine pl_XRef ?_;refine And.intro (by first|with_reducible assumption|(rw[lM_]at q21;omega)|omega|(simp;omega)) ?_;refine pe_XRef ?_;refine dr_XRef ?_;obtain⟨q22,h⟩:=grd_ok h;refine⟨(x4.2.2++[(b,x13.2.2)]),⟨by rw[List.map_append];exact(sI_ h).symm,by rw[List.map_append,List.nodup_append];exact⟨nx4,by simp,by intro a ha c hc;simp at hc;subst hc;intro e;subst e;exact hb ha⟩⟩,?_⟩;repeat (first|exact True.intro|refine And.intro (RowK.same (by rw[rwT_app];rfl) FrI.h) ?_|refine ci_XRef ?_)
    ·rintro Tv189 ⟨hov189,nv189⟩;intro _;replace h:=hK8;refine aRg ?_;intro _;refine dr_XRef ?_;refine⟨(k173,(IntKind.i64.wrap (x4.2.1+1)),Tv189),⟨by rw[← hov189];exact h,nv189⟩,ltS m5,?_⟩;exact ca_XRef
   ·refine aEx ?_;obtain⟨qex,h⟩:=grd_ok h;rw[lM_]at qex;refine⟨x4.2.2,⟨(sI_ h).symm,nx4⟩,?_⟩;repeat (first|exact True.intro|refine And.intro (bw_own3 rfl rfl rfl FrI.h (bwll_same rfl FrI.h) (by rw[rwT_len]) qex) ?_|refine ci_XRef ?_)
 ·rintro Tv103 ⟨hov103,nv103⟩;intro _;replace h:=hK3;refine aSq (aSR ?_);intro _;refine dr_XRef ?_;refine aBk ?_;refine awp_loop (α:=Nat×Bool×Tab) (fun x=>mkS 127 [(1,.ptr 1 0 0 0),(3,.sl 2 (z1.map cF)),(4,.sl 1 (rwT lo 4 x.2.2)),(10,.c (.bool x.2.1))] [(1,⟨26,4,true,[[.sl 1 (a0.Vars.map cI),.sl 1 (a0.Init.map cI),.sl 2 (a0.Goal.map cF),.sl 4 (a0.Ops.map cGOp)]]⟩)]) (fun x=>M_r33_New_L6 a0 z1 x.1 x.2.1 (x.2.2.map (·.2))=some r1∧((x.2.2).map (·.1)).Nodup) (fun x=>x.1) (g,true,Tv103) ⟨by rw[← hov103];exact h,nv103⟩ ?_ ?_
  ·exact ca_XRef
  ·intro x23 ⟨h,nx23⟩;intro _;obtain⟨k6576,m24,h⟩:=succ_of (f:=fun n=>M_r33_New_L6 a0 z1 n x23.2.1 (x23.2.2.map (·.2))) rfl h;replace h:M_r33_New_L6 a0 z1 (k6576+1) x23.2.1 (x23.2.2.map (·.2))=some r1:=h;rw[M_r33_New_L6]at h;refine aSq (aSR ?_);intro _;refine dr_XRef ?_;refine aCd ?_;intro _;refine spl h (fun c25 h=>?_) (fun c25 h=>?_)
   ·refine aSk (aBk (aSR ?_));intro _;refine dr_XRef ?_;refine aSR ?_;intro _;refine dr_XRef ?_;obtain⟨o26,h,hK27⟩:=ob1_ok h;refine awp_cutT (α:=Bool×Tab) (fun(v8167,v8168)=>mkS 127 [(1,.ptr 1 0 0 0),(3,.sl 2 (z1.map cF)),(4,.sl 1 (rwT lo 4 v8168)),(10,.c (.bool v8167))] [(1,⟨26,4,true,[[.sl 1 (a0.Vars.map cI),.sl 1 (a0.Init.map cI),.sl 2 (a0.Goal.map cF),.sl 4 (a0.Ops.map cGOp)]]⟩)]) (fun v=>o26=(v.1,v.2.map (·.2))∧((v.2).map (·.1)).Nodup) ?_ ?_
    ·refine aBk ?_;refine awp_loop (α:=Nat×Bool×Int×Tab) (fun x=>mkS 127 [(1,.ptr 1 0 0 0),(3,.sl 2 (z1.map cF)),(4,.sl 1 (rwT lo 4 x.2.2.2)),(10,.c (.bool x.2.1)),(55,.sl 2 (z1.map cF)),(56,.c (.int .i64 ((z1.map cF).length:Int))),(57,.c (.int .i64 x.2.2.1))] [(1,⟨26,4,true,[[.sl 1 (a0.Vars.map cI),.sl 1 (a0.Init.map cI),.sl 2 (a0.Goal.map cF),.sl 4 (a0.Ops.map cGOp)]]⟩)]) (fun x=>M_r33_New_L5 a0 z1 x.1 x.2.1 x.2.2.1 (x.2.2.2.map (·.2))=some o26∧((x.2.2.2).map (·.1)).Nodup) (fun x=>x.1) ((((z1.map cF).length:Int)).toNat+1,false,0,x23.2.2) ⟨h,nx23⟩ ?_ ?_
     ·exact ca_XRef
     ·intro x28 ⟨h,nx28⟩;intro _;obtain⟨k9230,m29,h⟩:=succ_of (f:=fun n=>M_r33_New_L5 a0 z1 n x28.2.1 x28.2.2.1 (x28.2.2.2.map (·.2))) rfl h;replace h:M_r33_New_L5 a0 z1 (k9230+1) x28.2.1 x28.2.2.1 (x28.2.2.2.map (·.2))=some o26:=h;rw[M_r33_New_L5]at h;refine aSR ?_;intro _;refine dr_XRef ?_;refine aSq (aCd ?_);intro _;refine spl h (fun c30 h=>?_) (fun c30 h=>?_)
      ·refine aSk ?_;obtain⟨o31,h,hK32⟩:=ob1_ok h;refine awp_cut (α:=Bool×Tab) (fun(v9494,v9495)=>mkS 127 [(1,.ptr 1 0 0 0),(3,.sl 2 (z1.map cF)),(4,.sl 1 (rwT lo 4 v9495)),(10,.c (.bool v9494)),(55,.sl 2 (z1.map cF)),(56,.c (.int .i64 ((z1.map cF).length:Int))),(57,.c (.int .i64 x28.2.2.1))] [(1,⟨26,4,true,[[.sl 1 (a0.Vars.map cI),.sl 1 (a0.Init.map cI),.sl 2 (a0.Goal.map cF),.sl 4 (a0.Ops.map cGOp)]]⟩)]) (fun v=>o31=(v.1,v.2.map (·.2))∧((v.2).map (·.1)).Nodup) ?_ ?_
       ·refine aBk (aSR ?_);intro _;obtain⟨y9497,w33,q34,h⟩:=ix_ok h;refine Exists.intro (cF y9497) (And.intro (map_at' w33) ?_);intro _;refine pr_XRef ?_;refine dr_XRef ?_;refine aSR ?_;intro _;refine dr_XRef ?_;refine aBk ?_;refine awp_loop (α:=Nat×Bool×Int×Tab) (fun x=>mkS 127 [(1,.ptr 1 0 0 0),(3,.sl 2 (z1.map cF)),(4,.sl 1 (rwT lo 4 x.2.2.2)),(10,.c (.bool x.2.1)),(11,.c (.int .i64 x28.2.2.1)),(12,.ptr 12 0 0 0),(55,.sl 2 (z1.map cF)),(56,.c (.int .i64 ((z1.map cF).length:Int))),(57,.c (.int .i64 x28.2.2.1)),(62,.sl 2 (z1.map cF)),(63,.c (.int .i64 ((z1.map cF).length:Int))),(64,.c (.int .i64 x.2.2.1))] [(1,⟨26,4,true,[[.sl 1 (a0.Vars.map cI),.sl 1 (a0.Init.map cI),.sl 2 (a0.Goal.map cF),.sl 4 (a0.Ops.map cGOp)]]⟩),(12,⟨39,2,true,[[.c (.int .i64 y9497.1),.c (.int .i64 y9497.2)]]⟩)]) (fun x=>M_r33_New_L4 a0 x28.2.2.1 y9497 z1 x.1 x.2.1 x.2.2.1 (x.2.2.2.map (·.2))=some o31∧((x.2.2.2).map (·.1)).Nodup) (fun x=>x.1) ((((z1.map cF).length:Int)).toNat+1,x28.2.1,0,x28.2.2.2) ⟨h,nx28⟩ ?_ ?_
        ·exact ca_XRef
        ·intro x35 ⟨h,nx35⟩;intro _;obtain⟨k9674,m36,h⟩:=succ_of (f:=fun n=>M_r33_New_L4 a0 x28.2.2.1 y9497 z1 n x35.2.1 x35.2.2.1 (x35.2.2.2.map (·.2))) rfl h;replace h:M_r33_New_L4 a0 x28.2.2.1 y9497 z1 (k9674+1) x35.2.1 x35.2.2.1 (x35.2.2.2.map (·.2))=some o31:=h;rw[M_r33_New_L4]at h;refine aSR ?_;intro _;refine dr_XRef ?_;refine aSq (aCd ?_);intro _;refine spl h (fun c37 h=>?_) (fun c37 h=>?_)
         ·refine aSk ?_;obtain⟨o38,h,hK39⟩:=ob1_ok h;refine awp_cut (α:=Bool×Tab) (fun(v9716,v9717)=>mkS 127 [(1,.ptr 1 0 0 0),(3,.sl 2 (z1.map cF)),(4,.sl 1 (rwT lo 4 v9717)),(10,.c (.bool v9716)),(11,.c (.int .i64 x28.2.2.1)),(12,.ptr 12 0 0 0),(55,.sl 2 (z1.map cF)),(56,.c (.int .i64 ((z1.map cF).length:Int))),(57,.c (.int .i64 x28.2.2.1)),(62,.sl 2 (z1.map cF)),(63,.c (.int .i64 ((z1.map cF).length:Int))),(64,.c (.int .i64 x35.2.2.1))] [(1,⟨26,4,true,[[.sl 1 (a0.Vars.map cI),.sl 1 (a0.Init.map cI),.sl 2 (a0.Goal.map cF),.sl 4 (a0.Ops.map cGOp)]]⟩),(12,⟨39,2,true,[[.c (.int .i64 y9497.1),.c (.int .i64 y9497.2)]]⟩)]) (fun v=>o38=(v.1,v.2.map (·.2))∧((v.2).map (·.1)).Nodup) ?_ ?_
          ·refine aBk (aSR ?_);intro _;obtain⟨y9719,w40,q41,h⟩:=ix_ok h;refine Exists.intro (cF y9719) (And.intro (map_at' w40) ?_);intro _;refine pr_XRef ?_;refine dr_XRef ?_;obtain⟨o42,h,hK43⟩:=ob1_ok h;refine awp_cut (α:=Bool) (fun v9722=>mkS 127 [(1,.ptr 1 0 0 0),(3,.sl 2 (z1.map cF)),(4,.sl 1 (rwT lo 4 x35.2.2.2)),(10,.c (.bool x35.2.1)),(11,.c (.int .i64 x28.2.2.1)),(12,.ptr 12 0 0 0),(13,.c (.int .i64 x35.2.2.1)),(14,.ptr 14 0 0 0),(55,.sl 2 (z1.map cF)),(56,.c (.int .i64 ((z1.map cF).length:Int))),(57,.c (.int .i64 x28.2.2.1)),(62,.sl 2 (z1.map cF)),(63,.c (.int .i64 ((z1.map cF).length:Int))),(64,.c (.int .i64 x35.2.2.1)),(77,.ptr 12 0 0 0),(78,.c (.int .i64 y9497.1)),(79,.ptr 14 0 0 0),(80,.c (.int .i64 y9719.1)),(81,.c (.bool (y9497.1 == y9719.1))),(82,.c (.bool (y9497.1 == y9719.1))),(86,.c (.bool v9722))] [(1,⟨26,4,true,[[.sl 1 (a0.Vars.map cI),.sl 1 (a0.Init.map cI),.sl 2 (a0.Goal.map cF),.sl 4 (a0.Ops.map cGOp)]]⟩),(12,⟨39,2,true,[[.c (.int .i64 y9497.1),.c (.int .i64 y9497.2)]]⟩),(14,⟨39,2,true,[[.c (.int .i64 y9719.1),.c (.int .i64 y9719.2)]]⟩)]) (fun v=>o42=(.inl v)) ?_ ?_
           ·refine aSq ?_;refine awp_regionO [5] ?_;intro _;obtain⟨gah,h⟩:=grd_ok h;obtain⟨y9724,w44,h⟩:=ixn_ok h;obtain⟨qr,tr,er⟩:=tab_at w44;subst er;refine Exists.intro [.rowb lo _ qr.1 qr.2] (And.intro (rwT_at1 tr) ?_);intro _;obtain⟨y9725,w45,q46,h⟩:=ix_ok h;(try intro _);refine pr_XRef ?_;(repeat (intro _));refine⟨rfl,_,lf_rowRd rfl (bT3 rfl) rfl rfl (tyTab_ok 41 _ rfl) rfl (tyTab_ok 4 _ rfl) rfl (by assumption) w45,?_⟩;(try intro _);refine spf h (fun c47 h=>?_) (fun c47 h=>?_)
            ·intro _;refine spl h (fun c48 h=>?_) (fun c48 h=>?_)
             ·intro _;obtain⟨q49,h⟩:=grd_ok h;obtain⟨q50,h⟩:=grd_ok h;refine dr_XRef ?_;refine aCd ?_;intro _;refine spl h (fun c51 h=>?_) (fun c51 h=>?_)
              ·refine aEx ?_;have j52:=sI_ h;subst j52;replace h:=(osum_r hK43);refine⟨(x35.2.1,x35.2.2.2),⟨(sI_ h).symm,nx35⟩,?_⟩;exact ca_XRef
              ·refine aSk ?_;refine⟨(x28.2.2.1 != x35.2.2.1),(sI_ h).symm,?_⟩;exact ca_XRef
             ·intro _;obtain⟨q53,h⟩:=grd_ok h;obtain⟨q54,h⟩:=grd_ok h;refine dr_XRef ?_;refine aCd ?_;intro _;refine litF (aSk ?_);refine⟨false,(sI_ h).symm,?_⟩;exact ca_XRef
            ·intro _;obtain⟨q55,h⟩:=grd_ok h;obtain⟨q56,h⟩:=grd_ok h;refine dr_XRef ?_;refine aCd ?_;intro _;refine litT (aEx ?_);have j57:=sI_ h;subst j57;replace h:=(osum_r hK43);refine⟨(x35.2.1,x35.2.2.2),⟨(sI_ h).symm,nx35⟩,?_⟩;exact ca_XRef
           ·rintro v9722 ho;have ho:=ho.symm;subst ho;intro _;replace h:=(osum_l hK43);refine aSR ?_;intro _;refine dr_XRef ?_;refine aBk ?_;refine awp_loop (α:=Nat×Bool×Int×Tab) (fun x=>mkS 127 [(1,.ptr 1 0 0 0),(3,.sl 2 (z1.map cF)),(4,.sl 1 (rwT lo 4 x.2.2.2)),(10,.c (.bool x.2.1)),(11,.c (.int .i64 x28.2.2.1)),(12,.ptr 12 0 0 0),(13,.c (.int .i64 x35.2.2.1)),(14,.ptr 14 0 0 0),(55,.sl 2 (z1.map cF)),(56,.c (.int .i64 ((z1.map cF).length:Int))),(57,.c (.int .i64 x28.2.2.1)),(62,.sl 2 (z1.map cF)),(63,.c (.int .i64 ((z1.map cF).length:Int))),(64,.c (.int .i64 x35.2.2.1)),(77,.ptr 12 0 0 0),(78,.c (.int .i64 y9497.1)),(79,.ptr 14 0 0 0),(80,.c (.int .i64 y9719.1)),(81,.c (.bool (y9497.1 == y9719.1))),(82,.c (.bool (y9497.1 == y9719.1))),(86,.c (.bool v9722)),(89,.sl 4 (a0.Ops.map cGOp)),(90,.c (.int .i64 ((a0.Ops.map cGOp).length:Int))),(91,.c (.int .i64 x.2.2.1))] [(1,⟨26,4,true,[[.sl 1 (a0.Vars.map cI),.sl 1 (a0.Init.map cI),.sl 2 (a0.Goal.map cF),.sl 4 (a0.Ops.map cGOp)]]⟩),(12,⟨39,2,true,[[.c (.int .i64 y9497.1),.c (.int .i64 y9497.2)]]⟩),(14,⟨39,2,true,[[.c (.int .i64 y9719.1),.c (.int .i64 y9719.2)]]⟩)]) (fun x=>M_r33_New_L3 a0 x28.2.2.1 x35.2.2.1 y9497 y9719 x.1 x.2.1 x.2.2.1 (x.2.2.2.map (·.2))=some o38∧((x.2.2.2).map (·.1)).Nodup) (fun x=>x.1) ((((a0.Ops.map cGOp).length:Int)).toNat+1,x35.2.1,0,x35.2.2.2) ⟨h,nx35⟩ ?_ ?_
            ·exact ca_XRef
            ·intro x58 ⟨h,nx58⟩;intro _;obtain⟨k9750,m59,h⟩:=succ_of (f:=fun n=>M_r33_New_L3 a0 x28.2.2.1 x35.2.2.1 y9497 y9719 n x58.2.1 x58.2.2.1 (x58.2.2.2.map (·.2))) rfl h;replace h:M_r33_New_L3 a0 x28.2.2.1 x35.2.2.1 y9497 y9719 (k9750+1) x58.2.1 x58.2.2.1 (x58.2.2.2.map (·.2))=some o38:=h;rw[M_r33_New_L3]at h;refine aSR ?_;intro _;refine dr_XRef ?_;refine aSq (aCd ?_);intro _;refine spl h (fun c60 h=>?_) (fun c60 h=>?_)
             ·refine aSk (aSq (aBk (aSR ?_)));intro _;obtain⟨y9751,w61,q62,h⟩:=ix_ok h;refine Exists.intro (cGOp y9751) (And.intro (map_at' w61) ?_);intro _;refine pr_XRef ?_;refine dr_XRef ?_;refine aSR ?_;intro _;obtain⟨z9752,z9753,u63,h⟩:=ob2_ok h;refine clf_XRef [(99,⟨2,none⟩)] rfl rfl (A_r33_needs y9751 [y9497,y9719] u63) ?_;intro _;refine dr_XRef ?_;obtain⟨o64,h,hK65⟩:=ob1_ok h;refine awp_cut (α:=Bool) (fun v9755=>mkS 127 [(1,.ptr 1 0 0 0),(3,.sl 2 (z1.map cF)),(4,.sl 1 (rwT lo 4 x58.2.2.2)),(10,.c (.bool x58.2.1)),(11,.c (.int .i64 x28.2.2.1)),(12,.ptr 12 0 0 0),(13,.c (.int .i64 x35.2.2.1)),(14,.ptr 14 0 0 0),(55,.sl 2 (z1.map cF)),(56,.c (.int .i64 ((z1.map cF).length:Int))),(57,.c (.int .i64 x28.2.2.1)),(62,.sl 2 (z1.map cF)),(63,.c (.int .i64 ((z1.map cF).length:Int))),(64,.c (.int .i64 x35.2.2.1)),(77,.ptr 12 0 0 0),(78,.c (.int .i64 y9497.1)),(79,.ptr 14 0 0 0),(80,.c (.int .i64 y9719.1)),(81,.c (.bool (y9497.1 == y9719.1))),(82,.c (.bool (y9497.1 == y9719.1))),(86,.c (.bool v9722)),(89,.sl 4 (a0.Ops.map cGOp)),(90,.c (.int .i64 ((a0.Ops.map cGOp).length:Int))),(91,.c (.int .i64 x58.2.2.1)),(110,.c (.bool v9755))] [(1,⟨26,4,true,[[.sl 1 (a0.Vars.map cI),.sl 1 (a0.Init.map cI),.sl 2 (a0.Goal.map cF),.sl 4 (a0.Ops.map cGOp)]]⟩),(12,⟨39,2,true,[[.c (.int .i64 y9497.1),.c (.int .i64 y9497.2)]]⟩),(14,⟨39,2,true,[[.c (.int .i64 y9719.1),.c (.int .i64 y9719.2)]]⟩)]) (fun v=>o64=v) ?_ ?_
              ·refine aRg ?_;intro _;refine spl h (fun c66 h=>?_) (fun c66 h=>?_)
               ·intro _;obtain⟨q67,h⟩:=grd_ok h;obtain⟨z9757,u68,h⟩:=ob1_ok h;refine clf_XRef [] rfl rfl (A_r33_all a0.Vars _ z9752 u68) ?_ (hb:=.cons (bw_fr2 rfl FrV.h) (.cons (.cv cv_tab FrV.h) (.cons (bw_fr2 rfl FrV.h) .nil)));intro _;refine dr_XRef ?_;refine⟨z9757,(sI_ h).symm,?_⟩;exact ca_XRef
               ·intro _;refine dr_XRef ?_;refine⟨false,(sI_ h).symm,?_⟩;exact ca_XRef
              ·rintro v9755 ho;have ho:=ho.symm;subst ho;intro _;replace h:=hK65;refine aCd ?_;intro _;refine spl h (fun c69 h=>?_) (fun c69 h=>?_)
               ·refine awp_regionF [] 9 12 rfl rfl rfl rfl rfl ?_;intro _;obtain⟨y9758,w70,h⟩:=ixn_ok h;obtain⟨qa,ta,ea⟩:=tab_at w70;subst ea;refine Exists.intro [.rowb lo _ qa.1 qa.2] (And.intro (rwT_at1 ta) ?_);intro _;obtain⟨y9759,w71,h⟩:=ixn_ok h;obtain⟨qb,tb,eb⟩:=tab_at w71;subst eb;refine Exists.intro [.rowb lo _ qb.1 qb.2] (And.intro (rwT_at1 tb) ?_);intro _;obtain⟨g1,h⟩:=grd_ok h;obtain⟨g2,h⟩:=grd_ok h;obtain⟨g3,h⟩:=grd_ok h;obtain⟨g4,h⟩:=grd_ok h;obtain⟨g5,h⟩:=grd_ok h;obtain⟨g6,h⟩:=grd_ok h;refine pr_XRef ?_;refine pr_XRef ?_;refine And.intro (by intro h;first|(cases h;done)|exact⟨by kernel_rfl,by kernel_rfl,by kernel_rfl,by kernel_rfl⟩) ?_;intro w0 X;refine put_both (lo:=lo) (T:=x58.2.2.2) (i:=x28.2.2.1) (j:=x35.2.2.1) (qa:=qa) (qb:=qb) rfl rfl rfl rfl rfl rfl rfl rfl rfl rfl rfl rfl rfl rfl rfl rfl rfl rfl rfl rfl rfl rfl rfl rfl rfl rfl rfl rfl rfl rfl rfl nx58 ta tb g1 g3 g5 g6 (tm':=fun T2 x=>mkT 0 127 [(1,.ptr 1 0 0 0),(3,.sl 2 (z1.map cF)),(4,.sl 1 (rwT lo 4 T2)),(10,x),(11,.c (.int .i64 x28.2.2.1)),(12,.ptr 12 0 0 0),(13,.c (.int .i64 x35.2.2.1)),(14,.ptr 14 0 0 0),(55,.sl 2 (z1.map cF)),(56,.c (.int .i64 ((z1.map cF).length:Int))),(57,.c (.int .i64 x28.2.2.1)),(62,.sl 2 (z1.map cF)),(63,.c (.int .i64 ((z1.map cF).length:Int))),(64,.c (.int .i64 x35.2.2.1)),(77,.ptr 12 0 0 0),(78,.c (.int .i64 y9497.1)),(79,.ptr 14 0 0 0),(80,.c (.int .i64 y9719.1)),(81,.c (.bool (y9497.1 == y9719.1))),(82,.c (.bool (y9497.1 == y9719.1))),(86,.c (.bool v9722)),(89,.sl 4 (a0.Ops.map cGOp)),(90,.c (.int .i64 ((a0.Ops.map cGOp).length:Int))),(91,.c (.int .i64 x58.2.2.1))]) (fun _ _=>rfl) (fun _ _=>rfl) (fun _=>rfl) (fun _=>rfl) (fun _=>rfl) (fun _=>rfl) (fun _=>rfl) ?_ ?_ ?_ (fun m' a' w' hr'=>?_)
                ·intro ch T2 hu;repeat (first|exact USL.nil|refine USL.cons US.dead ?_|refine USL.cons US.c ?_|refine USL.cons (.ub (ub_cF _)) ?_|refine USL.cons (.ub (ub_cO _)) ?_|refine USL.cons (.ub .ptr) ?_|refine USL.cons (.ub hu) ?_)
                ·intro ch T1 T2 hu;repeat (first|exact USL.nil|refine USL.cons US.dead ?_|refine USL.cons US.c ?_|refine USL.cons (.ub (ub_cF _)) ?_|refine USL.cons (.ub (ub_cO _)) ?_|refine USL.cons (.ub .ptr) ?_|refine USL.cons (.ub hu) ?_)
                ·intro ch;repeat (first|exact UHL.nil|refine UHL.none ?_|refine UHL.some (by first|exact us_box|exact us_two|exact us_op) ?_)
                refine⟨⟨mkT 0 127 [(1,.ptr 1 0 0 0),(3,.sl 2 (z1.map cF)),(4,.sl 1 (rwT lo 4 (setT (setT x58.2.2.2 (x28.2.2.1).toNat (x35.2.2.1).toNat) (x35.2.2.1).toNat (x28.2.2.1).toNat))),(10,.c (.bool true)),(11,.c (.int .i64 x28.2.2.1)),(12,.ptr 12 0 0 0),(13,.c (.int .i64 x35.2.2.1)),(14,.ptr 14 0 0 0),(55,.sl 2 (z1.map cF)),(56,.c (.int .i64 ((z1.map cF).length:Int))),(57,.c (.int .i64 x28.2.2.1)),(62,.sl 2 (z1.map cF)),(63,.c (.int .i64 ((z1.map cF).length:Int))),(64,.c (.int .i64 x35.2.2.1)),(77,.ptr 12 0 0 0),(78,.c (.int .i64 y9497.1)),(79,.ptr 14 0 0 0),(80,.c (.int .i64 y9719.1)),(81,.c (.bool (y9497.1 == y9719.1))),(82,.c (.bool (y9497.1 == y9719.1))),(86,.c (.bool v9722)),(89,.sl 4 (a0.Ops.map cGOp)),(90,.c (.int .i64 ((a0.Ops.map cGOp).length:Int))),(91,.c (.int .i64 x58.2.2.1))],_⟩,m',rfl,?_,hr'⟩;refine awp_wk (mkS 127 [(1,.ptr 1 0 0 0),(3,.sl 2 (z1.map cF)),(4,.sl 1 (rwT lo 4 (setT (setT x58.2.2.2 (x28.2.2.1).toNat (x35.2.2.1).toNat) (x35.2.2.1).toNat (x28.2.2.1).toNat))),(10,.c (.bool true)),(11,.c (.int .i64 x28.2.2.1)),(12,.ptr 12 0 0 0),(13,.c (.int .i64 x35.2.2.1)),(14,.ptr 14 0 0 0),(55,.sl 2 (z1.map cF)),(56,.c (.int .i64 ((z1.map cF).length:Int))),(57,.c (.int .i64 x28.2.2.1)),(62,.sl 2 (z1.map cF)),(63,.c (.int .i64 ((z1.map cF).length:Int))),(64,.c (.int .i64 x35.2.2.1)),(77,.ptr 12 0 0 0),(78,.c (.int .i64 y9497.1)),(79,.ptr 14 0 0 0),(80,.c (.int .i64 y9719.1)),(81,.c (.bool (y9497.1 == y9719.1))),(82,.c (.bool (y9497.1 == y9719.1))),(86,.c (.bool v9722)),(89,.sl 4 (a0.Ops.map cGOp)),(90,.c (.int .i64 ((a0.Ops.map cGOp).length:Int))),(91,.c (.int .i64 x58.2.2.1))] [(1,⟨26,4,true,[[.sl 1 (a0.Vars.map cI),.sl 1 (a0.Init.map cI),.sl 2 (a0.Goal.map cF),.sl 4 (a0.Ops.map cGOp)]]⟩),(12,⟨39,2,true,[[.c (.int .i64 y9497.1),.c (.int .i64 y9497.2)]]⟩),(14,⟨39,2,true,[[.c (.int .i64 y9719.1),.c (.int .i64 y9719.2)]]⟩)]) ?_ ?_
                ·exact ca_XRef
                intro _;refine aRg ?_;intro _;refine dr_XRef ?_;refine⟨(k9750,true,(IntKind.i64.wrap (x58.2.2.1+1)),setT (setT x58.2.2.2 (x28.2.2.1).toNat (x35.2.2.1).toNat) (x35.2.2.1).toNat (x28.2.2.1).toNat),⟨by rw[setT_snd,setT_snd];exact h,by rw[setT_fst,setT_fst];exact nx58⟩,ltS m59,?_⟩;exact ca_XRef
               ·refine aSk (aRg ?_);intro _;refine dr_XRef ?_;refine⟨(k9750,x58.2.1,(IntKind.i64.wrap (x58.2.2.1+1)),x58.2.2.2),⟨h,nx58⟩,ltS m59,?_⟩;exact ca_XRef
             ·refine aEx ?_;refine⟨(x58.2.1,x58.2.2.2),⟨(sI_ h).symm,nx58⟩,?_⟩;exact ca_XRef
          ·rintro⟨v9716,v9717⟩ ⟨ho,nv9717⟩;have ho:=ho.symm;subst ho;intro _;replace h:=hK39;refine aRg ?_;intro _;refine dr_XRef ?_;refine⟨(k9674,v9716,(IntKind.i64.wrap (x35.2.2.1+1)),v9717),⟨h,nv9717⟩,ltS m36,?_⟩;exact ca_XRef
         ·refine aEx ?_;refine⟨(x35.2.1,x35.2.2.2),⟨(sI_ h).symm,nx35⟩,?_⟩;exact ca_XRef
       ·rintro⟨v9494,v9495⟩ ⟨ho,nv9495⟩;have ho:=ho.symm;subst ho;intro _;replace h:=hK32;refine aRg ?_;intro _;refine dr_XRef ?_;refine⟨(k9230,v9494,(IntKind.i64.wrap (x28.2.2.1+1)),v9495),⟨h,nv9495⟩,ltS m29,?_⟩;exact ca_XRef
      ·refine aEx ?_;refine⟨(x28.2.1,x28.2.2.2),⟨(sI_ h).symm,nx28⟩,?_⟩;exact ca_XRef
    ·rintro⟨v8167,v8168⟩ ⟨ho,nv8168⟩;have ho:=ho.symm;subst ho;intro _;replace h:=hK27;refine⟨(k6576,v8167,v8168),⟨h,nv8168⟩,ltS m24,?_⟩;exact ca_XRef
   ·refine aEx ?_;refine awp_cv 4 rfl (cv_tab (T:=x23.2.2)) ?_;intro _;refine aSR ?_;intro _;refine dr_XRef ?_;refine aRt ?_;obtain⟨q76,h⟩:=grd_ok h;intro _;obtain rfl:=inj1 h;exact ca_XRef
def M_r33_needs_L1_B (_:GOp)(y183:Fact)(_y206:GEffect)(_:Int):((Bool)×(Int))→(((Bool)×(Int))→Option (Bool×Int))→Option (Bool×Int):=fun(v202,v203) rc=>ixv _y206 (fun y206=>sel (y206.Var == y183.1) (rc (true,y206.Val)) (rc (v202,v203)))
def M_r33_needs_L1_E (_:GOp)(_:Fact):((Bool)×(Int))→Option (Bool×Int):=fun(v202,v203)=>some (v202,v203)
theorem M_r33_needs_L1_eq (a0:GOp)(y183:Fact)(v202:Bool)(v203:Int)(hl:a0.Effs.length<9223372036854775807):M_r33_needs_L1 a0 y183 (((a0.Effs.map cGEffect).length:Int).toNat+1) v202 v203 0=Rg (M_r33_needs_L1_B a0 y183) (M_r33_needs_L1_E a0 y183) a0.Effs 0 (v202,v203):=rg_e1 (L:=fun k i p=>match p with|(v202,v203)=>M_r33_needs_L1 a0 y183 k v202 v203 i) hl (fun _ _ ⟨_,_⟩=>rfl) (v202,v203)
def M_r33_needs_L2_B (v144:List Fact)(y183:Fact)(v213:Int):Unit→(Unit→Option ((List Fact)⊕((List Fact)×Bool)))→Option ((List Fact)⊕((List Fact)×Bool)):=fun _ rc=>ixn v144 ((v213).toNat) (fun y215=>grd (0≤v213) (grd (v213<((v144.length:Nat):Int)) (sel (y215.1 == y183.1) (sel (y215.2 != y183.2) (some (.inr ([],false))) (rc ())) (rc ()))))
def M_r33_needs_L2_E (v144:List Fact)(y183:Fact):Unit→Option ((List Fact)⊕((List Fact)×Bool)):=fun _=>grd ((v144.length+1)*16≤140737488355328) (some (.inl (v144++[y183])))
theorem M_r33_needs_L2_eq (v144:List Fact)(y183:Fact)  {m:Nat}(hm:((v144.length:Nat):Int)=(m:Int))(hl:m<9223372036854775807):M_r33_needs_L2 v144 y183 ((((v144.length:Nat):Int)).toNat+1) 0=Rn (M_r33_needs_L2_B v144 y183) (M_r33_needs_L2_E v144 y183) m 0 ():=rn_e (L:=fun k i _=>M_r33_needs_L2 v144 y183 k i) hm hl (fun _ _ _=>rfl) ()
def M_r33_needs_L3_B (a0:GOp)(_:List Fact)(_y183:Fact)(_:Int):((List Fact))→(((List Fact))→Option ((List Fact)×Bool))→Option ((List Fact)×Bool):=fun v144 rc=>ob1 (ixv _y183 (fun y183=>ob1 (M_r33_needs_L1 a0 y183 ((((a0.Effs.map cGEffect).length:Int)).toNat+1) false 0 0:Option (Bool×Int)) (fun(v194,v195)=>ob1 (sel v194 (sel (v195 != y183.2) (some (.inr ([],false))) (some (.inl ()))) (some (.inl ())):Option (Unit⊕((List Fact)×Bool))) (osum (fun _=>sel v194 (some (.inl v144)) (M_r33_needs_L2 v144 y183 ((((v144.length:Nat):Int)).toNat+1) 0)) (fun(r207,r208)=>some (.inr (r207,r208)))))):Option ((List Fact)⊕((List Fact)×Bool))) (osum (fun v179=>rc (v179)) (fun(r180,r181)=>some (r180,r181)))
def M_r33_needs_L3_E (_:GOp)(_:List Fact):((List Fact))→Option ((List Fact)×Bool):=fun v144=>grd (v144.length≤140737488355328) (some (v144,true))
theorem M_r33_needs_L3_eq (a0:GOp)(a1:List Fact)(v144:List Fact)(hl:a1.length<9223372036854775807):M_r33_needs_L3 a0 a1 (((a1.map cF).length:Int).toNat+1) 0 v144=Rg (M_r33_needs_L3_B a0 a1) (M_r33_needs_L3_E a0 a1) a1 0 v144:=rg_e2 (L:=fun k i v144=>M_r33_needs_L3 a0 a1 k i v144) hl (fun k n p y hy h1 h2=>by first|(simp only[M_r33_needs_L3,M_r33_needs_L3_B,lM_,decide_lt h1,sel,ix_at hy,ixv,h2];done)|(simp only[lM_]at h1 hy;(simp only[M_r33_needs_L3,M_r33_needs_L3_B,lM_,decide_lt h1,sel,ix_at hy,ixv,h2];done))) (fun k p=>by simp only[M_r33_needs_L3,M_r33_needs_L3_E,lM_,decide_ge,sel]) v144
def M_r33_index_L1_B (a0:List Int)(_:Fact)(v6:Int):((Int))→(((Int))→Option (Int))→Option (Int):=fun v5 rc=>ix a0 v6 (fun y8=>rc ((IntKind.i64.wrap (v5+y8))))
def M_r33_index_L1_E (_:List Int)(a1:Fact):((Int))→Option (Int):=fun v5=>some (IntKind.i64.wrap (v5+a1.2))
theorem M_r33_index_L1_eq (a0:List Int)(a1:Fact)(v5:Int){m:Nat}(hm:a1.1=(m:Int))(hl:m<9223372036854775807):M_r33_index_L1 a0 a1 ((a1.1).toNat+1) v5 0=Rn (M_r33_index_L1_B a0 a1) (M_r33_index_L1_E a0 a1) m 0 v5:=rn_e (L:=fun k i v5=>M_r33_index_L1 a0 a1 k v5 i) hm hl (fun _ _ _=>rfl) v5
def M_r33_all_L1_B (a0:List Int)(a1:List (List Bool))(_:List Fact)(y105:Fact)(_y119:Fact)(_:Int):Unit→(Unit→Option (Unit⊕Bool))→Option (Unit⊕Bool):=fun _ rc=>ixv _y119 (fun y119=>ob1 (M_r33_index a0 y105) (fun z120=>ix a1 z120 (fun y121=>ob1 (M_r33_index a0 y119) (fun z122=>ix y121 z122 (fun y123=>sel (!y123) (some (.inr false)) (rc ()))))))
def M_r33_all_L1_E (_:List Int)(_:List (List Bool))(_:List Fact)(_:Fact):Unit→Option (Unit⊕Bool):=fun _=>some (.inl ())
theorem M_r33_all_L1_eq (a0:List Int)(a1:List (List Bool))(a2:List Fact)(y105:Fact)  (hl:a2.length<9223372036854775807):M_r33_all_L1 a0 a1 a2 y105 (((a2.map cF).length:Int).toNat+1) 0=Rg (M_r33_all_L1_B a0 a1 a2 y105) (M_r33_all_L1_E a0 a1 a2 y105) a2 0 ():=rg_e1 (L:=fun k i _=>M_r33_all_L1 a0 a1 a2 y105 k i) hl (fun _ _ _=>rfl) ()
def M_r33_all_L2_B (a0:List Int)(a1:List (List Bool))(a2:List Fact)(_y105:Fact)(_:Int):Unit→(Unit→Option (Bool))→Option (Bool):=fun _ rc=>ob1 (ixv _y105 (fun y105=>M_r33_all_L1 a0 a1 a2 y105 ((((a2.map cF).length:Int)).toNat+1) 0):Option (Unit⊕Bool)) (osum (fun _=>rc ()) (fun r103=>some r103))
def M_r33_all_L2_E (_:List Int)(_:List (List Bool))(_:List Fact):Unit→Option (Bool):=fun _=>some true
theorem M_r33_all_L2_eq (a0:List Int)(a1:List (List Bool))(a2:List Fact)  (hl:a2.length<9223372036854775807):M_r33_all_L2 a0 a1 a2 (((a2.map cF).length:Int).toNat+1) 0=Rg (M_r33_all_L2_B a0 a1 a2) (M_r33_all_L2_E a0 a1 a2) a2 0 ():=rg_e2 (L:=fun k i _=>M_r33_all_L2 a0 a1 a2 k i) hl (fun k n p y hy h1 h2=>by first|(simp only[M_r33_all_L2,M_r33_all_L2_B,lM_,decide_lt h1,sel,ix_at hy,ixv,h2];done)|(simp only[lM_]at h1 hy;(simp only[M_r33_all_L2,M_r33_all_L2_B,lM_,decide_lt h1,sel,ix_at hy,ixv,h2];done))) (fun k p=>by simp only[M_r33_all_L2,M_r33_all_L2_E,lM_,decide_ge,sel]) ()
def M_r33_New_L1_B (a0:GTask)(_:List (List Bool))(y191:Fact)(_:List Fact)(_y203:Fact)(v200:Int):((List Bool))→(((List Bool))→Option (List (List Bool)))→Option (List (List Bool)):=fun v201 rc=>ixv _y203 (fun y203=>ob1 (M_b_Holds [y191,y203] a0.Init) (fun z204=>ixn v201 ((v200).toNat) (fun _=>grd (v200<((v201.length:Nat):Int)) (rc ((v201.set ((v200).toNat) z204))))))
def M_r33_New_L1_E (_:GTask)(v172:List (List Bool))(_:Fact)(_:List Fact):((List Bool))→Option (List (List Bool)):=fun v201=>grd ((v172.length+1)*24≤140737488355328) (grd (v201.length≤140737488355328) (some (v172++[v201])))
theorem M_r33_New_L1_eq (a0:GTask)(v172:List (List Bool))(y191:Fact)(z1:List Fact)(v201:List Bool)(hl:z1.length<9223372036854775807):M_r33_New_L1 a0 v172 y191 z1 (((z1.map cF).length:Int).toNat+1) 0 v201=Rg (M_r33_New_L1_B a0 v172 y191 z1) (M_r33_New_L1_E a0 v172 y191 z1) z1 0 v201:=rg_e1 (L:=fun k i v201=>M_r33_New_L1 a0 v172 y191 z1 k i v201) hl (fun _ _ _=>rfl) v201
def M_r33_New_L2_B (a0:GTask)(z1:List Fact)(_y191:Fact)(_:Int):((List (List Bool)))→(((List (List Bool)))→Option (List (List Bool)))→Option (List (List Bool)):=fun v172 rc=>ob1 (ixv _y191 (fun y191=>grd (0≤((z1.map cF).length:Int)) (grd (((z1.map cF).length:Int)*1≤140737488355328) (M_r33_New_L1 a0 v172 y191 z1 ((((z1.map cF).length:Int)).toNat+1) 0 (List.replicate ((z1.map cF).length:Int).toNat false)))):Option (List (List Bool))) (fun v189=>rc (v189))
def M_r33_New_L2_E (_:GTask)(_:List Fact):((List (List Bool)))→Option (List (List Bool)):=fun v172=>grd (v172.length≤140737488355328) (some v172)
theorem M_r33_New_L2_eq (a0:GTask)(z1:List Fact)(v172:List (List Bool))(hl:z1.length<9223372036854775807):M_r33_New_L2 a0 z1 (((z1.map cF).length:Int).toNat+1) 0 v172=Rg (M_r33_New_L2_B a0 z1) (M_r33_New_L2_E a0 z1) z1 0 v172:=rg_e2 (L:=fun k i v172=>M_r33_New_L2 a0 z1 k i v172) hl (fun k n p y hy h1 h2=>by first|(simp only[M_r33_New_L2,M_r33_New_L2_B,lM_,decide_lt h1,sel,ix_at hy,ixv,h2];done)|(simp only[lM_]at h1 hy;(simp only[M_r33_New_L2,M_r33_New_L2_B,lM_,decide_lt h1,sel,ix_at hy,ixv,h2];done))) (fun k p=>by simp only[M_r33_New_L2,M_r33_New_L2_E,lM_,decide_ge,sel]) v172
def M_r33_New_L3_B (a0:GTask)(v9228:Int)(v9672:Int)(y9497:Fact)(y9719:Fact)(_y9751:GOp)(_:Int):((Bool)×(List (List Bool)))→(((Bool)×(List (List Bool)))→Option (Bool×(List (List Bool))))→Option (Bool×(List (List Bool))):=fun(v9747,v9749) rc=>ixv _y9751 (fun y9751=>ob2 (M_r33_needs y9751 [y9497,y9719]) (fun z9752 z9753=>ob1 (sel z9753 (grd (v9749.length≤140737488355328) (ob1 (M_r33_all a0.Vars v9749 z9752) (fun z9757=>some z9757))) (some false):Option (Bool)) (fun v9755=>sel v9755 (ixn v9749 ((v9228).toNat) (fun yr1=>ixn v9749 ((v9672).toNat) (fun yr2=>grd (0≤v9228) (grd (v9228<((v9749.length:Nat):Int)) (grd (0≤v9672) (grd (v9672<((v9749.length:Nat):Int)) (grd (v9672.toNat<yr1.length) (grd (v9228.toNat<yr2.length) (rc (true,(put2 v9749 v9672 v9228))))))))))) (rc (v9747,v9749)))))
def M_r33_New_L3_E (_:GTask)(_:Int)(_:Int)(_:Fact)(_:Fact):((Bool)×(List (List Bool)))→Option (Bool×(List (List Bool))):=fun(v9747,v9749)=>some (v9747,v9749)
theorem M_r33_New_L3_eq (a0:GTask)(v9228:Int)(v9672:Int)(y9497:Fact)(y9719:Fact)(v9747:Bool)(v9749:List (List Bool))(hl:a0.Ops.length<9223372036854775807):M_r33_New_L3 a0 v9228 v9672 y9497 y9719 (((a0.Ops.map cGOp).length:Int).toNat+1) v9747 0 v9749=Rg (M_r33_New_L3_B a0 v9228 v9672 y9497 y9719) (M_r33_New_L3_E a0 v9228 v9672 y9497 y9719) a0.Ops 0 (v9747,v9749):=rg_e1 (L:=fun k i p=>match p with|(v9747,v9749)=>M_r33_New_L3 a0 v9228 v9672 y9497 y9719 k v9747 i v9749) hl (fun _ _ ⟨_,_⟩=>rfl) (v9747,v9749)
def M_r33_New_L4_B (a0:GTask)(v9228:Int)(y9497:Fact)(_:List Fact)(_y9719:Fact)(v9672:Int):((Bool)×(List (List Bool)))→(((Bool)×(List (List Bool)))→Option (Bool×(List (List Bool))))→Option (Bool×(List (List Bool))):=fun(v9671,v9673) rc=>ob1 (ixv _y9719 (fun y9719=>ob1 (grd (0≤v9228) (ixn v9673 ((v9228).toNat) (fun y9724=>ix y9724 v9672 (fun y9725=>sel y9725 (grd (0≤v9228) (grd (v9228<((v9673.length:Nat):Int)) (some (.inr ())))) (sel (y9497.1 == y9719.1) (grd (0≤v9228) (grd (v9228<((v9673.length:Nat):Int)) (sel (v9228 != v9672) (some (.inr ())) (some (.inl (v9228 != v9672)))))) (grd (0≤v9228) (grd (v9228<((v9673.length:Nat):Int)) (some (.inl false)))))))):Option (Bool⊕Unit)) (osum (fun _=>M_r33_New_L3 a0 v9228 v9672 y9497 y9719 ((((a0.Ops.map cGOp).length:Int)).toNat+1) v9671 0 v9673) (fun _=>some (v9671,v9673)))):Option (Bool×(List (List Bool)))) (fun(v9716,v9717)=>rc (v9716,v9717))
def M_r33_New_L4_E (_:GTask)(_:Int)(_:Fact)(_:List Fact):((Bool)×(List (List Bool)))→Option (Bool×(List (List Bool))):=fun(v9671,v9673)=>some (v9671,v9673)
theorem M_r33_New_L4_eq (a0:GTask)(v9228:Int)(y9497:Fact)(z1:List Fact)(v9671:Bool)(v9673:List (List Bool))(hl:z1.length<9223372036854775807):M_r33_New_L4 a0 v9228 y9497 z1 (((z1.map cF).length:Int).toNat+1) v9671 0 v9673=Rg (M_r33_New_L4_B a0 v9228 y9497 z1) (M_r33_New_L4_E a0 v9228 y9497 z1) z1 0 (v9671,v9673):=rg_e2 (L:=fun k i p=>match p with|(v9671,v9673)=>M_r33_New_L4 a0 v9228 y9497 z1 k v9671 i v9673) hl (fun k n p y hy h1 h2=>by first|(simp only[M_r33_New_L4,M_r33_New_L4_B,lM_,decide_lt h1,sel,ix_at hy,ixv,h2];done)|(simp only[lM_]at h1 hy;(simp only[M_r33_New_L4,M_r33_New_L4_B,lM_,decide_lt h1,sel,ix_at hy,ixv,h2];done))) (fun k p=>by simp only[M_r33_New_L4,M_r33_New_L4_E,lM_,decide_ge,sel]) (v9671,v9673)
def M_r33_New_L5_B (a0:GTask)(z1:List Fact)(_y9497:Fact)(v9228:Int):((Bool)×(List (List Bool)))→(((Bool)×(List (List Bool)))→Option (Bool×(List (List Bool))))→Option (Bool×(List (List Bool))):=fun(v9227,v9229) rc=>ob1 (ixv _y9497 (fun y9497=>M_r33_New_L4 a0 v9228 y9497 z1 ((((z1.map cF).length:Int)).toNat+1) v9227 0 v9229):Option (Bool×(List (List Bool)))) (fun(v9494,v9495)=>rc (v9494,v9495))
def M_r33_New_L5_E (_:GTask)(_:List Fact):((Bool)×(List (List Bool)))→Option (Bool×(List (List Bool))):=fun(v9227,v9229)=>some (v9227,v9229)
theorem M_r33_New_L5_eq (a0:GTask)(z1:List Fact)(v9227:Bool)(v9229:List (List Bool))(hl:z1.length<9223372036854775807):M_r33_New_L5 a0 z1 (((z1.map cF).length:Int).toNat+1) v9227 0 v9229=Rg (M_r33_New_L5_B a0 z1) (M_r33_New_L5_E a0 z1) z1 0 (v9227,v9229):=rg_e2 (L:=fun k i p=>match p with|(v9227,v9229)=>M_r33_New_L5 a0 z1 k v9227 i v9229) hl (fun k n p y hy h1 h2=>by first|(simp only[M_r33_New_L5,M_r33_New_L5_B,lM_,decide_lt h1,sel,ix_at hy,ixv,h2];done)|(simp only[lM_]at h1 hy;(simp only[M_r33_New_L5,M_r33_New_L5_B,lM_,decide_lt h1,sel,ix_at hy,ixv,h2];done))) (fun k p=>by simp only[M_r33_New_L5,M_r33_New_L5_E,lM_,decide_ge,sel]) (v9227,v9229)
end Go.Proofs.YtinnphmnhmdcgaaGreat.Am
namespace Go.Proofs.YtinnphmnhmdcgaaGreat.Am
open Go.RowKit
theorem joinLL_empty (a:List (List Fact)):joinLL a []=[]:=List.length_eq_zero_iff.1 (by have:=joinLL_le a [];simpa using this)
def lastV : List GEffect→Option Int
 | []=>none
 | e :: r=>some ((lastV r).getD e.Val)
abbrev PlainE (es:List GEffect):Prop:=∀ e∈es,e.When=[]
def allV (f:Fact)(es:List GEffect):Bool:=es.all fun e=>decide (e.Val=f.2)
theorem quiet_plain {vars:List Int}{f:Fact}:∀ {es:List GEffect}(l:List (List Fact)),PlainE es→quietG vars f es l=some (if allV f es=true then l else[])
 | [],l,_=>rfl
 | e :: r,l,h=>by
  have ih:=fun l=>quiet_plain (vars:=vars) (f:=f) (es:=r) l fun x hx=>h x (mC_ _ hx)
  rw[quietG]
  unfold allV
  rw[List.all_cons]
  by_cases hv:e.Val=f.2
  ·rw[if_pos hv,ih,decide_eq_true hv,Bool.true_and];rfl
  ·rw[if_neg hv,h e (mS_ ..),decide_eq_false hv,Bool.false_and,if_neg (by decide)]
   have h1:silF vars []=[]:=rfl
   have h2:capO ([]:List (List Fact))=some []:=rfl
   rw[h1,h2,oB_,joinLL_empty,h2,oB_,ih]
   split <;> rfl
theorem cases_plain {vars:List Int}{f:Fact}:∀ {es:List GEffect},PlainE es→casesG vars f es=some (if lastV es=some f.2 then[[]]else[])
 | [],_=>rfl
 | e :: r,h=>by
  have hr:PlainE r:=fun x hx=>h x (mC_ _ hx)
  rw[casesG,cases_plain hr,oB_,quiet_plain _ hr,h e (mS_ ..)]
  cases r with
  | nil =>
   by_cases hv:e.Val=f.2
   ·rw[if_pos hv,show lastV [e]=some f.2 from by rw[← hv];rfl,if_pos rfl];rfl
   ·rw[if_neg hv,show lastV [e]=some e.Val from rfl,if_neg (show ¬ (some e.Val=some f.2)from fun h=>hv (sI_ h))];rfl
  | cons e2 r2 =>
   have hl:lastV (e :: e2 :: r2)=lastV (e2 :: r2):=by
    show some ((lastV (e2 :: r2)).getD e.Val)=_
    rw[show lastV (e2 :: r2)=some ((lastV r2).getD e2.Val)from rfl];rfl
   rw[hl]
   by_cases hv:e.Val=f.2
   ·rw[if_pos hv]
    by_cases ha:allV f (e2 :: r2)=true
    ·have hlast:∀ (es:List GEffect),es≠[]→allV f es=true→lastV es=some f.2:=by
      intro es
      induction es with
      | nil=>intro h;exact absurd rfl h
      | cons e3 r3 ih =>
       intro _ h3
       unfold allV at h3
       rw[List.all_cons,bA_]at h3
       rw[lastV]
       cases r3 with
       | nil=>show some e3.Val=_;rw[of_decide_eq_true h3.1]
       | cons e4 r4=>rw[ih (by simp) h3.2];rfl
     rw[if_pos (hlast _ (by simp) ha),if_pos ha]
     rfl
    ·rw[if_neg ha]
     split <;> rfl
   ·rw[if_neg hv]
def caseP (f:Fact)(es:List GEffect):List (List Fact):=(if lastV es=some f.2 then[[]]else[])++(if allV f es=true then[[f]]else[])
theorem casesO_plain {vars:List Int}{o:GOp}(h:PlainE o.Effs)(f:Fact):casesO vars o f=some (caseP f (o.Effs.filter (fun e=>e.Var == f.1))):=by
 have hf:PlainE (o.Effs.filter (fun e=>e.Var == f.1)):=fun e he=>h e (List.mem_filter.1 he).1
 rw[casesO,casesE,cases_plain hf,oB_,quiet_plain _ hf]
 unfold caseP
 split
 ·split
  ·rfl
  ·rfl
 ·split
  ·rfl
  ·rfl
theorem last_all {f:Fact}:∀ {es:List GEffect}{x:Int},lastV es=some x→x≠f.2→allV f es=false
 | e :: r,x,h,hx=>by
  unfold allV
  rw[List.all_cons,Bool.and_eq_false_iff]
  cases hr:lastV r with
  | none=>rw[lastV,hr]at h;injection h with h;exact .inl (decide_eq_false (by rw[show e.Val=x from h];exact hx))
  | some y=>rw[lastV,hr]at h;injection h with h;exact .inr (last_all hr (by rw[show y=x from h];exact hx))
theorem last_none {es:List GEffect}(h:lastV es=none):es=[]:=by
 cases es with
 | nil=>rfl
 | cons e r=>cases h
def lastE (o:GOp)(f:Fact):Option Int:=lastV (o.Effs.filter fun e=>e.Var == f.1)
section
variable {vars : List Int} {o : GOp} (h : PlainE o.Effs)
include h
theorem regG_in : ∀ (p:List Fact)(l j:List (List Fact))(z:List Fact),regG vars o p l=some j→z∈j→∃ x∈l,(∀ u∈x,u∈z)∧∀ f∈p,(lastE o f=none→f∈z)∧∀ w,lastE o f=some w→w=f.2
 | [],l,j,z,h1,hz=>by
  rw[regG]at h1
  injection h1 with h1
  subst h1
  exact⟨z,hz,fun _ h=>h,fun _ h=>nomatch h⟩
 | f :: r,l,j,z,h1,hz=>by
  rw[regG,casesO_plain h,oB_]at h1
  cases hc:capO (joinLL l (caseP f (o.Effs.filter fun e=>e.Var == f.1)))with
  | none=>rw[hc]at h1;cases h1
  | some l' =>
   rw[hc,oB_]at h1
   obtain⟨x,hx,k1,k2⟩:=regG_in r l' j z h1 hz
   obtain⟨rfl,-⟩:=capO_some hc
   obtain⟨x0,hx0,y,hy,hj⟩:=(joinLL_mem x _ _).1 hx
   obtain⟨-,hm⟩:=joinO_some hj
   refine⟨x0,hx0,fun u hu=>k1 u ((hm u).2 (.inl hu)),fun f' hf'=>?_⟩
   rcases List.mem_cons.1 hf' with e|hf'
   ·subst e
    unfold caseP at hy
    rcases List.mem_append.1 hy with hy|hy
    ·split at hy
     ·rename_i hl
      exact⟨fun e=>(by unfold lastE at e;rw[hl]at e;cases e),fun w hw=>(by unfold lastE at hw;rw[hl]at hw;exact(sI_ hw).symm)⟩
     ·cases hy
    ·split at hy
     ·rename_i ha
      rw[mI_]at hy
      exact⟨fun _=>k1 _ ((hm _).2 (.inr (by rw[hy];simp))),fun w hw=>Decidable.byContradiction fun hne=>by have:=last_all hw hne;rw[ha]at this;cases this⟩
     ·cases hy
   ·exact k2 f' hf'
theorem regG_at : ∀ (p:List Fact)(l j:List (List Fact))(x F:List Fact),regG vars o p l=some j→x∈l→propF vars (-1) x=true→(∀ u∈x,u∈F)→Compat F→(∀ f∈p,propF vars (-1) [f]=true∧(lastE o f=none→f∈F)∧∀ w,lastE o f=some w→w=f.2)→∃ z∈j,∀ u∈z,u∈F
 | [],l,j,x,F,h1,hx,_,hF,_,_=>by
  rw[regG]at h1
  injection h1 with h1
  subst h1
  exact⟨x,hx,hF⟩
 | f :: r,l,j,x,F,h1,hx,hpx,hF,hC,hp=>by
  rw[regG,casesO_plain h,oB_]at h1
  cases hc:capO (joinLL l (caseP f (o.Effs.filter fun e=>e.Var == f.1)))with
  | none=>rw[hc]at h1;cases h1
  | some l' =>
   rw[hc,oB_]at h1
   obtain⟨rfl,-⟩:=capO_some hc
   obtain⟨q1,q2,q3⟩:=hp f (mS_ ..)
   have hy:∃ y∈caseP f (o.Effs.filter fun e=>e.Var == f.1),∃ z,joinO x y=some z∧propF vars (-1) z=true∧∀ u∈z,u∈F:=by
    cases hl:lastE o f with
    | some w =>
     have hw:=q3 w hl
     subst hw
     unfold lastE at hl
     exact⟨[],by unfold caseP;rw[if_pos hl];simp,x,joinO_is (propF_vF' hpx) rfl (propF_vF' hpx) (fun u=>by simp),hpx,hF⟩
    | none =>
     have hf:=q2 hl
     unfold lastE at hl
     have he:=last_none hl
     refine⟨[f],by unfold caseP;rw[he];simp[allV],?_⟩
     cases hj:joinO x [f]with
     | none =>
      have hin:∀ u∈x++[f],u∈F:=fun u hu=>by
       rcases List.mem_append.1 hu with hu|hu
       ·exact hF u hu
       ·rw[mI_.1 hu];exact hf
      exact absurd (fun u hu v hv e=>hC u (hin u hu) v (hin v hv) e) (joinO_none (propF_vF' hpx) (propF_vF' q1) hj)
     | some z =>
      refine⟨z,rfl,joinO_prop hpx q1 hj,fun u hu=>?_⟩
      rcases((joinO_some hj).2 u).1 hu with h|h
      ·exact hF u h
      ·rw[mI_.1 h];exact hf
   obtain⟨y,hy,z,hz,hpz,hzF⟩:=hy
   exact regG_at r _ j z F h1 ((joinLL_mem z _ _).2 ⟨x,hx,y,hy,hz⟩) hpz hzF hC (fun f' hf'=>hp f' (mC_ _ hf'))
end
section
variable {t : GTask} (F : Fit3 t) {a b : Fact} (hs : SetP t a b) {o : GOp} (ho : o ∈ t.Ops) (hp : PlainE o.Effs)
include F hs ho
theorem regS_form : ∃ j,regG t.Vars o (pset a b) [o.Pre]=some j∧regS t o (pset a b)=sortLL (minF j):=by
 obtain⟨r1,-,-⟩:=reg_ok F hs ho
 unfold regO at r1
 obtain⟨j,h1,h2⟩:=Option.map_eq_some_iff.1 r1
 exact⟨j,h1,h2.symm⟩
include hp
theorem regS_in {z:List Fact}(hz:z∈regS t o (pset a b)):propF t.Vars (-1) z=true∧(∀ u∈o.Pre,u∈z)∧∀ f∈pset a b,(lastE o f=none→f∈z)∧∀ w,lastE o f=some w→w=f.2:=by
 refine⟨(reg_ok F hs ho).2.1 z hz,?_⟩
 obtain⟨j,h1,h2⟩:=regS_form F hs ho
 rw[h2,sortLL_mem]at hz
 obtain⟨x,hx,k1,k2⟩:=regG_in hp _ _ _ z h1 (List.mem_filter.1 hz).1
 rw[mI_.1 hx]at k1
 exact⟨k1,k2⟩
theorem regS_at {G:List Fact}(hC:Compat G)(hpre:∀ u∈o.Pre,u∈G)(hf:∀ f∈pset a b,(lastE o f=none→f∈G)∧∀ w,lastE o f=some w→w=f.2):∃ z∈regS t o (pset a b),∀ u∈z,u∈G:=by
 obtain⟨j,h1,h2⟩:=regS_form F hs ho
 obtain⟨hj,-,-⟩:=pre_prop F.good hs.prop ho h1
 obtain⟨z,hz,k⟩:=regG_at hp _ _ _ o.Pre G h1 (mI_.2 rfl) (good_op F.good ho).pre hpre hC (fun f hf'=>⟨propF_one hs.prop hf',hf f hf'⟩)
 obtain⟨x,hx,k2⟩:=below_min (fun x hx=>((vF_iff' x).1 (propF_vF' (hj x hx))).2) z.length z (Nat.le_refl _) hz
 exact⟨x,by rw[h2,sortLL_mem];exact hx,fun u hu=>k u (k2 u hu)⟩
end
def badN (f x:Fact):Bool:=x.1 == f.1&&x.2 != f.2
def needG (o:GOp):List Fact→List Fact→Option (List Fact)
 | [],out=>some out
 | f :: r,out=>match lastE o f with
  | some w=>if w=f.2 then needG o r out else none
  | none=>if out.any (badN f)=true then none else needG o r (out++[f])
def resN : Option (List Fact)→List Fact×Bool
 | none=>([],false)
 | some F=>(F,true)
theorem needG_some {o:GOp}:∀ {p out F:List Fact},needG o p out=some F→(∀ u,u∈F↔u∈out∨(u∈p∧lastE o u=none))∧(∀ f∈p,∀ w,lastE o f=some w→w=f.2)∧(Compat out→Compat F)∧F.length≤out.length+p.length
 | [],out,F,h=>by
  rw[needG]at h
  injection h with h
  subst h
  exact⟨fun u=>by simp,fun _ h=>(nomatch h),id,by simp⟩
 | f :: r,out,F,h=>by
  rw[needG]at h
  cases hl:lastE o f with
  | some w =>
   rw[hl]at h
   dsimp only at h
   split at h
   ·rename_i hw
    obtain⟨k1,k2,k3,k4⟩:=needG_some h
    refine⟨fun u=>?_,fun g hg w' hw'=>?_,k3,by rw[lC_];omega⟩
    ·rw[k1]
     constructor
     ·rintro(h|⟨h1,h2⟩)
      ·exact .inl h
      ·exact .inr ⟨mC_ _ h1,h2⟩
     ·rintro(h|⟨h1,h2⟩)
      ·exact .inl h
      ·rcases List.mem_cons.1 h1 with e|h1
       ·rw[e,hl]at h2;cases h2
       ·exact .inr ⟨h1,h2⟩
    ·rcases List.mem_cons.1 hg with e|hg
     ·subst e;rw[hl]at hw';rw[← sI_ hw'];exact hw
     ·exact k2 g hg w' hw'
   ·cases h
  | none =>
   rw[hl]at h
   dsimp only at h
   split at h
   ·cases h
   ·rename_i hb
    have hb:=Bool.eq_false_iff.2 hb
    rw[List.any_eq_false]at hb
    obtain⟨k1,k2,k3,k4⟩:=needG_some h
    refine⟨fun u=>?_,fun g hg w' hw'=>?_,fun hC=>k3 (fun u hu v hv e=>?_),by rw[lA_,List.length_singleton]at k4;rw[lC_];omega⟩
    ·rw[k1,List.mem_append,mI_]
     constructor
     ·rintro((h|h)|⟨h1,h2⟩)
      ·exact .inl h
      ·rw[h];exact .inr ⟨mS_ ..,hl⟩
      ·exact .inr ⟨mC_ _ h1,h2⟩
     ·rintro(h|⟨h1,h2⟩)
      ·exact .inl (.inl h)
      ·rcases List.mem_cons.1 h1 with e|h1
       ·exact .inl (.inr e)
       ·exact .inr ⟨h1,h2⟩
    ·rcases List.mem_cons.1 hg with e|hg
     ·subst e;rw[hl]at hw';cases hw'
     ·exact k2 g hg w' hw'
    ·have one:∀ x∈out,x.1=f.1→x.2=f.2:=fun x hx e=>by
      have:=hb x hx
      unfold badN at this
      rw[e,show(f.1 == f.1)=true from by simp,Bool.true_and]at this
      simpa using this
     rcases List.mem_append.1 hu with hu|hu
     ·rcases List.mem_append.1 hv with hv|hv
      ·exact hC u hu v hv e
      ·rw[mI_.1 hv]at e ⊢;exact one u hu e
     ·rcases List.mem_append.1 hv with hv|hv
      ·rw[mI_.1 hu]at e ⊢;exact(one v hv e.symm).symm
      ·rw[mI_.1 hu,mI_.1 hv]
theorem needG_ok {o:GOp}{G:List Fact}(hC:Compat G):∀ {p out:List Fact},(∀ u∈out,u∈G)→(∀ f∈p,(lastE o f=none→f∈G)∧∀ w,lastE o f=some w→w=f.2)→∃ F,needG o p out=some F∧∀ u∈F,u∈G
 | [],out,h,_=>⟨out,rfl,h⟩
 | f :: r,out,h,hp=>by
  obtain⟨q1,q2⟩:=hp f (mS_ ..)
  have hr:=fun g hg=>hp g (mC_ _ hg)
  rw[needG]
  cases hl:lastE o f with
  | some w =>
   dsimp only
   rw[if_pos (q2 w hl)]
   exact needG_ok hC h hr
  | none =>
   dsimp only
   have hf:=q1 hl
   rw[if_neg]
   ·refine needG_ok hC (fun u hu=>?_) hr
    rcases List.mem_append.1 hu with hu|hu
    ·exact h u hu
    ·rw[mI_.1 hu];exact hf
   ·intro hb
    obtain⟨x,hx,hb⟩:=List.any_eq_true.1 hb
    unfold badN at hb
    rw[bA_,beq_iff_eq,bne_iff_ne]at hb
    exact hb.2 (hC x (h x hx) f hf hb.1)
theorem need1 (o:GOp)(f:Fact):∀ (r:List GEffect)(i:Int)(c:Bool)(v:Int),Rg (M_r33_needs_L1_B o f) (M_r33_needs_L1_E o f) r i (c,v)=some ((lastV (r.filter fun e=>e.Var == f.1)).isSome||c,(lastV (r.filter fun e=>e.Var == f.1)).getD v)
 | [],i,c,v=>rfl
 | e :: r,i,c,v=>by
  rw[Rg,M_r33_needs_L1_B,ixv,List.filter_cons]
  cases he:e.Var == f.1 with
  | true =>
   rw[sel_tt,need1 o f r,if_pos rfl,lastV]
   cases lastV (r.filter fun e=>e.Var == f.1) <;> simp
  | false=>rw[sel_ff,need1 o f r,if_neg (by decide)]
theorem need2 (out:List Fact)(f:Fact)(hl:out.length≤1000):∀ (m n:Nat),n+m=out.length→Rn (M_r33_needs_L2_B out f) (M_r33_needs_L2_E out f) m n ()=some (if(out.drop n).any (badN f)=true then .inr ([],false)else .inl (out++[f]))
 | 0,n,h=>by
  rw[Rn,M_r33_needs_L2_E,grd_t (by omega),List.drop_eq_nil_of_le (by omega)]
  rfl
 | m+1,n,h=>by
  have hlt:n<out.length:=by omega
  have ih:=need2 out f hl m (n+1) (by omega)
  rw[Rn,M_r33_needs_L2_B,Int.toNat_natCast,ixn_at (gE_ hlt),grd_t (by omega),grd_t (by omega),List.drop_eq_getElem_cons hlt,List.any_cons]
  rw[show((n:Int)+1)=((n+1:Nat):Int)from rfl]
  unfold badN at ih ⊢
  cases h1:(out[n].1 == f.1)with
  | false=>rw[sel_ff,ih,Bool.false_and,Bool.false_or]
  | true =>
   cases h2:(out[n].2 != f.2)with
   | false=>rw[sel_tt,sel_ff,ih,Bool.and_false,Bool.false_or]
   | true=>rw[sel_tt,sel_tt,Bool.and_self,Bool.true_or,if_pos rfl]
theorem need3 (o:GOp)(p:List Fact)(ho:o.Effs.length≤1000):∀ (r:List Fact)(i:Int)(out:List Fact),out.length+r.length≤1000→Rg (M_r33_needs_L3_B o p) (M_r33_needs_L3_E o p) r i out=some (resN (needG o r out))
 | [],i,out,h=>by
  rw[lN_]at h
  rw[Rg,M_r33_needs_L3_E,grd_t (by omega),needG,resN]
 | f :: r,i,out,h=>by
  rw[lC_]at h
  rw[Rg,M_r33_needs_L3_B,ixv,M_r33_needs_L1_eq o f false 0 (by omega),need1,ob1_some,needG]
  show ob1 (ob1 _ _) _=some (resN (match lastE o f with
   | some w=>if w=f.2 then needG o r out else none
   | none=>if out.any (badN f)=true then none else needG o r (out++[f])))
  rw[show lastV (o.Effs.filter fun e=>e.Var == f.1)=lastE o f from rfl]
  cases hl:lastE o f with
  | some w =>
   show ob1 (ob1 (sel true (sel (w != f.2) _ _) _) _) _=some (resN (if w=f.2 then needG o r out else none))
   rw[sel_tt]
   by_cases hw:w=f.2
   ·rw[show(w != f.2)=false from by simp[hw],sel_ff,ob1_some,osum_inl,if_pos hw]
    show ob1 (sel true _ _) _=_
    rw[sel_tt,ob1_some,osum_inl]
    exact need3 o p ho r (i+1) out (by omega)
   ·rw[show(w != f.2)=true from by simp[hw],sel_tt,ob1_some,if_neg hw]
    rfl
  | none =>
   show ob1 (ob1 (sel false _ _) _) _=some (resN (if out.any (badN f)=true then none else needG o r (out++[f])))
   rw[sel_ff,ob1_some,osum_inl]
   show ob1 (sel false _ _) _=_
   rw[sel_ff,M_r33_needs_L2_eq out f (m:=out.length) rfl (by omega),show(0:Int)=((0:Nat):Int)from rfl,need2 out f (by omega) out.length 0 (by omega),List.drop_zero,ob1_some]
   dsimp only
   by_cases hb:out.any (badN f)=true
   ·rw[if_pos hb,if_pos hb];rfl
   ·rw[if_neg hb,if_neg hb,osum_inl]
    exact need3 o p ho r (i+1) (out++[f]) (by rw[lA_,List.length_singleton];omega)
theorem needs_eq {o:GOp}{p:List Fact}(h1:o.Effs.length≤64)(h2:o.Pre.length≤64)(h3:p.length≤64):M_r33_needs o p=some (resN (needG o p o.Pre)):=by
 rw[M_r33_needs,grd_t (by omega),M_r33_needs_L3_eq o p o.Pre (by omega)]
 exact need3 o p (by omega) p 0 o.Pre (by omega)
def M_l30_Same_L1 (a0:GCertificate)(a1:GCertificate):Nat→Int→Option (Bool)|0,_=>none|k15+1,v14=>sel (decide (v14<((a0.Nogoods.map cN).length:Int))) (ix a0.Nogoods v14 (fun y16=>ix a1.Nogoods v14 (fun y17=>sel (y16.2 != y17.2) (some false) (ix a0.Nogoods v14 (fun y18=>ix a1.Nogoods v14 (fun y19=>ob1 (M_b_Facts y18.1 y19.1) (fun z20=>sel (!z20) (some false) (M_l30_Same_L1 a0 a1 k15 (IntKind.i64.wrap (v14+1)))))))))) (some true)
def M_l30_Same (a0:GCertificate)(a1:GCertificate):Option (Bool):=ob1 (sel (a0.Bound != a1.Bound) (some (.inr false)) (sel (((a0.Nogoods.map cN).length:Int) != ((a1.Nogoods.map cN).length:Int)) (some (.inr false)) (some (.inl ()))):Option (Unit⊕Bool)) (osum (fun _=>M_l30_Same_L1 a0 a1 ((((a0.Nogoods.map cN).length:Int)).toNat+1) 0) (fun r1=>some r1))
set_option maxHeartbeats 16000000 in
set_option maxRecDepth 100000 in
theorem A_l30_Same (a0:GCertificate)(a1:GCertificate){r1:Bool}(h:M_l30_Same a0 a1=some r1):ACall cx 50 [.agg [.c (.int .i64 a0.Bound),.sl 2 (a0.Nogoods.map cN)],.agg [.c (.int .i64 a1.Bound),.sl 2 (a1.Nogoods.map cN)]] (.c (.bool r1)):=by
 refine aOf Tryz.func50 rfl (by decide) rfl (bT3 rfl) ?_;intro _;unfold M_l30_Same at h;refine aSR ?_;intro _;refine dr ?_;obtain⟨o1,h,hK2⟩:=ob1_ok h;refine awp_cut (α:=Unit) (fun _=>mkS 56 [(2,.ptr 2 0 0 0),(3,.ptr 3 0 0 0)] [(2,⟨51,2,true,[[.c (.int .i64 a0.Bound),.sl 2 (a0.Nogoods.map cN)]]⟩),(3,⟨51,2,true,[[.c (.int .i64 a1.Bound),.sl 2 (a1.Nogoods.map cN)]]⟩)]) (fun v=>o1=(.inl v)) ?_ ?_
 ·refine aSR ?_;intro _;refine spf h (fun c3 h=>?_) (fun c3 h=>?_)
  ·intro _;refine dr (aCd ?_);intro _;refine spl h (fun c4 h=>?_) (fun c4 h=>?_)
   ·refine aSR ?_;intro _;refine dr (aRt ?_);have j5:=sI_ h;subst j5;replace h:=(osum_r hK2);intro _;obtain rfl:=inj1 h;exact ca_0
   ·refine aSk ?_;refine⟨(),(sI_ h).symm,?_⟩;exact ca_0
  ·intro _;refine dr (aCd ?_);intro _;refine litT (aSR ?_);intro _;refine dr (aRt ?_);have j6:=sI_ h;subst j6;replace h:=(osum_r hK2);intro _;obtain rfl:=inj1 h;exact ca_0
 ·rintro _ ho;have ho:=ho.symm;subst ho;intro _;replace h:=(osum_l hK2);refine aSq (aSR ?_);intro _;refine dr (aBk ?_);refine awp_loop (α:=Nat×Int) (fun x=>mkS 56 [(2,.ptr 2 0 0 0),(3,.ptr 3 0 0 0),(22,.c (.int .i64 ((a0.Nogoods.map cN).length:Int))),(23,.c (.int .i64 x.2))] [(2,⟨51,2,true,[[.c (.int .i64 a0.Bound),.sl 2 (a0.Nogoods.map cN)]]⟩),(3,⟨51,2,true,[[.c (.int .i64 a1.Bound),.sl 2 (a1.Nogoods.map cN)]]⟩)]) (fun x=>M_l30_Same_L1 a0 a1 x.1 x.2=some r1) (fun x=>x.1) ((((a0.Nogoods.map cN).length:Int)).toNat+1,0) h ?_ ?_
  ·exact ca_0
  ·intro x7 h;intro _;obtain⟨k15,m8,h⟩:=succ_of (f:=fun n=>M_l30_Same_L1 a0 a1 n x7.2) rfl h;replace h:M_l30_Same_L1 a0 a1 (k15+1) x7.2=some r1:=h;rw[M_l30_Same_L1]at h;refine aSR ?_;intro _;refine dr (aSq (aCd ?_));intro _;refine spl h (fun c9 h=>?_) (fun c9 h=>?_)
   ·refine aSk (aSq (aBk (aSR ?_)));intro _;refine dr (aSR ?_);intro _;obtain⟨y16,w10,q11,h⟩:=ix_ok h;refine Exists.intro (cN y16) (And.intro (map_at' w10) ?_);intro _;obtain⟨y17,w12,q13,h⟩:=ix_ok h;refine Exists.intro (cN y17) (And.intro (map_at' w12) ?_);intro _;refine spf h (fun c14 h=>?_) (fun c14 h=>?_)
    ·intro _;obtain⟨y18,w15,q16,h⟩:=ix_ok h;refine Exists.intro (cN y18) (And.intro (map_at' w15) ?_);intro _;obtain⟨y19,w17,q18,h⟩:=ix_ok h;refine Exists.intro (cN y19) (And.intro (map_at' w17) ?_);intro _;obtain⟨z20,u19,h⟩:=ob1_ok h;refine cl rfl (A_b_Facts y18.1 y19.1 u19) ?_;intro _;refine pr (pr (pr (pr (dr (aCd ?_)))));intro _;refine spl h (fun c20 h=>?_) (fun c20 h=>?_)
     ·refine aSR ?_;intro _;refine dr (aRt ?_);intro _;obtain rfl:=inj1 h;exact ca_0
     ·refine aSk (aRg ?_);intro _;refine dr ?_;refine⟨(k15,(IntKind.i64.wrap (x7.2+1))),h,ltS m8,?_⟩;exact ca_0
    ·intro _;refine pr (pr (dr (aCd ?_)));intro _;refine litT (aSR ?_);intro _;refine dr (aRt ?_);intro _;obtain rfl:=inj1 h;exact ca_0
   ·refine aEx (aSR ?_);intro _;refine dr (aRt ?_);intro _;obtain rfl:=inj1 h;exact ca_0
def M_l33_same (a0:List Nogood)(a1:List Nogood):Option (Bool):=ob1 (M_l30_Same ({ Bound:=0,Nogoods:=a0:GCertificate }) ({ Bound:=0,Nogoods:=a1:GCertificate })) (fun z1=>some z1)
set_option maxHeartbeats 16000000 in
set_option maxRecDepth 100000 in
theorem A_l33_same (a0:List Nogood)(a1:List Nogood){r1:Bool}(h:M_l33_same a0 a1=some r1):ACall cx 18 [.sl 2 (a0.map cN),.sl 2 (a1.map cN)] (.c (.bool r1)):=by
 refine aOf Tryz.func18 rfl (by decide) rfl (bT3 rfl) ?_;intro _;unfold M_l33_same at h;refine aSR ?_;intro _;refine dr (aSR ?_);intro _;obtain⟨z1,u1,h⟩:=ob1_ok h;refine cl rfl (A_l30_Same ({ Bound:=0,Nogoods:=a0:GCertificate }) ({ Bound:=0,Nogoods:=a1:GCertificate }) u1) ?_;intro _;refine dr (aRt ?_);intro _;obtain rfl:=inj1 h;exact ca_0
end Go.Proofs.YtinnphmnhmdcgaaGreat.Am
namespace Go.Proofs.YtinnphmnhmdcgaaGreat.Am
def M_l30_Same_L1_B (a0:GCertificate)(a1:GCertificate)(_y16:Nogood)(v14:Int):Unit→(Unit→Option (Bool))→Option (Bool):=fun _ rc=>ixv _y16 (fun y16=>ix a1.Nogoods v14 (fun y17=>sel (y16.2 != y17.2) (some false) (ix a0.Nogoods v14 (fun y18=>ix a1.Nogoods v14 (fun y19=>ob1 (M_b_Facts y18.1 y19.1) (fun z20=>sel (!z20) (some false) (rc ())))))))
def M_l30_Same_L1_E (_:GCertificate)(_:GCertificate):Unit→Option (Bool):=fun _=>some true
theorem M_l30_Same_L1_eq (a0:GCertificate)(a1:GCertificate)  (hl:a0.Nogoods.length<9223372036854775807):M_l30_Same_L1 a0 a1 (((a0.Nogoods.map cN).length:Int).toNat+1) 0=Rg (M_l30_Same_L1_B a0 a1) (M_l30_Same_L1_E a0 a1) a0.Nogoods 0 ():=rg_e1 (L:=fun k i _=>M_l30_Same_L1 a0 a1 k i) hl (fun _ _ _=>rfl) ()
end Go.Proofs.YtinnphmnhmdcgaaGreat.Am
namespace Go.Proofs.YtinnphmnhmdcgaaGreat.Am
open Go.RowKit
theorem bfacts_loop (a b:List Fact):∀ (r s:List Fact)(n:Nat),a.drop n=r→b.drop n=s→r.length=s.length→Rg (M_b_Facts_L1_B a b) (M_b_Facts_L1_E a b) r n ()=some (decide (r=s))
 | [],[],n,_,_,_=>by rw[Rg,M_b_Facts_L1_E,decide_eq_true rfl]
 | [],_ :: _,n,_,_,h=>by cases h
 | _ :: _,[],n,_,_,h=>by cases h
 | x :: r,y :: s,n,h1,h2,hl=>by
  obtain⟨hy,hd,-⟩:=drop_cons h2
  have ih:=bfacts_loop a b r s (n+1) (drop_cons h1).2.1 hd (by simpa using hl)
  rw[Rg,M_b_Facts_L1_B,ixv,ix_at hy,fact_beq]
  by_cases e:x=y
  ·rw[decide_eq_true e,Bool.not_true,sel_ff]
   refine Eq.trans ih ?_
   subst e;simp
  ·rw[decide_eq_false e,Bool.not_false,sel_tt,decide_eq_false]
   intro h;exact e (List.cons.inj h).1
theorem bfacts_eq (a b:List Fact)(ha:Sh a):M_b_Facts a b=some (decide (a=b)):=by
 rw[M_b_Facts,lM_,lM_,bne_len]
 by_cases h:a.length=b.length
 ·rw[decide_eq_false (by simp[h]),sel_ff]
  have e:=M_b_Facts_L1_eq a b ha.lt
  rw[lM_]at e
  rw[e]
  exact bfacts_loop a b a b 0 rfl rfl h
 ·rw[decide_eq_true h,sel_tt,decide_eq_false]
  rintro rfl;exact h rfl
theorem f33_1 (v:Int)(y:Int):∀ (m:Nat)(i:Int)(out:List Fact),out.length+m≤1000000→Rn (M_r33_Facts_L1_B v y) (M_r33_Facts_L1_E v y) m i out=some (out++rowG v m i)
 | 0,i,out,_=>by simp[Rn,M_r33_Facts_L1_E,rowG]
 | m+1,i,out,h=>by
  rw[Rn,M_r33_Facts_L1_B,grd_t (by omega),f33_1 v y m (i+1) _ (by simp;omega)]
  simp[rowG]
theorem f33_2 (vars:List Int):∀ (r:List Int)(i:Int)(out:List Fact),(∀ k∈r,1≤k)→(out.length:Int)+sumI r≤1000000→Rg (M_r33_Facts_L2_B vars) (M_r33_Facts_L2_E vars) r i out=some (out++factsG i r)
 | [],i,out,_,h=>by
  simp only[sumI]at h
  rw[Rg,M_r33_Facts_L2_E,grd_t (by omega),factsG,List.append_nil]
 | k :: r,i,out,hk,h=>by
  have h1:=hk k (by simp)
  have h2:=sumI_nn (r:=r) (fun k hk'=>hk k (mC_ _ hk'))
  simp only[sumI]at h
  have e:=M_r33_Facts_L1_eq i k out (m:=k.toNat) (by omega) (by omega)
  rw[Rg,M_r33_Facts_L2_B,ixv,e,f33_1 i k k.toNat 0 out (by omega),ob1_some,f33_2 vars r (i+1) _ (fun k hk'=>hk k (mC_ _ hk')) (by simp[rowG_len];omega),factsG,List.append_assoc]
theorem facts33_eq {t:GTask}(hz:Sz t):M_r33_Facts t.Vars=some (allL t.Vars):=by
 have:=hz.small
 have:=hz.vlen
 unfold M_r33_Facts
 rw[M_r33_Facts_L2_eq t.Vars [] (by omega),f33_2 t.Vars _ 0 [] hz.pos (by simp;omega)]
 rfl
theorem same_loop (c:GCertificate)(hs:∀ n∈c.Nogoods,Sh n.1):∀ (r:List Nogood)(n:Nat),c.Nogoods.drop n=r→Rg (M_l30_Same_L1_B c c) (M_l30_Same_L1_E c c) r n ()=some true
 | [],n,_=>rfl
 | x :: r,n,hd=>by
  obtain⟨h1,h2,h3⟩:=drop_cons hd
  rw[Rg,M_l30_Same_L1_B]
  simp only[ixv,ix_at h1]
  rw[show(x.2 != x.2)=false from by simp,sel_ff,bfacts_eq x.1 x.1 (hs x (mG_ h1)),ob1_some,decide_eq_true rfl,Bool.not_true,sel_ff]
  exact same_loop c hs r (n+1) h2
theorem same_self (l:List Nogood)(hl:Sh l)(hs:∀ n∈l,Sh n.1):M_l33_same l l=some true:=by
 have e:=M_l30_Same_L1_eq { Bound:=0,Nogoods:=l } { Bound:=0,Nogoods:=l } hl.lt
 have h1:M_l30_Same { Bound:=0,Nogoods:=l } { Bound:=0,Nogoods:=l }=some true:=by
  rw[M_l30_Same]
  rw[show((0:Int) != 0)=false from rfl,sel_ff,show(((l.map cN).length:Int) != ((l.map cN).length:Int))=false from by simp,sel_ff,ob1_some,osum_inl,e]
  exact same_loop _ hs l 0 rfl
 rw[M_l33_same,h1,ob1_some]
def ngO (p:List Fact):Nogood:=(p,(0:Int))
section
variable {t : GTask} (hz : Sz t) {R : List (List Bool)} (hR : RkR t R) (hS : SyR t R)
include hz hR
omit hz hR in
theorem rea_is {a:Fact}(ha:InV t.Vars a):reaF t R a=isF t R a a:=by rw[reaF,inV_iff.2 ha,Bool.true_and]
include hS in
include hS in
end
theorem openF_small {t:GTask}(F:Fit3 t)(R:List (List Bool)):(openF t R).length≤4096:=by
 have h:(allL t.Vars).length≤24:=by
  have:=factsG_len t.Vars 0 F.sz.pos
  have:=sumI_le (r:=t.Vars) (m:=4) fun k hk=>(F.dom k hk).2
  have:=F.vlen
  unfold allL
  omega
 have h1:=oneF_len (t:=t) R (allL t.Vars)
 have h2:=pairG_len (t:=t) (R:=R) (allL t.Vars)
 have h3:=Nat.mul_le_mul h h
 unfold openF
 rw[lA_]
 omega
theorem ng_prop {t:GTask}{R:List (List Bool)}:∀ n∈ngF t R,propF t.Vars (-1) n.1=true∧n.2=0∧1≤n.1.length∧n.1.length≤2:=fun n hn=>by
 obtain⟨p,hp,rfl⟩:=List.mem_map.1 hn
 obtain⟨a,b,hs,rfl,-⟩:=open_mem.1 hp
 refine⟨hs.prop,rfl,?_,hs.sh⟩
 show 1≤(pset a b).length
 unfold pset
 split <;> simp
theorem ng_sh {t:GTask}(F:Fit3 t)(R:List (List Bool)):ShC { Bound:=-1,Nogoods:=ngF t R }:=by
 have h:=openF_small F R
 refine⟨?_,fun n hn=>?_⟩
 ·show(ngF t R).length≤_
  rw[ngF,lM_];omega
 ·have:=(ng_prop n hn).2.2.2
  show n.1.length≤_
  omega
end Go.Proofs.YtinnphmnhmdcgaaGreat.Am
namespace Go.Proofs.YtinnphmnhmdcgaaGreat.Am
set_option maxHeartbeats 16000000
set_option maxRecDepth 100000
open Go.RowKit
def M_b_Plain_L1 (y45:GOp):Nat→Int→Option (Unit⊕Bool)|0,_=>none|k50+1,v49=>sel (decide (v49<((y45.Effs.map cGEffect).length:Int))) (ix y45.Effs v49 (fun y51=>sel (decide (((y51.When.map cF).length:Int)>0)) (some (.inr false)) (M_b_Plain_L1 y45 k50 (IntKind.i64.wrap (v49+1))))) (some (.inl ()))
def M_b_Plain_L2 (a0:GTask):Nat→Int→Option (Bool)|0,_=>none|k35+1,v34=>sel (decide (v34<((a0.Ops.map cGOp).length:Int))) (ob1 (ix a0.Ops v34 (fun y45=>M_b_Plain_L1 y45 ((((y45.Effs.map cGEffect).length:Int)).toNat+1) 0):Option (Unit⊕Bool)) (osum (fun _=>M_b_Plain_L2 a0 k35 (IntKind.i64.wrap (v34+1))) (fun r43=>some r43))) (some true)
def M_b_Plain (a0:GTask):Option (Bool):=M_b_Plain_L2 a0 ((((a0.Ops.map cGOp).length:Int)).toNat+1) 0
theorem A_b_Plain (a0:GTask){r1:Bool}(h:M_b_Plain a0=some r1):ACall cx 11 [.agg [.sl 1 (a0.Vars.map cI),.sl 1 (a0.Init.map cI),.sl 2 (a0.Goal.map cF),.sl 4 (a0.Ops.map cGOp)]] (.c (.bool r1)):=by
 refine aOf Tryz.func11 rfl (by decide) rfl (bT3 rfl) ?_;intro _;unfold M_b_Plain at h;refine aSR ?_;intro _;refine dr (aSq (aSR ?_));intro _;refine dr (aBk ?_);refine awp_loop (α:=Nat×Int) (fun x=>mkS 27 [(8,.sl 4 (a0.Ops.map cGOp)),(9,.c (.int .i64 ((a0.Ops.map cGOp).length:Int))),(10,.c (.int .i64 x.2))] []) (fun x=>M_b_Plain_L2 a0 x.1 x.2=some r1) (fun x=>x.1) ((((a0.Ops.map cGOp).length:Int)).toNat+1,0) h ?_ ?_
 ·exact ca_0
 ·intro x1 h;intro _;obtain⟨k35,m2,h⟩:=succ_of (f:=fun n=>M_b_Plain_L2 a0 n x1.2) rfl h;replace h:M_b_Plain_L2 a0 (k35+1) x1.2=some r1:=h;rw[M_b_Plain_L2]at h;refine aSR ?_;intro _;refine dr (aSq (aCd ?_));intro _;refine spl h (fun c3 h=>?_) (fun c3 h=>?_)
  ·refine aSk ?_;obtain⟨o4,h,hK5⟩:=ob1_ok h;refine awp_cut (α:=Unit) (fun _=>mkS 27 [(8,.sl 4 (a0.Ops.map cGOp)),(9,.c (.int .i64 ((a0.Ops.map cGOp).length:Int))),(10,.c (.int .i64 x1.2))] []) (fun v=>o4=(.inl v)) ?_ ?_
   ·refine aBk (aSR ?_);intro _;obtain⟨y45,w6,q7,h⟩:=ix_ok h;refine Exists.intro (cGOp y45) (And.intro (map_at' w6) ?_);intro _;refine pr (dr (aSR ?_));intro _;refine dr (aBk ?_);refine awp_loop (α:=Nat×Int) (fun x=>mkS 27 [(8,.sl 4 (a0.Ops.map cGOp)),(9,.c (.int .i64 ((a0.Ops.map cGOp).length:Int))),(10,.c (.int .i64 x1.2)),(15,.sl 3 (y45.Effs.map cGEffect)),(16,.c (.int .i64 ((y45.Effs.map cGEffect).length:Int))),(17,.c (.int .i64 x.2))] []) (fun x=>M_b_Plain_L1 y45 x.1 x.2=some o4) (fun x=>x.1) ((((y45.Effs.map cGEffect).length:Int)).toNat+1,0) h ?_ ?_
    ·exact ca_0
    ·intro x8 h;intro _;obtain⟨k50,m9,h⟩:=succ_of (f:=fun n=>M_b_Plain_L1 y45 n x8.2) rfl h;replace h:M_b_Plain_L1 y45 (k50+1) x8.2=some o4:=h;rw[M_b_Plain_L1]at h;refine aSR ?_;intro _;refine dr (aSq (aCd ?_));intro _;refine spl h (fun c10 h=>?_) (fun c10 h=>?_)
     ·refine aSk (aSq (aBk (aSR ?_)));intro _;obtain⟨y51,w11,q12,h⟩:=ix_ok h;refine Exists.intro (cGEffect y51) (And.intro (map_at' w11) ?_);intro _;refine pr (dr (aSR ?_));intro _;refine dr (aCd ?_);intro _;refine spl h (fun c13 h=>?_) (fun c13 h=>?_)
      ·refine aSR ?_;intro _;refine dr (aRt ?_);have j14:=sI_ h;subst j14;replace h:=(osum_r hK5);intro _;obtain rfl:=inj1 h;exact ca_0
      ·refine aSk (aRg ?_);intro _;refine dr ?_;refine⟨(k50,(IntKind.i64.wrap (x8.2+1))),h,ltS m9,?_⟩;exact ca_0
     ·refine aEx ?_;refine⟨(),(sI_ h).symm,?_⟩;exact ca_0
   ·rintro _ ho;have ho:=ho.symm;subst ho;intro _;replace h:=(osum_l hK5);refine aRg ?_;intro _;refine dr ?_;refine⟨(k35,(IntKind.i64.wrap (x1.2+1))),h,ltS m2,?_⟩;exact ca_0
  ·refine aEx (aSR ?_);intro _;refine dr (aRt ?_);intro _;obtain rfl:=inj1 h;exact ca_0
def M_r33_Nogoods_L1 (a1:List (List Bool))(z1:List Fact):Nat→Int→(List Nogood)→Option (List Nogood)|0,_,_=>none|k28+1,v26,v27=>sel (decide (v26<((z1.map cF).length:Int))) (ix z1 v26 (fun y29=>ix a1 v26 (fun y30=>ix y30 v26 (fun y31=>sel (!y31) (grd ((v27.length+1)*32≤140737488355328) (M_r33_Nogoods_L1 a1 z1 k28 (IntKind.i64.wrap (v26+1)) (v27++[([y29],0)]))) (M_r33_Nogoods_L1 a1 z1 k28 (IntKind.i64.wrap (v26+1)) v27))))) (some v27)
def M_r33_Nogoods_L2 (a1:List (List Bool))(v146:Int)(y178:Fact)(z1:List Fact):Nat→Int→(List Nogood)→Option (List Nogood)|0,_,_=>none|k197+1,v195,v196=>sel (decide (v195<((z1.map cF).length:Int))) (ix z1 v195 (fun y198=>sel (y178.1 != y198.1) (ix a1 v146 (fun y199=>ix y199 v146 (fun y200=>sel y200 (ix a1 v195 (fun y201=>ix y201 v195 (fun y202=>sel y202 (ix a1 v146 (fun y203=>ix y203 v195 (fun y204=>sel (!y204) (grd ((v196.length+1)*32≤140737488355328) (M_r33_Nogoods_L2 a1 v146 y178 z1 k197 (IntKind.i64.wrap (v195+1)) (v196++[([y178,y198],0)]))) (M_r33_Nogoods_L2 a1 v146 y178 z1 k197 (IntKind.i64.wrap (v195+1)) v196)))) (M_r33_Nogoods_L2 a1 v146 y178 z1 k197 (IntKind.i64.wrap (v195+1)) v196)))) (M_r33_Nogoods_L2 a1 v146 y178 z1 k197 (IntKind.i64.wrap (v195+1)) v196)))) (M_r33_Nogoods_L2 a1 v146 y178 z1 k197 (IntKind.i64.wrap (v195+1)) v196))) (some v196)
def M_r33_Nogoods_L3 (a1:List (List Bool))(g:Nat)(z1:List Fact):Nat→Int→(List Nogood)→Option (List Nogood)|0,_,_=>none|k148+1,v146,v147=>sel (decide (v146<((z1.map cF).length:Int))) (ob1 (ix z1 v146 (fun y178=>M_r33_Nogoods_L2 a1 v146 y178 z1 g (IntKind.i64.wrap (v146+1)) v147):Option (List Nogood)) (fun v176=>M_r33_Nogoods_L3 a1 g z1 k148 (IntKind.i64.wrap (v146+1)) v176)) (grd (v147.length≤140737488355328) (some v147))
def M_r33_Nogoods (g:Nat)(a0:List Int)(a1:List (List Bool)):Option (List Nogood):=ob1 (M_r33_Facts a0) (fun z1=>ob1 (M_r33_Nogoods_L1 a1 z1 ((((z1.map cF).length:Int)).toNat+1) 0 []:Option (List Nogood)) (fun v16=>M_r33_Nogoods_L3 a1 g z1 ((((z1.map cF).length:Int)).toNat+1) 0 v16))
theorem A_r33_Nogoods (g:Nat)(a0:List Int)(a1:List (List Bool)){r1:List Nogood}(h:M_r33_Nogoods g a0 a1=some r1):ACall cx 20 [.sl 1 (a0.map cI),.sl 1 (a1.map cL_cB)] (.sl 2 (r1.map cN)):=by
 refine aOf Tryz.func20 rfl (by decide) rfl (bT3 rfl) ?_;intro _;unfold M_r33_Nogoods at h;refine aSR ?_;intro _;refine dr (aSR ?_);intro _;refine dr (aSR ?_);intro _;obtain⟨z1,u1,h⟩:=ob1_ok h;refine cl rfl (A_r33_Facts a0 u1) ?_;intro _;refine dr ?_;obtain⟨o2,h,hK3⟩:=ob1_ok h;refine awp_cut (α:=List Nogood) (fun v16=>mkS 98 [(1,.sl 1 (a1.map cL_cB)),(5,.own 35 0 0 v16.length),(6,.sl 2 (z1.map cF))] [(35,⟨48,2,false,v16.map cN⟩)]) (fun v=>o2=v) ?_ ?_
 ·refine aSR ?_;intro _;refine dr (aBk ?_);refine awp_loop (α:=Nat×Int×(List Nogood)) (fun x=>mkS 98 [(1,.sl 1 (a1.map cL_cB)),(5,.own 35 0 0 x.2.2.length),(6,.sl 2 (z1.map cF)),(15,.sl 2 (z1.map cF)),(16,.c (.int .i64 ((z1.map cF).length:Int))),(17,.c (.int .i64 x.2.1))] [(35,⟨48,2,false,x.2.2.map cN⟩)]) (fun x=>M_r33_Nogoods_L1 a1 z1 x.1 x.2.1 x.2.2=some o2) (fun x=>x.1) ((((z1.map cF).length:Int)).toNat+1,0,[]) h ?_ ?_
  ·exact ca_0
  ·intro x4 h;intro _;obtain⟨k28,m5,h⟩:=succ_of (f:=fun n=>M_r33_Nogoods_L1 a1 z1 n x4.2.1 x4.2.2) rfl h;replace h:M_r33_Nogoods_L1 a1 z1 (k28+1) x4.2.1 x4.2.2=some o2:=h;rw[M_r33_Nogoods_L1]at h;refine aSR ?_;intro _;refine dr (aSq (aCd ?_));intro _;refine spl h (fun c6 h=>?_) (fun c6 h=>?_)
   ·refine aSk (aSq (aBk (aSR ?_)));intro _;obtain⟨y29,w7,q8,h⟩:=ix_ok h;refine Exists.intro (cF y29) (And.intro (map_at' w7) ?_);intro _;refine pr (dr (aSR ?_));intro _;obtain⟨y30,w9,q10,h⟩:=ix_ok h;refine Exists.intro (cL_cB y30) (And.intro (map_at' w9) ?_);intro _;obtain⟨y31,w11,q12,h⟩:=ix_ok h;refine Exists.intro (cB y31) (And.intro (map_at' w11) ?_);intro _;refine pr (pr (dr (aCd ?_)));intro _;refine spl h (fun c13 h=>?_) (fun c13 h=>?_)
    ·refine aRg ?_;intro _;obtain⟨q14,h⟩:=grd_ok h;refine pl (pl ?_);refine And.intro (by first|with_reducible assumption|(show(x4.2.2.length+1)*32≤140737488355328;with_reducible assumption)|omega|(simp;omega)) ?_;refine pe (dr (aRg ?_));intro _;refine dr ?_;refine⟨(k28,(IntKind.i64.wrap (x4.2.1+1)),(x4.2.2++[([y29],0)])),h,ltS m5,?_⟩;exact ca_0
    ·refine aSk (aRg ?_);intro _;refine dr ?_;refine⟨(k28,(IntKind.i64.wrap (x4.2.1+1)),x4.2.2),h,ltS m5,?_⟩;exact ca_0
   ·refine aEx ?_;refine⟨x4.2.2,(sI_ h).symm,?_⟩;exact ca_0
 ·rintro v16 ho;have ho:=ho.symm;subst ho;intro _;replace h:=hK3;refine aSq (aSR ?_);intro _;refine dr (aBk ?_);refine awp_loop (α:=Nat×Int×(List Nogood)) (fun x=>mkS 98 [(1,.sl 1 (a1.map cL_cB)),(5,.own 35 0 0 x.2.2.length),(6,.sl 2 (z1.map cF)),(37,.sl 2 (z1.map cF)),(38,.c (.int .i64 ((z1.map cF).length:Int))),(39,.c (.int .i64 x.2.1))] [(35,⟨48,2,false,x.2.2.map cN⟩)]) (fun x=>M_r33_Nogoods_L3 a1 g z1 x.1 x.2.1 x.2.2=some r1) (fun x=>x.1) ((((z1.map cF).length:Int)).toNat+1,0,v16) h ?_ ?_
  ·exact ca_0
  ·intro x15 h;intro _;obtain⟨k148,m16,h⟩:=succ_of (f:=fun n=>M_r33_Nogoods_L3 a1 g z1 n x15.2.1 x15.2.2) rfl h;replace h:M_r33_Nogoods_L3 a1 g z1 (k148+1) x15.2.1 x15.2.2=some r1:=h;rw[M_r33_Nogoods_L3]at h;refine aSR ?_;intro _;refine dr (aSq (aCd ?_));intro _;refine spl h (fun c17 h=>?_) (fun c17 h=>?_)
   ·refine aSk ?_;obtain⟨o18,h,hK19⟩:=ob1_ok h;refine awp_cut (α:=List Nogood) (fun v176=>mkS 98 [(1,.sl 1 (a1.map cL_cB)),(5,.own 35 0 0 v176.length),(6,.sl 2 (z1.map cF)),(37,.sl 2 (z1.map cF)),(38,.c (.int .i64 ((z1.map cF).length:Int))),(39,.c (.int .i64 x15.2.1))] [(35,⟨48,2,false,v176.map cN⟩)]) (fun v=>o18=v) ?_ ?_
    ·refine aBk (aSR ?_);intro _;obtain⟨y178,w20,q21,h⟩:=ix_ok h;refine Exists.intro (cF y178) (And.intro (map_at' w20) ?_);intro _;refine pr (dr (aSR ?_));intro _;refine dr (aBk ?_);refine awp_loop (α:=Nat×Int×(List Nogood)) (fun x=>mkS 98 [(1,.sl 1 (a1.map cL_cB)),(5,.own 35 0 0 x.2.2.length),(6,.sl 2 (z1.map cF)),(9,.c (.int .i64 x15.2.1)),(10,.ptr 10 0 0 0),(11,.c (.int .i64 x.2.1)),(37,.sl 2 (z1.map cF)),(38,.c (.int .i64 ((z1.map cF).length:Int))),(39,.c (.int .i64 x15.2.1))] [(10,⟨39,2,true,[[.c (.int .i64 y178.1),.c (.int .i64 y178.2)]]⟩),(35,⟨48,2,false,x.2.2.map cN⟩)]) (fun x=>M_r33_Nogoods_L2 a1 x15.2.1 y178 z1 x.1 x.2.1 x.2.2=some o18) (fun x=>x.1) (g,(IntKind.i64.wrap (x15.2.1+1)),x15.2.2) h ?_ ?_
     ·exact ca_0
     ·intro x22 h;intro _;obtain⟨k197,m23,h⟩:=succ_of (f:=fun n=>M_r33_Nogoods_L2 a1 x15.2.1 y178 z1 n x22.2.1 x22.2.2) rfl h;replace h:M_r33_Nogoods_L2 a1 x15.2.1 y178 z1 (k197+1) x22.2.1 x22.2.2=some o18:=h;rw[M_r33_Nogoods_L2]at h;refine aSq (aSR ?_);intro _;refine dr (aCd ?_);intro _;refine spl h (fun c24 h=>?_) (fun c24 h=>?_)
      ·refine aSk (aSq (aBk (aSR ?_)));intro _;obtain⟨y198,w25,q26,h⟩:=ix_ok h;refine Exists.intro (cF y198) (And.intro (map_at' w25) ?_);intro _;refine pr (dr (aSR ?_));intro _;refine spl h (fun c27 h=>?_) (fun c27 h=>?_)
       ·intro _;obtain⟨y199,w28,q29,h⟩:=ix_ok h;refine Exists.intro (cL_cB y199) (And.intro (map_at' w28) ?_);intro _;obtain⟨y200,w30,q31,h⟩:=ix_ok h;refine Exists.intro (cB y200) (And.intro (map_at' w30) ?_);intro _;refine spl h (fun c32 h=>?_) (fun c32 h=>?_)
        ·intro _;obtain⟨y201,w33,q34,h⟩:=ix_ok h;refine Exists.intro (cL_cB y201) (And.intro (map_at' w33) ?_);intro _;obtain⟨y202,w35,q36,h⟩:=ix_ok h;refine Exists.intro (cB y202) (And.intro (map_at' w35) ?_);intro _;refine spl h (fun c37 h=>?_) (fun c37 h=>?_)
         ·intro _;obtain⟨y203,w38,q39,h⟩:=ix_ok h;refine Exists.intro (cL_cB y203) (And.intro (map_at' w38) ?_);intro _;obtain⟨y204,w40,q41,h⟩:=ix_ok h;refine Exists.intro (cB y204) (And.intro (map_at' w40) ?_);intro _;refine pr (pr (pr (pr (pr (pr (dr (aCd ?_)))))));intro _;refine spl h (fun c42 h=>?_) (fun c42 h=>?_)
          ·refine aRg ?_;intro _;obtain⟨q43,h⟩:=grd_ok h;refine pl (pl ?_);refine And.intro (by first|with_reducible assumption|(show(x22.2.2.length+1)*32≤140737488355328;with_reducible assumption)|omega|(simp;omega)) ?_;refine pe (dr (aRg ?_));intro _;refine dr ?_;refine⟨(k197,(IntKind.i64.wrap (x22.2.1+1)),(x22.2.2++[([y178,y198],0)])),h,ltS m23,?_⟩;exact ca_0
          ·refine aSk (aRg ?_);intro _;refine dr ?_;refine⟨(k197,(IntKind.i64.wrap (x22.2.1+1)),x22.2.2),h,ltS m23,?_⟩;exact ca_0
         ·intro _;refine pr (pr (pr (pr (dr (aCd ?_)))));intro _;refine litF (aSk (aRg ?_));intro _;refine dr ?_;refine⟨(k197,(IntKind.i64.wrap (x22.2.1+1)),x22.2.2),h,ltS m23,?_⟩;exact ca_0
        ·intro _;refine pr (pr (dr (aCd ?_)));intro _;refine litF (aSk (aRg ?_));intro _;refine dr ?_;refine⟨(k197,(IntKind.i64.wrap (x22.2.1+1)),x22.2.2),h,ltS m23,?_⟩;exact ca_0
       ·intro _;refine dr (aCd ?_);intro _;refine litF (aSk (aRg ?_));intro _;refine dr ?_;refine⟨(k197,(IntKind.i64.wrap (x22.2.1+1)),x22.2.2),h,ltS m23,?_⟩;exact ca_0
      ·refine aEx ?_;refine⟨x22.2.2,(sI_ h).symm,?_⟩;exact ca_0
    ·rintro v176 ho;have ho:=ho.symm;subst ho;intro _;replace h:=hK19;refine aRg ?_;intro _;refine dr ?_;refine⟨(k148,(IntKind.i64.wrap (x15.2.1+1)),v176),h,ltS m16,?_⟩;exact ca_0
   ·refine aEx (aSR ?_);intro _;refine dr (aRt ?_);obtain⟨q44,h⟩:=grd_ok h;intro _;obtain rfl:=inj1 h;exact ca_0
def M_l33_MutexTable_L1 (v347:Int)(y382:Fact)(z18:List (List Bool))(z19:List Fact)(z20:GTable):Nat→Int→Option (Unit⊕Bool)|0,_=>none|k404+1,v403=>sel (decide (v403<((z19.map cF).length:Int))) (ix z19 v403 (fun y405=>ob1 (M_stratagem_mutex_Table_Together (some z20) y382 y405) (fun z406=>ix z18 v347 (fun y407=>ix y407 v403 (fun y408=>sel y408 (ix z18 v347 (fun y409=>ix y409 v347 (fun y410=>sel y410 (ix z18 v403 (fun y411=>ix y411 v403 (fun y412=>sel (!(z406 == y412)) (some (.inr false)) (M_l33_MutexTable_L1 v347 y382 z18 z19 z20 k404 (IntKind.i64.wrap (v403+1)))))) (sel (!(z406 == false)) (some (.inr false)) (M_l33_MutexTable_L1 v347 y382 z18 z19 z20 k404 (IntKind.i64.wrap (v403+1))))))) (sel (!(z406 == false)) (some (.inr false)) (M_l33_MutexTable_L1 v347 y382 z18 z19 z20 k404 (IntKind.i64.wrap (v403+1))))))))) (some (.inl ()))
def M_l33_MutexTable_L2 (z18:List (List Bool))(z19:List Fact)(z20:GTable):Nat→Int→Option (Unit⊕Bool)|0,_=>none|k348+1,v347=>sel (decide (v347<((z19.map cF).length:Int))) (ob1 (ix z19 v347 (fun y382=>ob1 (M_stratagem_mutex_Table_Reached (some z20) y382) (fun z383=>ix z18 v347 (fun y384=>ix y384 v347 (fun y385=>sel (!(z383 == y385)) (some (.inr false)) (M_l33_MutexTable_L1 v347 y382 z18 z19 z20 ((((z19.map cF).length:Int)).toNat+1) 0))))):Option (Unit⊕Bool)) (osum (fun _=>M_l33_MutexTable_L2 z18 z19 z20 k348 (IntKind.i64.wrap (v347+1))) (fun r380=>some (.inr r380)))) (some (.inl ()))
def M_l33_MutexTable (g:Nat)(a0:GTask):Option (Bool):=ob1 (ob1 (M_l33_fit a0) (fun z9=>sel (!z9) (ob1 (M_l33_awake g) (fun z14=>some (.inr z14))) (ob1 (M_b_Plain a0) (fun z10=>sel (!z10) (ob1 (M_l33_awake g) (fun z13=>some (.inr z13))) (ob1 (M_l33_awake g) (fun z11=>sel (!z11) (ob1 (M_l33_awake g) (fun z12=>some (.inr z12))) (some (.inl ()))))))):Option (Unit⊕Bool)) (osum (fun _=>ob2 (M_mutex_New g a0) (fun z15 z16=>erM z16 (ob1 (M_r33_New g a0) (fun z18=>ob1 (M_r33_Facts a0.Vars) (fun z19=>opM z15 (none) (fun z20=>ob1 (M_l33_MutexTable_L2 z18 z19 z20 ((((z19.map cF).length:Int)).toNat+1) 0:Option (Unit⊕Bool)) (osum (fun _=>ob1 (M_stratagem_mutex_Table_Nogoods (some z20)) (fun z413=>ob1 (M_r33_Nogoods g a0.Vars z18) (fun z414=>ob1 (M_l33_same z413 z414) (fun z415=>some z415)))) (fun r216=>some r216)))))) (fun _=>some false))) (fun r7=>some r7))
theorem A_l33_MutexTable (g:Nat)(a0:GTask){r1:Bool}(h:M_l33_MutexTable g a0=some r1):ACall cx 3 [.agg [.sl 1 (a0.Vars.map cI),.sl 1 (a0.Init.map cI),.sl 2 (a0.Goal.map cF),.sl 4 (a0.Ops.map cGOp)]] (.c (.bool r1)):=by
 refine aOf Tryz.func3 rfl (by decide) rfl (bT3 rfl) ?_;intro _;unfold M_l33_MutexTable at h;refine aSR ?_;intro _;refine dr ?_;obtain⟨o1,h,hK2⟩:=ob1_ok h;refine awp_cut (α:=Unit) (fun _=>mkS 100 [(1,.ptr 1 0 0 0)] [(1,⟨26,4,true,[[.sl 1 (a0.Vars.map cI),.sl 1 (a0.Init.map cI),.sl 2 (a0.Goal.map cF),.sl 4 (a0.Ops.map cGOp)]]⟩)]) (fun v=>o1=(.inl v)) ?_ ?_
 ·refine aSR ?_;intro _;obtain⟨z9,u3,h⟩:=ob1_ok h;refine cl rfl (A_l33_fit a0 u3) ?_;intro _;refine spf h (fun c4 h=>?_) (fun c4 h=>?_)
  ·intro _;obtain⟨z10,u5,h⟩:=ob1_ok h;refine cl rfl (A_b_Plain a0 u5) ?_;intro _;refine spf h (fun c6 h=>?_) (fun c6 h=>?_)
   ·intro _;obtain⟨z11,u7,h⟩:=ob1_ok h;refine cl rfl (A_l33_awake g u7) ?_;intro _;refine dr (aCd ?_);intro _;refine spl h (fun c8 h=>?_) (fun c8 h=>?_)
    ·refine aSR ?_;intro _;obtain⟨z12,u9,h⟩:=ob1_ok h;refine cl rfl (A_l33_awake g u9) ?_;intro _;refine dr (aRt ?_);have j10:=sI_ h;subst j10;replace h:=(osum_r hK2);intro _;obtain rfl:=inj1 h;exact ca_0
    ·refine aSk ?_;refine⟨(),(sI_ h).symm,?_⟩;exact ca_0
   ·intro _;refine dr (aCd ?_);intro _;refine litT (aSR ?_);intro _;obtain⟨z13,u11,h⟩:=ob1_ok h;refine cl rfl (A_l33_awake g u11) ?_;intro _;refine dr (aRt ?_);have j12:=sI_ h;subst j12;replace h:=(osum_r hK2);intro _;obtain rfl:=inj1 h;exact ca_0
  ·intro _;refine dr (aCd ?_);intro _;refine litT (aSR ?_);intro _;obtain⟨z14,u13,h⟩:=ob1_ok h;refine cl rfl (A_l33_awake g u13) ?_;intro _;refine dr (aRt ?_);have j14:=sI_ h;subst j14;replace h:=(osum_r hK2);intro _;obtain rfl:=inj1 h;exact ca_0
 ·rintro _ ho;have ho:=ho.symm;subst ho;intro _;replace h:=(osum_l hK2);refine aSR ?_;intro _;obtain⟨z15,z16,u15,h⟩:=ob2_ok h;refine cl rfl (A_mutex_New g a0 u15) ?_;intro _;refine dr (aSq (aSq ?_));rcases z16 with _|e17
  ·replace h:=erM_nil h;refine aRg ?_;intro _;refine dr (aCd ?_);intro _;refine litF (aSk (aSR ?_));intro _;obtain⟨z18,u16,h⟩:=ob1_ok h;refine cl rfl (A_r33_New g a0 u16) ?_;intro _;refine dr (aSR ?_);intro _;obtain⟨z19,u17,h⟩:=ob1_ok h;refine cl rfl (A_r33_Facts a0.Vars u17) ?_;intro _;refine dr ?_;rcases z15 with _|z20
   ·replace h:=opM_none h;cases h
   ·replace h:=opM_some h;obtain⟨o18,h,hK19⟩:=ob1_ok h;refine awp_cut (α:=Unit) (fun _=>mkS 100 [(1,.ptr 1 0 0 0),(3,.pim [.sl 1 (z20.t.Vars.map cI),.sl 1 (z20.t.Init.map cI),.sl 2 (z20.t.Goal.map cF),.sl 4 (z20.t.Ops.map cGOp),.sl 1 (z20.first.map cI),.sl 1 (z20.reached.map cL_cB)] 0),(5,.sl 1 (z18.map cL_cB))] [(1,⟨26,4,true,[[.sl 1 (a0.Vars.map cI),.sl 1 (a0.Init.map cI),.sl 2 (a0.Goal.map cF),.sl 4 (a0.Ops.map cGOp)]]⟩)]) (fun v=>o18=(.inl v)) ?_ ?_
    ·refine aSR ?_;intro _;refine dr (aBk ?_);refine awp_loop (α:=Nat×Int) (fun x=>mkS 100 [(1,.ptr 1 0 0 0),(3,.pim [.sl 1 (z20.t.Vars.map cI),.sl 1 (z20.t.Init.map cI),.sl 2 (z20.t.Goal.map cF),.sl 4 (z20.t.Ops.map cGOp),.sl 1 (z20.first.map cI),.sl 1 (z20.reached.map cL_cB)] 0),(5,.sl 1 (z18.map cL_cB)),(6,.sl 2 (z19.map cF)),(36,.sl 2 (z19.map cF)),(37,.c (.int .i64 ((z19.map cF).length:Int))),(38,.c (.int .i64 x.2))] [(1,⟨26,4,true,[[.sl 1 (a0.Vars.map cI),.sl 1 (a0.Init.map cI),.sl 2 (a0.Goal.map cF),.sl 4 (a0.Ops.map cGOp)]]⟩)]) (fun x=>M_l33_MutexTable_L2 z18 z19 z20 x.1 x.2=some o18) (fun x=>x.1) ((((z19.map cF).length:Int)).toNat+1,0) h ?_ ?_
     ·exact ca_0
     ·intro x20 h;intro _;obtain⟨k348,m21,h⟩:=succ_of (f:=fun n=>M_l33_MutexTable_L2 z18 z19 z20 n x20.2) rfl h;replace h:M_l33_MutexTable_L2 z18 z19 z20 (k348+1) x20.2=some o18:=h;rw[M_l33_MutexTable_L2]at h;refine aSR ?_;intro _;refine dr (aSq (aCd ?_));intro _;refine spl h (fun c22 h=>?_) (fun c22 h=>?_)
      ·refine aSk ?_;obtain⟨o23,h,hK24⟩:=ob1_ok h;refine awp_cut (α:=Unit) (fun _=>mkS 100 [(1,.ptr 1 0 0 0),(3,.pim [.sl 1 (z20.t.Vars.map cI),.sl 1 (z20.t.Init.map cI),.sl 2 (z20.t.Goal.map cF),.sl 4 (z20.t.Ops.map cGOp),.sl 1 (z20.first.map cI),.sl 1 (z20.reached.map cL_cB)] 0),(5,.sl 1 (z18.map cL_cB)),(6,.sl 2 (z19.map cF)),(36,.sl 2 (z19.map cF)),(37,.c (.int .i64 ((z19.map cF).length:Int))),(38,.c (.int .i64 x20.2))] [(1,⟨26,4,true,[[.sl 1 (a0.Vars.map cI),.sl 1 (a0.Init.map cI),.sl 2 (a0.Goal.map cF),.sl 4 (a0.Ops.map cGOp)]]⟩)]) (fun v=>o23=(.inl v)) ?_ ?_
       ·refine aBk (aSR ?_);intro _;obtain⟨y382,w25,q26,h⟩:=ix_ok h;refine Exists.intro (cF y382) (And.intro (map_at' w25) ?_);intro _;refine pr (dr (aSq (aSR ?_)));intro _;obtain⟨z383,u27,h⟩:=ob1_ok h;refine cl rfl (A_stratagem_mutex_Table_Reached (some z20) y382 u27) ?_;intro _;obtain⟨y384,w28,q29,h⟩:=ix_ok h;refine Exists.intro (cL_cB y384) (And.intro (map_at' w28) ?_);intro _;obtain⟨y385,w30,q31,h⟩:=ix_ok h;refine Exists.intro (cB y385) (And.intro (map_at' w30) ?_);intro _;refine pr (pr (dr (aCd ?_)));intro _;refine spl h (fun c32 h=>?_) (fun c32 h=>?_)
        ·refine aSR ?_;intro _;refine dr (aRt ?_);have j33:=sI_ h;subst j33;replace h:=(osum_r hK24);have j34:=sI_ h;subst j34;replace h:=(osum_r hK19);intro _;obtain rfl:=inj1 h;exact ca_0
        ·refine aSk (aSR ?_);intro _;refine dr (aBk ?_);refine awp_loop (α:=Nat×Int) (fun x=>mkS 100 [(1,.ptr 1 0 0 0),(3,.pim [.sl 1 (z20.t.Vars.map cI),.sl 1 (z20.t.Init.map cI),.sl 2 (z20.t.Goal.map cF),.sl 4 (z20.t.Ops.map cGOp),.sl 1 (z20.first.map cI),.sl 1 (z20.reached.map cL_cB)] 0),(5,.sl 1 (z18.map cL_cB)),(6,.sl 2 (z19.map cF)),(7,.c (.int .i64 x20.2)),(8,.ptr 8 0 0 0),(36,.sl 2 (z19.map cF)),(37,.c (.int .i64 ((z19.map cF).length:Int))),(38,.c (.int .i64 x20.2)),(54,.sl 2 (z19.map cF)),(55,.c (.int .i64 ((z19.map cF).length:Int))),(56,.c (.int .i64 x.2))] [(1,⟨26,4,true,[[.sl 1 (a0.Vars.map cI),.sl 1 (a0.Init.map cI),.sl 2 (a0.Goal.map cF),.sl 4 (a0.Ops.map cGOp)]]⟩),(8,⟨39,2,true,[[.c (.int .i64 y382.1),.c (.int .i64 y382.2)]]⟩)]) (fun x=>M_l33_MutexTable_L1 x20.2 y382 z18 z19 z20 x.1 x.2=some o23) (fun x=>x.1) ((((z19.map cF).length:Int)).toNat+1,0) h ?_ ?_
         ·exact ca_0
         ·intro x35 h;intro _;obtain⟨k404,m36,h⟩:=succ_of (f:=fun n=>M_l33_MutexTable_L1 x20.2 y382 z18 z19 z20 n x35.2) rfl h;replace h:M_l33_MutexTable_L1 x20.2 y382 z18 z19 z20 (k404+1) x35.2=some o23:=h;rw[M_l33_MutexTable_L1]at h;refine aSR ?_;intro _;refine dr (aSq (aCd ?_));intro _;refine spl h (fun c37 h=>?_) (fun c37 h=>?_)
          ·refine aSk (aSq (aBk (aSR ?_)));intro _;obtain⟨y405,w38,q39,h⟩:=ix_ok h;refine Exists.intro (cF y405) (And.intro (map_at' w38) ?_);intro _;refine pr (dr (aSR ?_));intro _;obtain⟨z406,u40,h⟩:=ob1_ok h;refine cl rfl (A_stratagem_mutex_Table_Together (some z20) y382 y405 u40) ?_;intro _;obtain⟨y407,w41,q42,h⟩:=ix_ok h;refine Exists.intro (cL_cB y407) (And.intro (map_at' w41) ?_);intro _;obtain⟨y408,w43,q44,h⟩:=ix_ok h;refine Exists.intro (cB y408) (And.intro (map_at' w43) ?_);intro _;refine spl h (fun c45 h=>?_) (fun c45 h=>?_)
           ·intro _;obtain⟨y409,w46,q47,h⟩:=ix_ok h;refine Exists.intro (cL_cB y409) (And.intro (map_at' w46) ?_);intro _;obtain⟨y410,w48,q49,h⟩:=ix_ok h;refine Exists.intro (cB y410) (And.intro (map_at' w48) ?_);intro _;refine spl h (fun c50 h=>?_) (fun c50 h=>?_)
            ·intro _;obtain⟨y411,w51,q52,h⟩:=ix_ok h;refine Exists.intro (cL_cB y411) (And.intro (map_at' w51) ?_);intro _;obtain⟨y412,w53,q54,h⟩:=ix_ok h;refine Exists.intro (cB y412) (And.intro (map_at' w53) ?_);intro _;refine pr (pr (pr (pr (pr (pr (dr (aCd ?_)))))));intro _;refine spl h (fun c55 h=>?_) (fun c55 h=>?_)
             ·refine aSR ?_;intro _;refine dr (aRt ?_);have j56:=sI_ h;subst j56;replace h:=(osum_r hK24);have j57:=sI_ h;subst j57;replace h:=(osum_r hK19);intro _;obtain rfl:=inj1 h;exact ca_0
             ·refine aSk (aRg ?_);intro _;refine dr ?_;refine⟨(k404,(IntKind.i64.wrap (x35.2+1))),h,ltS m36,?_⟩;exact ca_0
            ·intro _;refine pr (pr (pr (pr (dr (aCd ?_)))));intro _;refine spl h (fun c58 h=>?_) (fun c58 h=>?_)
             ·refine aSR ?_;intro _;refine dr (aRt ?_);have j59:=sI_ h;subst j59;replace h:=(osum_r hK24);have j60:=sI_ h;subst j60;replace h:=(osum_r hK19);intro _;obtain rfl:=inj1 h;exact ca_0
             ·refine aSk (aRg ?_);intro _;refine dr ?_;refine⟨(k404,(IntKind.i64.wrap (x35.2+1))),h,ltS m36,?_⟩;exact ca_0
           ·intro _;refine pr (pr (dr (aCd ?_)));intro _;refine spl h (fun c61 h=>?_) (fun c61 h=>?_)
            ·refine aSR ?_;intro _;refine dr (aRt ?_);have j62:=sI_ h;subst j62;replace h:=(osum_r hK24);have j63:=sI_ h;subst j63;replace h:=(osum_r hK19);intro _;obtain rfl:=inj1 h;exact ca_0
            ·refine aSk (aRg ?_);intro _;refine dr ?_;refine⟨(k404,(IntKind.i64.wrap (x35.2+1))),h,ltS m36,?_⟩;exact ca_0
          ·refine aEx ?_;refine⟨(),(sI_ h).symm,?_⟩;exact ca_0
       ·rintro _ ho;have ho:=ho.symm;subst ho;intro _;replace h:=(osum_l hK24);refine aRg ?_;intro _;refine dr ?_;refine⟨(k348,(IntKind.i64.wrap (x20.2+1))),h,ltS m21,?_⟩;exact ca_0
      ·refine aEx ?_;refine⟨(),(sI_ h).symm,?_⟩;exact ca_0
    ·rintro _ ho;have ho:=ho.symm;subst ho;intro _;replace h:=(osum_l hK19);refine aSR ?_;intro _;obtain⟨z413,u64,h⟩:=ob1_ok h;refine cl rfl (A_stratagem_mutex_Table_Nogoods (some z20) u64) ?_;intro _;obtain⟨z414,u65,h⟩:=ob1_ok h;refine cl rfl (A_r33_Nogoods g a0.Vars z18 u65) ?_;intro _;obtain⟨z415,u66,h⟩:=ob1_ok h;refine cl rfl (A_l33_same z413 z414 u66) ?_;intro _;refine dr (aRt ?_);intro _;obtain rfl:=inj1 h;exact ca_0
  ·replace h:=erM_no h;refine aRg ?_;intro _;refine dr (aCd ?_);intro _;refine litT (aSR ?_);intro _;refine dr (aRt ?_);intro _;obtain rfl:=inj1 h;exact ca_0
def M_b_Plain_L1_B (_:GOp)(_y51:GEffect)(_:Int):Unit→(Unit→Option (Unit⊕Bool))→Option (Unit⊕Bool):=fun _ rc=>ixv _y51 (fun y51=>sel (decide (((y51.When.map cF).length:Int)>0)) (some (.inr false)) (rc ()))
def M_b_Plain_L1_E (_:GOp):Unit→Option (Unit⊕Bool):=fun _=>some (.inl ())
theorem M_b_Plain_L1_eq (y45:GOp)  (hl:y45.Effs.length<9223372036854775807):M_b_Plain_L1 y45 (((y45.Effs.map cGEffect).length:Int).toNat+1) 0=Rg (M_b_Plain_L1_B y45) (M_b_Plain_L1_E y45) y45.Effs 0 ():=rg_e1 (L:=fun k i _=>M_b_Plain_L1 y45 k i) hl (fun _ _ _=>rfl) ()
def M_b_Plain_L2_B (_:GTask)(_y45:GOp)(_:Int):Unit→(Unit→Option (Bool))→Option (Bool):=fun _ rc=>ob1 (ixv _y45 (fun y45=>M_b_Plain_L1 y45 ((((y45.Effs.map cGEffect).length:Int)).toNat+1) 0):Option (Unit⊕Bool)) (osum (fun _=>rc ()) (fun r43=>some r43))
def M_b_Plain_L2_E (_:GTask):Unit→Option (Bool):=fun _=>some true
theorem M_b_Plain_L2_eq (a0:GTask)  (hl:a0.Ops.length<9223372036854775807):M_b_Plain_L2 a0 (((a0.Ops.map cGOp).length:Int).toNat+1) 0=Rg (M_b_Plain_L2_B a0) (M_b_Plain_L2_E a0) a0.Ops 0 ():=rg_e2 (L:=fun k i _=>M_b_Plain_L2 a0 k i) hl (fun k n p y hy h1 h2=>by first|(simp only[M_b_Plain_L2,M_b_Plain_L2_B,lM_,decide_lt h1,sel,ix_at hy,ixv,h2];done)|(simp only[lM_]at h1 hy;(simp only[M_b_Plain_L2,M_b_Plain_L2_B,lM_,decide_lt h1,sel,ix_at hy,ixv,h2];done))) (fun k p=>by simp only[M_b_Plain_L2,M_b_Plain_L2_E,lM_,decide_ge,sel]) ()
def M_r33_Nogoods_L1_B (a1:List (List Bool))(_:List Fact)(_y29:Fact)(v26:Int):((List Nogood))→(((List Nogood))→Option (List Nogood))→Option (List Nogood):=fun v27 rc=>ixv _y29 (fun y29=>ix a1 v26 (fun y30=>ix y30 v26 (fun y31=>sel (!y31) (grd ((v27.length+1)*32≤140737488355328) (rc ((v27++[([y29],0)])))) (rc (v27)))))
def M_r33_Nogoods_L1_E (_:List (List Bool))(_:List Fact):((List Nogood))→Option (List Nogood):=fun v27=>some v27
theorem M_r33_Nogoods_L1_eq (a1:List (List Bool))(z1:List Fact)(v27:List Nogood)(hl:z1.length<9223372036854775807):M_r33_Nogoods_L1 a1 z1 (((z1.map cF).length:Int).toNat+1) 0 v27=Rg (M_r33_Nogoods_L1_B a1 z1) (M_r33_Nogoods_L1_E a1 z1) z1 0 v27:=rg_e1 (L:=fun k i v27=>M_r33_Nogoods_L1 a1 z1 k i v27) hl (fun _ _ _=>rfl) v27
def M_r33_Nogoods_L3_B (a1:List (List Bool))(g:Nat)(z1:List Fact)(_y178:Fact)(v146:Int):((List Nogood))→(((List Nogood))→Option (List Nogood))→Option (List Nogood):=fun v147 rc=>ob1 (ixv _y178 (fun y178=>M_r33_Nogoods_L2 a1 v146 y178 z1 g (IntKind.i64.wrap (v146+1)) v147):Option (List Nogood)) (fun v176=>rc (v176))
def M_r33_Nogoods_L3_E (_:List (List Bool))(_:Nat)(_:List Fact):((List Nogood))→Option (List Nogood):=fun v147=>grd (v147.length≤140737488355328) (some v147)
theorem M_r33_Nogoods_L3_eq (a1:List (List Bool))(g:Nat)(z1:List Fact)(v147:List Nogood)(hl:z1.length<9223372036854775807):M_r33_Nogoods_L3 a1 g z1 (((z1.map cF).length:Int).toNat+1) 0 v147=Rg (M_r33_Nogoods_L3_B a1 g z1) (M_r33_Nogoods_L3_E a1 g z1) z1 0 v147:=rg_e2 (L:=fun k i v147=>M_r33_Nogoods_L3 a1 g z1 k i v147) hl (fun k n p y hy h1 h2=>by first|(simp only[M_r33_Nogoods_L3,M_r33_Nogoods_L3_B,lM_,decide_lt h1,sel,ix_at hy,ixv,h2];done)|(simp only[lM_]at h1 hy;(simp only[M_r33_Nogoods_L3,M_r33_Nogoods_L3_B,lM_,decide_lt h1,sel,ix_at hy,ixv,h2];done))) (fun k p=>by simp only[M_r33_Nogoods_L3,M_r33_Nogoods_L3_E,lM_,decide_ge,sel]) v147
def M_l33_MutexTable_L1_B (v347:Int)(y382:Fact)(z18:List (List Bool))(_:List Fact)(z20:GTable)(_y405:Fact)(v403:Int):Unit→(Unit→Option (Unit⊕Bool))→Option (Unit⊕Bool):=fun _ rc=>ixv _y405 (fun y405=>ob1 (M_stratagem_mutex_Table_Together (some z20) y382 y405) (fun z406=>ix z18 v347 (fun y407=>ix y407 v403 (fun y408=>sel y408 (ix z18 v347 (fun y409=>ix y409 v347 (fun y410=>sel y410 (ix z18 v403 (fun y411=>ix y411 v403 (fun y412=>sel (!(z406 == y412)) (some (.inr false)) (rc ())))) (sel (!(z406 == false)) (some (.inr false)) (rc ()))))) (sel (!(z406 == false)) (some (.inr false)) (rc ()))))))
def M_l33_MutexTable_L1_E (_:Int)(_:Fact)(_:List (List Bool))(_:List Fact)(_:GTable):Unit→Option (Unit⊕Bool):=fun _=>some (.inl ())
theorem M_l33_MutexTable_L1_eq (v347:Int)(y382:Fact)(z18:List (List Bool))(z19:List Fact)(z20:GTable)  (hl:z19.length<9223372036854775807):M_l33_MutexTable_L1 v347 y382 z18 z19 z20 (((z19.map cF).length:Int).toNat+1) 0=Rg (M_l33_MutexTable_L1_B v347 y382 z18 z19 z20) (M_l33_MutexTable_L1_E v347 y382 z18 z19 z20) z19 0 ():=rg_e1 (L:=fun k i _=>M_l33_MutexTable_L1 v347 y382 z18 z19 z20 k i) hl (fun _ _ _=>rfl) ()
def M_l33_MutexTable_L2_B (z18:List (List Bool))(z19:List Fact)(z20:GTable)(_y382:Fact)(v347:Int):Unit→(Unit→Option (Unit⊕Bool))→Option (Unit⊕Bool):=fun _ rc=>ob1 (ixv _y382 (fun y382=>ob1 (M_stratagem_mutex_Table_Reached (some z20) y382) (fun z383=>ix z18 v347 (fun y384=>ix y384 v347 (fun y385=>sel (!(z383 == y385)) (some (.inr false)) (M_l33_MutexTable_L1 v347 y382 z18 z19 z20 ((((z19.map cF).length:Int)).toNat+1) 0))))):Option (Unit⊕Bool)) (osum (fun _=>rc ()) (fun r380=>some (.inr r380)))
def M_l33_MutexTable_L2_E (_:List (List Bool))(_:List Fact)(_:GTable):Unit→Option (Unit⊕Bool):=fun _=>some (.inl ())
theorem M_l33_MutexTable_L2_eq (z18:List (List Bool))(z19:List Fact)(z20:GTable)  (hl:z19.length<9223372036854775807):M_l33_MutexTable_L2 z18 z19 z20 (((z19.map cF).length:Int).toNat+1) 0=Rg (M_l33_MutexTable_L2_B z18 z19 z20) (M_l33_MutexTable_L2_E z18 z19 z20) z19 0 ():=rg_e2 (L:=fun k i _=>M_l33_MutexTable_L2 z18 z19 z20 k i) hl (fun k n p y hy h1 h2=>by first|(simp only[M_l33_MutexTable_L2,M_l33_MutexTable_L2_B,lM_,decide_lt h1,sel,ix_at hy,ixv,h2];done)|(simp only[lM_]at h1 hy;(simp only[M_l33_MutexTable_L2,M_l33_MutexTable_L2_B,lM_,decide_lt h1,sel,ix_at hy,ixv,h2];done))) (fun k p=>by simp only[M_l33_MutexTable_L2,M_l33_MutexTable_L2_E,lM_,decide_ge,sel]) ()
end Go.Proofs.YtinnphmnhmdcgaaGreat.Am
namespace Go.Proofs.YtinnphmnhmdcgaaGreat.Am
open Go.RowKit
theorem offG_next : ∀ (l:List Int)(a:Int)(i:Nat),i+1<l.length→(offG a l).getD (i+1) 0=(offG a l).getD i 0+l.getD i 0
 | [],_,_,h=>absurd h (by simp)
 | k :: r,a,0,h=>by
  cases r with
  | nil=>simp at h
  | cons k2 r=>rfl
 | k :: r,a,i+1,h=>by
  have:=offG_next r (a+k) i (by simpa using h)
  simpa [offG] using this
theorem rowG_get (v:Int):∀ (m:Nat)(x:Int)(n:Nat)(f:Fact),(rowG v m x)[n]?=some f→f=(v,x+n)
 | 0,x,n,f,h=>by simp[rowG]at h
 | m+1,x,0,f,h=>by
  simp[rowG]at h
  rw[← h];simp
 | m+1,x,n+1,f,h=>by
  rw[rowG,List.getElem?_cons_succ]at h
  rw[rowG_get v m (x+1) n f h]
  exact Prod.ext rfl (by show x+1+(n:Int)=x+((n+1:Nat):Int);omega)
theorem factsG_num : ∀ (r:List Int)(v a:Int)(n:Nat)(f:Fact),(∀ k∈r,1≤k)→(factsG v r)[n]?=some f→(offG a r).getD (f.1-v).toNat 0+f.2=a+n
 | [],v,a,n,f,_,h=>by simp[factsG]at h
 | k :: r,v,a,n,f,hk,h=>by
  have h1:=hk k (mS_ ..)
  rw[factsG]at h
  rcases Nat.lt_or_ge n k.toNat with hn|hn
  ·rw[List.getElem?_append_left (by rw[rowG_len];exact hn)]at h
   rw[rowG_get v _ 0 n f h]
   show(offG a (k :: r)).getD (v-v).toNat 0+(0+(n:Int))=_
   rw[Int.sub_self]
   simp[offG]
  ·rw[List.getElem?_append_right (by rw[rowG_len];exact hn),rowG_len]at h
   have h2:=factsG_num r (v+1) (a+k) _ f (fun k hk'=>hk k (mC_ _ hk')) h
   have h3:=((factsG_mem f r (v+1)).1 (mG_ h)).1
   rw[show(f.1-v).toNat=(f.1-(v+1)).toNat+1 from by omega]
   show(a :: offG (a+k) r).getD _ 0+_=_
   rw[List.getD_cons_succ]
   omega
theorem allL_num {vars:List Int}(hv:∀ k∈vars,1≤k){n:Nat}{f:Fact}(h:(allL vars)[n]?=some f):numF vars f=n:=by
 have:=factsG_num vars 0 0 n f hv h
 rw[Int.sub_zero,Int.zero_add]at this
 exact this
theorem allL_at {vars:List Int}(hv:∀ k∈vars,1≤k){f:Fact}(h:InV vars f):(allL vars)[(numF vars f).toNat]?=some f:=by
 obtain⟨n,hn⟩:=List.mem_iff_getElem?.1 (allL_mem.2 h)
 rw[allL_num hv hn,Int.toNat_natCast]
 exact hn
section
variable {t : GTask} (hz : Sz t)
include hz
theorem idx_loop {f:Fact}(hf:InV t.Vars f):∀ (m n:Nat),n+m=f.1.toNat→Rn (M_r33_index_L1_B t.Vars f) (M_r33_index_L1_E t.Vars f) m n ((offG 0 t.Vars).getD n 0)=some (numF t.Vars f)
 | 0,n,h=>by
  have h1:=numF_at hz.pos hf
  have h2:=hz.small
  rw[Rn,M_r33_index_L1_E,show n=f.1.toNat from by omega,show(offG 0 t.Vars).getD f.1.toNat 0+f.2=numF t.Vars f from rfl,wrap_eq (by omega) (by omega)]
 | m+1,n,h=>by
  have h2:=hz.small
  obtain⟨f1,f2,f3,f4⟩:=hf
  have hn:n+1<t.Vars.length:=by omega
  have h0:0<t.Vars.getD (n+1) 0:=by
   rw[gD_,gE_ hn,Option.getD_some]
   have:=hz.pos _ (List.getElem_mem hn)
   omega
  have h1:=offG_at t.Vars 0 (n+1) 0 hz.pos hn (Int.le_refl _) h0
  have h3:=offG_next t.Vars 0 n hn
  rw[Rn,M_r33_index_L1_B,ix_getD (d:=0) (by omega) (by omega),Int.toNat_natCast,← h3,wrap_eq (by omega) (by omega),show((n:Int)+1)=((n+1:Nat):Int)from rfl]
  exact idx_loop ⟨f1,f2,f3,f4⟩ m (n+1) (by omega)
theorem idx33_eq {f:Fact}(hf:InV t.Vars f):M_r33_index t.Vars f=some (numF t.Vars f):=by
 have:=hz.vlen
 have h0:(offG 0 t.Vars).getD 0 0=0:=by cases t.Vars <;> rfl
 have h1:=idx_loop hz hf f.1.toNat 0 (by omega)
 rw[h0]at h1
 obtain⟨f1,f2,f3,f4⟩:=hf
 rw[M_r33_index,M_r33_index_L1_eq t.Vars f 0 (m:=f.1.toNat) (by omega) (by omega)]
 exact h1
variable {R : List (List Bool)} (hR : RkR t R)
include hR
theorem row_lt {a:Fact}(ha:InV t.Vars a):(numF t.Vars a).toNat<R.length:=by
 have:=numF_at hz.pos ha
 have:=hR.len
 omega
theorem row_ix {β:Type}{a:Fact}(ha:InV t.Vars a){k:List Bool→Option β}:ix R (numF t.Vars a) k=k (R.getD (numF t.Vars a).toNat []):=by
 have:=numF_at hz.pos ha
 have:=hR.len
 exact ix_getD (by omega) (by omega)
theorem col_ix {β:Type}{a b:Fact}(ha:InV t.Vars a)(hb:InV t.Vars b){k:Bool→Option β}:ix (R.getD (numF t.Vars a).toNat []) (numF t.Vars b) k=k (isF t R a b):=by
 have:=numF_at hz.pos hb
 have:=hR.len
 exact ix_getD (by omega) (by rw[hR.at (row_lt hz hR ha)];omega)
theorem al33_1 (p:List Fact){a:Fact}(ha:InV t.Vars a):∀ (r:List Fact)(i:Int),(∀ f∈r,InV t.Vars f)→Rg (M_r33_all_L1_B t.Vars R p a) (M_r33_all_L1_E t.Vars R p a) r i ()=some (if r.all (isF t R a)=true then .inl ()else .inr false)
 | [],i,_=>rfl
 | b :: r,i,hr=>by
  have hb:=hr b (mS_ ..)
  rw[Rg,M_r33_all_L1_B,ixv,idx33_eq hz ha,ob1_some,row_ix hz hR ha,idx33_eq hz hb,ob1_some,col_ix hz hR ha hb,List.all_cons]
  cases h:isF t R a b with
  | false=>rfl
  | true=>rw[Bool.not_true,sel_ff,al33_1 p ha r (i+1) fun f hf=>hr f (mC_ _ hf),Bool.true_and]
theorem al33_2 (p:List Fact)(hp:∀ f∈p,InV t.Vars f)(hl:p.length≤1000):∀ (r:List Fact)(i:Int),(∀ f∈r,InV t.Vars f)→Rg (M_r33_all_L2_B t.Vars R p) (M_r33_all_L2_E t.Vars R p) r i ()=some (r.all fun a=>p.all (isF t R a))
 | [],i,_=>rfl
 | a :: r,i,hr=>by
  have ha:=hr a (mS_ ..)
  rw[Rg,M_r33_all_L2_B,ixv,M_r33_all_L1_eq t.Vars R p a (by omega),al33_1 hz hR p ha p 0 hp,ob1_some,List.all_cons]
  cases h:p.all (isF t R a)with
  | false=>rfl
  | true =>
   rw[if_pos rfl,osum_inl,Bool.true_and]
   exact al33_2 p hp hl r (i+1) fun f hf=>hr f (mC_ _ hf)
theorem all33_eq {p:List Fact}(hp:∀ f∈p,InV t.Vars f)(hl:p.length≤1000):M_r33_all t.Vars R p=some (okF t R p):=by
 rw[M_r33_all,M_r33_all_L2_eq t.Vars R p (by omega)]
 exact al33_2 hz hR p hp hl p 0 hp
end
theorem nw1 (t:GTask)(a:Fact)(L:List Fact)(v:List (List Bool))(hl:L.length≤1000)(hv:v.length≤1000):∀ (r:List Fact)(n:Nat)(row:List Bool),L.drop n=r→row.length=L.length→(∀ (i:Nat)(f:Fact),i<n→L[i]?=some f→row[i]?=some (holdsF t.Init [a,f])) →
  ∃ row',Rg (M_r33_New_L1_B t v a L) (M_r33_New_L1_E t v a L) r n row=some (v++[row'])∧row'.length=L.length∧∀ (i:Nat) (f:Fact),L[i]?=some f→row'[i]?=some (holdsF t.Init [a,f])
 | [],n,row,hd,hr,hi=>by
  have hn:L.length≤n:=List.drop_eq_nil_iff.1 hd
  refine⟨row,?_,hr,fun i f h=>hi i f (by have:=(gS_.1 h).1;omega) h⟩
  rw[Rg,M_r33_New_L1_E,grd_t (by omega),grd_t (by omega)]
 | b :: r,n,row,hd,hr,hi=>by
  obtain⟨h1,h2,h3⟩:=drop_cons hd
  have hlt:n<row.length:=by omega
  obtain⟨row',k1,k2,k3⟩:=nw1 t a L v hl hv r (n+1) (row.set n (holdsF t.Init [a,b])) h2 (by rw[List.length_set];exact hr) (fun i f hi' hf=>by
   rw[List.getElem?_set]
   by_cases e:n=i
   ·subst e
    rw[h1]at hf
    rw[if_pos rfl,if_pos hlt,← sI_ hf]
   ·rw[if_neg e]
    exact hi i f (by omega) hf)
  refine⟨row',?_,k2,k3⟩
  rw[Rg,M_r33_New_L1_B,ixv,holds_eq [a,b] t.Init (by show(2:Nat)≤_;decide),ob1_some,Int.toNat_natCast,ixn_at (gE_ hlt),grd_t (by omega)]
  exact k1
theorem nw2 (t:GTask)(L:List Fact)(hl:L.length≤900):∀ (r:List Fact)(n:Nat)(v:List (List Bool)),L.drop n=r→v.length=n→n≤L.length→(∀ x∈v,x.length=L.length)→(∀ (i:Nat)(f:Fact),i<n→L[i]?=some f→∃ row,v[i]?=some row∧∀ (j:Nat)(g:Fact),L[j]?=some g→row[j]?=some (holdsF t.Init [f,g])) →
  ∃ R,Rg (M_r33_New_L2_B t L) (M_r33_New_L2_E t L) r n v=some R∧R.length=L.length∧(∀ x∈R,x.length=L.length)∧∀ (i:Nat) (f:Fact),L[i]?=some f→∃ row,R[i]?=some row∧∀ (j:Nat) (g:Fact),L[j]?=some g→row[j]?=some (holdsF t.Init [f,g])
 | [],n,v,hd,hv,hn,hx,hi=>by
  have hn':L.length≤n:=List.drop_eq_nil_iff.1 hd
  refine⟨v,?_,by omega,hx,fun i f h=>hi i f (by have:=(gS_.1 h).1;omega) h⟩
  rw[Rg,M_r33_New_L2_E,grd_t (by omega)]
 | a :: r,n,v,hd,hv,hn,hx,hi=>by
  obtain⟨h1,h2,h3⟩:=drop_cons hd
  obtain⟨row',k1,k2,k3⟩:=nw1 t a L v (by omega) (by omega) L 0 (List.replicate (((L.map cF).length:Nat):Int).toNat false) rfl (by rw[List.length_replicate,Int.toNat_natCast,lM_]) (fun i f h=>absurd h (by omega))
  obtain⟨R,q1,q2,q3,q4⟩:=nw2 t L hl r (n+1) (v++[row']) h2 (by rw[lA_,List.length_singleton];omega) (by omega) (fun x hx'=>by
   rcases List.mem_append.1 hx' with h|h
   ·exact hx x h
   ·rw[mI_.1 h];exact k2) (fun i f hi' hf=>by
   by_cases e:i=n
   ·subst e
    rw[h1]at hf
    rw[← sI_ hf]
    exact⟨row',by rw[List.getElem?_append_right (by omega),hv,Nat.sub_self];rfl,k3⟩
   ·obtain⟨row,p1,p2⟩:=hi i f (by omega) hf
    exact⟨row,by rw[List.getElem?_append_left (by omega)];exact p1,p2⟩)
  refine⟨R,?_,q2,q3,q4⟩
  rw[Rg,M_r33_New_L2_B,ixv,grd_t (by omega),grd_t (by rw[lM_];omega),M_r33_New_L1_eq t v a L _ (by omega),show(0:Int)=((0:Nat):Int)from rfl,k1,ob1_some]
  exact q1
theorem first33 {t:GTask}(hz:Sz t):∃ R,M_r33_New_L2 t (allL t.Vars) (((((allL t.Vars).map cF).length:Int)).toNat+1) 0 []=some R∧RkR t R∧∀ c d,InV t.Vars c→InV t.Vars d→isF t R c d=holdsF t.Init [c,d]:=by
 have hl:=factsG_len t.Vars 0 hz.pos
 have hs:=hz.small
 have hl2:((allL t.Vars).length:Int)=sumI t.Vars:=hl
 obtain⟨R,q1,q2,q3,q4⟩:=nw2 t (allL t.Vars) (by omega) (allL t.Vars) 0 [] rfl rfl (by omega) (fun _ h=>nomatch h) (fun i f h=>absurd h (by omega))
 refine⟨R,?_,⟨by omega,fun r hr=>by rw[q3 r hr,q2]⟩,fun c d hc hd=>?_⟩
 ·rw[M_r33_New_L2_eq t (allL t.Vars) [] (by omega)]
  exact q1
 ·obtain⟨row,p1,p2⟩:=q4 _ c (allL_at hz.pos hc)
  have:=p2 _ d (allL_at hz.pos hd)
  show(R.getD _ []).getD _ false=_
  rw[gD_ (l:=R),p1,Option.getD_some,gD_,this,Option.getD_some]
def fireF (t:GTask)(R:List (List Bool))(o:GOp)(a b:Fact):Bool:=match needG o [a,b] o.Pre with
 | some F=>okF t R F
 | none=>false
def DoneP (t:GTask)(R:List (List Bool))(a b:Fact):Prop:=isF t R a b=true∨(a.1=b.1∧a≠b)∨∀ o∈t.Ops,fireF t R o a b=false
theorem MonoM.rf {t:GTask}{R:List (List Bool)}:MonoM t R R:=fun _ _ _ _ h=>h
theorem MonoM.tr {t:GTask}{R R' R'':List (List Bool)}(h:MonoM t R R')(h':MonoM t R' R''):MonoM t R R'':=fun a b ha hb e=>h' a b ha hb (h a b ha hb e)
section
variable {t : GTask} (F : Fit3 t) {Q : List (List Bool) → Prop}
 (hQ:∀ R o a b,o∈t.Ops→InV t.Vars a→InV t.Vars b→(a.1=b.1→a=b)→RkR t R→Q R→fireF t R o a b=true→Q (putF t R a b))
include F hQ
theorem nw3 {a b:Fact}(ha:InV t.Vars a)(hb:InV t.Vars b)(hab:a.1=b.1→a=b):∀ (r:List GOp)(i:Int)(ch:Bool)(R:List (List Bool)),(∀ o∈r,o∈t.Ops)→RkR t R→Q R →
  ∃ ch' R',Rg (M_r33_New_L3_B t (numF t.Vars a) (numF t.Vars b) a b) (M_r33_New_L3_E t (numF t.Vars a) (numF t.Vars b) a b) r i (ch,R)=some (ch',R')∧RkR t R'∧Q R'∧MonoM t R R'∧((R'=R∧ch'=ch∧∀ o∈r,fireF t R o a b=false)∨(ch'=true∧isF t R' a b=true))
 | [],i,ch,R,_,hR,hq=>⟨ch,R,rfl,hR,hq,MonoM.rf,.inl ⟨rfl,rfl,fun _ h=>nomatch h⟩⟩
 | o :: r,i,ch,R,hr,hR,hq=>by
  have hz:=F.sz
  have ho:=hr o (mS_ ..)
  have oo:=good_op F.good ho
  have hpl:=propF_len' oo.pre
  have hvl:=F.vlen
  have hr':=fun o' ho'=>hr o' (mC_ _ ho')
  have na:=numF_at hz.pos ha
  have nb:=numF_at hz.pos hb
  have hlen:=hR.len
  have hsm:=hz.small
  rw[Rg,M_r33_New_L3_B]
  show ∃ ch' R',ixv o _=_∧_
  rw[ixv,needs_eq oo.effs (by omega) (by show(2:Nat)≤_;decide)]
  have stay:fireF t R o a b=false→∃ ch' R',Rg (M_r33_New_L3_B t (numF t.Vars a) (numF t.Vars b) a b) (M_r33_New_L3_E t (numF t.Vars a) (numF t.Vars b) a b) r (i+1) (ch,R)=some (ch',R')∧RkR t R'∧Q R'∧MonoM t R R'∧((R'=R∧ch'=ch∧∀ o'∈o :: r,fireF t R o' a b=false)∨(ch'=true∧isF t R' a b=true)):=fun hf=>by
   obtain⟨ch',R',k1,k2,k3,k4,k5⟩:=nw3 ha hb hab r (i+1) ch R hr' hR hq
   refine⟨ch',R',k1,k2,k3,k4,?_⟩
   rcases k5 with⟨e1,e2,e3⟩|k5
   ·exact .inl ⟨e1,e2,fun o' ho'=>by
     rcases List.mem_cons.1 ho' with e|ho'
     ·rw[e];exact hf
     ·exact e3 o' ho'⟩
   ·exact .inr k5
  cases hn:needG o [a,b] o.Pre with
  | none =>
   have hf:fireF t R o a b=false:=by unfold fireF;rw[hn]
   rw[show resN none=(([]:List Fact),false)from rfl,ob2_some,sel_ff,ob1_some,sel_ff]
   exact stay hf
  | some G =>
   obtain⟨n1,-,-,n4⟩:=needG_some hn
   have hG:∀ f∈G,InV t.Vars f:=fun f hf=>by
    rcases(n1 f).1 hf with h|⟨h,-⟩
    ·exact inV_at oo.pre f h
    ·rcases List.mem_cons.1 h with e|h
     ·rw[e];exact ha
     ·rw[mI_.1 h];exact hb
   have hGl:G.length≤1000:=by
    have:G.length≤o.Pre.length+2:=n4
    omega
   have hf:fireF t R o a b=okF t R G:=by unfold fireF;rw[hn]
   rw[show resN (some G)=(G,true)from rfl,ob2_some,sel_tt,grd_t (by omega),all33_eq hz hR hG hGl,ob1_some,ob1_some]
   cases hok:okF t R G with
   | false=>rw[sel_ff];exact stay (by rw[hf,hok])
   | true =>
    have h1:R[(numF t.Vars a).toNat]?=some (R.getD (numF t.Vars a).toNat []):=by rw[gD_,gE_ (row_lt hz hR ha)];rfl
    have h2:R[(numF t.Vars b).toNat]?=some (R.getD (numF t.Vars b).toNat []):=by rw[gD_,gE_ (row_lt hz hR hb)];rfl
    have l1:=hR.at (row_lt hz hR ha)
    have l2:=hR.at (row_lt hz hR hb)
    rw[sel_tt,ixn_at h1,ixn_at h2,grd_t (by omega),grd_t (by omega),grd_t (by omega),grd_t (by omega),grd_t (by omega),grd_t (by omega)]
    have hq':=hQ R o a b ho ha hb hab hR hq (by rw[hf,hok])
    obtain⟨ch',R',k1,k2,k3,k4,k5⟩:=nw3 ha hb hab r (i+1) true (putF t R a b) hr' (hR.put a b) hq'
    have hput:isF t (putF t R a b) a b=true:=(put_is hR hz.pos ha hb ha hb).2 (.inr (.inl ⟨rfl,rfl⟩))
    refine⟨ch',R',k1,k2,k3,MonoM.tr (fun c d hc hd h=>(put_is hR hz.pos ha hb hc hd).2 (.inl h)) k4,.inr ?_⟩
    rcases k5 with⟨e1,e2,-⟩|k5
    ·rw[e1];exact⟨e2,hput⟩
    ·exact k5
theorem nw4 {a:Fact}(ha:InV t.Vars a):∀ (r:List Fact)(n:Nat)(ch:Bool)(R:List (List Bool)),(allL t.Vars).drop n=r→RkR t R→Q R →
  ∃ ch' R',Rg (M_r33_New_L4_B t (numF t.Vars a) a (allL t.Vars)) (M_r33_New_L4_E t (numF t.Vars a) a (allL t.Vars)) r n (ch,R)=some (ch',R')∧RkR t R'∧Q R'∧MonoM t R R'∧((R'=R∧ch'=ch∧∀ b∈r,DoneP t R a b)∨(ch'=true∧∃ c d,InV t.Vars c∧InV t.Vars d∧isF t R c d=false∧isF t R' c d=true))
 | [],n,ch,R,_,hR,hq=>⟨ch,R,rfl,hR,hq,MonoM.rf,.inl ⟨rfl,rfl,fun _ h=>nomatch h⟩⟩
 | b :: r,n,ch,R,hd,hR,hq=>by
  have hz:=F.sz
  obtain⟨h1,h2,h3⟩:=drop_cons hd
  have hb:InV t.Vars b:=all_in b (mG_ h1)
  have hnb:=allL_num hz.pos h1
  have na:=numF_at hz.pos ha
  have hlen:=hR.len
  have hsm:=hz.small
  have ha1:R[(numF t.Vars a).toNat]?=some (R.getD (numF t.Vars a).toNat []):=by rw[gD_,gE_ (row_lt hz hR ha)];rfl
  have skip:DoneP t R a b→∃ ch' R',Rg (M_r33_New_L4_B t (numF t.Vars a) a (allL t.Vars)) (M_r33_New_L4_E t (numF t.Vars a) a (allL t.Vars)) r ((n:Int)+1) (ch,R)=some (ch',R')∧RkR t R'∧Q R'∧MonoM t R R'∧((R'=R∧ch'=ch∧∀ b'∈b :: r,DoneP t R a b')∨(ch'=true∧∃ c d,InV t.Vars c∧InV t.Vars d∧isF t R c d=false∧isF t R' c d=true)):=fun hdn=>by
   obtain⟨ch',R',k1,k2,k3,k4,k5⟩:=nw4 ha r (n+1) ch R h2 hR hq
   refine⟨ch',R',k1,k2,k3,k4,?_⟩
   rcases k5 with⟨e1,e2,e3⟩|k5
   ·exact .inl ⟨e1,e2,fun b' hb'=>by
     rcases List.mem_cons.1 hb' with e|hb'
     ·rw[e];exact hdn
     ·exact e3 b' hb'⟩
   ·exact .inr k5
  have work:isF t R a b=false→(a.1=b.1→a=b)→∃ ch' R',ob1 (M_r33_New_L3 t (numF t.Vars a) n a b ((((t.Ops.map cGOp).length:Int)).toNat+1) ch 0 R) (fun q=>Rg (M_r33_New_L4_B t (numF t.Vars a) a (allL t.Vars)) (M_r33_New_L4_E t (numF t.Vars a) a (allL t.Vars)) r ((n:Int)+1) (q.1,q.2))=some (ch',R')∧RkR t R'∧Q R'∧MonoM t R R'∧((R'=R∧ch'=ch∧∀ b'∈b :: r,DoneP t R a b')∨(ch'=true∧∃ c d,InV t.Vars c∧InV t.Vars d∧isF t R c d=false∧isF t R' c d=true)):=fun hf hab=>by
   have hol:=F.ops
   obtain⟨ch1,R1,j1,j2,j3,j4,j5⟩:=nw3 F hQ ha hb hab t.Ops 0 ch R (fun _ h=>h) hR hq
   rw[← hnb,M_r33_New_L3_eq t _ _ a b ch R (by omega),j1,ob1_some]
   rw[hnb]
   rcases j5 with⟨e1,e2,e3⟩|⟨e1,e2⟩
   ·subst e1 e2
    exact skip (.inr (.inr e3))
   ·obtain⟨ch',R',k1,k2,k3,k4,k5⟩:=nw4 ha r (n+1) ch1 R1 h2 j2 j3
    refine⟨ch',R',k1,k2,k3,j4.tr k4,.inr ⟨?_,a,b,ha,hb,hf,k4 a b ha hb e2⟩⟩
    rcases k5 with⟨-,e,-⟩|⟨e,-⟩
    ·rw[e,e1]
    ·exact e
  rw[Rg,M_r33_New_L4_B]
  show ∃ ch' R',ob1 (ixv b _) _=_∧_
  rw[ixv,grd_t (by omega),ixn_at ha1,← hnb,col_ix hz hR ha hb,hnb]
  cases hf:isF t R a b with
  | true =>
   rw[sel_tt,grd_t (by omega),grd_t (by omega),ob1_some]
   show ∃ ch' R',ob1 (some (ch,R)) _=_∧_
   rw[ob1_some]
   exact skip (.inl hf)
  | false =>
   rw[sel_ff]
   by_cases hv:a.1=b.1
   ·rw[show(a.1 == b.1)=true from by simp[hv],sel_tt,grd_t (by omega),grd_t (by omega)]
    by_cases e:a=b
    ·have hi:(numF t.Vars a != (n:Int))=false:=by rw[e,hnb];simp
     rw[hi,sel_ff,ob1_some,osum_inl]
     exact work hf (fun _=>e)
    ·have hi:(numF t.Vars a != (n:Int))=true:=by
      rw[bne_iff_ne,← hnb]
      exact fun h=>e (numF_inj hz.pos ha hb h)
     rw[hi,sel_tt,ob1_some]
     show ∃ ch' R',ob1 (some (ch,R)) _=_∧_
     rw[ob1_some]
     exact skip (.inr (.inl ⟨hv,e⟩))
   ·rw[show(a.1 == b.1)=false from by simp[hv],sel_ff,grd_t (by omega),grd_t (by omega),ob1_some,osum_inl]
    exact work hf (fun h=>absurd h hv)
theorem nw5 : ∀ (r:List Fact)(n:Nat)(ch:Bool)(R:List (List Bool)),(allL t.Vars).drop n=r→RkR t R→Q R →
  ∃ ch' R',Rg (M_r33_New_L5_B t (allL t.Vars)) (M_r33_New_L5_E t (allL t.Vars)) r n (ch,R)=some (ch',R')∧RkR t R'∧Q R'∧MonoM t R R'∧((R'=R∧ch'=ch∧∀ a∈r,∀ b∈allL t.Vars,DoneP t R a b)∨(ch'=true∧∃ c d,InV t.Vars c∧InV t.Vars d∧isF t R c d=false∧isF t R' c d=true))
 | [],n,ch,R,_,hR,hq=>⟨ch,R,rfl,hR,hq,MonoM.rf,.inl ⟨rfl,rfl,fun _ h=>nomatch h⟩⟩
 | a :: r,n,ch,R,hd,hR,hq=>by
  have hz:=F.sz
  obtain⟨h1,h2,h3⟩:=drop_cons hd
  have ha:InV t.Vars a:=all_in a (mG_ h1)
  have hna:=allL_num hz.pos h1
  have hl:=factsG_len t.Vars 0 hz.pos
  have hsm:=hz.small
  have hl2:((allL t.Vars).length:Int)=sumI t.Vars:=hl
  obtain⟨ch1,R1,j1,j2,j3,j4,j5⟩:=nw4 F hQ ha (allL t.Vars) 0 ch R rfl hR hq
  obtain⟨ch',R',k1,k2,k3,k4,k5⟩:=nw5 r (n+1) ch1 R1 h2 j2 j3
  refine⟨ch',R',?_,k2,k3,j4.tr k4,?_⟩
  ·rw[Rg,M_r33_New_L5_B]
   show ob1 (ixv a _) _=_
   rw[ixv,← hna,M_r33_New_L4_eq t _ a (allL t.Vars) ch R (by omega),show(0:Int)=((0:Nat):Int)from rfl,j1,ob1_some,hna]
   exact k1
  ·rcases j5 with⟨e1,e2,e3⟩|⟨e1,c,d,hc,hd',e2,e3⟩
   ·subst e1 e2
    rcases k5 with⟨f1,f2,f3⟩|k5
    ·exact .inl ⟨f1,f2,fun a' ha'=>by
      rcases List.mem_cons.1 ha' with e|ha'
      ·rw[e];exact e3
      ·exact f3 a' ha'⟩
    ·exact .inr k5
   ·refine .inr ⟨?_,c,d,hc,hd',e2,k4 c d hc hd' e3⟩
    rcases k5 with⟨-,f2,-⟩|⟨f1,-⟩
    ·rw[f2,e1]
    ·exact f1
omit F hQ in
theorem rest_dec {R R':List (List Bool)}(h:MonoM t R R'){c d:Fact}(hc:InV t.Vars c)(hd:InV t.Vars d)(h1:isF t R c d=false)(h2:isF t R' c d=true):restN t R'<restN t R:=by
 refine(filter_lt fun q hq hf=>?_).2 ⟨(c,d),pairs_mem.2 ⟨hc,hd⟩,by simp[h1],by simp[h2]⟩
 obtain⟨x,y⟩:=q
 obtain⟨i1,i2⟩:=pairs_mem.1 hq
 cases hp:isF t R x y with
 | false=>rfl
 | true=>rw[h x y i1 i2 hp]at hf;cases hf
theorem nw6 : ∀ (N k:Nat)(R:List (List Bool)),RkR t R→Q R→restN t R≤N→N+2≤k→∃ R',M_r33_New_L6 t (allL t.Vars) k true R=some R'∧RkR t R'∧Q R'∧MonoM t R R'∧∀ a∈allL t.Vars,∀ b∈allL t.Vars,DoneP t R' a b
 | N,0,R,_,_,_,hk=>absurd hk (by omega)
 | N,k+1,R,hR,hq,hN,hk=>by
  have hz:=F.sz
  have hl:=factsG_len t.Vars 0 hz.pos
  have hsm:=hz.small
  have hl2:((allL t.Vars).length:Int)=sumI t.Vars:=hl
  have hlen:=hR.len
  obtain⟨ch1,R1,j1,j2,j3,j4,j5⟩:=nw5 F hQ (allL t.Vars) 0 false R rfl hR hq
  rw[M_r33_New_L6,sel_tt,M_r33_New_L5_eq t (allL t.Vars) false R (by omega),show(0:Int)=((0:Nat):Int)from rfl,j1,ob1_some]
  show ∃ R',M_r33_New_L6 t (allL t.Vars) k ch1 R1=some R'∧_
  rcases j5 with⟨e1,e2,e3⟩|⟨e1,c,d,hc,hd,e2,e3⟩
  ·subst e1 e2
   obtain⟨k',rfl⟩:∃ k',k=k'+1:=⟨k-1,by omega⟩
   exact⟨R1,by rw[M_r33_New_L6,sel_ff,grd_t (by omega)],hR,hq,MonoM.rf,e3⟩
  ·subst e1
   have hdec:=rest_dec j4 hc hd e2 e3
   cases N with
   | zero=>omega
   | succ N =>
    obtain⟨R',k1,k2,k3,k4,k5⟩:=nw6 N k R1 j2 j3 (by omega) (by omega)
    exact⟨R',k1,k2,k3,j4.tr k4,k5⟩
theorem ref_new (g:Nat)(hg:1000000≤g)(hQ0:∀ R,RkR t R→(∀ c d,InV t.Vars c→InV t.Vars d→isF t R c d=holdsF t.Init [c,d])→Q R):∃ R,M_r33_New g t=some R∧RkR t R∧Q R∧(∀ c d,InV t.Vars c→InV t.Vars d→holdsF t.Init [c,d]=true→isF t R c d=true)∧∀ a b,InV t.Vars a→InV t.Vars b→DoneP t R a b:=by
 have hz:=F.sz
 obtain⟨R0,h1,h2,h3⟩:=first33 hz
 have hr:=rest_le hz R0
 obtain⟨R,k1,k2,k3,k4,k5⟩:=nw6 F hQ 262144 g R0 h2 (hQ0 R0 h2 h3) hr (by omega)
 refine⟨R,?_,k2,k3,fun c d hc hd h=>k4 c d hc hd (by rw[h3 c d hc hd];exact h),fun a b ha hb=>k5 a (allL_mem.2 ha) b (allL_mem.2 hb)⟩
 rw[M_r33_New,facts33_eq hz,ob1_some,h1,ob1_some]
 exact k1
end
def plainF (t:GTask):Bool:=t.Ops.all fun o=>o.Effs.all fun e=>decide (¬ ((e.When.length:Int)>0))
theorem plain_eq (t:GTask)(ht:ShT t):M_b_Plain t=some (plainF t):=by
 rw[M_b_Plain,M_b_Plain_L2_eq t ht.ops.lt,rg_all (p:=fun o:GOp=>o.Effs.all fun e=>decide (¬ ((e.When.length:Int)>0))) (c:=some false),M_b_Plain_L2_E,plainF]
 ·cases t.Ops.all fun o=>o.Effs.all fun e=>decide (¬ ((e.When.length:Int)>0)) <;> rfl
 ·intro o ho i rc
  rw[M_b_Plain_L2_B,ixv,M_b_Plain_L1_eq o (ht.op o ho).effs.lt,rg_all (p:=fun e:GEffect=>decide (¬ ((e.When.length:Int)>0))) (c:=some (.inr false)),M_b_Plain_L1_E]
  ·cases o.Effs.all fun e=>decide (¬ ((e.When.length:Int)>0)) <;> rfl
  ·intro e _ i rc
   rw[M_b_Plain_L1_B,ixv,sel_dec,lM_]
   by_cases h:(e.When.length:Int)>0
   ·rw[if_pos h,decide_eq_false (fun hn=>hn h),if_neg (by decide)]
   ·rw[if_neg h,decide_eq_true h,if_pos rfl]
theorem plain_op {t:GTask}(h:plainF t=true){o:GOp}(ho:o∈t.Ops):PlainE o.Effs:=fun e he=>by
 unfold plainF at h
 have:=of_decide_eq_true (List.all_eq_true.1 (List.all_eq_true.1 h o ho) e he)
 exact List.length_eq_zero_iff.1 (by omega)
theorem touch_last {o:GOp}{p:List Fact}(h:touchF o p=false){f:Fact}(hf:f∈p):lastE o f=none:=by
 have:o.Effs.filter (fun e=>e.Var == f.1)=[]:=List.filter_eq_nil_iff.2 fun e he hv=>by
  unfold touchF at h
  rw[List.any_eq_false]at h
  refine h e he (List.any_eq_true.2 ⟨f,hf,?_⟩)
  simp only[beq_iff_eq]at hv ⊢
  exact hv.symm
 unfold lastE
 rw[this]
 rfl
section
variable {t : GTask} (F : Fit3 t) (hp : plainF t = true)
include F hp
theorem fire_of {R':List (List Bool)}{a b c d:Fact}(hs:SetP t a b){o:GOp}(ho:o∈t.Ops){z:List Fact}(hz:z∈regS t o (pset a b))(hok:∀ x∈z,∀ y∈z,isF t R' x y=true)(hc:c∈pset a b)(hd:d∈pset a b):fireF t R' o c d=true:=by
 obtain⟨h1,h2,h3⟩:=regS_in F hs ho (plain_op hp ho) hz
 have hC:Compat z:=asc_compat ((vF_iff' z).1 (propF_vF' h1)).2
 obtain⟨G,g1,g2⟩:=needG_ok (o:=o) (p:=[c,d]) (out:=o.Pre) hC h2 fun f hf=>h3 f (by
  rcases List.mem_cons.1 hf with e|hf
  ·rw[e];exact hc
  ·rw[mI_.1 hf];exact hd)
 unfold fireF
 rw[g1]
 exact okF_iff.2 fun x hx y hy=>hok x (g2 x hx) y (g2 y hy)
theorem made_is {R:List (List Bool)}(hM:ClosedM t R){a b:Fact}{o:GOp}(ho:o∈t.Ops){G:List Fact}(hG:needG o [a,b] o.Pre=some G)(hok:okF t R G=true){x y:Fact}(hx:x=a∨x=b)(hy:y=a∨y=b)(hs:SetP t x y)(h3:x=y∨(isF t R x x=true∧isF t R y y=true)):isF t R x y=true:=by
 obtain⟨n1,n2,n3,-⟩:=needG_some hG
 have hab:∀ f∈pset x y,f∈[a,b]:=fun f hf=>by
  rcases pset_mem.1 hf with rfl|rfl
  ·rcases hx with rfl|rfl <;> simp
  ·rcases hy with rfl|rfl <;> simp
 refine Decidable.byContradiction fun hf=>?_
 have hf:isF t R x y=false:=Bool.eq_false_iff.2 hf
 have hm:=hM _ (open_mem.2 ⟨x,y,hs,rfl,hf,h3⟩)
 cases ht:touchF o (pset x y)with
 | false =>
  have hin:∀ f∈pset x y,f∈G:=fun f hf=>(n1 f).2 (.inr ⟨hab f hf,touch_last ht hf⟩)
  rw[okF_iff.1 hok x (hin x (pset_mem.2 (.inl rfl))) y (hin y (pset_mem.2 (.inr rfl)))]at hf
  cases hf
 | true =>
  have hC:Compat o.Pre:=asc_compat ((vF_iff' o.Pre).1 (propF_vF' (good_op F.good ho).pre)).2
  obtain⟨z,hz,hzG⟩:=regS_at F hs ho (plain_op hp ho) (n3 hC) (fun u hu=>(n1 u).2 (.inl hu)) fun f hf=>⟨fun e=>(n1 f).2 (.inr ⟨hab f hf,e⟩),n2 f (hab f hf)⟩
  have:madeF t R (pset x y)=true:=List.any_eq_true.2 ⟨o,ho,by rw[madeO,ht,Bool.true_and];exact List.any_eq_true.2 ⟨z,hz,okF_iff.2 fun u hu v hv=>okF_iff.1 hok u (hzG u hu) v (hzG v hv)⟩⟩
  rw[this]at hm
  cases hm
theorem tables (ht:ShT t)(g:Nat)(hg:1000000≤g):∃ R Rr,M_mutex_New g t=some (some (tbl t R),Er.nil)∧MxR t R∧M_r33_New g t=some Rr∧RkR t Rr∧(∀ c d,InV t.Vars c→InV t.Vars d→isF t Rr c d=isF t R c d)∧∀ c d,InV t.Vars c→InV t.Vars d→isF t R c d=true→c.1=d.1→c=d:=by
 have hz:=F.sz
 have hst:=stateF_st (good_init F.good)
 obtain⟨R,h1,m1,s1⟩:=new_eq F ht g hg (Q:=fun R=>∀ c d,InV t.Vars c→InV t.Vars d→isF t R c d=true→c.1=d.1→c=d) (fun R a b hR _ hq hs _ c d hc hd h e=>by
  rcases(put_is hR hz.pos hs.ia hs.ib hc hd).1 h with h|⟨h1,h2⟩|⟨h1,h2⟩
  ·exact hq c d hc hd h e
  ·rw[h1,h2]at e ⊢
   rcases hs.le with h|h
   ·exact h
   ·omega
  ·rw[h1,h2]at e ⊢
   rcases hs.le with h|h
   ·exact h.symm
   ·omega) (fun R _ _ hi c d hc hd h e=>by
  obtain⟨k1,k2⟩:=(hi c d hc hd).1 h
  have e1:=(hold1_iff.1 k1).2.2
  have e2:=(hold1_iff.1 k2).2.2
  rw[e]at e1
  exact Prod.ext e (e1.symm.trans e2))
 have hold2:∀ c d,holdsF t.Init [c,d]=true↔hold1 t.Init c=true∧hold1 t.Init d=true:=fun c d=>by simp[holdsF]
 obtain⟨Rr,r1,r2,r3,r4,r5⟩:=ref_new F (Q:=fun R'=>∀ c d,InV t.Vars c→InV t.Vars d→isF t R' c d=true→isF t R c d=true) (fun R' o a b ho ha hb hab hR' hq hf=>by
  have key:isF t R a b=true∧isF t R b a=true:=by
   unfold fireF at hf
   cases hn:needG o [a,b] o.Pre with
   | none=>rw[hn]at hf;cases hf
   | some G =>
    rw[hn]at hf
    have hf:okF t R' G=true:=hf
    obtain⟨n1,-,-,-⟩:=needG_some hn
    have hG:∀ f∈G,InV t.Vars f:=fun f hf'=>by
     rcases(n1 f).1 hf' with h|⟨h,-⟩
     ·exact inV_at (good_op F.good ho).pre f h
     ·rcases List.mem_cons.1 h with e|h
      ·rw[e];exact ha
      ·rw[mI_.1 h];exact hb
    have hok:okF t R G=true:=okF_iff.2 fun x hx y hy=>hq x y (hG x hx) (hG y hy) (okF_iff.1 hf x hx y hy)
    have haa:=made_is F hp m1.closed ho hn hok (.inl rfl) (.inl rfl) ⟨ha,ha,.inl rfl⟩ (.inl rfl)
    have hbb:=made_is F hp m1.closed ho hn hok (.inr rfl) (.inr rfl) ⟨hb,hb,.inl rfl⟩ (.inl rfl)
    by_cases e:a.1=b.1
    ·have e:=hab e
     subst e
     exact⟨haa,haa⟩
    ·rcases Int.lt_or_gt_of_ne e with h|h
     ·have:=made_is F hp m1.closed ho hn hok (.inl rfl) (.inr rfl) ⟨ha,hb,.inr h⟩ (.inr ⟨haa,hbb⟩)
      exact⟨this,by rw[← m1.sy a b ha hb];exact this⟩
     ·have:=made_is F hp m1.closed ho hn hok (.inr rfl) (.inl rfl) ⟨hb,ha,.inr h⟩ (.inr ⟨hbb,haa⟩)
      exact⟨by rw[m1.sy a b ha hb];exact this,this⟩
  intro c d hc hd h
  rcases(put_is hR' hz.pos ha hb hc hd).1 h with h|⟨h1,h2⟩|⟨h1,h2⟩
  ·exact hq c d hc hd h
  ·rw[h1,h2];exact key.1
  ·rw[h1,h2];exact key.2) g hg (fun R' hR' hi c d hc hd h=>by
  rw[hi c d hc hd]at h
  obtain⟨k1,k2⟩:=(hold2 c d).1 h
  exact m1.init c d k1 k2)
 have done:∀ a b,SetP t a b→∀ c d,c∈pset a b→d∈pset a b→(c.1=d.1→c=d)→(∃ o∈t.Ops,fireF t Rr o c d=true)→isF t Rr c d=true:=fun a b hs c d hc hd hcd ⟨o,ho,hf⟩=>by
  have ic:=inV_at hs.prop c hc
  have id:=inV_at hs.prop d hd
  rcases r5 c d ic id with h|⟨h,h'⟩|h
  ·exact h
  ·exact absurd (hcd h) h'
  ·rw[h o ho]at hf;cases hf
 obtain⟨R2,h2,m2,q2⟩:=new_eq F ht g hg (Q:=fun R'=>∀ c d,InV t.Vars c→InV t.Vars d→isF t R' c d=true→isF t Rr c d=true) (fun R' a b hR' _ hq hs hm c d hc hd h=>by
  obtain⟨o,ho,hm⟩:=List.any_eq_true.1 hm
  rw[madeO,bA_]at hm
  obtain⟨z,hz',hok⟩:=List.any_eq_true.1 hm.2
  have hzin:=inV_at (regS_in F hs ho (plain_op hp ho) hz').1
  have hokr:∀ x∈z,∀ y∈z,isF t Rr x y=true:=fun x hx y hy=>hq x y (hzin x hx) (hzin y hy) (okF_iff.1 hok x hx y hy)
  have hle:a.1=b.1→a=b:=fun e=>by
   rcases hs.le with h|h
   ·exact h
   ·omega
  rcases(put_is hR' hz.pos hs.ia hs.ib hc hd).1 h with h|⟨h1,h2⟩|⟨h1,h2⟩
  ·exact hq c d hc hd h
  ·rw[h1,h2]
   exact done a b hs a b (pset_mem.2 (.inl rfl)) (pset_mem.2 (.inr rfl)) hle ⟨o,ho,fire_of F hp hs ho hz' hokr (pset_mem.2 (.inl rfl)) (pset_mem.2 (.inr rfl))⟩
  ·rw[h1,h2]
   exact done a b hs b a (pset_mem.2 (.inr rfl)) (pset_mem.2 (.inl rfl)) (fun e=>(hle e.symm).symm) ⟨o,ho,fire_of F hp hs ho hz' hokr (pset_mem.2 (.inr rfl)) (pset_mem.2 (.inl rfl))⟩) (fun R' _ _ hi c d hc hd h=>r4 c d hc hd ((hold2 c d).2 ((hi c d hc hd).1 h)))
 have e:R=R2:=congrArg (fun x:Option (Option GTable×Er)=>match x with|some (some z,_)=>z.reached|_=>[]) (h1.symm.trans h2)
 subst e
 refine⟨R,Rr,h1,m1,r1,r2,fun c d hc hd=>?_,s1⟩
 cases hb:isF t R c d with
 | true=>exact q2 c d hc hd hb
 | false =>
  cases hb':isF t Rr c d with
  | false=>rfl
  | true=>rw[r3 c d hc hd hb']at hb;cases hb
end
section
variable {t : GTask} (hz : Sz t) {R Rr : List (List Bool)} (hR : RkR t R) (hr : RkR t Rr) (he : ∀ c d, InV t.Vars c → InV t.Vars d → isF t Rr c d = isF t R c d) (hsm : ∀ c d, InV t.Vars c → InV t.Vars d → isF t R c d = true → c.1 = d.1 → c = d)
include hz hr he
omit he in
theorem cell33 {β:Type}{n m:Nat}{a b:Fact}(ha:(allL t.Vars)[n]?=some a)(hb:(allL t.Vars)[m]?=some b){k:Bool→Option β}:ix Rr (n:Int) (fun y=>ix y (m:Int) k)=k (isF t Rr a b):=by
 have ia:=all_in a (mG_ ha)
 have ib:=all_in b (mG_ hb)
 rw[← allL_num hz.pos ha,← allL_num hz.pos hb,row_ix hz hr ia,col_ix hz hr ia ib]
include hR hsm in
theorem tab1 {na:Nat}{a:Fact}(ha:(allL t.Vars)[na]?=some a):∀ (r:List Fact)(n:Nat),(allL t.Vars).drop n=r→Rg (M_l33_MutexTable_L1_B na a Rr (allL t.Vars) (tbl t R)) (M_l33_MutexTable_L1_E na a Rr (allL t.Vars) (tbl t R)) r n ()=some (.inl ())
 | [],n,_=>rfl
 | b :: r,n,hd=>by
  obtain⟨hb,h2,h3⟩:=drop_cons hd
  have ia:=all_in a (mG_ ha)
  have ib:=all_in b (mG_ hb)
  have ih:=tab1 ha r (n+1) h2
  rw[Rg,M_l33_MutexTable_L1_B,ixv,together_eq hz hR,ob1_some,cell33 hz hr ha hb,he a b ia ib,cell33 hz hr ha ha,he a a ia ia,cell33 hz hr hb hb,he b b ib ib,togF,rea_is ia,rea_is ib]
  have hs:=hsm a b ia ib
  by_cases e:a=b
  ·subst e
   rw[decide_eq_true rfl,Bool.true_or]
   cases h:isF t R a a <;> exact ih
  ·rw[decide_eq_false e,Bool.false_or]
   by_cases hv:a.1=b.1
   ·have hf:isF t R a b=false:=Bool.eq_false_iff.2 fun h=>e (hs h hv)
    rw[hf,show(a.1 != b.1)=false from by simp[hv]]
    cases isF t R a a <;> cases isF t R b b <;> exact ih
   ·rw[show(a.1 != b.1)=true from by simp[hv]]
    cases isF t R a b <;> cases isF t R a a <;> cases isF t R b b <;> exact ih
include hR hsm in
theorem tab2 (hl:(allL t.Vars).length≤1000):∀ (r:List Fact)(n:Nat),(allL t.Vars).drop n=r→Rg (M_l33_MutexTable_L2_B Rr (allL t.Vars) (tbl t R)) (M_l33_MutexTable_L2_E Rr (allL t.Vars) (tbl t R)) r n ()=some (.inl ())
 | [],n,_=>rfl
 | a :: r,n,hd=>by
  obtain⟨ha,h2,h3⟩:=drop_cons hd
  have ia:=all_in a (mG_ ha)
  have h1:=tab1 hz hR hr he hsm ha (allL t.Vars) 0 rfl
  have ih:=tab2 hl r (n+1) h2
  rw[Rg,M_l33_MutexTable_L2_B,ixv,reached_eq hz hR,ob1_some,cell33 hz hr ha ha,he a a ia ia,rea_is ia,show(isF t R a a == isF t R a a)=true from by simp,Bool.not_true,sel_ff,M_l33_MutexTable_L1_eq _ _ _ _ _ (by omega),show(0:Int)=((0:Nat):Int)from rfl,h1,ob1_some,osum_inl]
  exact ih
theorem nr1 : ∀ (r:List Fact)(n:Nat)(v:List Nogood),(allL t.Vars).drop n=r→v.length+r.length≤100000→Rg (M_r33_Nogoods_L1_B Rr (allL t.Vars)) (M_r33_Nogoods_L1_E Rr (allL t.Vars)) r n v=some (v++(oneF t R r).map ngO)
 | [],n,v,_,_=>by rw[Rg,M_r33_Nogoods_L1_E];simp[oneF]
 | a :: r,n,v,hd,hl=>by
  obtain⟨ha,h2,h3⟩:=drop_cons hd
  rw[lC_]at hl
  have ia:=all_in a (mG_ ha)
  rw[Rg,M_r33_Nogoods_L1_B,ixv,cell33 hz hr ha ha,he a a ia ia]
  cases hb:isF t R a a with
  | true =>
   rw[Bool.not_true,sel_ff,show((n:Int)+1)=((n+1:Nat):Int)from rfl,nr1 r (n+1) v h2 (by omega)]
   simp[oneF,hb]
  | false =>
   rw[Bool.not_false,sel_tt,grd_t (by omega),show((n:Int)+1)=((n+1:Nat):Int)from rfl,nr1 r (n+1) _ h2 (by rw[lA_,List.length_singleton];omega)]
   simp[oneF,hb,ngO]
theorem nr2 (hll:(allL t.Vars).length≤1000){na:Nat}{a:Fact}(ha:(allL t.Vars)[na]?=some a):∀ (r:List Fact)(n k:Nat)(v:List Nogood),(allL t.Vars).drop n=r→r.length+1≤k→v.length+r.length≤1000000→M_r33_Nogoods_L2 Rr na a (allL t.Vars) k n v=some (v++(r.filter (opP t R a)).map fun b=>ngO [a,b])
 | [],n,0,v,_,hk,_=>absurd hk (by omega)
 | [],n,k+1,v,hd,_,_=>by
  have hn:(allL t.Vars).length≤n:=List.drop_eq_nil_iff.1 hd
  rw[M_r33_Nogoods_L2,lM_,decide_eq_false (by omega),sel_ff]
  simp
 | b :: r,n,0,v,_,hk,_=>absurd hk (by simp)
 | b :: r,n,k+1,v,hd,hk,hl=>by
  obtain⟨hb,h2,h3⟩:=drop_cons hd
  rw[lC_]at hk hl
  have ia:=all_in a (mG_ ha)
  have ib:=all_in b (mG_ hb)
  have hw:IntKind.i64.wrap ((n:Int)+1)=((n+1:Nat):Int):=w64s (by omega)
  have ih:=fun v' hv'=>nr2 hll ha r (n+1) k v' h2 (by omega) hv'
  rw[M_r33_Nogoods_L2,lM_,decide_eq_true (by omega),sel_tt,ix_at hb,cell33 hz hr ha ha,he a a ia ia,cell33 hz hr hb hb,he b b ib ib,cell33 hz hr ha hb,he a b ia ib,hw,List.filter_cons]
  rw[show opP t R a b=(a.1 != b.1&&(isF t R a a&&(isF t R b b && !isF t R a b)))from rfl]
  cases h1:(a.1 != b.1)with
  | false=>rw[sel_ff,ih v (by omega)];simp
  | true =>
   cases h2':isF t R a a with
   | false=>rw[sel_tt,sel_ff,ih v (by omega)];simp
   | true =>
    cases h3':isF t R b b with
    | false=>rw[sel_tt,sel_tt,sel_ff,ih v (by omega)];simp
    | true =>
     cases h4:isF t R a b with
     | true=>rw[sel_tt,sel_tt,sel_tt,Bool.not_true,sel_ff,ih v (by omega)];simp
     | false =>
      rw[sel_tt,sel_tt,sel_tt,Bool.not_false,sel_tt,grd_t (by omega),ih _ (by rw[lA_,List.length_singleton];omega)]
      simp[ngO]
theorem nr3 (g:Nat)(hg:1000000≤g)(hll:(allL t.Vars).length≤512):∀ (r:List Fact)(n:Nat)(v:List Nogood),(allL t.Vars).drop n=r→v.length+r.length*512≤900000→Rg (M_r33_Nogoods_L3_B Rr g (allL t.Vars)) (M_r33_Nogoods_L3_E Rr g (allL t.Vars)) r n v=some (v++(pairG t R r).map ngO)
 | [],n,v,_,ho=>by
  rw[lN_]at ho
  rw[Rg,M_r33_Nogoods_L3_E,grd_t (by omega)]
  simp[pairG]
 | a :: r,n,v,hd,ho=>by
  obtain⟨ha,h2,h3⟩:=drop_cons hd
  rw[lC_]at ho
  have hw:IntKind.i64.wrap ((n:Int)+1)=((n+1:Nat):Int):=w64s (by omega)
  have hrl:r.length≤512:=by rw[← h2,List.length_drop];omega
  have hlen:((r.filter (opP t R a)).map (fun b=>ngO [a,b])).length≤512:=by
   rw[lM_]
   exact Nat.le_trans (List.length_filter_le _ _) hrl
  rw[Rg,M_r33_Nogoods_L3_B,ixv,hw,nr2 hz hr he (by omega) ha r (n+1) g v h2 (by omega) (by omega),ob1_some,show((n:Int)+1)=((n+1:Nat):Int)from rfl,nr3 g hg hll r (n+1) _ h2 (by rw[lA_];omega),pairG,List.map_append,List.append_assoc,List.map_map]
  rfl
end
theorem table_true (g:Nat)(hg:1000000≤g)(t:GTask)(ht:ShT t):M_l33_MutexTable g t=some true:=by
 rw[M_l33_MutexTable,fit3_eq t ht,awake3 g hg,ob1_some,plain_eq t ht]
 simp only[ob1_some]
 cases hf:fit3F t with
 | false=>rfl
 | true =>
  rw[Bool.not_true,sel_ff]
  cases hp:plainF t with
  | false=>rfl
  | true =>
   rw[Bool.not_true,sel_ff,sel_ff,ob1_some,osum_inl]
   have F:=fit3_of hf
   have hz:=F.sz
   obtain⟨R,Rr,h1,m1,r1,r2,he,hs⟩:=tables F hp ht g hg
   have hal:(allL t.Vars).length≤512:=by
    have:=factsG_len t.Vars 0 hz.pos
    have:=hz.small
    unfold allL
    omega
   have hone:=oneF_len (t:=t) R (allL t.Vars)
   have e1:=tab2 hz m1.rk r2 he hs (by omega) (allL t.Vars) 0 rfl
   have e2:=nr1 hz r2 he (allL t.Vars) 0 [] rfl (by simp;omega)
   have e3:=nr3 hz r2 he g hg hal (allL t.Vars) 0 ((oneF t R (allL t.Vars)).map ngO) rfl (by rw[lM_];omega)
   rw[List.nil_append]at e2
   rw[show((0:Nat):Int)=0 from rfl]at e1 e2 e3
   have hng:(oneF t R (allL t.Vars)).map ngO++(pairG t R (allL t.Vars)).map ngO=ngF t R:=by rw[← List.map_append];rfl
   rw[hng]at e3
   have en:M_r33_Nogoods g t.Vars Rr=some (ngF t R):=by
    rw[M_r33_Nogoods,facts33_eq hz,ob1_some,M_r33_Nogoods_L1_eq _ _ _ (by omega),e2,ob1_some,M_r33_Nogoods_L3_eq _ _ _ _ (by omega)]
    exact e3
   have hsh:=ng_sh F R
   rw[h1,ob2_some,erM,r1,ob1_some,facts33_eq hz,ob1_some,opM,M_l33_MutexTable_L2_eq _ _ _ (by omega),e1,ob1_some,osum_inl,nogoods_eq hz m1.rk,ob1_some,en,ob1_some,same_self _ hsh.list hsh.each]
   rfl
end Go.Proofs.YtinnphmnhmdcgaaGreat.Am
namespace Go.Proofs.YtinnphmnhmdcgaaGreat
open Go.RowKit Go.ChangeShapes Go.WideShapes Go.Deep Go.Joins
def I64 (x:Int):Prop:=-9223372036854775808≤x∧x≤9223372036854775807
theorem I64.of {x:Int}(h:(Lit.int .i64 x).wf=true):I64 x:=by
 have:=bounds_i64 h
 exact this
section
variable {H : Type} {enc : TypeId × Value → H} {P : Program} {w : World} {base : Nat} {spare : Nat → Bool} {held : Bool}
def Sized (P:Program)(t:TypeId)(d:DataW H):Prop:=∀ n∈d.weights P t,n≤reachBytes
theorem sized_arg {ts:List TypeId}{ds:List (DataW H)}(h:(DataW.weightsEach P ts ds).all (·≤reachBytes)=true){j:Nat}{t:TypeId}{d:DataW H}(ht:ts[j]?=some t)(hd:ds[j]?=some d):Sized P t d :=
 fun n hn=>of_decide_eq_true (List.all_eq_true.1 h n (DataW.weights_mem_each ht hd n hn))
theorem sized_field {t:TypeId}{fs:Array Field}{parts:List (DataW H)}(h:Sized P t (.agg parts))(hu:P.underlying t=some (.struct fs)){j:Nat}{f:Field}{d:DataW H}(hf:fs[j]?=some f)(hd:parts[j]?=some d):Sized P f.type d :=
 fun n hn=>h n (by
  simp only[DataW.weights,hu]
  exact DataW.weights_mem_each (j:=j) (by simp[List.getElem?_map,hf]) hd n hn)
theorem weightsAll_mem {e:TypeId}:∀ {l:List (DataW H)}{d:DataW H},d∈l→∀ n∈d.weights P e,n∈DataW.weightsAll P e l
 | x :: l,d,hd,n,hn=>by
  simp only[DataW.weightsAll,List.mem_append]
  rcases List.mem_cons.1 hd with rfl|h
  ·exact Or.inl hn
  ·exact Or.inr (weightsAll_mem h n hn)
theorem sized_elem {t e:TypeId}{elems sp:List (DataW H)}(h:Sized P t (.slice elems sp))(hu:P.underlying t=some (.slice e)){d:DataW H}(hd:d∈elems):Sized P e d :=
 fun n hn=>h n (by
  simp only[DataW.weights,hu,List.mem_cons,List.mem_append]
  exact Or.inr (Or.inl (weightsAll_mem hd n hn)))
theorem sized_len {t e:TypeId}{elems sp:List (DataW H)}(h:Sized P t (.slice elems sp))(hu:P.underlying t=some (.slice e)):elems.length*P.bytesOf e≤140737488355328:=by
 have h1:=h ((elems.length+sp.length)*P.bytesOf e) (by simp[DataW.weights,hu])
 have h2:elems.length*P.bytesOf e≤(elems.length+sp.length)*P.bytesOf e:=Nat.mul_le_mul_right _ (by omega)
 have h3:reachBytes≤140737488355328:=by decide
 omega
end
theorem spot_of_cell {w:World}{p:Addr}{v:Value}(h:w.cell? p=some v):p.spot=none:=by
 unfold World.cell? at h
 split at h
 ·split at h
  ·cases h
  ·rename_i hs;simpa using hs
 ·cases h
theorem addr_of_cell {w:World}{a:Addr}{k:Nat}{v:Value}(h0:∃ u,w.cell? (a.add 0)=some u)(h:w.cell? (a.add k)=some v):a=⟨a.block,a.off,none⟩∧w.cell? ⟨a.block,a.off+k,none⟩=some v:=by
 obtain⟨u,hu⟩:=h0
 have hs:=spot_of_cell hu
 obtain⟨b,off,sp⟩:=a
 simp[Addr.add]at hs
 subst hs
 refine⟨rfl,?_⟩
 rw[← h]
 congr 1
 unfold Addr.add
 split
 ·subst k;rfl
 ·rfl
theorem list_of {α:Type}(n:Nat)(R:Nat→α→Prop)(h:∀ i,i<n→∃ x,R i x):∃ l:List α,l.length=n∧∀ k x,l[k]?=some x→R k x:=by
 induction n with
 | zero=>exact⟨[],rfl,fun k x hx=>by simp at hx⟩
 | succ n ih =>
  obtain⟨l,hl,hr⟩:=ih (fun i hi=>h i (by omega))
  obtain⟨x,hx⟩:=h n (by omega)
  refine⟨l++[x],by simp[hl],fun k y hy=>?_⟩
  by_cases hk:k<n
  ·rw[List.getElem?_append_left (by omega)]at hy
   exact hr k y hy
  ·rw[List.getElem?_append_right (by omega)]at hy
   have hk':k-l.length=0:=by
    have:=(gS_.1 hy).1
    simp at this
    omega
   rw[hk']at hy
   simp at hy
   subst hy
   obtain rfl:k=n:=by omega
   exact hx
variable {H : Type} {enc : TypeId × Value → H} {w : World} {base : Nat} {spare : Nat → Bool} {held : Bool}
end Go.Proofs.YtinnphmnhmdcgaaGreat
namespace Go.Proofs.YtinnphmnhmdcgaaGreat.Am
open Go.RowKit Go.ChangeShapes Go.WideShapes Go.Deep Go.Joins
abbrev mZ : MM:=mO (fun _=>False)
theorem noZ (b:Nat):¬ Owned nov mZ b:=fun h=>owned_nov.1 h
section
variable {H : Type} {enc : TypeId × Value → H} {P : Program} {w : World} {base : Nat} {spare : Nat → Bool} {held : Bool}
def CellsRv (w:World)(es:List AV)(cs:List Value):Prop:=es.length=cs.length∧(∀ (j:Nat) (y:AV) (u:Value),es[j]?=some y→cs[j]?=some u→RV w nov mZ y u∧u.oneCell'=true)∧∀ y∈es,Fr y
def Opens (enc:TypeId×Value→H)(P:Program)(w:World)(base:Nat)(spare:Nat→Bool)(held:Bool)(t:TypeId){α:Type}(en:α→List AV)(R:α→Prop):Prop :=
 ∀ (fuel:Nat) (cs:List Value) (x:DataW H×List MemPlace),DataW.trod enc P w base spare held fuel t cs=some x→Sized P t x.1→∃ a,R a∧CellsRv w (en a) cs
theorem cells_one1 {y:AV}{u:Value}(h:RV w nov mZ y u)(h1:u.oneCell'=true)(hf:Fr y):CellsRv w [y] [u]:=by
 refine⟨rfl,fun j z v hz hv=>?_,fun z hz=>by simp at hz;subst hz;exact hf⟩
 cases j with
 | zero=>simp at hz hv;subst hz hv;exact⟨h,h1⟩
 | succ j=>simp at hz
theorem opens_int {t:TypeId}{k:IntKind}(ht:P.underlying t=some (.int k)):Opens enc P w base spare held t (fun z:Int=>[.c (.int k z)]) (fun z=>(Lit.int k z).wf=true):=by
 intro fuel cs x h _
 obtain⟨z,rfl,_,wz⟩:=DataW.trod_int ht h
 exact⟨z,wz,cells_one1 (.c _) rfl (.c _)⟩
theorem opens_slice {t e:TypeId}{α:Type}{en:α→List AV}{R:α→Prop}{sz by_:Nat}(ht:P.underlying t=some (.slice e))(hc:P.cellsOf e=sz)(hb:P.bytesOf e=by_)(hby:0<by_)(hsz:0<sz)(he:Opens enc P w base spare held e en R) :
  Opens enc P w base spare held t (fun l:List α=>[.sl sz (l.map en)]) (fun l=>l.length*by_≤140737488355328∧∀ x∈l,R x):=by
 intro fuel cs x h hs
 rcases open_slice ht h with⟨rfl,_⟩|⟨a,len,cap,m,n,D,Pl,rfl,_,hl,hm,hmm,rfl,hi⟩
 ·refine⟨[],⟨by simp,by simp⟩,cells_one1 ?_ rfl (.sl (fun e he=>by cases he))⟩
  exact RV.sl (l:=[]) (b:=0) (off:=0) (f:=fun _ _=>undef) (fun h=>absurd rfl h) (Nat.zero_le _) (by simp) (fun k e h=>by simp at h) (fun k j e x h=>by simp at h) (fun k j e x h=>by simp at h) (fun e he=>by cases he)
 ·have hlen:=sized_len hs ht
  rw[hb]at hlen
  simp only[lM_,List.length_range]at hlen
  have hml:len≤m:=by rw[hmm];split <;> omega
  have hcell:∀ i,i<len→∃ z:α,R z∧∃ cs',CellsRv w (en z) cs'∧cs'.length=sz∧∀ j,j<sz→w.cell? (a.add (i*sz+j))=cs'[j]?:=by
   intro i hi'
   obtain⟨cs',hcc,ht'⟩:=hi i (by omega)
   rw[hc]at hcc
   obtain⟨z,hz,hcr⟩:=he n cs' _ ht' (sized_elem hs ht (List.mem_map.2 ⟨i,by simpa using hi',rfl⟩))
   obtain⟨_,hcl',hat⟩:=World.cells?_some hcc
   exact⟨z,hz,cs',hcr,hcl',fun j hj=>by rw[← hat j hj,Go.Deep.add_add]⟩
  obtain⟨l,hl',hat⟩:=list_of len _ hcell
  have hR:∀ x∈l,R x:=fun x hx=>by
   obtain⟨k,hk⟩:=List.getElem?_of_mem hx
   exact(hat k x hk).1
  have hfr:FrL (l.map en):=by
   intro e he
   obtain⟨x,hx,rfl⟩:=List.mem_map.1 he
   obtain⟨k,hk⟩:=List.getElem?_of_mem hx
   obtain⟨_,cs',hcr,_⟩:=hat k x hk
   exact hcr.2.2
  refine⟨l,⟨by rw[hl'];exact hlen,hR⟩,cells_one1 ?_ rfl (.sl hfr)⟩
  have key:∀ (k j:Nat) (e:List AV) (y:AV),(l.map en)[k]?=some e→e[j]?=some y→e.length=sz∧∃ u,w.cell? ⟨a.block,a.off+(k*sz+j),none⟩=some u∧u.oneCell'=true∧RV w nov mZ y u∧a=⟨a.block,a.off,none⟩∧a.block<w.heap.size:=by
   intro k j e y hk hj
   rw[List.getElem?_map]at hk
   cases hx:l[k]? with
   | none=>rw[hx]at hk;cases hk
   | some z =>
    rw[hx]at hk
    simp at hk
    subst hk
    obtain⟨_,cs',⟨c1,c2,_⟩,c4,c5⟩:=hat k z hx
    have hjl:j<sz:=by rw[← c4,← c1];exact(gS_.1 hj).1
    have hcj:=c5 j hjl
    have hget:cs'[j]?=some (cs'[j]'(by omega)):=gE_ _
    rw[hget]at hcj
    obtain⟨r1,r2⟩:=c2 j y _ hj hget
    have h0:0<len:=by have:=(gS_.1 hx).1;omega
    obtain⟨_,_,cs0,⟨_,_,_⟩,d4,d5⟩:=hcell 0 h0
    have hz0:=d5 0 hsz
    rw[gE_ (by omega)]at hz0
    obtain⟨e1,e2⟩:=addr_of_cell ⟨_,by simpa using hz0⟩ hcj
    exact⟨by rw[c1,c4],_,e2,r2,r1,e1,lt_of_cell (p:=⟨a.block,a.off+(k*sz+j),none⟩) e2⟩
  have hlen2:(l.map en).length=len:=by simp[hl']
  have:=RV.sl (w:=w) (vs:=nov) (m:=mZ) (sz:=sz) (l:=l.map en) (A:=some a) (cap:=cap) (b:=a.block) (off:=a.off) (f:=fun k j=>(w.cell? ⟨a.block,a.off+(k*sz+j),none⟩).getD undef)
   (fun hne=>?_) (by omega) (by rw[hlen2];exact Nat.le_trans (Nat.le_mul_of_pos_right _ hby) hlen) (fun k e hk=>?_) (fun k j e y hk hj=>?_) (fun k j e y hk hj=>?_) hfr
  ·rw[hlen2]at this
   exact this
  ·have h0:0<(l.map en).length:=List.length_pos_iff.2 hne
   have hk:=gE_ h0
   obtain⟨x0,hx0,hx0'⟩:∃ x0,l[0]?=some x0∧(l.map en)[0]=en x0:=by
    have h1:0<l.length:=by simpa using h0
    exact⟨l[0],gE_ h1,by simp⟩
   obtain⟨_,cs',⟨c1,_,_⟩,c4,_⟩:=hat 0 x0 hx0
   have hel:0<((l.map en)[0]).length:=by rw[hx0',c1,c4];exact hsz
   obtain⟨_,_,_,_,_,q1,q2⟩:=key 0 0 _ _ hk (gE_ hel)
   exact⟨by rw[← q1],noZ _,q2⟩
  ·rw[List.getElem?_map]at hk
   cases hx:l[k]? with
   | none=>rw[hx]at hk;cases hk
   | some z =>
    rw[hx]at hk
    simp at hk
    subst hk
    obtain⟨_,cs',⟨c1,_,_⟩,c4,_⟩:=hat k z hx
    rw[c1,c4]
  ·obtain⟨_,u,q1,q2,_⟩:=key k j e y hk hj
   rw[q1]
   exact⟨rfl,q2⟩
  ·obtain⟨_,u,q1,_,q3,_⟩:=key k j e y hk hj
   rw[q1]
   exact q3
def OpensF (enc:TypeId×Value→H)(P:Program)(w:World)(base:Nat)(spare:Nat→Bool)(held:Bool)(fs:List Field)(off tot:Nat){α:Type}(en:α→List AV)(R:α→Prop):Prop :=
 ∀ (fuel:Nat) (cs:List Value) (xs:List (DataW H×List MemPlace)),cs.length=tot→xs.length=fs.length→(∀ (i:Nat) (f:Field),fs[i]?=some f→DataW.trod enc P w base spare held fuel f.type ((cs.drop f.offset).take (P.cellsOf f.type))=xs[i]?) →
  (∀ (i:Nat) (f:Field) (x:DataW H×List MemPlace),fs[i]?=some f→xs[i]?=some x→Sized P f.type x.1)→∃ a,R a∧CellsRv w (en a) (cs.drop off)
theorem cells_append {a b:List AV}{xs ys:List Value}(h1:CellsRv w a xs)(h2:CellsRv w b ys):CellsRv w (a++b) (xs++ys):=by
 refine⟨by rw[lA_,lA_,h1.1,h2.1],fun j y u hy hu=>?_,fun y hy=>?_⟩
 ·rcases Nat.lt_or_ge j a.length with hlt|hge
  ·rw[List.getElem?_append_left hlt]at hy
   rw[List.getElem?_append_left (by rw[← h1.1];exact hlt)]at hu
   exact h1.2.1 j y u hy hu
  ·rw[List.getElem?_append_right hge]at hy
   rw[List.getElem?_append_right (by rw[← h1.1];exact hge)]at hu
   rw[h1.1]at hy
   exact h2.2.1 _ y u hy hu
 ·rcases List.mem_append.1 hy with h|h
  ·exact h1.2.2 y h
  ·exact h2.2.2 y h
theorem opensF_last {f:Field}{off tot:Nat}{α:Type}{en:α→List AV}{R:α→Prop}(ho:f.offset=off)(htot:off+P.cellsOf f.type=tot)(h:Opens enc P w base spare held f.type en R):OpensF enc P w base spare held [f] off tot en R:=by
 intro fuel cs xs hcl hx ht hs
 obtain⟨x,rfl⟩:=List.length_eq_one_iff.1 hx
 have h1:=ht 0 f rfl
 obtain⟨a,ha,hc⟩:=h fuel _ x h1 (hs 0 f x rfl rfl)
 refine⟨a,ha,?_⟩
 rw[ho,List.take_of_length_le (by simp;omega)]at hc
 exact hc
theorem opensF_cons {f:Field}{fs:List Field}{off off' tot:Nat}{α β:Type}{en:α→List AV}{R:α→Prop}{en':β→List AV}{R':β→Prop}(ho:f.offset=off)(hoff:off+P.cellsOf f.type=off')(h:Opens enc P w base spare held f.type en R)(h':OpensF enc P w base spare held fs off' tot en' R') :
  OpensF enc P w base spare held (f :: fs) off tot (fun p:α×β=>en p.1++en' p.2) (fun p=>R p.1∧R' p.2):=by
 intro fuel cs xs hcl hx ht hs
 cases xs with
 | nil=>simp at hx
 | cons x xs =>
  obtain⟨a,ha,hc⟩:=h fuel _ x (ht 0 f rfl) (hs 0 f x rfl rfl)
  obtain⟨b,hb,hc'⟩:=h' fuel cs xs hcl (by simpa using hx) (fun i g hg=>by simpa using ht (i+1) g (by simpa using hg)) (fun i g y hg hy=>hs (i+1) g y (by simpa using hg) (by simpa using hy))
  refine⟨(a,b),⟨ha,hb⟩,?_⟩
  rw[ho]at hc
  have:cs.drop off=(cs.drop off).take (P.cellsOf f.type)++cs.drop off':=by
   rw[← hoff,← List.drop_drop,List.take_append_drop]
  rw[this]
  exact cells_append hc hc'
theorem opens_struct {t:TypeId}{fs:Array Field}{α:Type}{en:α→List AV}{R:α→Prop}(ht:P.underlying t=some (.struct fs))(h:OpensF enc P w base spare held fs.toList 0 (P.cellsOf t) en R):Opens enc P w base spare held t en R:=by
 intro fuel cs x hx hs
 obtain⟨xs,n,_,rfl,hcl,hxl,hf⟩:=DataW.trod_struct ht hx
 obtain⟨a,ha,hc⟩:=h n cs xs hcl (by simpa using hxl) (fun i f hi=>hf i f (by simpa using hi)) (fun i f y hi hy=>sized_field hs ht (j:=i) (by simpa using hi) (by simp[List.getElem?_map,hy]))
 exact⟨a,ha,by simpa using hc⟩
theorem agg_rv {es:List AV}{us:Array Value}(h:CellsRv w es us.toList):RV w nov mZ (.agg es) (.agg us) :=
 .agg (by rw[h.1];simp) (fun j y u hy hu=>(h.2.1 j y u hy (by simpa using hu)).1)
end
end Go.Proofs.YtinnphmnhmdcgaaGreat.Am
namespace Go.Proofs.YtinnphmnhmdcgaaGreat
open Go.RowKit Go.WideShapes Go.ChangeShapes Go.ChangeAt
section
variable {H : Type} {enc : TypeId × Value → H} {P : Program}
theorem post_of_below {f:Func}{s:ChangeSpec}{apart fresh handsOn again:Bool}{W W':World}{args:Array Value}{v:Value}{ds gs:List (DataW H)}{before pa pv:List MemPlace}
  (hW:DataW.Whole enc P f.params.toList s.vars apart W args.toList ds gs before)
  (hres:∀ (b:Nat) (sp:Nat→Bool) (hd:Bool),DataW.TrodAll enc P W' b sp hd f.resultTypes.toList (v.resultList f.resultTypes.size) (s.fn H (ds++gs)).results [])
  (hargs:∀ sp:Nat→Bool,(∀ p∈before,sp p.block=true)→DataW.TrodAll enc P W' 0 sp true f.params.toList args.toList (s.fn H (ds++gs)).args pa)
  (hvars:∀ sp:Nat→Bool,(∀ p∈before,sp p.block=true)→DataW.TrodVars enc P W' sp s.vars (s.fn H (ds++gs)).vars pv)
  (hps:before=pa++pv) (hb:Below W.heap.size W W')
  (hok:∀ (j:Nat) (t:TypeId) (r:Value),f.resultTypes[j]?=some t→(v.resultList f.resultTypes.size)[j]?=some r→Value.okWide P W' .any 0 t r) :
  s.post enc P f apart fresh handsOn again W args v W':=by
 have hlt:∀ p∈before,p.block<W.heap.size:=fun p hp=>hW.lt p hp
 have hold:∀ p∈before,(fun b=>decide (b<W.heap.size)) p.block=true:=fun p hp=>by simpa using hlt p hp
 refine⟨ds,gs,before,[],pa,pv,hW,hres _ _ _,hargs _ hold,hvars _ hold,World.keptBut_mono (fun p hp=>⟨hp,?_⟩) (hb.frame (·∈before)),fun _=>?_⟩
 ·rw[hps,List.mem_append]at hp
  exact Or.inr hp
 ·obtain⟨_,_,_,_,_,hz,hn⟩:=hW
  refine⟨hok,_,_,([]++pa)++pv,⟨[]++pa,pv,trodAll_append (hargs _ (fun _ _=>rfl)) (hres _ _ _),hvars _ (fun _ _=>rfl),rfl,?_,?_⟩,?_⟩
  ·intro b off hp
   have hin:MemPlace.cell b off∈before:=by rw[hps];simpa using hp
   rw[hb.frozen (hlt _ hin)]
   exact hz b off hin
  ·intro ha
   have:=hn ha
   rw[hps]at this
   simpa using this
  ·intro p hp _
   rw[hps]
   simpa using hp
theorem trodAll_keep (hl:laidOutB P=true){W W':World}(hb:Below W.heap.size W W')(sp:Nat→Bool)(ts:List TypeId):∀ (vs:List Value)(ds:List (DataW H))(ps:List MemPlace),(∀ t∈ts,P.readableRec t=true∧t<P.types.size) →
  DataW.TrodAll enc P W 0 (fun _=>true) true ts vs ds ps→(∀ x∈ps,x.block<W.heap.size)→(∀ x∈ps,sp x.block=true)→DataW.TrodAll enc P W' 0 sp true ts vs ds ps:=by
 induction ts with
 | nil =>
  intro vs ds ps _ h _ _
  obtain⟨rfl,rfl,rfl⟩:=trodAll_nil h
  exact trodAll_mk0
 | cons t ts ih =>
  intro vs ds ps hts h hlt hsp
  obtain⟨v0,vs0,d0,ds0,p0,q0,rfl,rfl,rfl,h0,r0⟩:=trodAll_cons h
  obtain⟨hr,hrow⟩:=hts t (by simp)
  exact trodAll_cons_mk (WideElems.Trod_stays hl hr hrow h0 (fun x hx=>hb.same (hlt x (by simp[hx]))) (fun x hx=>hsp x (by simp[hx])))
   (ih _ _ _ (fun t ht=>hts t (by simp[ht])) r0 (fun x hx=>hlt x (by simp[hx])) (fun x hx=>hsp x (by simp[hx])))
theorem law_post (hl:laidOutB P=true){f:Func}{s:ChangeSpec}{T:TypeId}{W W':World}{args:Array Value}{ds:List (DataW H)}{before:List MemPlace}
  (hvars:s.vars=[]) (hrt:f.resultTypes=#[T]) (hT:P.underlying T=some .bool) (hts:f.params.toList.all (fun t=>P.readableRec t&&decide (t<P.types.size))=true)
  (hW:DataW.Whole enc P f.params.toList s.vars false W args.toList ds [] before) (hA:DataW.TrodAll enc P W 0 (fun _=>true) true f.params.toList args.toList ds before)
  (e1:(s.fn H (ds++[])).results=[.lit (.bool true)]) (e2:(s.fn H (ds++[])).args=ds) (e3:(s.fn H (ds++[])).vars=[]) (hb:Below W.heap.size W W') :
  s.post enc P f false true false false W args (.bool true) W':=by
 have hlt:∀ x∈before,x.block<W.heap.size:=fun x hx=>hW.lt x hx
 refine post_of_below (pa:=before) (pv:=[]) hW ?_ ?_ ?_ (by simp) hb ?_
 ·intro b sp hd
  rw[e1,hrt]
  exact trodAll_cons_mk (shut_bool hT true) trodAll_mk0
 ·intro sp hsp
  rw[e2]
  exact trodAll_keep hl hb sp _ _ _ _ (fun t ht=>by simpa using List.all_eq_true.1 hts t ht) hA hlt hsp
 ·intro sp hsp
  rw[e3,hvars]
  rfl
 ·exact ok_one hrt rfl (okWide_bool_mk hT true)
end
end Go.Proofs.YtinnphmnhmdcgaaGreat
namespace Go.Proofs.YtinnphmnhmdcgaaGreat.Am
open Go.RowKit Go.ChangeShapes Go.WideShapes Go.Deep Go.Joins
section
variable {H : Type} {enc : TypeId × Value → H} {w : World} {base : Nat} {spare : Nat → Bool} {held : Bool}
theorem opens_conv {P:Program}{t:TypeId}{α β:Type}{en:α→List AV}{en2:β→List AV}{R:α→Prop}{R2:β→Prop}(f:α→β)(h:Opens enc P w base spare held t en R)(he:∀ a,en2 (f a)=en a)(hR:∀ a,R a→R2 (f a)):Opens enc P w base spare held t en2 R2:=by
 intro fuel cs x hx hs
 obtain⟨a,ha,hc⟩:=h fuel cs x hx hs
 exact⟨f a,hR a ha,by rw[he];exact hc⟩
theorem opens_str2 {P:Program}{t:TypeId}(ht:P.underlying t=some .string):Opens enc P w base spare held t (fun s:ByteArray=>[.c (.string s)]) (fun s=>s.size≤140737488355328):=by
 intro fuel cs x h hsz
 obtain⟨s,rfl,rfl,-⟩:=DataW.trod_string ht h
 refine⟨s,?_,cells_one1 (.c _) rfl (.c _)⟩
 have h1:s.data.toList.length≤140737488355328:=Nat.le_trans (hsz s.data.toList.length (mI_.2 rfl)) (by decide)
 rw[Array.length_toList]at h1
 exact h1
abbrev I64F (p:Fact):Prop:=(Lit.int .i64 p.1).wf=true∧(Lit.int .i64 p.2).wf=true
abbrev FactsR (l:List Fact):Prop:=l.length*16≤140737488355328∧∀ p∈l,I64F p
abbrev EffR (e:GEffect):Prop:=FactsR e.When
abbrev OpR (o:GOp):Prop:=o.Name.size≤140737488355328∧FactsR o.Pre∧o.Effs.length*40≤140737488355328∧∀ e∈o.Effs,EffR e
abbrev IntsR (l:List Int):Prop:=l.length*8≤140737488355328∧∀ z∈l,(Lit.int .i64 z).wf=true
abbrev TaskR (t:GTask):Prop:=IntsR t.Vars∧IntsR t.Init∧FactsR t.Goal∧t.Ops.length*72≤140737488355328∧∀ o∈t.Ops,OpR o
set_option maxRecDepth 100000 in
theorem oFact : Opens enc Tryz.prog w base spare held 39 cF I64F :=
 opens_struct Tryz.underlying39 (opensF_cons (off':=1) rfl (by kernel_rfl) (opens_int Tryz.underlying3) (opensF_last rfl (by kernel_rfl) (opens_int Tryz.underlying3)))
set_option maxRecDepth 100000 in
theorem oFacts : Opens enc Tryz.prog w base spare held 23 (fun l:List Fact=>[.sl 2 (l.map cF)]) FactsR :=
 opens_slice Tryz.underlying23 (by kernel_rfl) (by kernel_rfl) (by decide) (by decide) oFact
set_option maxRecDepth 100000 in
theorem oInts : Opens enc Tryz.prog w base spare held 22 (fun l:List Int=>[.sl 1 (l.map cI)]) IntsR :=
 opens_slice Tryz.underlying22 (by kernel_rfl) (by kernel_rfl) (by decide) (by decide) (opens_int Tryz.underlying3)
set_option maxRecDepth 100000 in
theorem oEff : Opens enc Tryz.prog w base spare held 76 cGEffect EffR :=
 opens_conv (fun p:List Fact×(Int×Int)=>{ When:=p.1,Var:=p.2.1,Val:=p.2.2:GEffect })
  (opens_struct Tryz.underlying76 (opensF_cons (off':=1) (en:=fun l:List Fact=>[AV.sl 2 (l.map cF)]) (R:=FactsR) (en':=fun z:Int×Int=>[AV.c (.int .i64 z.1)]++[AV.c (.int .i64 z.2)]) (R':=fun z:Int×Int=>(Lit.int .i64 z.1).wf=true∧(Lit.int .i64 z.2).wf=true) rfl (by kernel_rfl) oFacts
   (opensF_cons (off':=2) (en:=fun z:Int=>[AV.c (.int .i64 z)]) (R:=fun z:Int=>(Lit.int .i64 z).wf=true) (en':=fun z:Int=>[AV.c (.int .i64 z)]) (R':=fun z:Int=>(Lit.int .i64 z).wf=true) rfl (by kernel_rfl) (opens_int Tryz.underlying3) (opensF_last rfl (by kernel_rfl) (opens_int Tryz.underlying3)))))
  (fun _=>rfl) (fun _ h=>h.1)
set_option maxRecDepth 100000 in
theorem oOp : Opens enc Tryz.prog w base spare held 60 cGOp OpR :=
 opens_conv (fun p:ByteArray×(Int×(List Fact×List GEffect))=>{ Name:=p.1,Cost:=p.2.1,Pre:=p.2.2.1,Effs:=p.2.2.2:GOp })
  (opens_struct Tryz.underlying60 (opensF_cons (off':=1) (en:=fun s:ByteArray=>[AV.c (.string s)]) (R:=fun s=>s.size≤140737488355328) (en':=fun p:Int×(List Fact×List GEffect)=>[AV.c (.int .i64 p.1)]++([AV.sl 2 (p.2.1.map cF)]++[AV.sl 3 (p.2.2.map cGEffect)])) (R':=fun p:Int×(List Fact×List GEffect)=>(Lit.int .i64 p.1).wf=true∧(FactsR p.2.1∧(p.2.2.length*40≤140737488355328∧∀ e∈p.2.2,EffR e))) rfl (by kernel_rfl) (opens_str2 Tryz.underlying9)
   (opensF_cons (off':=2) (en:=fun z:Int=>[AV.c (.int .i64 z)]) (R:=fun z:Int=>(Lit.int .i64 z).wf=true) (en':=fun p:List Fact×List GEffect=>[AV.sl 2 (p.1.map cF)]++[AV.sl 3 (p.2.map cGEffect)]) (R':=fun p:List Fact×List GEffect=>FactsR p.1∧(p.2.length*40≤140737488355328∧∀ e∈p.2,EffR e)) rfl (by kernel_rfl) (opens_int Tryz.underlying3)
    (opensF_cons (off':=3) (en:=fun l:List Fact=>[AV.sl 2 (l.map cF)]) (R:=FactsR) (en':=fun l:List GEffect=>[AV.sl 3 (l.map cGEffect)]) (R':=fun l:List GEffect=>l.length*40≤140737488355328∧∀ e∈l,EffR e) rfl (by kernel_rfl) oFacts
     (opensF_last rfl (by kernel_rfl) (opens_slice Tryz.underlying58 (by kernel_rfl) (by kernel_rfl) (by decide) (by decide) oEff))))))
  (fun _=>rfl) (fun _ h=>⟨h.1,h.2.2.1,h.2.2.2⟩)
set_option maxRecDepth 100000 in
theorem oTask : Opens enc Tryz.prog w base spare held 26 cGTask TaskR :=
 opens_conv (fun p:List Int×(List Int×(List Fact×List GOp))=>{ Vars:=p.1,Init:=p.2.1,Goal:=p.2.2.1,Ops:=p.2.2.2:GTask })
  (opens_struct Tryz.underlying26 (opensF_cons (off':=1) (en:=fun l:List Int=>[AV.sl 1 (l.map cI)]) (R:=IntsR) (en':=fun p:List Int×(List Fact×List GOp)=>[AV.sl 1 (p.1.map cI)]++([AV.sl 2 (p.2.1.map cF)]++[AV.sl 4 (p.2.2.map cGOp)])) (R':=fun p:List Int×(List Fact×List GOp)=>IntsR p.1∧(FactsR p.2.1∧(p.2.2.length*72≤140737488355328∧∀ o∈p.2.2,OpR o))) rfl (by kernel_rfl) oInts
   (opensF_cons (off':=2) (en:=fun l:List Int=>[AV.sl 1 (l.map cI)]) (R:=IntsR) (en':=fun p:List Fact×List GOp=>[AV.sl 2 (p.1.map cF)]++[AV.sl 4 (p.2.map cGOp)]) (R':=fun p:List Fact×List GOp=>FactsR p.1∧(p.2.length*72≤140737488355328∧∀ o∈p.2,OpR o)) rfl (by kernel_rfl) oInts
    (opensF_cons (off':=3) (en:=fun l:List Fact=>[AV.sl 2 (l.map cF)]) (R:=FactsR) (en':=fun l:List GOp=>[AV.sl 4 (l.map cGOp)]) (R':=fun l:List GOp=>l.length*72≤140737488355328∧∀ o∈l,OpR o) rfl (by kernel_rfl) oFacts
     (opensF_last rfl (by kernel_rfl) (opens_slice Tryz.underlying24 (by kernel_rfl) (by kernel_rfl) (by decide) (by decide) oOp))))))
  (fun _=>rfl) (fun _ h=>h)
theorem arg_struct {P:Program}{t:TypeId}{fs:Array Field}{α:Type}{en:α→List AV}{R:α→Prop}{r:Reach}{b0:Nat}{v:Value}{d:DataW H}{p:List MemPlace}(ht:P.underlying t=some (.struct fs))(hv:Value.okWide P w r b0 t v)(ho:Opens enc P w base spare held t en R)(h:DataW.Trod enc P w base spare held t v d p)(hs:Sized P t d) :
  ∃ a,R a∧RV w nov mZ (.agg (en a)) v:=by
 obtain⟨cs,rfl,hsz⟩:=okWide_struct ht hv
 obtain⟨fuel,hf⟩:=h
 obtain⟨a,ha,hc⟩:=ho fuel _ _ hf hs
 exact⟨a,ha,agg_rv hc⟩
end
theorem TaskR.sh {t:GTask}(h:TaskR t):ShT t:=by
 obtain⟨⟨h1,-⟩,⟨h2,-⟩,⟨h3,-⟩,h4,h5⟩:=h
 refine⟨?_,?_,?_,?_,fun o ho=>?_⟩
 ·show _≤_;omega
 ·show _≤_;omega
 ·show _≤_;omega
 ·show _≤_;omega
 ·obtain⟨g1,⟨g2,-⟩,g3,g4⟩:=h5 o ho
  refine⟨by omega,?_,?_,fun e he=>?_⟩
  ·show _≤_;omega
  ·show _≤_;omega
  ·have:=(g4 e he).1
   show _≤_;omega
theorem FactsR.sh {l:List Fact}(h:FactsR l):Sh l:=by have:=h.1;show _≤_;omega
theorem law_of {f:FuncId}{args:List AV}{w:World}{cargs:Array Value}(h:ACall cx f args (.c (.bool true)))(hs:cargs.size=args.length)(hr:∀ (j:Nat)(x:AV)(v:Value),args[j]?=some x→cargs[j]?=some v→RV w nov (mO (fun _=>False)) x v) :
  Calls Tryz.prog f cargs w fun e w'=>e=.returned (.bool true)∧Below w.heap.size w w':=by
 refine Calls.mono (h.2 w (fun _=>False) cargs trivial (Nat.zero_le _) (fun b hb=>hb.elim) hs hr) ?_
 rintro e w' ⟨v,rfl,h1,h2,_⟩
 rw[rv_c h1]
 exact⟨rfl,⟨h2.os,h2.tape,h2.output,h2.size,fun b hb=>h2.block b hb (fun h=>h)⟩⟩
end Go.Proofs.YtinnphmnhmdcgaaGreat.Am
namespace Go.Proofs.YtinnphmnhmdcgaaGreat.rowTable
open Go.ChangeShapes Go.WideShapes Go.ChangeAt Go.RowKit Am
theorem laidOut : laidOutB Tryz.prog=true:=by kernel_rfl
set_option maxRecDepth 100000 in
theorem contract (H:Type)(enc:TypeId×Value→H)(W:World)(base:Nat)(args:Array Value)(ds gs:List (DataW H))(before:List MemPlace)
  (hval:∀ (j:Nat) t v,Tryz.f3.params[j]?=some t→args[j]?=some v→Value.okWide Tryz.prog W .any base t v)
  (hW:DataW.Whole enc Tryz.prog Tryz.f3.params.toList Rows.mutexTableSpec.vars false W args.toList ds gs before)
  (hsz:(DataW.weightsEach Tryz.prog (Tryz.f3.params.toList++(OpenSpec.ofChange Rows.mutexTableSpec).bare.plain.varTypes Tryz.prog) (ds++gs)).all (·≤reachBytes)=true) :
  Calls Tryz.prog 3 args W fun e W'=>∃ v,e=.returned v∧Rows.mutexTableSpec.post enc Tryz.prog Tryz.f3 false true false false W args v W':=by
 have hW':=hW
 obtain⟨p,q,hA0,hV,rfl,hfz,hnd⟩:=hW
 have hA:DataW.TrodAll enc Tryz.prog W 0 (fun _=>true) true Tryz.f3.params.toList args.toList ds p:=hA0
 rw[Tryz.params3]at hA hval
 obtain⟨v0,vs0,d0,ds0,p0,q0,hargs,rfl,rfl,h0,r0⟩:=trodAll_cons hA
 obtain⟨rfl,rfl,rfl⟩:=trodAll_nil r0
 obtain rfl:args=#[v0]:=Array.ext' hargs
 obtain⟨rfl,rfl⟩:=trodVars_none hV
 simp only[List.append_nil]at hW' hA0 hsz
 rw[Tryz.params3]at hsz
 obtain⟨t,ht,k0⟩:=arg_struct Tryz.underlying26 (hval 0 26 v0 rfl rfl) oTask h0 (sized_arg hsz (j:=0) rfl rfl)
 refine(law_of (A_l33_MutexTable 1000000000000000000 t (table_true _ (by decide) t ht.sh)) rfl (fun j x v hx hv=>?_)).mono fun e W' ⟨he,hb⟩=>?_
 ·match j,hx,hv with
  | 0,hx,hv=>simp at hx hv;subst hx hv;exact k0
  | j+1,hx,hv=>simp at hx
 ·subst he
  exact⟨_,rfl,law_post laidOut rfl (by kernel_rfl) Tryz.underlying4 (by kernel_rfl) hW' hA0 rfl rfl rfl hb⟩
theorem own : ownKnob Tryz.prog.godebug=none:=by kernel_rfl
theorem laid_met (os:Os):laidMet Tryz.prog Rows.mutexTableRow.laid ((World.holding Tryz.prog os ⟨#[],#[],[]⟩).forCall (fun _ _=>0) ⟨#[],#[.agg #[.slice none 0 0,.slice none 0 0,.slice none 0 0,.slice none 0 0]],[]⟩).memory :=
 laidMet_of_run' 8 (by kernel_rfl) (by kernel_rfl)
theorem reads (os:Os){H:Type}(enc:TypeId×Value→H):∃ places,DataW.whole enc Tryz.prog ((World.holding Tryz.prog os ⟨#[],#[],[]⟩).forCall (fun _ _=>0) ⟨#[],#[.agg #[.slice none 0 0,.slice none 0 0,.slice none 0 0,.slice none 0 0]],[]⟩).memory Tryz.f3.params.toList Rows.mutexTableSpec.vars false (#[.agg #[.slice none 0 0,.slice none 0 0,.slice none 0 0,.slice none 0 0]]:Array Value).toList 8=some ([.agg [.nil,.nil,.nil,.nil]],[],places) :=
 ⟨[],by kernel_rfl⟩
set_option maxRecDepth 100000 in
theorem lifted (os:Os)(started:os.Started)(H:Type)(enc:TypeId×Value→H)(F:Stop.Interp) :
  ReturnsInHanded {} Tryz.checked os 3 .any ((OpenSpec.ofChange Rows.mutexTableSpec).preRow enc Tryz.prog Tryz.f3 Rows.mutexTableRow.domain false Rows.mutexTableRow.laid) (((OpenSpec.ofChange Rows.mutexTableSpec).at F).post enc Tryz.prog Tryz.f3 false true false false):=by
 obtain⟨places,hx⟩:=reads os enc
 refine returnsInHanded_of_row (C:=Tryz.checked) (s:=OpenSpec.ofChange Rows.mutexTableSpec) own started (by kernel_rfl) Tryz.func3
  (witness_row_at (enc:=enc) (C:=Tryz.checked) false (World.holding Tryz.prog os ⟨#[],#[],[]⟩) #[.agg #[.slice none 0 0,.slice none 0 0,.slice none 0 0,.slice none 0 0]] rfl (by kernel_rfl) (by kernel_rfl) (by kernel_rfl)
   (OpenSpec.preRow_of_cond 8 hx (by kernel_rfl) (fun k hk=>by cases hk) (by kernel_rfl) (laid_met os))) ?_
 intro W base args ds gs before hval hW _ _ hsz _ _ _
 exact contract H enc W base args ds gs before hval hW hsz
theorem said : Rows.MutexTableSaid :=
 OpenClaim.holds_of_cond 3 Tryz.f3 rfl rfl rfl rfl rfl rfl rfl ⟨rfl,rfl,rfl,rfl,rfl⟩ rfl rfl rfl rfl rfl (by kernel_rfl) Tryz.func3 (by kernel_rfl)
  (of_decide_eq_true (by kernel_rfl)) (by unfold Func.isWrapper;first|(rw[if_pos (by decide +kernel)];kernel_rfl)|(rw[if_neg (by decide +kernel)];exact⟨rfl,rfl⟩))
  (fun os started H enc _ F=>by rw[OpenClaim.pre_eq_preRow];exact lifted os started H enc F)
end Go.Proofs.YtinnphmnhmdcgaaGreat.rowTable
