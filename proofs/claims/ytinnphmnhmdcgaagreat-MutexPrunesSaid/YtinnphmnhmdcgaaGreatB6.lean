/- stratagemlaw33.MutexPrunes returns true for every input. No condition beyond the row's own. -/
import Derived.Test.YtinnphmnhmdcgaaGreatB5
import Derived.Test.YtinnphmnhmdcgaaGreatB3
import Derived.Test.YtinnphmnhmdcgaaGreatB2
import Derived.Test.YtinnphmnhmdcgaaGreatB4
import Derived.Test.YtinnphmnhmdcgaaGreatB1
import Derived.Deep.Slices
import Derived.Deep.Fields
import Derived.ChangeSame
import Derived.SizedLaws
import Derived.Lib.SmallJoins
import Derived.Below
import Derived.OpenShut
import Derived.Carry
import Derived.Test.YtinnphmnhmdcgaaGreatRows
import Derived.Deep.DeepHandedRow
import Derived.Lib.LaidTab
set_option linter.unusedVariables false
set_option linter.unusedSectionVars false
open List renaming getElem?_eq_getElem→gE_, length_map→lM_, length_append→lA_, mem_cons_of_mem→mC_, length_cons→lC_, mem_cons_self→mS_, mem_of_getElem?→mG_, getElem?_eq_some_iff→gS_, length_nil→lN_, mem_singleton→mI_, length_replicate→lR_
open Option.some renaming inj→sI_
open Bool renaming and_eq_true→bA_
namespace Go.Proofs.YtinnphmnhmdcgaaGreat.Am
open Go.RowKit
theorem bT3 {n m:Nat}(h:Nat.ble n m=true):n≤m:=Nat.le_of_ble_eq_true h
def clashP (p x:List Fact):Bool:=x.any fun f=>decide (0≤findF p f.1)&&decide (findF p f.1≠f.2)
def lowF (p:List Fact):List Fact→Int→Int
 | [],v=>v
 | f :: r,v=>lowF p r (if f.1<v∧findF p f.1<0 then f.1 else v)
def lowL (p:List Fact):List (List Fact)→Int→Int
 | [],v=>v
 | x :: r,v=>lowL p r (lowF p x v)
def restP (p:List Fact)(l:List (List Fact)):List (List Fact):=l.filter fun x=>!clashP p x
theorem lowF_spec (p:List Fact):∀ (l:List Fact)(v:Int),lowF p l v≤v∧(∀ f∈l,findF p f.1<0→lowF p l v≤f.1)∧(lowF p l v=v∨∃ f∈l,f.1=lowF p l v∧findF p f.1<0)
 | [],v=>⟨Int.le_refl _,(nofun),.inl rfl⟩
 | f :: r,v=>by
  rw[lowF]
  by_cases h:f.1<v∧findF p f.1<0
  ·rw[if_pos h]
   obtain⟨h1,h2,h3⟩:=lowF_spec p r f.1
   refine⟨by omega,fun u hu hn=>?_,?_⟩
   ·rcases List.mem_cons.1 hu with rfl|hu
    ·exact h1
    ·exact h2 u hu hn
   ·rcases h3 with h3|⟨u,hu,e⟩
    ·exact .inr ⟨f,mS_ ..,h3.symm,h.2⟩
    ·exact .inr ⟨u,mC_ _ hu,e⟩
  ·rw[if_neg h]
   obtain⟨h1,h2,h3⟩:=lowF_spec p r v
   refine⟨h1,fun u hu hn=>?_,?_⟩
   ·rcases List.mem_cons.1 hu with rfl|hu
    ·have:¬ u.1<v:=fun hlt=>h ⟨hlt,hn⟩
     omega
    ·exact h2 u hu hn
   ·rcases h3 with h3|⟨u,hu,e⟩
    ·exact .inl h3
    ·exact .inr ⟨u,mC_ _ hu,e⟩
theorem lowL_spec (p:List Fact):∀ (l:List (List Fact))(v:Int),lowL p l v≤v∧(∀ x∈l,∀ f∈x,findF p f.1<0→lowL p l v≤f.1)∧(lowL p l v=v∨∃ x∈l,∃ f∈x,f.1=lowL p l v∧findF p f.1<0)
 | [],v=>⟨Int.le_refl _,(nofun),.inl rfl⟩
 | x :: r,v=>by
  rw[lowL]
  obtain⟨g1,g2,g3⟩:=lowF_spec p x v
  obtain⟨h1,h2,h3⟩:=lowL_spec p r (lowF p x v)
  refine⟨by omega,fun y hy f hf hn=>?_,?_⟩
  ·rcases List.mem_cons.1 hy with rfl|hy
   ·have:=g2 f hf hn;omega
   ·exact h2 y hy f hf hn
  ·rcases h3 with h3|⟨y,hy,f,hf,e⟩
   ·rcases g3 with g3|⟨f,hf,e,hn⟩
    ·exact .inl (by omega)
    ·exact .inr ⟨x,mS_ ..,f,hf,by omega,hn⟩
   ·exact .inr ⟨y,mC_ _ hy,f,hf,e⟩
theorem prop_vf {vars:List Int}{p:List Fact}(h:propF vars (-1) p=true):Nonneg p∧Asc p∧∀ x∈p,x.1<vars.length∧x.2<vars.getD x.1.toNat 0:=by
 obtain⟨hv,hr⟩:=(propF_iff vars p (-1)).1 h
 obtain⟨hn,ha⟩:=(vF_iff' p).1 hv
 exact⟨hn,ha,hr⟩
structure DecP (vars:List Int)(d:Nat)(p:List Fact)(l:List (List Fact)):Prop where
 dom:∀ n∈vars,1≤n
 prop:propF vars (-1) p=true
 all:PropL vars l
 deep:vars.length<d+p.length
theorem DecP.low {vars:List Int}{d:Nat}{p:List Fact}{l:List (List Fact)}(h:DecP vars d p l)(hl:lowL p (restP p l) vars.length≠vars.length):0≤lowL p (restP p l) vars.length∧lowL p (restP p l) vars.length<vars.length∧findF p (lowL p (restP p l) vars.length)<0:=by
 obtain⟨h1,-,h3⟩:=lowL_spec p (restP p l) vars.length
 rcases h3 with h3|⟨x,hx,f,hf,e,hn⟩
 ·exact absurd h3 hl
 ·obtain⟨hxn,-,-⟩:=prop_vf (h.all x (List.mem_filter.1 hx).1)
  have:=(hxn f hf).1
  exact⟨by omega,by omega,by rw[← e];exact hn⟩
theorem DecP.zero {vars:List Int}{p:List Fact}{l:List (List Fact)}(h:DecP vars 0 p l):False:=by
 have h1:=propF_len' h.prop
 have h2:=h.deep
 omega
end Go.Proofs.YtinnphmnhmdcgaaGreat.Am
namespace Go.Proofs.YtinnphmnhmdcgaaGreat.Am
end Go.Proofs.YtinnphmnhmdcgaaGreat.Am
namespace Go.Proofs.YtinnphmnhmdcgaaGreat.Am
open Go.RowKit
structure DomP (vars:List Int):Prop where
 len:vars.length≤64
 dom:∀ n∈vars,1≤n∧n≤64
theorem good_dom {t:GTask}(h:goodF t=true):DomP t.Vars:=by
 unfold goodF at h
 simp only[bA_,decide_eq_true_iff,List.all_eq_true]at h
 exact⟨h.1.1,h.2.1⟩
end Go.Proofs.YtinnphmnhmdcgaaGreat.Am
namespace Go.Proofs.YtinnphmnhmdcgaaGreat.Am
end Go.Proofs.YtinnphmnhmdcgaaGreat.Am
namespace Go.Proofs.YtinnphmnhmdcgaaGreat.Am
open Go.RowKit
def limF (l:List Fact):Bool:=l.all fun x=>decide (x.1<64∧x.2<64)
def frmF (l:List Fact):Bool:=vF (-1) l&&limF l
structure ShC (c:GCertificate):Prop where
 list:Sh c.Nogoods
 each:∀ n∈c.Nogoods,Sh n.1
structure CertP (vars:List Int)(c:GCertificate):Prop where
 b0:-1≤c.Bound
 b1:c.Bound≤1099511627776
 len:c.Nogoods.length≤4096
 prop:∀ n∈c.Nogoods,propF vars (-1) n.1=true
 frm:∀ n∈c.Nogoods,frmF n.1=true
 d0:∀ n∈c.Nogoods,0≤n.2
 d1:∀ n∈c.Nogoods,0≤c.Bound→n.2<c.Bound
 d2:∀ n∈c.Nogoods,c.Bound<0→n.2=0
def distO (c:GCertificate)(n:Nogood)(o:GOp):Int:=if 0≤c.Bound then n.2+o.Cost else 0
def skipO (c:GCertificate)(n:Nogood)(o:GOp):Bool:=decide (0≤c.Bound∧c.Bound≤n.2+o.Cost)
theorem good_cost {t:GTask}(h:goodF t=true){o:GOp}(ho:o∈t.Ops):0≤o.Cost∧o.Cost≤1048576:=by
 unfold goodF at h
 simp only[bA_,List.all_eq_true]at h
 have:=h.2.2.2.2 o ho
 unfold opF at this
 simp only[bA_,decide_eq_true_iff]at this
 exact⟨this.1.1,this.1.2.1⟩
def claimsF (ns:List Nogood)(s:List Int)(d:Int):Bool:=ns.any fun n=>decide (n.2≤d)&&holdsF s n.1
def inF (o:GOp)(p:List Fact)(s:List Int):Bool:=holdsF s o.Pre&&holdsF (nextF s o) p
structure Acc (t:GTask)(c:GCertificate):Prop where
 init:∀ n∈c.Nogoods,holdsF t.Init n.1=false
 goal:c.Bound≠0→∀ s∈allF t,holdsF s t.Goal=true→claimsF c.Nogoods s 0=true
 step:∀ n∈c.Nogoods,∀ o∈t.Ops,skipO c n o=false→∀ s∈allF t,inF o n.1 s=true→claimsF c.Nogoods s (distO c n o)=true
theorem good_goal {t:GTask}(h:goodF t=true):propF t.Vars (-1) t.Goal=true:=by
 unfold goodF at h
 simp only[bA_]at h
 exact h.2.2.2.1
end Go.Proofs.YtinnphmnhmdcgaaGreat.Am
namespace Go.Proofs.YtinnphmnhmdcgaaGreat.Am
set_option maxHeartbeats 16000000
set_option maxRecDepth 100000
open Go.RowKit
def M_l33_awake (g:Nat):Option (Bool):=ob2 (M_mutex_New g ({ Vars:=[3],Init:=[0],Goal:=[],Ops:=[{ Name:=(⟨#[]⟩:ByteArray),Cost:=0,Pre:=[],Effs:=[{ When:=[],Var:=0,Val:=1:GEffect }]:GOp }]:GTask })) (fun z1 z2=>erM z2 (opM z1 (some false) (fun z4=>ob1 (M_stratagem_mutex_Table_Reached (some z4) (0,1)) (fun z5=>sel z5 (ob1 (M_stratagem_mutex_Table_Reached (some z4) (0,2)) (fun z6=>some (!z6))) (some false)))) (fun _=>some false))
theorem A_l33_awake (g:Nat){r1:Bool}(h:M_l33_awake g=some r1):ACall cx 12 [] (.c (.bool r1)):=by
 refine aOf Tryz.func12 rfl (by decide) rfl (bT3 rfl) ?_;intro _;unfold M_l33_awake at h;refine aSR ?_;intro _;refine dr (aSR ?_);intro _;obtain⟨z1,z2,u1,h⟩:=ob2_ok h;refine clf [(4,⟨2,none⟩),(5,⟨2,none⟩),(7,⟨2,none⟩),(9,⟨2,none⟩)] rfl rfl (A_mutex_New g ({ Vars:=[3],Init:=[0],Goal:=[],Ops:=[{ Name:=(⟨#[]⟩:ByteArray),Cost:=0,Pre:=[],Effs:=[{ When:=[],Var:=0,Val:=1:GEffect }]:GOp }]:GTask }) u1) ?_;intro _;refine dr (aSq ?_);rcases z2 with _|e3
 ·replace h:=erM_nil h;rcases z1 with _|z4
  ·replace h:=opM_none h;refine aRg ?_;intro _;refine litT ?_;intro _;refine⟨_,lf_nilQ rfl (bT3 rfl) rfl (by kernel_rfl) (.inr ⟨rfl,rfl⟩),?_⟩;intro _;refine litF ?_;intro _;refine dr (aRt ?_);intro _;obtain rfl:=inj1 h;exact ca_0
  ·replace h:=opM_some h;refine aRg ?_;intro _;refine litT ?_;intro _;refine⟨_,lf_nilP rfl (bT3 rfl) rfl (by kernel_rfl) (.inr ⟨rfl,rfl⟩),?_⟩;intro _;refine litT ?_;intro _;obtain⟨z5,u2,h⟩:=ob1_ok h;refine cl rfl (A_stratagem_mutex_Table_Reached (some z4) (0,1) u2) ?_;intro _;refine spl h (fun c3 h=>?_) (fun c3 h=>?_)
   ·intro _;obtain⟨z6,u4,h⟩:=ob1_ok h;refine cl rfl (A_stratagem_mutex_Table_Reached (some z4) (0,2) u4) ?_;intro _;refine dr (aRt ?_);intro _;obtain rfl:=inj1 h;exact ca_0
   ·intro _;refine dr (aRt ?_);intro _;obtain rfl:=inj1 h;exact ca_0
 ·replace h:=erM_no h;refine aRg ?_;intro _;refine litF ?_;intro _;refine dr (aRt ?_);intro _;obtain rfl:=inj1 h;exact ca_0
def M_l33_fit (a0:GTask):Option (Bool):=ob1 (M_b_Tame a0) (fun z1=>sel z1 (sel (decide (((a0.Ops.map cGOp).length:Int)≤10)) (some (decide (((a0.Vars.map cI).length:Int)≤6))) (some false)) (some false))
theorem A_l33_fit (a0:GTask){r1:Bool}(h:M_l33_fit a0=some r1):ACall cx 10 [.agg [.sl 1 (a0.Vars.map cI),.sl 1 (a0.Init.map cI),.sl 2 (a0.Goal.map cF),.sl 4 (a0.Ops.map cGOp)]] (.c (.bool r1)):=by
 refine aOf Tryz.func10 rfl (by decide) rfl (bT3 rfl) ?_;intro _;unfold M_l33_fit at h;refine aSR ?_;intro _;refine dr (aSR ?_);intro _;obtain⟨z1,u1,h⟩:=ob1_ok h;refine cl rfl (A_b_Tame a0 u1) ?_;intro _;refine spl h (fun c2 h=>?_) (fun c2 h=>?_)
 ·intro _;refine spl h (fun c3 h=>?_) (fun c3 h=>?_)
  ·intro _;refine dr (aRt ?_);intro _;obtain rfl:=inj1 h;exact ca_0
  ·intro _;refine dr (aRt ?_);intro _;obtain rfl:=inj1 h;exact ca_0
 ·intro _;refine dr (aRt ?_);intro _;obtain rfl:=inj1 h;exact ca_0
def M_b_Rank_L1 (a0:List Int)(a1:List Int):Nat→Int→Int→Option (Int)|0,_,_=>none|k9+1,v7,v8=>sel (decide (v8<((a1.map cI).length:Int))) (ix a0 v8 (fun y10=>ix a1 v8 (fun y11=>M_b_Rank_L1 a0 a1 k9 (IntKind.i64.wrap ((IntKind.i64.wrap (v7*y10))+y11)) (IntKind.i64.wrap (v8+1))))) (some v7)
def M_b_Rank (a0:List Int)(a1:List Int):Option (Int):=M_b_Rank_L1 a0 a1 ((((a1.map cI).length:Int)).toNat+1) 0 0
theorem A_b_Rank (a0:List Int)(a1:List Int){r1:Int}(h:M_b_Rank a0 a1=some r1):ACall cx 53 [.sl 1 (a0.map cI),.sl 1 (a1.map cI)] (.c (.int .i64 r1)):=by
 refine aOf Tryz.func53 rfl (by decide) rfl (bT3 rfl) ?_;intro _;unfold M_b_Rank at h;refine aSR ?_;intro _;refine dr (aSR ?_);intro _;refine dr (aSq (aSR ?_));intro _;refine dr (aBk ?_);refine awp_loop (α:=Nat×Int×Int) (fun x=>mkS 25 [(0,.sl 1 (a0.map cI)),(1,.sl 1 (a1.map cI)),(5,.c (.int .i64 x.2.1)),(8,.c (.int .i64 ((a1.map cI).length:Int))),(9,.c (.int .i64 x.2.2))] []) (fun x=>M_b_Rank_L1 a0 a1 x.1 x.2.1 x.2.2=some r1) (fun x=>x.1) ((((a1.map cI).length:Int)).toNat+1,0,0) h ?_ ?_
 ·exact ca_0
 ·intro x1 h;intro _;obtain⟨k9,m2,h⟩:=succ_of (f:=fun n=>M_b_Rank_L1 a0 a1 n x1.2.1 x1.2.2) rfl h;replace h:M_b_Rank_L1 a0 a1 (k9+1) x1.2.1 x1.2.2=some r1:=h;rw[M_b_Rank_L1]at h;refine aSR ?_;intro _;refine dr (aSq (aCd ?_));intro _;refine spl h (fun c3 h=>?_) (fun c3 h=>?_)
  ·refine aSk (aSq (aBk (aSR ?_)));intro _;refine dr (aRg ?_);intro _;obtain⟨y10,w4,q5,h⟩:=ix_ok h;refine Exists.intro (cI y10) (And.intro (map_at' w4) ?_);intro _;obtain⟨y11,w6,q7,h⟩:=ix_ok h;refine Exists.intro (cI y11) (And.intro (map_at' w6) ?_);intro _;refine pr (pr (dr (aRg ?_)));intro _;refine dr ?_;refine⟨(k9,(IntKind.i64.wrap ((IntKind.i64.wrap (x1.2.1*y10))+y11)),(IntKind.i64.wrap (x1.2.2+1))),h,ltS m2,?_⟩;exact ca_0
  ·refine aEx (aSR ?_);intro _;refine dr (aRt ?_);intro _;obtain rfl:=inj1 h;exact ca_0
def M_b_Edges_L1 (a0:GTask)(v68:Int)(y88:List Int):Nat→Int→(List GEdge)→Option (List GEdge)|0,_,_=>none|k99+1,v97,v98=>sel (decide (v97<((a0.Ops.map cGOp).length:Int))) (ob2 (M_b_Apply a0 y88 v97) (fun z100 z101=>sel z101 (ob1 (M_b_Rank a0.Vars z100) (fun z102=>grd ((v98.length+1)*24≤140737488355328) (M_b_Edges_L1 a0 v68 y88 k99 (IntKind.i64.wrap (v97+1)) (v98++[{ From:=v68,Op:=v97,To:=z102:GEdge }])))) (M_b_Edges_L1 a0 v68 y88 k99 (IntKind.i64.wrap (v97+1)) v98))) (some v98)
def M_b_Edges_L2 (a0:GTask)(z1:List (List Int)):Nat→Int→(List GEdge)→Option (List GEdge)|0,_,_=>none|k70+1,v68,v69=>sel (decide (v68<((z1.map cL_cI).length:Int))) (ob1 (ix z1 v68 (fun y88=>M_b_Edges_L1 a0 v68 y88 ((((a0.Ops.map cGOp).length:Int)).toNat+1) 0 v69):Option (List GEdge)) (fun v86=>M_b_Edges_L2 a0 z1 k70 (IntKind.i64.wrap (v68+1)) v86)) (grd (v69.length≤140737488355328) (some v69))
def M_b_Edges (a0:GTask):Option (List GEdge):=ob1 (M_b_States a0.Vars) (fun z1=>M_b_Edges_L2 a0 z1 ((((z1.map cL_cI).length:Int)).toNat+1) 0 [])
theorem A_b_Edges (a0:GTask){r1:List GEdge}(h:M_b_Edges a0=some r1):ACall cx 54 [.agg [.sl 1 (a0.Vars.map cI),.sl 1 (a0.Init.map cI),.sl 2 (a0.Goal.map cF),.sl 4 (a0.Ops.map cGOp)]] (.sl 3 (r1.map cGEdge)):=by
 refine aOf Tryz.func54 rfl (by decide) rfl (bT3 rfl) ?_;intro _;unfold M_b_Edges at h;refine aSR ?_;intro _;refine dr (aSR ?_);intro _;refine dr (aSq (aSR ?_));intro _;obtain⟨z1,u1,h⟩:=ob1_ok h;refine cl rfl (A_b_States a0.Vars u1) ?_;intro _;refine dr (aBk ?_);refine awp_loop (α:=Nat×Int×(List GEdge)) (fun x=>mkS 45 [(1,.ptr 1 0 0 0),(3,.own 41 0 0 x.2.2.length),(11,.sl 1 (z1.map cL_cI)),(12,.c (.int .i64 ((z1.map cL_cI).length:Int))),(13,.c (.int .i64 x.2.1))] [(1,⟨26,4,true,[[.sl 1 (a0.Vars.map cI),.sl 1 (a0.Init.map cI),.sl 2 (a0.Goal.map cF),.sl 4 (a0.Ops.map cGOp)]]⟩),(41,⟨97,3,false,x.2.2.map cGEdge⟩)]) (fun x=>M_b_Edges_L2 a0 z1 x.1 x.2.1 x.2.2=some r1) (fun x=>x.1) ((((z1.map cL_cI).length:Int)).toNat+1,0,[]) h ?_ ?_
 ·exact ca_0
 ·intro x2 h;intro _;obtain⟨k70,m3,h⟩:=succ_of (f:=fun n=>M_b_Edges_L2 a0 z1 n x2.2.1 x2.2.2) rfl h;replace h:M_b_Edges_L2 a0 z1 (k70+1) x2.2.1 x2.2.2=some r1:=h;rw[M_b_Edges_L2]at h;refine aSR ?_;intro _;refine dr (aSq (aCd ?_));intro _;refine spl h (fun c4 h=>?_) (fun c4 h=>?_)
  ·refine aSk ?_;obtain⟨o5,h,hK6⟩:=ob1_ok h;refine awp_cut (α:=List GEdge) (fun v86=>mkS 45 [(1,.ptr 1 0 0 0),(3,.own 41 0 0 v86.length),(11,.sl 1 (z1.map cL_cI)),(12,.c (.int .i64 ((z1.map cL_cI).length:Int))),(13,.c (.int .i64 x2.2.1))] [(1,⟨26,4,true,[[.sl 1 (a0.Vars.map cI),.sl 1 (a0.Init.map cI),.sl 2 (a0.Goal.map cF),.sl 4 (a0.Ops.map cGOp)]]⟩),(41,⟨97,3,false,v86.map cGEdge⟩)]) (fun v=>o5=v) ?_ ?_
   ·refine aBk (aSR ?_);intro _;obtain⟨y88,w7,q8,h⟩:=ix_ok h;refine Exists.intro (cL_cI y88) (And.intro (map_at' w7) ?_);intro _;refine pr (dr (aSR ?_));intro _;refine dr (aBk ?_);refine awp_loop (α:=Nat×Int×(List GEdge)) (fun x=>mkS 45 [(1,.ptr 1 0 0 0),(3,.own 41 0 0 x.2.2.length),(4,.c (.int .i64 x2.2.1)),(5,.sl 1 (y88.map cI)),(11,.sl 1 (z1.map cL_cI)),(12,.c (.int .i64 ((z1.map cL_cI).length:Int))),(13,.c (.int .i64 x2.2.1)),(20,.c (.int .i64 ((a0.Ops.map cGOp).length:Int))),(21,.c (.int .i64 x.2.1))] [(1,⟨26,4,true,[[.sl 1 (a0.Vars.map cI),.sl 1 (a0.Init.map cI),.sl 2 (a0.Goal.map cF),.sl 4 (a0.Ops.map cGOp)]]⟩),(41,⟨97,3,false,x.2.2.map cGEdge⟩)]) (fun x=>M_b_Edges_L1 a0 x2.2.1 y88 x.1 x.2.1 x.2.2=some o5) (fun x=>x.1) ((((a0.Ops.map cGOp).length:Int)).toNat+1,0,x2.2.2) h ?_ ?_
    ·exact ca_0
    ·intro x9 h;intro _;obtain⟨k99,m10,h⟩:=succ_of (f:=fun n=>M_b_Edges_L1 a0 x2.2.1 y88 n x9.2.1 x9.2.2) rfl h;replace h:M_b_Edges_L1 a0 x2.2.1 y88 (k99+1) x9.2.1 x9.2.2=some o5:=h;rw[M_b_Edges_L1]at h;refine aSR ?_;intro _;refine dr (aSq (aCd ?_));intro _;refine spl h (fun c11 h=>?_) (fun c11 h=>?_)
     ·refine aSk (aSq (aBk (aSR ?_)));intro _;refine dr (aSR ?_);intro _;obtain⟨z100,z101,u12,h⟩:=ob2_ok h;refine cl rfl (A_b_Apply a0 y88 x9.2.1 u12) ?_;intro _;refine dr (aSR ?_);intro _;refine dr (aCd ?_);intro _;refine spl h (fun c13 h=>?_) (fun c13 h=>?_)
      ·refine aRg ?_;intro _;obtain⟨z102,u14,h⟩:=ob1_ok h;refine cl rfl (A_b_Rank a0.Vars z100 u14) ?_;intro _;obtain⟨q15,h⟩:=grd_ok h;refine pl (pl ?_);refine And.intro (by first|with_reducible assumption|(show(x9.2.2.length+1)*24≤140737488355328;with_reducible assumption)|omega|(simp;omega)) ?_;refine pe (dr (aRg ?_));intro _;refine dr ?_;refine⟨(k99,(IntKind.i64.wrap (x9.2.1+1)),(x9.2.2++[{ From:=x2.2.1,Op:=x9.2.1,To:=z102:GEdge }])),h,ltS m10,?_⟩;exact ca_0
      ·refine aSk (aRg ?_);intro _;refine dr ?_;refine⟨(k99,(IntKind.i64.wrap (x9.2.1+1)),x9.2.2),h,ltS m10,?_⟩;exact ca_0
     ·refine aEx ?_;refine⟨x9.2.2,(sI_ h).symm,?_⟩;exact ca_0
   ·rintro v86 ho;have ho:=ho.symm;subst ho;intro _;replace h:=hK6;refine aRg ?_;intro _;refine dr ?_;refine⟨(k70,(IntKind.i64.wrap (x2.2.1+1)),v86),h,ltS m3,?_⟩;exact ca_0
  ·refine aEx (aSR ?_);intro _;refine dr (aRt ?_);obtain⟨q16,h⟩:=grd_ok h;intro _;obtain rfl:=inj1 h;exact ca_0
def M_b_Reached_L1 (z4:List GEdge):Nat→Bool→Int→(List Bool)→Option (Bool×(List Bool))|0,_,_,_=>none|k128+1,v125,v126,v127=>sel (decide (v126<((z4.map cGEdge).length:Int))) (ix z4 v126 (fun y129=>ixn v127 ((y129.From).toNat) (fun y130=>sel y130 (ixn v127 ((y129.To).toNat) (fun y131=>grd (0≤y129.From) (grd (y129.From<((v127.length:Nat):Int)) (grd (0≤y129.To) (grd (y129.To<((v127.length:Nat):Int)) (sel (!y131) (ixn v127 ((y129.To).toNat) (fun _=>M_b_Reached_L1 z4 k128 true (IntKind.i64.wrap (v126+1)) (v127.set ((y129.To).toNat) true))) (M_b_Reached_L1 z4 k128 v125 (IntKind.i64.wrap (v126+1)) v127))))))) (grd (0≤y129.From) (grd (y129.From<((v127.length:Nat):Int)) (M_b_Reached_L1 z4 k128 v125 (IntKind.i64.wrap (v126+1)) v127)))))) (some (v125,v127))
def M_b_Reached_L2 (z4:List GEdge):Nat→Bool→(List Bool)→Option (List Bool)|0,_,_=>none|k91+1,v89,v90=>sel v89 (ob1 (M_b_Reached_L1 z4 ((((z4.map cGEdge).length:Int)).toNat+1) false 0 v90:Option (Bool×(List Bool))) (fun(v111,v112)=>M_b_Reached_L2 z4 k91 v111 v112)) (grd (v90.length≤140737488355328) (some v90))
def M_b_Reached (g:Nat)(a0:GTask)(a1:List Int):Option (List Bool):=ob1 (M_b_Many a0.Vars 65536) (fun z1=>grd (0≤z1) (grd (z1*1≤281474976710656) (ob1 (M_b_Rank a0.Vars a1) (fun z2=>ixn (List.replicate z1.toNat false) ((z2).toNat) (fun _=>grd (0≤z2) (grd (z2<((z1.toNat:Nat):Int)) (ob1 (M_b_Edges a0) (fun z4=>M_b_Reached_L2 z4 g true ((List.replicate z1.toNat false).set ((z2).toNat) true)))))))))
theorem A_b_Reached (g:Nat)(a0:GTask)(a1:List Int){r1:List Bool}(h:M_b_Reached g a0 a1=some r1):ACall cx 22 [.agg [.sl 1 (a0.Vars.map cI),.sl 1 (a0.Init.map cI),.sl 2 (a0.Goal.map cF),.sl 4 (a0.Ops.map cGOp)],.sl 1 (a1.map cI)] (.sl 1 (r1.map cB)):=by
 refine aOf Tryz.func22 rfl (by decide) rfl (bT3 rfl) ?_;intro _;unfold M_b_Reached at h;refine aSR ?_;intro _;refine dr (aSR ?_);intro _;obtain⟨z1,u1,h⟩:=ob1_ok h;refine cl rfl (A_b_Many a0.Vars 65536 u1) ?_;intro _;obtain⟨q2,h⟩:=grd_ok h;obtain⟨q3,h⟩:=grd_ok h;refine⟨_,lf_make rfl rfl (bT3 rfl) (tyTab_ok 41 _ rfl) rfl (tyTab_ok 4 _ rfl) rfl rfl rfl (by first|assumption|omega) (by first|assumption|(show _*(1:Int)≤_;omega)|omega) (by omega) rfl (by simp only[Value.cells];simp[Value.oneCell']) (by decide),?_⟩;intro _;refine dr (aSR ?_);intro _;obtain⟨z2,u4,h⟩:=ob1_ok h;refine cl rfl (A_b_Rank a0.Vars a1 u4) ?_;intro _;obtain⟨y3,w5,h⟩:=ixn_ok h;refine Exists.intro (cB y3) (And.intro (by first|exact map_at' w5|(have w:=map_at' (f:=cB) w5;simpa [cB,Value.cells] using w)) ?_);intro _;obtain⟨q6,h⟩:=grd_ok h;obtain⟨q7,h⟩:=grd_ok h;refine pr (pr (dr (aSR ?_)));intro _;obtain⟨z4,u8,h⟩:=ob1_ok h;refine cl rfl (A_b_Edges a0 u8) ?_;intro _;refine dr (aSq (aSR ?_));intro _;refine dr (aBk ?_);refine awp_loop (α:=Nat×Bool×(List Bool)) (fun x=>mkS 48 [(5,.own 13 0 0 x.2.2.length),(6,.sl 3 (z4.map cGEdge)),(7,.c (.bool x.2.1))] [(13,⟨4,1,false,x.2.2.map cB⟩)]) (fun x=>M_b_Reached_L2 z4 x.1 x.2.1 x.2.2=some r1) (fun x=>x.1) (g,true,((List.replicate z1.toNat false).set ((z2).toNat) true)) h ?_ ?_
 ·exact ca_0
 ·intro x9 h;intro _;obtain⟨k91,m10,h⟩:=succ_of (f:=fun n=>M_b_Reached_L2 z4 n x9.2.1 x9.2.2) rfl h;replace h:M_b_Reached_L2 z4 (k91+1) x9.2.1 x9.2.2=some r1:=h;rw[M_b_Reached_L2]at h;refine aSq (aSR ?_);intro _;refine dr (aCd ?_);intro _;refine spl h (fun c11 h=>?_) (fun c11 h=>?_)
  ·refine aSk (aBk (aSR ?_));intro _;refine dr (aSR ?_);intro _;refine dr ?_;obtain⟨o12,h,hK13⟩:=ob1_ok h;refine awp_cutT (α:=Bool×(List Bool)) (fun(v111,v112)=>mkS 48 [(5,.own 13 0 0 v112.length),(6,.sl 3 (z4.map cGEdge)),(7,.c (.bool v111))] [(13,⟨4,1,false,v112.map cB⟩)]) (fun v=>o12=v) ?_ ?_
   ·refine aBk ?_;refine awp_loop (α:=Nat×Bool×Int×(List Bool)) (fun x=>mkS 48 [(5,.own 13 0 0 x.2.2.2.length),(6,.sl 3 (z4.map cGEdge)),(7,.c (.bool x.2.1)),(23,.sl 3 (z4.map cGEdge)),(24,.c (.int .i64 ((z4.map cGEdge).length:Int))),(25,.c (.int .i64 x.2.2.1))] [(13,⟨4,1,false,x.2.2.2.map cB⟩)]) (fun x=>M_b_Reached_L1 z4 x.1 x.2.1 x.2.2.1 x.2.2.2=some o12) (fun x=>x.1) ((((z4.map cGEdge).length:Int)).toNat+1,false,0,x9.2.2) h ?_ ?_
    ·exact ca_0
    ·intro x14 h;intro _;obtain⟨k128,m15,h⟩:=succ_of (f:=fun n=>M_b_Reached_L1 z4 n x14.2.1 x14.2.2.1 x14.2.2.2) rfl h;replace h:M_b_Reached_L1 z4 (k128+1) x14.2.1 x14.2.2.1 x14.2.2.2=some o12:=h;rw[M_b_Reached_L1]at h;refine aSR ?_;intro _;refine dr (aSq (aCd ?_));intro _;refine spl h (fun c16 h=>?_) (fun c16 h=>?_)
     ·refine aSk (aSq (aBk (aSR ?_)));intro _;obtain⟨y129,w17,q18,h⟩:=ix_ok h;refine Exists.intro (cGEdge y129) (And.intro (map_at' w17) ?_);intro _;refine pr (dr (aSR ?_));intro _;obtain⟨y130,w19,h⟩:=ixn_ok h;refine Exists.intro (cB y130) (And.intro (by first|exact map_at' w19|(have w:=map_at' (f:=cB) w19;simpa [cB,Value.cells] using w)) ?_);intro _;refine spl h (fun c20 h=>?_) (fun c20 h=>?_)
      ·intro _;obtain⟨y131,w21,h⟩:=ixn_ok h;refine Exists.intro (cB y131) (And.intro (by first|exact map_at' w21|(have w:=map_at' (f:=cB) w21;simpa [cB,Value.cells] using w)) ?_);intro _;obtain⟨q22,h⟩:=grd_ok h;obtain⟨q23,h⟩:=grd_ok h;obtain⟨q24,h⟩:=grd_ok h;obtain⟨q25,h⟩:=grd_ok h;refine pr (pr (pr (pr (dr (aCd ?_)))));intro _;refine spl h (fun c26 h=>?_) (fun c26 h=>?_)
       ·refine aSR ?_;intro _;obtain⟨y132,w27,h⟩:=ixn_ok h;refine Exists.intro (cB y132) (And.intro (by first|exact map_at' w27|(have w:=map_at' (f:=cB) w27;simpa [cB,Value.cells] using w)) ?_);intro _;refine pr (pr (dr (aRg ?_)));intro _;refine dr (aRg ?_);intro _;refine dr ?_;refine⟨(k128,true,(IntKind.i64.wrap (x14.2.2.1+1)),(x14.2.2.2.set ((y129.To).toNat) true)),h,ltS m15,?_⟩;exact ca_0
       ·refine aSk (aRg ?_);intro _;refine dr ?_;refine⟨(k128,x14.2.1,(IntKind.i64.wrap (x14.2.2.1+1)),x14.2.2.2),h,ltS m15,?_⟩;exact ca_0
      ·intro _;obtain⟨q28,h⟩:=grd_ok h;obtain⟨q29,h⟩:=grd_ok h;refine pr (pr (dr (aCd ?_)));intro _;refine litF (aSk (aRg ?_));intro _;refine dr ?_;refine⟨(k128,x14.2.1,(IntKind.i64.wrap (x14.2.2.1+1)),x14.2.2.2),h,ltS m15,?_⟩;exact ca_0
     ·refine aEx ?_;refine⟨(x14.2.1,x14.2.2.2),(sI_ h).symm,?_⟩;exact ca_0
   ·rintro⟨v111,v112⟩ ho;have ho:=ho.symm;subst ho;intro _;replace h:=hK13;refine⟨(k91,v111,v112),h,ltS m10,?_⟩;exact ca_0
  ·refine aEx (aSR ?_);intro _;refine dr (aRt ?_);obtain⟨q30,h⟩:=grd_ok h;intro _;obtain rfl:=inj1 h;exact ca_0
def M_b_Distances_L1 (a0:GTask)(z1:List (List Int)):Nat→Int→(List Int)→Option (List Int)|0,_,_=>none|k33+1,v31,v32=>sel (decide (v31<((z1.map cL_cI).length:Int))) (ix z1 v31 (fun y34=>ixn v32 ((v31).toNat) (fun _=>grd (v31<((v32.length:Nat):Int)) (ob1 (M_b_Holds a0.Goal y34) (fun z36=>sel z36 (ixn (v32.set ((v31).toNat) 1125899906842624) ((v31).toNat) (fun _=>M_b_Distances_L1 a0 z1 k33 (IntKind.i64.wrap (v31+1)) ((v32.set ((v31).toNat) 1125899906842624).set ((v31).toNat) 0))) (M_b_Distances_L1 a0 z1 k33 (IntKind.i64.wrap (v31+1)) (v32.set ((v31).toNat) 1125899906842624))))))) (some v32)
def M_b_Distances_L2 (a0:GTask)(z38:List GEdge):Nat→Bool→Int→(List Int)→Option (Bool×(List Int))|0,_,_,_=>none|k315+1,v312,v313,v314=>sel (decide (v313<((z38.map cGEdge).length:Int))) (ix z38 v313 (fun y316=>ix a0.Ops y316.Op (fun y317=>ob1 (some ():Option (Unit)) (fun _=>ob1 (ixn v314 ((y316.To).toNat) (fun y324=>sel (decide (y324<1125899906842624)) (ixn v314 ((y316.To).toNat) (fun y325=>ixn v314 ((y316.From).toNat) (fun y326=>grd (0≤y316.To) (grd (y316.To<((v314.length:Nat):Int)) (grd (0≤y316.From) (grd (y316.From<((v314.length:Nat):Int)) (some (decide ((IntKind.i64.wrap (y325+y317.Cost))<y326))))))))) (grd (0≤y316.To) (grd (y316.To<((v314.length:Nat):Int)) (some false)))):Option (Bool)) (fun v322=>sel v322 (ixn v314 ((y316.To).toNat) (fun y327=>ixn v314 ((y316.From).toNat) (fun _=>grd (0≤y316.To) (grd (y316.To<((v314.length:Nat):Int)) (grd (0≤y316.From) (grd (y316.From<((v314.length:Nat):Int)) (M_b_Distances_L2 a0 z38 k315 true (IntKind.i64.wrap (v313+1)) (v314.set ((y316.From).toNat) (IntKind.i64.wrap (y327+y317.Cost)))))))))) (M_b_Distances_L2 a0 z38 k315 v312 (IntKind.i64.wrap (v313+1)) v314)))))) (some (v312,v314))
def M_b_Distances_L3 (a0:GTask)(z38:List GEdge):Nat→Bool→(List Int)→Option (List Int)|0,_,_=>none|k233+1,v231,v232=>sel v231 (ob1 (M_b_Distances_L2 a0 z38 ((((z38.map cGEdge).length:Int)).toNat+1) false 0 v232:Option (Bool×(List Int))) (fun(v280,v281)=>M_b_Distances_L3 a0 z38 k233 v280 v281)) (grd (v232.length≤140737488355328) (some v232))
def M_b_Distances (g:Nat)(a0:GTask)(_:List Int):Option (List Int):=ob1 (M_b_States a0.Vars) (fun z1=>grd (0≤((z1.map cL_cI).length:Int)) (grd (((z1.map cL_cI).length:Int)*8≤281474976710656) (ob1 (M_b_Distances_L1 a0 z1 ((((z1.map cL_cI).length:Int)).toNat+1) 0 (List.replicate ((z1.map cL_cI).length:Int).toNat 0):Option (List Int)) (fun v19=>ob1 (M_b_Edges a0) (fun z38=>M_b_Distances_L3 a0 z38 g true v19)))))
theorem A_b_Distances (g:Nat)(a0:GTask)(a1:List Int){r1:List Int}(h:M_b_Distances g a0 a1=some r1):ACall cx 59 [.agg [.sl 1 (a0.Vars.map cI),.sl 1 (a0.Init.map cI),.sl 2 (a0.Goal.map cF),.sl 4 (a0.Ops.map cGOp)],.c (.slice none 0 0)] (.sl 1 (r1.map cI)):=by
 refine aOf Tryz.func59 rfl (by decide) rfl (bT3 rfl) ?_;intro _;unfold M_b_Distances at h;refine aSR ?_;intro _;refine dr (aSR ?_);intro _;obtain⟨z1,u1,h⟩:=ob1_ok h;refine cl rfl (A_b_States a0.Vars u1) ?_;intro _;refine dr (aSR ?_);intro _;obtain⟨q2,h⟩:=grd_ok h;obtain⟨q3,h⟩:=grd_ok h;refine⟨_,lf_make rfl rfl (bT3 rfl) (tyTab_ok 22 _ rfl) rfl (tyTab_ok 3 _ rfl) rfl rfl rfl (by first|assumption|omega) (by first|assumption|(show _*(8:Int)≤_;omega)|omega) (by omega) rfl (by simp only[Value.cells];simp[Value.oneCell']) (by decide),?_⟩;intro _;refine dr ?_;obtain⟨o4,h,hK5⟩:=ob1_ok h;refine awp_cut (α:=List Int) (fun v19=>mkS 95 [(1,.c (.slice none 0 0)),(2,.ptr 2 0 0 0),(6,.own 19 0 0 v19.length)] [(2,⟨26,4,true,[[.sl 1 (a0.Vars.map cI),.sl 1 (a0.Init.map cI),.sl 2 (a0.Goal.map cF),.sl 4 (a0.Ops.map cGOp)]]⟩),(19,⟨3,1,false,v19.map cI⟩)]) (fun v=>o4=v) ?_ ?_
 ·refine aSR ?_;intro _;refine dr (aBk ?_);refine awp_loop (α:=Nat×Int×(List Int)) (fun x=>mkS 95 [(1,.c (.slice none 0 0)),(2,.ptr 2 0 0 0),(6,.own 19 0 0 x.2.2.length),(20,.sl 1 (z1.map cL_cI)),(21,.c (.int .i64 ((z1.map cL_cI).length:Int))),(22,.c (.int .i64 x.2.1))] [(2,⟨26,4,true,[[.sl 1 (a0.Vars.map cI),.sl 1 (a0.Init.map cI),.sl 2 (a0.Goal.map cF),.sl 4 (a0.Ops.map cGOp)]]⟩),(19,⟨3,1,false,x.2.2.map cI⟩)]) (fun x=>M_b_Distances_L1 a0 z1 x.1 x.2.1 x.2.2=some o4) (fun x=>x.1) ((((z1.map cL_cI).length:Int)).toNat+1,0,(List.replicate ((z1.map cL_cI).length:Int).toNat 0)) h ?_ ?_
  ·exact ca_0
  ·intro x6 h;intro _;obtain⟨k33,m7,h⟩:=succ_of (f:=fun n=>M_b_Distances_L1 a0 z1 n x6.2.1 x6.2.2) rfl h;replace h:M_b_Distances_L1 a0 z1 (k33+1) x6.2.1 x6.2.2=some o4:=h;rw[M_b_Distances_L1]at h;refine aSR ?_;intro _;refine dr (aSq (aCd ?_));intro _;refine spl h (fun c8 h=>?_) (fun c8 h=>?_)
   ·refine aSk (aSq (aBk (aSR ?_)));intro _;obtain⟨y34,w9,q10,h⟩:=ix_ok h;refine Exists.intro (cL_cI y34) (And.intro (map_at' w9) ?_);intro _;refine pr (dr (aSR ?_));intro _;obtain⟨y35,w11,h⟩:=ixn_ok h;refine Exists.intro (cI y35) (And.intro (by first|exact map_at' w11|(have w:=map_at' (f:=cI) w11;simpa [cI,Value.cells] using w)) ?_);intro _;obtain⟨q12,h⟩:=grd_ok h;refine pr (pr (dr (aSR ?_)));intro _;obtain⟨z36,u13,h⟩:=ob1_ok h;refine cl rfl (A_b_Holds a0.Goal y34 u13) ?_;intro _;refine dr (aCd ?_);intro _;refine spl h (fun c14 h=>?_) (fun c14 h=>?_)
    ·refine aRg ?_;intro _;obtain⟨y37,w15,h⟩:=ixn_ok h;refine Exists.intro (cI y37) (And.intro (by first|exact map_at' w15|(have w:=map_at' (f:=cI) w15;simpa [cI,Value.cells] using w)) ?_);intro _;refine pr (pr (dr (aRg ?_)));intro _;refine dr ?_;refine⟨(k33,(IntKind.i64.wrap (x6.2.1+1)),((x6.2.2.set ((x6.2.1).toNat) 1125899906842624).set ((x6.2.1).toNat) 0)),h,ltS m7,?_⟩;exact ca_0
    ·refine aSk (aRg ?_);intro _;refine dr ?_;refine⟨(k33,(IntKind.i64.wrap (x6.2.1+1)),(x6.2.2.set ((x6.2.1).toNat) 1125899906842624)),h,ltS m7,?_⟩;exact ca_0
   ·refine aEx ?_;refine⟨x6.2.2,(sI_ h).symm,?_⟩;exact ca_0
 ·rintro v19 ho;have ho:=ho.symm;subst ho;intro _;replace h:=hK5;refine aSR ?_;intro _;obtain⟨z38,u16,h⟩:=ob1_ok h;refine cl rfl (A_b_Edges a0 u16) ?_;intro _;refine dr (aSq (aSR ?_));intro _;refine dr (aBk ?_);refine awp_loop (α:=Nat×Bool×(List Int)) (fun x=>mkS 95 [(1,.c (.slice none 0 0)),(2,.ptr 2 0 0 0),(6,.own 19 0 0 x.2.2.length),(9,.sl 3 (z38.map cGEdge)),(10,.c (.bool x.2.1))] [(2,⟨26,4,true,[[.sl 1 (a0.Vars.map cI),.sl 1 (a0.Init.map cI),.sl 2 (a0.Goal.map cF),.sl 4 (a0.Ops.map cGOp)]]⟩),(19,⟨3,1,false,x.2.2.map cI⟩)]) (fun x=>M_b_Distances_L3 a0 z38 x.1 x.2.1 x.2.2=some r1) (fun x=>x.1) (g,true,v19) h ?_ ?_
  ·exact ca_0
  ·intro x17 h;intro _;obtain⟨k233,m18,h⟩:=succ_of (f:=fun n=>M_b_Distances_L3 a0 z38 n x17.2.1 x17.2.2) rfl h;replace h:M_b_Distances_L3 a0 z38 (k233+1) x17.2.1 x17.2.2=some r1:=h;rw[M_b_Distances_L3]at h;refine aSq (aSR ?_);intro _;refine dr (aCd ?_);intro _;refine spl h (fun c19 h=>?_) (fun c19 h=>?_)
   ·refine aSk (aBk (aSR ?_));intro _;refine dr (aSR ?_);intro _;refine dr ?_;obtain⟨o20,h,hK21⟩:=ob1_ok h;refine awp_cutT (α:=Bool×(List Int)) (fun(v280,v281)=>mkS 95 [(1,.c (.slice none 0 0)),(2,.ptr 2 0 0 0),(6,.own 19 0 0 v281.length),(9,.sl 3 (z38.map cGEdge)),(10,.c (.bool v280))] [(2,⟨26,4,true,[[.sl 1 (a0.Vars.map cI),.sl 1 (a0.Init.map cI),.sl 2 (a0.Goal.map cF),.sl 4 (a0.Ops.map cGOp)]]⟩),(19,⟨3,1,false,v281.map cI⟩)]) (fun v=>o20=v) ?_ ?_
    ·refine aBk ?_;refine awp_loop (α:=Nat×Bool×Int×(List Int)) (fun x=>mkS 95 [(1,.c (.slice none 0 0)),(2,.ptr 2 0 0 0),(6,.own 19 0 0 x.2.2.2.length),(9,.sl 3 (z38.map cGEdge)),(10,.c (.bool x.2.1)),(41,.sl 3 (z38.map cGEdge)),(42,.c (.int .i64 ((z38.map cGEdge).length:Int))),(43,.c (.int .i64 x.2.2.1))] [(2,⟨26,4,true,[[.sl 1 (a0.Vars.map cI),.sl 1 (a0.Init.map cI),.sl 2 (a0.Goal.map cF),.sl 4 (a0.Ops.map cGOp)]]⟩),(19,⟨3,1,false,x.2.2.2.map cI⟩)]) (fun x=>M_b_Distances_L2 a0 z38 x.1 x.2.1 x.2.2.1 x.2.2.2=some o20) (fun x=>x.1) ((((z38.map cGEdge).length:Int)).toNat+1,false,0,x17.2.2) h ?_ ?_
     ·exact ca_0
     ·intro x22 h;intro _;obtain⟨k315,m23,h⟩:=succ_of (f:=fun n=>M_b_Distances_L2 a0 z38 n x22.2.1 x22.2.2.1 x22.2.2.2) rfl h;replace h:M_b_Distances_L2 a0 z38 (k315+1) x22.2.1 x22.2.2.1 x22.2.2.2=some o20:=h;rw[M_b_Distances_L2]at h;refine aSR ?_;intro _;refine dr (aSq (aCd ?_));intro _;refine spl h (fun c24 h=>?_) (fun c24 h=>?_)
      ·refine aSk (aSq (aBk (aSR ?_)));intro _;obtain⟨y316,w25,q26,h⟩:=ix_ok h;refine Exists.intro (cGEdge y316) (And.intro (map_at' w25) ?_);intro _;refine pr (dr (aSR ?_));intro _;obtain⟨y317,w27,q28,h⟩:=ix_ok h;refine Exists.intro (cGOp y317) (And.intro (map_at' w27) ?_);intro _;refine pr (dr ?_);obtain⟨o29,h,hK30⟩:=ob1_ok h;refine awp_cut (α:=Unit) (fun _=>mkS 95 [(1,.c (.slice none 0 0)),(2,.ptr 2 0 0 0),(6,.own 19 0 0 x22.2.2.2.length),(9,.sl 3 (z38.map cGEdge)),(10,.c (.bool x22.2.1)),(12,.ptr 12 0 0 0),(13,.c (.int .i64 y317.Cost)),(41,.sl 3 (z38.map cGEdge)),(42,.c (.int .i64 ((z38.map cGEdge).length:Int))),(43,.c (.int .i64 x22.2.2.1))] [(2,⟨26,4,true,[[.sl 1 (a0.Vars.map cI),.sl 1 (a0.Init.map cI),.sl 2 (a0.Goal.map cF),.sl 4 (a0.Ops.map cGOp)]]⟩),(12,⟨97,3,true,[[.c (.int .i64 y316.From),.c (.int .i64 y316.Op),.c (.int .i64 y316.To)]]⟩),(19,⟨3,1,false,x22.2.2.2.map cI⟩)]) (fun v=>o29=v) ?_ ?_
       ·refine aSR ?_;intro _;refine⟨_,lf_nilneq rfl (bT3 rfl) rfl rfl (tyTab_ok 22 _ rfl) rfl,?_⟩;intro _;refine dr (aCd ?_);intro _;refine litF (aSk ?_);refine⟨(),(sI_ h).symm,?_⟩;exact ca_0
       ·rintro _ ho;have ho:=ho.symm;subst ho;intro _;replace h:=hK30;obtain⟨o31,h,hK32⟩:=ob1_ok h;refine awp_cut (α:=Bool) (fun v322=>mkS 95 [(1,.c (.slice none 0 0)),(2,.ptr 2 0 0 0),(6,.own 19 0 0 x22.2.2.2.length),(9,.sl 3 (z38.map cGEdge)),(10,.c (.bool x22.2.1)),(12,.ptr 12 0 0 0),(13,.c (.int .i64 y317.Cost)),(41,.sl 3 (z38.map cGEdge)),(42,.c (.int .i64 ((z38.map cGEdge).length:Int))),(43,.c (.int .i64 x22.2.2.1)),(81,.c (.bool v322))] [(2,⟨26,4,true,[[.sl 1 (a0.Vars.map cI),.sl 1 (a0.Init.map cI),.sl 2 (a0.Goal.map cF),.sl 4 (a0.Ops.map cGOp)]]⟩),(12,⟨97,3,true,[[.c (.int .i64 y316.From),.c (.int .i64 y316.Op),.c (.int .i64 y316.To)]]⟩),(19,⟨3,1,false,x22.2.2.2.map cI⟩)]) (fun v=>o31=v) ?_ ?_
        ·refine aRg ?_;intro _;obtain⟨y324,w33,h⟩:=ixn_ok h;refine Exists.intro (cI y324) (And.intro (by first|exact map_at' w33|(have w:=map_at' (f:=cI) w33;simpa [cI,Value.cells] using w)) ?_);intro _;refine spl h (fun c34 h=>?_) (fun c34 h=>?_)
         ·intro _;obtain⟨y325,w35,h⟩:=ixn_ok h;refine Exists.intro (cI y325) (And.intro (by first|exact map_at' w35|(have w:=map_at' (f:=cI) w35;simpa [cI,Value.cells] using w)) ?_);intro _;obtain⟨y326,w36,h⟩:=ixn_ok h;refine Exists.intro (cI y326) (And.intro (by first|exact map_at' w36|(have w:=map_at' (f:=cI) w36;simpa [cI,Value.cells] using w)) ?_);intro _;obtain⟨q37,h⟩:=grd_ok h;obtain⟨q38,h⟩:=grd_ok h;obtain⟨q39,h⟩:=grd_ok h;obtain⟨q40,h⟩:=grd_ok h;refine pr (pr (pr (pr (pr (pr (dr ?_))))));refine⟨(decide ((IntKind.i64.wrap (y325+y317.Cost))<y326)),(sI_ h).symm,?_⟩;exact ca_0
         ·intro _;obtain⟨q41,h⟩:=grd_ok h;obtain⟨q42,h⟩:=grd_ok h;refine pr (pr (dr ?_));refine⟨false,(sI_ h).symm,?_⟩;exact ca_0
        ·rintro v322 ho;have ho:=ho.symm;subst ho;intro _;replace h:=hK32;refine aCd ?_;intro _;refine spl h (fun c43 h=>?_) (fun c43 h=>?_)
         ·refine aSR ?_;intro _;obtain⟨y327,w44,h⟩:=ixn_ok h;refine Exists.intro (cI y327) (And.intro (by first|exact map_at' w44|(have w:=map_at' (f:=cI) w44;simpa [cI,Value.cells] using w)) ?_);intro _;obtain⟨y328,w45,h⟩:=ixn_ok h;refine Exists.intro (cI y328) (And.intro (by first|exact map_at' w45|(have w:=map_at' (f:=cI) w45;simpa [cI,Value.cells] using w)) ?_);intro _;obtain⟨q46,h⟩:=grd_ok h;obtain⟨q47,h⟩:=grd_ok h;obtain⟨q48,h⟩:=grd_ok h;obtain⟨q49,h⟩:=grd_ok h;refine pr (pr (pr (pr (dr (aRg ?_)))));intro _;refine dr (aRg ?_);intro _;refine dr ?_;refine⟨(k315,true,(IntKind.i64.wrap (x22.2.2.1+1)),(x22.2.2.2.set ((y316.From).toNat) (IntKind.i64.wrap (y327+y317.Cost)))),h,ltS m23,?_⟩;exact ca_0
         ·refine aSk (aRg ?_);intro _;refine dr ?_;refine⟨(k315,x22.2.1,(IntKind.i64.wrap (x22.2.2.1+1)),x22.2.2.2),h,ltS m23,?_⟩;exact ca_0
      ·refine aEx ?_;refine⟨(x22.2.1,x22.2.2.2),(sI_ h).symm,?_⟩;exact ca_0
    ·rintro⟨v280,v281⟩ ho;have ho:=ho.symm;subst ho;intro _;replace h:=hK21;refine⟨(k233,v280,v281),h,ltS m18,?_⟩;exact ca_0
   ·refine aEx (aSR ?_);intro _;refine dr (aRt ?_);obtain⟨q50,h⟩:=grd_ok h;intro _;obtain rfl:=inj1 h;exact ca_0
def M_b_Best (g:Nat)(a0:GTask):Option (Int):=ob1 (M_b_Distances g a0 []) (fun z1=>ob1 (M_b_Rank a0.Vars a0.Init) (fun z2=>ix z1 z2 (fun y3=>some y3)))
theorem A_b_Best (g:Nat)(a0:GTask){r1:Int}(h:M_b_Best g a0=some r1):ACall cx 28 [.agg [.sl 1 (a0.Vars.map cI),.sl 1 (a0.Init.map cI),.sl 2 (a0.Goal.map cF),.sl 4 (a0.Ops.map cGOp)]] (.c (.int .i64 r1)):=by
 refine aOf Tryz.func28 rfl (by decide) rfl (bT3 rfl) ?_;intro _;unfold M_b_Best at h;refine aSR ?_;intro _;refine dr (aSR ?_);intro _;obtain⟨z1,u1,h⟩:=ob1_ok h;refine cl rfl (A_b_Distances g a0 [] u1) ?_;intro _;obtain⟨z2,u2,h⟩:=ob1_ok h;refine cl rfl (A_b_Rank a0.Vars a0.Init u2) ?_;intro _;obtain⟨y3,w3,q4,h⟩:=ix_ok h;refine Exists.intro (cI y3) (And.intro (map_at' w3) ?_);intro _;refine pr (dr (aRt ?_));intro _;obtain rfl:=inj1 h;exact ca_0
def M_mutex_Prune_L1 (z4:GTask)(z5:GTable):Nat→Int→(List GOp)→(List Int)→Option (GTask×(List Int)×Er)|0,_,_,_=>none|k16+1,v13,v14,v15=>sel (decide (v13<((z5.t.Ops.map cGOp).length:Int))) (ix z5.t.Ops v13 (fun y17=>ob1 (M_stratagem_mutex_Table_mutex z5 y17.Pre) (fun z18=>sel (!z18) (grd ((v14.length+1)*72≤140737488355328) (grd ((v15.length+1)*8≤140737488355328) (M_mutex_Prune_L1 z4 z5 k16 (IntKind.i64.wrap (v13+1)) (v14++[y17]) (v15++[v13])))) (M_mutex_Prune_L1 z4 z5 k16 (IntKind.i64.wrap (v13+1)) v14 v15)))) (grd (v14.length≤140737488355328) (grd (v15.length≤140737488355328) (some ({ Vars:=z4.Vars,Init:=z4.Init,Goal:=z4.Goal,Ops:=v14:GTask },v15,Er.nil))))
def M_mutex_Prune (g:Nat)(a0:GTask):Option (GTask×(List Int)×Er):=ob2 (M_mutex_New g a0) (fun z1 z2=>erM z2 (ob1 (M_mutex_copied a0) (fun z4=>opM z1 (none) (fun z5=>M_mutex_Prune_L1 z4 z5 ((((z5.t.Ops.map cGOp).length:Int)).toNat+1) 0 [] []))) (fun e3=>some ({ Vars:=[],Init:=[],Goal:=[],Ops:=[]:GTask },[],(Er.no e3))))
theorem A_mutex_Prune (g:Nat)(a0:GTask){r1:GTask}{r2:List Int}{r3:Er}(h:M_mutex_Prune g a0=some (r1,r2,r3)):ACall cx 25 [.agg [.sl 1 (a0.Vars.map cI),.sl 1 (a0.Init.map cI),.sl 2 (a0.Goal.map cF),.sl 4 (a0.Ops.map cGOp)]] (.tup [.agg [.sl 1 (r1.Vars.map cI),.sl 1 (r1.Init.map cI),.sl 2 (r1.Goal.map cF),.sl 4 (r1.Ops.map cGOp)],.sl 1 (r2.map cI),eA r3]):=by
 refine aOf Tryz.func25 rfl (by decide) rfl (bT3 rfl) ?_;intro _;unfold M_mutex_Prune at h;refine aSR ?_;intro _;refine dr (aSR ?_);intro _;obtain⟨z1,z2,u1,h⟩:=ob2_ok h;refine cl rfl (A_mutex_New g a0 u1) ?_;intro _;refine dr (aSq (aSq ?_));rcases z2 with _|e3
 ·replace h:=erM_nil h;refine aRg ?_;intro _;refine dr (aCd ?_);intro _;refine litF (aSk (aSR ?_));intro _;obtain⟨z4,u2,h⟩:=ob1_ok h;refine cl rfl (A_mutex_copied a0 u2) ?_;intro _;refine dr (aSR ?_);intro _;refine dr (aSR ?_);intro _;refine dr (aSq (aSq ?_));rcases z1 with _|z5
  ·replace h:=opM_none h;cases h
  ·replace h:=opM_some h;refine aRg ?_;intro _;refine dr (aBk ?_);refine awp_loop (α:=Nat×Int×(List GOp)×(List Int)) (fun x=>mkS 52 [(2,.ptr 2 0 0 0),(5,.pim [.sl 1 (z5.t.Vars.map cI),.sl 1 (z5.t.Init.map cI),.sl 2 (z5.t.Goal.map cF),.sl 4 (z5.t.Ops.map cGOp),.sl 1 (z5.first.map cI),.sl 1 (z5.reached.map cL_cB)] 0),(7,.ptr 7 0 0 0),(8,.own 47 0 0 x.2.2.2.length),(27,.sl 4 (z5.t.Ops.map cGOp)),(28,.c (.int .i64 ((z5.t.Ops.map cGOp).length:Int))),(29,.c (.int .i64 x.2.1))] [(2,⟨26,4,true,[[.c (.slice none 0 0),.c (.slice none 0 0),.c (.slice none 0 0),.c (.slice none 0 0)]]⟩),(7,⟨26,4,true,[[.sl 1 (z4.Vars.map cI),.sl 1 (z4.Init.map cI),.sl 2 (z4.Goal.map cF),.own 43 0 0 x.2.2.1.length]]⟩),(43,⟨60,4,false,x.2.2.1.map cGOp⟩),(47,⟨3,1,false,x.2.2.2.map cI⟩)]) (fun x=>M_mutex_Prune_L1 z4 z5 x.1 x.2.1 x.2.2.1 x.2.2.2=some (r1,r2,r3)) (fun x=>x.1) ((((z5.t.Ops.map cGOp).length:Int)).toNat+1,0,[],[]) h ?_ ?_
   ·exact ca_0
   ·intro x3 h;intro _;obtain⟨k16,m4,h⟩:=succ_of (f:=fun n=>M_mutex_Prune_L1 z4 z5 n x3.2.1 x3.2.2.1 x3.2.2.2) rfl h;replace h:M_mutex_Prune_L1 z4 z5 (k16+1) x3.2.1 x3.2.2.1 x3.2.2.2=some (r1,r2,r3):=h;rw[M_mutex_Prune_L1]at h;refine aSR ?_;intro _;refine dr (aSq (aCd ?_));intro _;refine spl h (fun c5 h=>?_) (fun c5 h=>?_)
    ·refine aSk (aSq (aBk (aSR ?_)));intro _;obtain⟨y17,w6,q7,h⟩:=ix_ok h;refine Exists.intro (cGOp y17) (And.intro (map_at' w6) ?_);intro _;refine pr (dr (aSR ?_));intro _;obtain⟨z18,u8,h⟩:=ob1_ok h;refine cl rfl (A_stratagem_mutex_Table_mutex z5 y17.Pre u8) ?_;intro _;refine dr (aCd ?_);intro _;refine spl h (fun c9 h=>?_) (fun c9 h=>?_)
     ·refine aRg ?_;intro _;obtain⟨q10,h⟩:=grd_ok h;obtain⟨q11,h⟩:=grd_ok h;refine pl (pl ?_);refine And.intro (by first|with_reducible assumption|(show(x3.2.2.1.length+1)*72≤140737488355328;with_reducible assumption)|omega|(simp;omega)) ?_;refine pe (pl (pl ?_));refine And.intro (by first|with_reducible assumption|(show(x3.2.2.2.length+1)*8≤140737488355328;with_reducible assumption)|omega|(simp;omega)) ?_;refine pe (dr (aRg ?_));intro _;refine dr ?_;refine⟨(k16,(IntKind.i64.wrap (x3.2.1+1)),(x3.2.2.1++[y17]),(x3.2.2.2++[x3.2.1])),h,ltS m4,?_⟩;exact ca_0
     ·refine aSk (aRg ?_);intro _;refine dr ?_;refine⟨(k16,(IntKind.i64.wrap (x3.2.1+1)),x3.2.2.1,x3.2.2.2),h,ltS m4,?_⟩;exact ca_0
    ·refine aEx (aSR ?_);intro _;refine dr (aRt ?_);obtain⟨q12,h⟩:=grd_ok h;obtain⟨q13,h⟩:=grd_ok h;intro _;obtain⟨rfl,rfl,rfl⟩:=inj3 h;exact ca_0
 ·replace h:=erM_no h;refine aRg ?_;intro _;refine dr (aCd ?_);intro _;refine litT (aSR ?_);intro _;refine dr (aRt ?_);intro _;obtain⟨rfl,rfl,rfl⟩:=inj3 h;exact ca_0
def M_b_Ints_L1 (a0:List Int)(a1:List Int):Nat→Int→Option (Bool)|0,_=>none|k7+1,v6=>sel (decide (v6<((a0.map cI).length:Int))) (ix a0 v6 (fun y8=>ix a1 v6 (fun y9=>sel (y8 != y9) (some false) (M_b_Ints_L1 a0 a1 k7 (IntKind.i64.wrap (v6+1)))))) (some true)
def M_b_Ints (a0:List Int)(a1:List Int):Option (Bool):=sel (((a0.map cI).length:Int) != ((a1.map cI).length:Int)) (some false) (M_b_Ints_L1 a0 a1 ((((a0.map cI).length:Int)).toNat+1) 0)
theorem A_b_Ints (a0:List Int)(a1:List Int){r1:Bool}(h:M_b_Ints a0 a1=some r1):ACall cx 27 [.sl 1 (a0.map cI),.sl 1 (a1.map cI)] (.c (.bool r1)):=by
 refine aOf Tryz.func27 rfl (by decide) rfl (bT3 rfl) ?_;intro _;unfold M_b_Ints at h;refine aSR ?_;intro _;refine dr (aSq (aSR ?_));intro _;refine dr (aCd ?_);intro _;refine spl h (fun c1 h=>?_) (fun c1 h=>?_)
 ·refine aSR ?_;intro _;refine dr (aRt ?_);intro _;obtain rfl:=inj1 h;exact ca_0
 ·refine aSk (aSq (aSR ?_));intro _;refine dr (aBk ?_);refine awp_loop (α:=Nat×Int) (fun x=>mkS 26 [(0,.sl 1 (a0.map cI)),(1,.sl 1 (a1.map cI)),(12,.c (.int .i64 ((a0.map cI).length:Int))),(13,.c (.int .i64 x.2))] []) (fun x=>M_b_Ints_L1 a0 a1 x.1 x.2=some r1) (fun x=>x.1) ((((a0.map cI).length:Int)).toNat+1,0) h ?_ ?_
  ·exact ca_0
  ·intro x2 h;intro _;obtain⟨k7,m3,h⟩:=succ_of (f:=fun n=>M_b_Ints_L1 a0 a1 n x2.2) rfl h;replace h:M_b_Ints_L1 a0 a1 (k7+1) x2.2=some r1:=h;rw[M_b_Ints_L1]at h;refine aSR ?_;intro _;refine dr (aSq (aCd ?_));intro _;refine spl h (fun c4 h=>?_) (fun c4 h=>?_)
   ·refine aSk (aSq (aBk (aSR ?_)));intro _;refine dr (aSR ?_);intro _;obtain⟨y8,w5,q6,h⟩:=ix_ok h;refine Exists.intro (cI y8) (And.intro (map_at' w5) ?_);intro _;obtain⟨y9,w7,q8,h⟩:=ix_ok h;refine Exists.intro (cI y9) (And.intro (map_at' w7) ?_);intro _;refine pr (pr (dr (aCd ?_)));intro _;refine spl h (fun c9 h=>?_) (fun c9 h=>?_)
    ·refine aSR ?_;intro _;refine dr (aRt ?_);intro _;obtain rfl:=inj1 h;exact ca_0
    ·refine aSk (aRg ?_);intro _;refine dr ?_;refine⟨(k7,(IntKind.i64.wrap (x2.2+1))),h,ltS m3,?_⟩;exact ca_0
   ·refine aEx (aSR ?_);intro _;refine dr (aRt ?_);intro _;obtain rfl:=inj1 h;exact ca_0
def M_b_Facts_L1 (a0:List Fact)(a1:List Fact):Nat→Int→Option (Bool)|0,_=>none|k7+1,v6=>sel (decide (v6<((a0.map cF).length:Int))) (ix a0 v6 (fun y8=>ix a1 v6 (fun y9=>sel (!(y8.1 == y9.1&&y8.2 == y9.2)) (some false) (M_b_Facts_L1 a0 a1 k7 (IntKind.i64.wrap (v6+1)))))) (some true)
def M_b_Facts (a0:List Fact)(a1:List Fact):Option (Bool):=sel (((a0.map cF).length:Int) != ((a1.map cF).length:Int)) (some false) (M_b_Facts_L1 a0 a1 ((((a0.map cF).length:Int)).toNat+1) 0)
theorem A_b_Facts (a0:List Fact)(a1:List Fact){r1:Bool}(h:M_b_Facts a0 a1=some r1):ACall cx 57 [.sl 2 (a0.map cF),.sl 2 (a1.map cF)] (.c (.bool r1)):=by
 refine aOf Tryz.func57 rfl (by decide) rfl (bT3 rfl) ?_;intro _;unfold M_b_Facts at h;refine aSR ?_;intro _;refine dr (aSq (aSR ?_));intro _;refine dr (aCd ?_);intro _;refine spl h (fun c1 h=>?_) (fun c1 h=>?_)
 ·refine aSR ?_;intro _;refine dr (aRt ?_);intro _;obtain rfl:=inj1 h;exact ca_0
 ·refine aSk (aSq (aSR ?_));intro _;refine dr (aBk ?_);refine awp_loop (α:=Nat×Int) (fun x=>mkS 26 [(0,.sl 2 (a0.map cF)),(1,.sl 2 (a1.map cF)),(12,.c (.int .i64 ((a0.map cF).length:Int))),(13,.c (.int .i64 x.2))] []) (fun x=>M_b_Facts_L1 a0 a1 x.1 x.2=some r1) (fun x=>x.1) ((((a0.map cF).length:Int)).toNat+1,0) h ?_ ?_
  ·exact ca_0
  ·intro x2 h;intro _;obtain⟨k7,m3,h⟩:=succ_of (f:=fun n=>M_b_Facts_L1 a0 a1 n x2.2) rfl h;replace h:M_b_Facts_L1 a0 a1 (k7+1) x2.2=some r1:=h;rw[M_b_Facts_L1]at h;refine aSR ?_;intro _;refine dr (aSq (aCd ?_));intro _;refine spl h (fun c4 h=>?_) (fun c4 h=>?_)
   ·refine aSk (aSq (aBk (aSR ?_)));intro _;refine dr (aSR ?_);intro _;obtain⟨y8,w5,q6,h⟩:=ix_ok h;refine Exists.intro (cF y8) (And.intro (map_at' w5) ?_);intro _;obtain⟨y9,w7,q8,h⟩:=ix_ok h;refine Exists.intro (cF y9) (And.intro (map_at' w7) ?_);intro _;refine⟨_,lf_eq2 rfl (bT3 rfl) rfl rfl (eqFact _ _ _ _) (eqFactG _ _ _ _ _ _ _) (.inr ⟨rfl,rfl⟩),?_⟩;intro _;refine pr (pr (dr (aCd ?_)));intro _;refine spl h (fun c9 h=>?_) (fun c9 h=>?_)
    ·refine aSR ?_;intro _;refine dr (aRt ?_);intro _;obtain rfl:=inj1 h;exact ca_0
    ·refine aSk (aRg ?_);intro _;refine dr ?_;refine⟨(k7,(IntKind.i64.wrap (x2.2+1))),h,ltS m3,?_⟩;exact ca_0
   ·refine aEx (aSR ?_);intro _;refine dr (aRt ?_);intro _;obtain rfl:=inj1 h;exact ca_0
def M_b_Effects_L1 (a0:List GEffect)(a1:List GEffect):Nat→Int→Option (Bool)|0,_=>none|k17+1,v16=>sel (decide (v16<((a0.map cGEffect).length:Int))) (ix a0 v16 (fun y18=>ix a1 v16 (fun y19=>sel (y18.Var != y19.Var) (some false) (ix a0 v16 (fun y20=>ix a1 v16 (fun y21=>sel (y20.Val != y21.Val) (some false) (ix a0 v16 (fun y22=>ix a1 v16 (fun y23=>ob1 (M_b_Facts y22.When y23.When) (fun z24=>sel (!z24) (some false) (M_b_Effects_L1 a0 a1 k17 (IntKind.i64.wrap (v16+1))))))))))))) (some true)
def M_b_Effects (a0:List GEffect)(a1:List GEffect):Option (Bool):=sel (((a0.map cGEffect).length:Int) != ((a1.map cGEffect).length:Int)) (some false) (M_b_Effects_L1 a0 a1 ((((a0.map cGEffect).length:Int)).toNat+1) 0)
theorem A_b_Effects (a0:List GEffect)(a1:List GEffect){r1:Bool}(h:M_b_Effects a0 a1=some r1):ACall cx 58 [.sl 3 (a0.map cGEffect),.sl 3 (a1.map cGEffect)] (.c (.bool r1)):=by
 refine aOf Tryz.func58 rfl (by decide) rfl (bT3 rfl) ?_;intro _;unfold M_b_Effects at h;refine aSR ?_;intro _;refine dr (aSq (aSR ?_));intro _;refine dr (aCd ?_);intro _;refine spl h (fun c1 h=>?_) (fun c1 h=>?_)
 ·refine aSR ?_;intro _;refine dr (aRt ?_);intro _;obtain rfl:=inj1 h;exact ca_0
 ·refine aSk (aSq (aSR ?_));intro _;refine dr (aBk ?_);refine awp_loop (α:=Nat×Int) (fun x=>mkS 55 [(0,.sl 3 (a0.map cGEffect)),(1,.sl 3 (a1.map cGEffect)),(12,.c (.int .i64 ((a0.map cGEffect).length:Int))),(13,.c (.int .i64 x.2))] []) (fun x=>M_b_Effects_L1 a0 a1 x.1 x.2=some r1) (fun x=>x.1) ((((a0.map cGEffect).length:Int)).toNat+1,0) h ?_ ?_
  ·exact ca_0
  ·intro x2 h;intro _;obtain⟨k17,m3,h⟩:=succ_of (f:=fun n=>M_b_Effects_L1 a0 a1 n x2.2) rfl h;replace h:M_b_Effects_L1 a0 a1 (k17+1) x2.2=some r1:=h;rw[M_b_Effects_L1]at h;refine aSR ?_;intro _;refine dr (aSq (aCd ?_));intro _;refine spl h (fun c4 h=>?_) (fun c4 h=>?_)
   ·refine aSk (aSq (aBk (aSR ?_)));intro _;refine dr (aSR ?_);intro _;obtain⟨y18,w5,q6,h⟩:=ix_ok h;refine Exists.intro (cGEffect y18) (And.intro (map_at' w5) ?_);intro _;obtain⟨y19,w7,q8,h⟩:=ix_ok h;refine Exists.intro (cGEffect y19) (And.intro (map_at' w7) ?_);intro _;refine spf h (fun c9 h=>?_) (fun c9 h=>?_)
    ·intro _;obtain⟨y20,w10,q11,h⟩:=ix_ok h;refine Exists.intro (cGEffect y20) (And.intro (map_at' w10) ?_);intro _;obtain⟨y21,w12,q13,h⟩:=ix_ok h;refine Exists.intro (cGEffect y21) (And.intro (map_at' w12) ?_);intro _;refine spf h (fun c14 h=>?_) (fun c14 h=>?_)
     ·intro _;obtain⟨y22,w15,q16,h⟩:=ix_ok h;refine Exists.intro (cGEffect y22) (And.intro (map_at' w15) ?_);intro _;obtain⟨y23,w17,q18,h⟩:=ix_ok h;refine Exists.intro (cGEffect y23) (And.intro (map_at' w17) ?_);intro _;obtain⟨z24,u19,h⟩:=ob1_ok h;refine cl rfl (A_b_Facts y22.When y23.When u19) ?_;intro _;refine pr (pr (pr (pr (pr (pr (dr (aCd ?_)))))));intro _;refine spl h (fun c20 h=>?_) (fun c20 h=>?_)
      ·refine aSR ?_;intro _;refine dr (aRt ?_);intro _;obtain rfl:=inj1 h;exact ca_0
      ·refine aSk (aRg ?_);intro _;refine dr ?_;refine⟨(k17,(IntKind.i64.wrap (x2.2+1))),h,ltS m3,?_⟩;exact ca_0
     ·intro _;refine pr (pr (pr (pr (dr (aCd ?_)))));intro _;refine litT (aSR ?_);intro _;refine dr (aRt ?_);intro _;obtain rfl:=inj1 h;exact ca_0
    ·intro _;refine pr (pr (dr (aCd ?_)));intro _;refine litT (aSR ?_);intro _;refine dr (aRt ?_);intro _;obtain rfl:=inj1 h;exact ca_0
   ·refine aEx (aSR ?_);intro _;refine dr (aRt ?_);intro _;obtain rfl:=inj1 h;exact ca_0
def M_b_Tasks_L1 (a0:GTask)(a1:GTask):Nat→Int→Option (Bool)|0,_=>none|k19+1,v18=>sel (decide (v18<((a0.Ops.map cGOp).length:Int))) (ix a0.Ops v18 (fun y20=>ix a1.Ops v18 (fun y21=>sel (!(y20.Name.toList == y21.Name.toList)) (some false) (sel (y20.Cost != y21.Cost) (some false) (ob1 (M_b_Facts y20.Pre y21.Pre) (fun z22=>sel (!z22) (some false) (ob1 (M_b_Effects y20.Effs y21.Effs) (fun z23=>sel (!z23) (some false) (M_b_Tasks_L1 a0 a1 k19 (IntKind.i64.wrap (v18+1))))))))))) (some true)
def M_b_Tasks (a0:GTask)(a1:GTask):Option (Bool):=ob1 (ob1 (M_b_Ints a0.Vars a1.Vars) (fun z6=>sel (!z6) (some (.inr false)) (ob1 (M_b_Ints a0.Init a1.Init) (fun z7=>sel (!z7) (some (.inr false)) (ob1 (M_b_Facts a0.Goal a1.Goal) (fun z8=>sel (!z8) (some (.inr false)) (sel (((a0.Ops.map cGOp).length:Int) != ((a1.Ops.map cGOp).length:Int)) (some (.inr false)) (some (.inl ())))))))):Option (Unit⊕Bool)) (osum (fun _=>M_b_Tasks_L1 a0 a1 ((((a0.Ops.map cGOp).length:Int)).toNat+1) 0) (fun r4=>some r4))
theorem A_b_Tasks (a0:GTask)(a1:GTask){r1:Bool}(h:M_b_Tasks a0 a1=some r1):ACall cx 26 [.agg [.sl 1 (a0.Vars.map cI),.sl 1 (a0.Init.map cI),.sl 2 (a0.Goal.map cF),.sl 4 (a0.Ops.map cGOp)],.agg [.sl 1 (a1.Vars.map cI),.sl 1 (a1.Init.map cI),.sl 2 (a1.Goal.map cF),.sl 4 (a1.Ops.map cGOp)]] (.c (.bool r1)):=by
 refine aOf Tryz.func26 rfl (by decide) rfl (bT3 rfl) ?_;intro _;unfold M_b_Tasks at h;refine aSR ?_;intro _;refine dr ?_;obtain⟨o1,h,hK2⟩:=ob1_ok h;refine awp_cut (α:=Unit) (fun _=>mkS 84 [(2,.ptr 2 0 0 0),(3,.ptr 3 0 0 0)] [(2,⟨26,4,true,[[.sl 1 (a0.Vars.map cI),.sl 1 (a0.Init.map cI),.sl 2 (a0.Goal.map cF),.sl 4 (a0.Ops.map cGOp)]]⟩),(3,⟨26,4,true,[[.sl 1 (a1.Vars.map cI),.sl 1 (a1.Init.map cI),.sl 2 (a1.Goal.map cF),.sl 4 (a1.Ops.map cGOp)]]⟩)]) (fun v=>o1=(.inl v)) ?_ ?_
 ·refine aSR ?_;intro _;obtain⟨z6,u3,h⟩:=ob1_ok h;refine cl rfl (A_b_Ints a0.Vars a1.Vars u3) ?_;intro _;refine spf h (fun c4 h=>?_) (fun c4 h=>?_)
  ·intro _;obtain⟨z7,u5,h⟩:=ob1_ok h;refine cl rfl (A_b_Ints a0.Init a1.Init u5) ?_;intro _;refine spf h (fun c6 h=>?_) (fun c6 h=>?_)
   ·intro _;obtain⟨z8,u7,h⟩:=ob1_ok h;refine cl rfl (A_b_Facts a0.Goal a1.Goal u7) ?_;intro _;refine spf h (fun c8 h=>?_) (fun c8 h=>?_)
    ·intro _;refine dr (aCd ?_);intro _;refine spl h (fun c9 h=>?_) (fun c9 h=>?_)
     ·refine aSR ?_;intro _;refine dr (aRt ?_);have j10:=sI_ h;subst j10;replace h:=(osum_r hK2);intro _;obtain rfl:=inj1 h;exact ca_0
     ·refine aSk ?_;refine⟨(),(sI_ h).symm,?_⟩;exact ca_0
    ·intro _;refine dr (aCd ?_);intro _;refine litT (aSR ?_);intro _;refine dr (aRt ?_);have j11:=sI_ h;subst j11;replace h:=(osum_r hK2);intro _;obtain rfl:=inj1 h;exact ca_0
   ·intro _;refine dr (aCd ?_);intro _;refine litT (aSR ?_);intro _;refine dr (aRt ?_);have j12:=sI_ h;subst j12;replace h:=(osum_r hK2);intro _;obtain rfl:=inj1 h;exact ca_0
  ·intro _;refine dr (aCd ?_);intro _;refine litT (aSR ?_);intro _;refine dr (aRt ?_);have j13:=sI_ h;subst j13;replace h:=(osum_r hK2);intro _;obtain rfl:=inj1 h;exact ca_0
 ·rintro _ ho;have ho:=ho.symm;subst ho;intro _;replace h:=(osum_l hK2);refine aSq (aSR ?_);intro _;refine dr (aBk ?_);refine awp_loop (α:=Nat×Int) (fun x=>mkS 84 [(2,.ptr 2 0 0 0),(3,.ptr 3 0 0 0),(41,.c (.int .i64 ((a0.Ops.map cGOp).length:Int))),(42,.c (.int .i64 x.2))] [(2,⟨26,4,true,[[.sl 1 (a0.Vars.map cI),.sl 1 (a0.Init.map cI),.sl 2 (a0.Goal.map cF),.sl 4 (a0.Ops.map cGOp)]]⟩),(3,⟨26,4,true,[[.sl 1 (a1.Vars.map cI),.sl 1 (a1.Init.map cI),.sl 2 (a1.Goal.map cF),.sl 4 (a1.Ops.map cGOp)]]⟩)]) (fun x=>M_b_Tasks_L1 a0 a1 x.1 x.2=some r1) (fun x=>x.1) ((((a0.Ops.map cGOp).length:Int)).toNat+1,0) h ?_ ?_
  ·exact ca_0
  ·intro x14 h;intro _;obtain⟨k19,m15,h⟩:=succ_of (f:=fun n=>M_b_Tasks_L1 a0 a1 n x14.2) rfl h;replace h:M_b_Tasks_L1 a0 a1 (k19+1) x14.2=some r1:=h;rw[M_b_Tasks_L1]at h;refine aSR ?_;intro _;refine dr (aSq (aCd ?_));intro _;refine spl h (fun c16 h=>?_) (fun c16 h=>?_)
   ·refine aSk (aSq (aBk (aSR ?_)));intro _;refine dr (aSR ?_);intro _;obtain⟨y20,w17,q18,h⟩:=ix_ok h;refine Exists.intro (cGOp y20) (And.intro (map_at' w17) ?_);intro _;obtain⟨y21,w19,q20,h⟩:=ix_ok h;refine Exists.intro (cGOp y21) (And.intro (map_at' w19) ?_);intro _;refine pr (pr (dr (aSR ?_)));intro _;refine spf h (fun c21 h=>?_) (fun c21 h=>?_)
    ·intro _;refine spf h (fun c22 h=>?_) (fun c22 h=>?_)
     ·intro _;obtain⟨z22,u23,h⟩:=ob1_ok h;refine cl rfl (A_b_Facts y20.Pre y21.Pre u23) ?_;intro _;refine spf h (fun c24 h=>?_) (fun c24 h=>?_)
      ·intro _;obtain⟨z23,u25,h⟩:=ob1_ok h;refine cl rfl (A_b_Effects y20.Effs y21.Effs u25) ?_;intro _;refine dr (aCd ?_);intro _;refine spl h (fun c26 h=>?_) (fun c26 h=>?_)
       ·refine aSR ?_;intro _;refine dr (aRt ?_);intro _;obtain rfl:=inj1 h;exact ca_0
       ·refine aSk (aRg ?_);intro _;refine dr ?_;refine⟨(k19,(IntKind.i64.wrap (x14.2+1))),h,ltS m15,?_⟩;exact ca_0
      ·intro _;refine dr (aCd ?_);intro _;refine litT (aSR ?_);intro _;refine dr (aRt ?_);intro _;obtain rfl:=inj1 h;exact ca_0
     ·intro _;refine dr (aCd ?_);intro _;refine litT (aSR ?_);intro _;refine dr (aRt ?_);intro _;obtain rfl:=inj1 h;exact ca_0
    ·intro _;refine dr (aCd ?_);intro _;refine litT (aSR ?_);intro _;refine dr (aRt ?_);intro _;obtain rfl:=inj1 h;exact ca_0
   ·refine aEx (aSR ?_);intro _;refine dr (aRt ?_);intro _;obtain rfl:=inj1 h;exact ca_0
def M_b_Rank_L1_B (a0:List Int)(_:List Int)(_y11:Int)(v8:Int):((Int))→(((Int))→Option (Int))→Option (Int):=fun v7 rc=>ix a0 v8 (fun y10=>ixv _y11 (fun y11=>rc ((IntKind.i64.wrap ((IntKind.i64.wrap (v7*y10))+y11)))))
def M_b_Rank_L1_E (_:List Int)(_:List Int):((Int))→Option (Int):=fun v7=>some v7
theorem M_b_Rank_L1_eq (a0:List Int)(a1:List Int)(v7:Int)(hl:a1.length<9223372036854775807):M_b_Rank_L1 a0 a1 (((a1.map cI).length:Int).toNat+1) v7 0=Rg (M_b_Rank_L1_B a0 a1) (M_b_Rank_L1_E a0 a1) a1 0 v7:=rg_e2 (L:=fun k i v7=>M_b_Rank_L1 a0 a1 k v7 i) hl (fun k n p y hy h1 h2=>by first|(simp only[M_b_Rank_L1,M_b_Rank_L1_B,lM_,decide_lt h1,sel,ix_at hy,ixv,h2];done)|(simp only[lM_]at h1 hy;(simp only[M_b_Rank_L1,M_b_Rank_L1_B,lM_,decide_lt h1,sel,ix_at hy,ixv,h2];done))) (fun k p=>by simp only[M_b_Rank_L1,M_b_Rank_L1_E,lM_,decide_ge,sel]) v7
def M_b_Edges_L1_B (a0:GTask)(v68:Int)(y88:List Int)(v97:Int):((List GEdge))→(((List GEdge))→Option (List GEdge))→Option (List GEdge):=fun v98 rc=>ob2 (M_b_Apply a0 y88 v97) (fun z100 z101=>sel z101 (ob1 (M_b_Rank a0.Vars z100) (fun z102=>grd ((v98.length+1)*24≤140737488355328) (rc ((v98++[{ From:=v68,Op:=v97,To:=z102:GEdge }]))))) (rc (v98)))
def M_b_Edges_L1_E (_:GTask)(_:Int)(_:List Int):((List GEdge))→Option (List GEdge):=fun v98=>some v98
theorem M_b_Edges_L1_eq (a0:GTask)(v68:Int)(y88:List Int)(v98:List GEdge){m:Nat}(hm:((a0.Ops.map cGOp).length:Int)=(m:Int))(hl:m<9223372036854775807):M_b_Edges_L1 a0 v68 y88 ((((a0.Ops.map cGOp).length:Int)).toNat+1) 0 v98=Rn (M_b_Edges_L1_B a0 v68 y88) (M_b_Edges_L1_E a0 v68 y88) m 0 v98:=rn_e (L:=fun k i v98=>M_b_Edges_L1 a0 v68 y88 k i v98) hm hl (fun _ _ _=>rfl) v98
def M_b_Edges_L2_B (a0:GTask)(_:List (List Int))(_y88:List Int)(v68:Int):((List GEdge))→(((List GEdge))→Option (List GEdge))→Option (List GEdge):=fun v69 rc=>ob1 (ixv _y88 (fun y88=>M_b_Edges_L1 a0 v68 y88 ((((a0.Ops.map cGOp).length:Int)).toNat+1) 0 v69):Option (List GEdge)) (fun v86=>rc (v86))
def M_b_Edges_L2_E (_:GTask)(_:List (List Int)):((List GEdge))→Option (List GEdge):=fun v69=>grd (v69.length≤140737488355328) (some v69)
theorem M_b_Edges_L2_eq (a0:GTask)(z1:List (List Int))(v69:List GEdge)(hl:z1.length<9223372036854775807):M_b_Edges_L2 a0 z1 (((z1.map cL_cI).length:Int).toNat+1) 0 v69=Rg (M_b_Edges_L2_B a0 z1) (M_b_Edges_L2_E a0 z1) z1 0 v69:=rg_e2 (L:=fun k i v69=>M_b_Edges_L2 a0 z1 k i v69) hl (fun k n p y hy h1 h2=>by first|(simp only[M_b_Edges_L2,M_b_Edges_L2_B,lM_,decide_lt h1,sel,ix_at hy,ixv,h2];done)|(simp only[lM_]at h1 hy;(simp only[M_b_Edges_L2,M_b_Edges_L2_B,lM_,decide_lt h1,sel,ix_at hy,ixv,h2];done))) (fun k p=>by simp only[M_b_Edges_L2,M_b_Edges_L2_E,lM_,decide_ge,sel]) v69
def M_b_Reached_L1_B (_:List GEdge)(_y129:GEdge)(_:Int):((Bool)×(List Bool))→(((Bool)×(List Bool))→Option (Bool×(List Bool)))→Option (Bool×(List Bool)):=fun(v125,v127) rc=>ixv _y129 (fun y129=>ixn v127 ((y129.From).toNat) (fun y130=>sel y130 (ixn v127 ((y129.To).toNat) (fun y131=>grd (0≤y129.From) (grd (y129.From<((v127.length:Nat):Int)) (grd (0≤y129.To) (grd (y129.To<((v127.length:Nat):Int)) (sel (!y131) (ixn v127 ((y129.To).toNat) (fun _=>rc (true,(v127.set ((y129.To).toNat) true)))) (rc (v125,v127)))))))) (grd (0≤y129.From) (grd (y129.From<((v127.length:Nat):Int)) (rc (v125,v127))))))
def M_b_Reached_L1_E (_:List GEdge):((Bool)×(List Bool))→Option (Bool×(List Bool)):=fun(v125,v127)=>some (v125,v127)
theorem M_b_Reached_L1_eq (z4:List GEdge)(v125:Bool)(v127:List Bool)(hl:z4.length<9223372036854775807):M_b_Reached_L1 z4 (((z4.map cGEdge).length:Int).toNat+1) v125 0 v127=Rg (M_b_Reached_L1_B z4) (M_b_Reached_L1_E z4) z4 0 (v125,v127):=rg_e1 (L:=fun k i p=>match p with|(v125,v127)=>M_b_Reached_L1 z4 k v125 i v127) hl (fun _ _ ⟨_,_⟩=>rfl) (v125,v127)
def M_b_Distances_L1_B (a0:GTask)(_:List (List Int))(_y34:List Int)(v31:Int):((List Int))→(((List Int))→Option (List Int))→Option (List Int):=fun v32 rc=>ixv _y34 (fun y34=>ixn v32 ((v31).toNat) (fun _=>grd (v31<((v32.length:Nat):Int)) (ob1 (M_b_Holds a0.Goal y34) (fun z36=>sel z36 (ixn (v32.set ((v31).toNat) 1125899906842624) ((v31).toNat) (fun _=>rc (((v32.set ((v31).toNat) 1125899906842624).set ((v31).toNat) 0)))) (rc ((v32.set ((v31).toNat) 1125899906842624)))))))
def M_b_Distances_L1_E (_:GTask)(_:List (List Int)):((List Int))→Option (List Int):=fun v32=>some v32
theorem M_b_Distances_L1_eq (a0:GTask)(z1:List (List Int))(v32:List Int)(hl:z1.length<9223372036854775807):M_b_Distances_L1 a0 z1 (((z1.map cL_cI).length:Int).toNat+1) 0 v32=Rg (M_b_Distances_L1_B a0 z1) (M_b_Distances_L1_E a0 z1) z1 0 v32:=rg_e1 (L:=fun k i v32=>M_b_Distances_L1 a0 z1 k i v32) hl (fun _ _ _=>rfl) v32
def M_b_Distances_L2_B (a0:GTask)(_:List GEdge)(_y316:GEdge)(_:Int):((Bool)×(List Int))→(((Bool)×(List Int))→Option (Bool×(List Int)))→Option (Bool×(List Int)):=fun(v312,v314) rc=>ixv _y316 (fun y316=>ix a0.Ops y316.Op (fun y317=>ob1 (some ():Option (Unit)) (fun _=>ob1 (ixn v314 ((y316.To).toNat) (fun y324=>sel (decide (y324<1125899906842624)) (ixn v314 ((y316.To).toNat) (fun y325=>ixn v314 ((y316.From).toNat) (fun y326=>grd (0≤y316.To) (grd (y316.To<((v314.length:Nat):Int)) (grd (0≤y316.From) (grd (y316.From<((v314.length:Nat):Int)) (some (decide ((IntKind.i64.wrap (y325+y317.Cost))<y326))))))))) (grd (0≤y316.To) (grd (y316.To<((v314.length:Nat):Int)) (some false)))):Option (Bool)) (fun v322=>sel v322 (ixn v314 ((y316.To).toNat) (fun y327=>ixn v314 ((y316.From).toNat) (fun _=>grd (0≤y316.To) (grd (y316.To<((v314.length:Nat):Int)) (grd (0≤y316.From) (grd (y316.From<((v314.length:Nat):Int)) (rc (true,(v314.set ((y316.From).toNat) (IntKind.i64.wrap (y327+y317.Cost))))))))))) (rc (v312,v314))))))
def M_b_Distances_L2_E (_:GTask)(_:List GEdge):((Bool)×(List Int))→Option (Bool×(List Int)):=fun(v312,v314)=>some (v312,v314)
theorem M_b_Distances_L2_eq (a0:GTask)(z38:List GEdge)(v312:Bool)(v314:List Int)(hl:z38.length<9223372036854775807):M_b_Distances_L2 a0 z38 (((z38.map cGEdge).length:Int).toNat+1) v312 0 v314=Rg (M_b_Distances_L2_B a0 z38) (M_b_Distances_L2_E a0 z38) z38 0 (v312,v314):=rg_e1 (L:=fun k i p=>match p with|(v312,v314)=>M_b_Distances_L2 a0 z38 k v312 i v314) hl (fun _ _ ⟨_,_⟩=>rfl) (v312,v314)
def M_mutex_Prune_L1_B (_:GTask)(z5:GTable)(_y17:GOp)(v13:Int):((List GOp)×(List Int))→(((List GOp)×(List Int))→Option (GTask×(List Int)×Er))→Option (GTask×(List Int)×Er):=fun(v14,v15) rc=>ixv _y17 (fun y17=>ob1 (M_stratagem_mutex_Table_mutex z5 y17.Pre) (fun z18=>sel (!z18) (grd ((v14.length+1)*72≤140737488355328) (grd ((v15.length+1)*8≤140737488355328) (rc ((v14++[y17]),(v15++[v13]))))) (rc (v14,v15))))
def M_mutex_Prune_L1_E (z4:GTask)(_:GTable):((List GOp)×(List Int))→Option (GTask×(List Int)×Er):=fun(v14,v15)=>grd (v14.length≤140737488355328) (grd (v15.length≤140737488355328) (some ({ Vars:=z4.Vars,Init:=z4.Init,Goal:=z4.Goal,Ops:=v14:GTask },v15,Er.nil)))
theorem M_mutex_Prune_L1_eq (z4:GTask)(z5:GTable)(v14:List GOp)(v15:List Int)(hl:z5.t.Ops.length<9223372036854775807):M_mutex_Prune_L1 z4 z5 (((z5.t.Ops.map cGOp).length:Int).toNat+1) 0 v14 v15=Rg (M_mutex_Prune_L1_B z4 z5) (M_mutex_Prune_L1_E z4 z5) z5.t.Ops 0 (v14,v15):=rg_e1 (L:=fun k i p=>match p with|(v14,v15)=>M_mutex_Prune_L1 z4 z5 k i v14 v15) hl (fun _ _ ⟨_,_⟩=>rfl) (v14,v15)
def M_b_Ints_L1_B (_:List Int)(a1:List Int)(_y8:Int)(v6:Int):Unit→(Unit→Option (Bool))→Option (Bool):=fun _ rc=>ixv _y8 (fun y8=>ix a1 v6 (fun y9=>sel (y8 != y9) (some false) (rc ())))
def M_b_Ints_L1_E (_:List Int)(_:List Int):Unit→Option (Bool):=fun _=>some true
theorem M_b_Ints_L1_eq (a0:List Int)(a1:List Int)  (hl:a0.length<9223372036854775807):M_b_Ints_L1 a0 a1 (((a0.map cI).length:Int).toNat+1) 0=Rg (M_b_Ints_L1_B a0 a1) (M_b_Ints_L1_E a0 a1) a0 0 ():=rg_e1 (L:=fun k i _=>M_b_Ints_L1 a0 a1 k i) hl (fun _ _ _=>rfl) ()
def M_b_Facts_L1_B (_:List Fact)(a1:List Fact)(_y8:Fact)(v6:Int):Unit→(Unit→Option (Bool))→Option (Bool):=fun _ rc=>ixv _y8 (fun y8=>ix a1 v6 (fun y9=>sel (!(y8.1 == y9.1&&y8.2 == y9.2)) (some false) (rc ())))
def M_b_Facts_L1_E (_:List Fact)(_:List Fact):Unit→Option (Bool):=fun _=>some true
theorem M_b_Facts_L1_eq (a0:List Fact)(a1:List Fact)  (hl:a0.length<9223372036854775807):M_b_Facts_L1 a0 a1 (((a0.map cF).length:Int).toNat+1) 0=Rg (M_b_Facts_L1_B a0 a1) (M_b_Facts_L1_E a0 a1) a0 0 ():=rg_e1 (L:=fun k i _=>M_b_Facts_L1 a0 a1 k i) hl (fun _ _ _=>rfl) ()
def M_b_Effects_L1_B (a0:List GEffect)(a1:List GEffect)(_y18:GEffect)(v16:Int):Unit→(Unit→Option (Bool))→Option (Bool):=fun _ rc=>ixv _y18 (fun y18=>ix a1 v16 (fun y19=>sel (y18.Var != y19.Var) (some false) (ix a0 v16 (fun y20=>ix a1 v16 (fun y21=>sel (y20.Val != y21.Val) (some false) (ix a0 v16 (fun y22=>ix a1 v16 (fun y23=>ob1 (M_b_Facts y22.When y23.When) (fun z24=>sel (!z24) (some false) (rc ()))))))))))
def M_b_Effects_L1_E (_:List GEffect)(_:List GEffect):Unit→Option (Bool):=fun _=>some true
theorem M_b_Effects_L1_eq (a0:List GEffect)(a1:List GEffect)  (hl:a0.length<9223372036854775807):M_b_Effects_L1 a0 a1 (((a0.map cGEffect).length:Int).toNat+1) 0=Rg (M_b_Effects_L1_B a0 a1) (M_b_Effects_L1_E a0 a1) a0 0 ():=rg_e1 (L:=fun k i _=>M_b_Effects_L1 a0 a1 k i) hl (fun _ _ _=>rfl) ()
def M_b_Tasks_L1_B (_:GTask)(a1:GTask)(_y20:GOp)(v18:Int):Unit→(Unit→Option (Bool))→Option (Bool):=fun _ rc=>ixv _y20 (fun y20=>ix a1.Ops v18 (fun y21=>sel (!(y20.Name.toList == y21.Name.toList)) (some false) (sel (y20.Cost != y21.Cost) (some false) (ob1 (M_b_Facts y20.Pre y21.Pre) (fun z22=>sel (!z22) (some false) (ob1 (M_b_Effects y20.Effs y21.Effs) (fun z23=>sel (!z23) (some false) (rc ()))))))))
def M_b_Tasks_L1_E (_:GTask)(_:GTask):Unit→Option (Bool):=fun _=>some true
theorem M_b_Tasks_L1_eq (a0:GTask)(a1:GTask)  (hl:a0.Ops.length<9223372036854775807):M_b_Tasks_L1 a0 a1 (((a0.Ops.map cGOp).length:Int).toNat+1) 0=Rg (M_b_Tasks_L1_B a0 a1) (M_b_Tasks_L1_E a0 a1) a0.Ops 0 ():=rg_e1 (L:=fun k i _=>M_b_Tasks_L1 a0 a1 k i) hl (fun _ _ _=>rfl) ()
end Go.Proofs.YtinnphmnhmdcgaaGreat.Am
namespace Go.Proofs.YtinnphmnhmdcgaaGreat.Am
open Go.RowKit
def rankF : List Int→List Int→Int→Int
 | k :: r,x :: t,v=>rankF r t (v*k+x)
 | _,_,v=>v
theorem flat_at (m:Nat):∀ (out:List (List Int))(i x:Nat)(s:List Int),out[i]?=some s→x<m→(out.flatMap fun s=>extF s m 0)[i*m+x]?=some (s++[(x:Int)])
 | [],i,x,s,h,_=>by simp at h
 | u :: out,i,x,s,h,hx=>by
  have hext:∀ (u:List Int) (m:Nat) (j:Int) (x:Nat),x<m→(extF u m j)[x]?=some (u++[j+(x:Int)]):=by
   intro u m
   induction m with
   | zero=>intro j x hx;omega
   | succ m ih =>
    intro j x hx
    rw[extF]
    cases x with
    | zero=>simp
    | succ x=>rw[List.getElem?_cons_succ,ih (j+1) x (by omega)];congr 3;omega
  rw[List.flatMap_cons]
  cases i with
  | zero =>
   simp only[List.getElem?_cons_zero,Option.some.injEq]at h
   subst h
   rw[Nat.zero_mul,Nat.zero_add,List.getElem?_append_left (by rw[extF_len];exact hx),hext u m 0 x hx]
   congr 3;omega
  | succ i =>
   rw[List.getElem?_cons_succ]at h
   rw[List.getElem?_append_right (by rw[extF_len,Nat.add_mul];omega),extF_len,show(i+1)*m+x-m=i*m+x from by rw[Nat.add_mul];omega]
   exact flat_at m out i x s h hx
theorem rank_at : ∀ (r:List Int)(out:List (List Int))(i:Nat)(s u:List Int),out[i]?=some s→stateF r u=true→∃ k:Nat,rankF r u i=(k:Int)∧(statesG r out)[k]?=some (s++u)
 | [],out,i,s,u,h,hu=>by
  cases u with
  | nil=>exact⟨i,rfl,by rw[statesG,List.append_nil];exact h⟩
  | cons x u=>simp[stateF]at hu
 | k :: r,out,i,s,u,h,hu=>by
  cases u with
  | nil=>simp[stateF]at hu
  | cons x u =>
   rw[stateF,bA_,decide_eq_true_iff]at hu
   obtain⟨m,rfl⟩:∃ m:Nat,k=m:=⟨k.toNat,by omega⟩
   obtain⟨y,rfl⟩:∃ y:Nat,x=y:=⟨x.toNat,by omega⟩
   have h1:=flat_at m out i y s h (by omega)
   obtain⟨q,e1,e2⟩:=rank_at r _ (i*m+y) (s++[(y:Int)]) u h1 hu.2
   refine⟨q,?_,by rw[statesG,Int.toNat_natCast,e2,List.append_assoc];rfl⟩
   rw[rankF,← e1,Int.natCast_add,Int.natCast_mul]
theorem rank_all {t:GTask}{s:List Int}(hs:stateF t.Vars s=true):∃ k:Nat,rankF t.Vars s 0=(k:Int)∧(allF t)[k]?=some s:=rank_at t.Vars [[]] 0 [] s rfl hs
theorem rank_loop (vars s:List Int)(B:Int)(hB:B≤1000000):∀ (u r:List Int)(n:Nat)(v:Int),s.drop n=u→vars.drop n=r→u.length=r.length→0≤v→stateF r u=true→(∀ k∈r,1≤k∧k≤64)→rankF r u v≤B →
  Rg (M_b_Rank_L1_B vars s) (M_b_Rank_L1_E vars s) u n v=some (rankF r u v)
 | [],r,n,v,hs,hr,hl,hv,hst,_,_=>by
  cases r with
  | nil=>rfl
  | cons k r=>simp at hl
 | x :: u,r,n,v,hs,hr,hl,hv,hst,hk,hb=>by
  cases r with
  | nil=>simp at hl
  | cons k r =>
   obtain⟨hx,hs2,-⟩:=drop_cons hs
   obtain⟨hk1,hr2,-⟩:=drop_cons hr
   rw[stateF,bA_,decide_eq_true_iff]at hst
   obtain⟨k1,k2⟩:=hk k (mS_ ..)
   rw[rankF]at hb ⊢
   have hmono:∀ (r u:List Int) (v:Int),stateF r u=true→0≤v→(∀ k∈r,1≤k∧k≤64)→v≤rankF r u v:=by
    intro r
    induction r with
    | nil=>intro u v _ _ _;cases u <;> exact Int.le_refl _
    | cons k r ih =>
     intro u v hu hv hk
     cases u with
     | nil=>simp[stateF]at hu
     | cons x u =>
      rw[stateF,bA_,decide_eq_true_iff]at hu
      have hk1:=hk k (mS_ ..)
      have hm:v*1≤v*k:=Int.mul_le_mul_of_nonneg_left hk1.1 hv
      have h2:=ih u (v*k+x) hu.2 (by omega) (fun y hy=>hk y (mC_ _ hy))
      rw[rankF];omega
   have hvk:0≤v*k:=Int.mul_nonneg hv (by omega)
   have hle:=hmono r u (v*k+x) hst.2 (by omega) (fun y hy=>hk y (mC_ _ hy))
   have w1:IntKind.i64.wrap (v*k)=v*k:=wrap_eq (by omega) (by omega)
   have w2:IntKind.i64.wrap (v*k+x)=v*k+x:=wrap_eq (by omega) (by omega)
   rw[Rg,M_b_Rank_L1_B,ix_at hk1,ixv,w1,w2]
   exact rank_loop vars s B hB u r (n+1) (v*k+x) hs2 hr2 (by simpa using hl) (by omega) hst.2 (fun y hy=>hk y (mC_ _ hy)) hb
theorem rank_eq {t:GTask}(hsm:smallF t=true){s:List Int}(hs:stateF t.Vars s=true):∃ k:Nat,M_b_Rank t.Vars s=some (k:Int)∧(allF t)[k]?=some s:=by
 obtain⟨k,e1,e2⟩:=rank_all hs
 have hlen:=(stateF_st hs).len
 have hv:=(small_good hsm).2.1
 have hk:k<(allF t).length:=(gS_.1 e2).1
 have hal:=allF_len t hsm
 refine⟨k,?_,e2⟩
 rw[M_b_Rank,M_b_Rank_L1_eq t.Vars s 0 (by omega)]
 have:=rank_loop t.Vars s 1000000 (by decide) s t.Vars 0 0 rfl rfl hlen (by decide) hs (good_dom (small_good hsm).1).dom (by rw[e1];omega)
 rw[e1]at this
 exact this
theorem st_state : ∀ {v s:List Int},s.length=v.length→(∀ i:Nat,i<v.length→0≤s.getD i 0∧s.getD i 0<v.getD i 0)→stateF v s=true
 | [],[],_,_=>rfl
 | [],_ :: _,h,_=>by simp at h
 | _ :: _,[],h,_=>by simp at h
 | k :: r,x :: s,h,hr=>by
  have h0:=hr 0 (by simp)
  simp only[List.getD_cons_zero]at h0
  rw[stateF,bA_,decide_eq_true_iff]
  refine⟨h0,st_state (by simpa using h) (fun i hi=>?_)⟩
  have:=hr (i+1) (by simpa using hi)
  simpa using this
theorem apply_rng (vars:List Int)(s:List Int):∀ (r:List GEffect)(v:List Int),v.length=vars.length→(∀ i:Nat,i<vars.length→0≤v.getD i 0∧v.getD i 0<vars.getD i 0)→(∀ e∈r,0≤e.Var∧0≤e.Val∧e.Val<vars.getD e.Var.toNat 0)→∀ i:Nat,i<vars.length→0≤(applyG s r v).getD i 0∧(applyG s r v).getD i 0<vars.getD i 0
 | [],v,_,hv,_,i,hi=>hv i hi
 | e :: r,v,hl,hv,he,i,hi=>by
  have he2:∀ e∈r,0≤e.Var∧0≤e.Val∧e.Val<vars.getD e.Var.toNat 0:=fun u hu=>he u (mC_ _ hu)
  rw[applyG]
  split
  ·obtain⟨e0,e1,e2⟩:=he e (mS_ ..)
   refine apply_rng vars s r _ (by rw[List.length_set];exact hl) (fun j hj=>?_) he2 i hi
   by_cases hej:e.Var.toNat=j
   ·subst hej
    rw[List.getD_eq_getElem?_getD,List.getElem?_set_self (by omega),Option.getD_some]
    exact⟨e1,e2⟩
   ·rw[List.getD_eq_getElem?_getD,List.getElem?_set_ne hej,← List.getD_eq_getElem?_getD]
    exact hv j hj
  ·exact apply_rng vars s r v hl hv he2 i hi
theorem next_state {t:GTask}(hgood:goodF t=true){s:List Int}(hs:stateF t.Vars s=true){o:GOp}(ho:o∈t.Ops):stateF t.Vars (nextF s o)=true:=by
 have st:=stateF_st hs
 refine st_state (by unfold nextF;rw[applyG_len];exact st.len) (fun i hi=>?_)
 exact apply_rng t.Vars s o.Effs s st.len st.rng (fun e he=>by obtain⟨h1,-,h3,h4⟩:=good_eff hgood ho he;exact⟨h1,h3,h4⟩) i hi
structure EdgP (t:GTask)(e:GEdge):Prop where
 ex:∃ (a b q:Nat) (s:List Int) (o:GOp),e.From=(a:Int)∧e.To=(b:Int)∧e.Op=(q:Int)∧(allF t)[a]?=some s∧(allF t)[b]?=some (nextF s o)∧t.Ops[q]?=some o∧holdsF s o.Pre=true
theorem edges1 {t:GTask}(hsm:smallF t=true)(i:Nat)(s:List Int)(hi:(allF t)[i]?=some s):∀ (l:List GOp)(m j:Nat)(v:List GEdge),t.Ops.drop j=l→l.length=m→v.length+m≤100000→(∀ e∈v,EdgP t e) →
  ∃ v',Rn (M_b_Edges_L1_B t i s) (M_b_Edges_L1_E t i s) m j v=some v'∧v'.length≤v.length+m∧∀ e∈v',EdgP t e
 | [],m,j,v,_,hm,_,hv=>by subst hm;exact⟨v,rfl,Nat.le_refl _,hv⟩
 | o :: os,m,j,v,hdr,hm,hlen,hv=>by
  have hgood:=(small_good hsm).1
  obtain⟨hj,hd',hlt⟩:=drop_cons hdr
  obtain⟨m,rfl⟩:∃ k,m=k+1:=⟨os.length,hm.symm⟩
  have hst:=(allF_mem t s).1 (mG_ hi)
  have hm':os.length=m:=by simpa using hm
  rw[Rn,M_b_Edges_L1_B,apply_eq t hgood s (stateF_st hst) j o hj]
  by_cases hp:holdsF s o.Pre=true
  ·obtain⟨k,e1,e2⟩:=rank_eq hsm (next_state hgood hst (mG_ hj))
   rw[if_pos hp,ob2_some,sel_tt,e1,ob1_some,grd_t (by omega)]
   obtain⟨v',h1,h2,h3⟩:=edges1 hsm i s hi os m (j+1) (v++[{ From:=(i:Int),Op:=(j:Int),To:=(k:Int) }]) hd' hm' (by simp;omega) (fun e he=>by
    rcases List.mem_append.1 he with he|he
    ·exact hv e he
    ·rw[mI_.1 he];exact⟨⟨i,k,j,s,o,rfl,rfl,rfl,hi,e2,hj,hp⟩⟩)
   exact⟨v',h1,by simp at h2;omega,h3⟩
  ·rw[if_neg hp,ob2_some,sel_ff]
   obtain⟨v',h1,h2,h3⟩:=edges1 hsm i s hi os m (j+1) v hd' hm' (by omega) hv
   exact⟨v',h1,by omega,h3⟩
theorem edges2 {t:GTask}(hsm:smallF t=true):∀ (r:List (List Int))(i:Nat)(v:List GEdge),(allF t).drop i=r→v.length+r.length*20≤100000→(∀ e∈v,EdgP t e) →
  ∃ v',Rg (M_b_Edges_L2_B t (allF t)) (M_b_Edges_L2_E t (allF t)) r i v=some v'∧v'.length≤100000∧∀ e∈v',EdgP t e
 | [],i,v,_,hl,hv=>⟨v,by rw[Rg,M_b_Edges_L2_E,grd_t (by simp at hl;omega)],by simpa using hl,hv⟩
 | s :: r,i,v,hdr,hl,hv=>by
  obtain⟨hi,hd',hlt⟩:=drop_cons hdr
  have hops:=(small_good hsm).2.2
  rw[lC_]at hl
  rw[Rg,M_b_Edges_L2_B,ixv,M_b_Edges_L1_eq t i s v (m:=t.Ops.length) (by rw[lM_]) (by omega)]
  obtain⟨v1,h1,h2,h3⟩:=edges1 hsm i s hi t.Ops t.Ops.length 0 v rfl rfl (by omega) hv
  have h1':Rn (M_b_Edges_L1_B t i s) (M_b_Edges_L1_E t i s) t.Ops.length 0 v=some v1:=h1
  rw[h1',ob1_some]
  exact edges2 hsm r (i+1) v1 hd' (by omega) h3
theorem edges_eq {t:GTask}(hsm:smallF t=true):∃ es,M_b_Edges t=some es∧es.length≤100000∧∀ e∈es,EdgP t e:=by
 have hal:=allF_len t hsm
 obtain⟨es,h1,h2,h3⟩:=edges2 hsm (allF t) 0 [] rfl (by simp;omega) (fun e he=>by cases he)
 refine⟨es,?_,h2,h3⟩
 rw[M_b_Edges,states_eq t hsm,ob1_some,M_b_Edges_L2_eq t (allF t) [] (by omega)]
 exact h1
def fit3F (t:GTask):Bool:=tameF t&&(decide (t.Ops.length≤10)&&decide (t.Vars.length≤6))
theorem fit3_eq (t:GTask)(ht:ShT t):M_l33_fit t=some (fit3F t):=by
 rw[M_l33_fit,tame_eq t ht,ob1_some,lM_,lM_,fit3F]
 have e1:decide ((t.Ops.length:Int)≤10)=decide (t.Ops.length≤10):=decide_eq_decide.2 (by omega)
 have e2:decide ((t.Vars.length:Int)≤6)=decide (t.Vars.length≤6):=decide_eq_decide.2 (by omega)
 rw[e1,e2]
 cases tameF t <;> cases decide (t.Ops.length≤10) <;> rfl
theorem fit3_of {t:GTask}(h:fit3F t=true):Fit3 t:=by
 unfold fit3F at h
 rw[bA_,bA_,decide_eq_true_iff,decide_eq_true_iff]at h
 obtain⟨h1,h2,h3⟩:=h
 have hs:=tame_small h1
 obtain⟨hg,hv,-⟩:=small_good hs
 unfold tameF at h1
 simp only[bA_,List.all_eq_true,decide_eq_true_iff]at h1
 have hd:=h1.2.1
 have hp:prodN t.Vars≤512:=by
  have hm:=manyF_prod 512 t.Vars 1 (fun k hk=>by have:=hd k hk;omega) (by decide) (by decide)
  rw[show((512:Nat):Int)=512 from rfl,show((1:Nat):Int)=1 from rfl,Nat.one_mul]at hm
  have h512:manyF 512 t.Vars 1≤512:=by
   have:=hs
   unfold smallF at this
   simp only[bA_,decide_eq_true_iff]at this
   exact this.2.2.2
  rw[hm]at h512
  split at h512 <;> omega
 refine⟨hg,hs,h2,h3,hd,hp,fun o ho=>?_⟩
 have:=h1.2.2 o ho
 unfold tameO twoF at this
 simp only[bA_,List.all_eq_true,decide_eq_true_iff]at this
 exact this
def tA : GTask:={ Vars:=[3],Init:=[0],Goal:=[],Ops:=[{ Name:=(⟨#[]⟩:ByteArray),Cost:=0,Pre:=[],Effs:=[{ When:=[],Var:=0,Val:=1:GEffect }]:GOp }] }
def oA : GOp:={ Name:=(⟨#[]⟩:ByteArray),Cost:=0,Pre:=[],Effs:=[{ When:=[],Var:=0,Val:=1:GEffect }] }
theorem tA_fit : Fit3 tA:=fit3_of (by rfl)
theorem tA_sh : ShT tA:=⟨by show _≤_;decide,by show _≤_;decide,by show _≤_;decide,by show _≤_;decide,fun o ho=>by
 obtain rfl:o=oA:=mI_.1 ho
 exact⟨by show _≤_;decide,by show _≤_;decide,by show _≤_;decide,fun e he=>by
  obtain rfl:=mI_.1 he
  show _≤_
  decide⟩⟩
theorem tA_not : regG [3] oA [(0,2)] [[]]=some []:=by rfl
theorem tA_reg : regS tA oA [(0,2)]=[]:=by
 have h:regO tA.Vars oA [(0,2)]=some (sortLL (minF [])):=by
  rw[regO]
  show(regG [3] oA [(0,2)] [[]]).map _=_
  rw[tA_not]
  rfl
 rw[regS,h,Option.getD_some]
 refine List.length_eq_zero_iff.1 ?_
 rw[sortLL_length]
 rfl
theorem tA_new (g:Nat)(hg:1000000≤g):∃ R,M_mutex_New g tA=some (some (tbl tA R),Er.nil)∧MxR tA R∧isF tA R (0,2) (0,2)=false:=by
 have h2:InV tA.Vars (0,2):=⟨by decide,by decide,by decide,by decide⟩
 refine new_eq tA_fit tA_sh g hg (Q:=fun R=>isF tA R (0,2) (0,2)=false) (fun R a b hR _ hq hs hm=>?_) (fun R _ _ hi=>?_)
 ·refine Bool.eq_false_iff.2 fun h=>?_
  rcases(put_is hR tA_fit.sz.pos hs.ia hs.ib h2 h2).1 h with h|⟨h,h'⟩|⟨h,h'⟩
  ·rw[hq]at h;cases h
  ·rw[← h,← h']at hm
   obtain⟨o,ho,hm⟩:=List.any_eq_true.1 hm
   obtain rfl:o=oA:=mI_.1 ho
   rw[madeO,show pset ((0:Int),(2:Int)) (0,2)=[(0,2)]from rfl,tA_reg,List.any_nil,Bool.and_false]at hm
   cases hm
  ·rw[← h,← h']at hm
   obtain⟨o,ho,hm⟩:=List.any_eq_true.1 hm
   obtain rfl:o=oA:=mI_.1 ho
   rw[madeO,show pset ((0:Int),(2:Int)) (0,2)=[(0,2)]from rfl,tA_reg,List.any_nil,Bool.and_false]at hm
   cases hm
 ·refine Bool.eq_false_iff.2 fun h=>?_
  have:=((hi _ _ h2 h2).1 h).1
  exact absurd this (by decide)
theorem awake3 (g:Nat)(hg:1000000≤g):M_l33_awake g=some true:=by
 obtain⟨R,h1,h2,h3⟩:=tA_new g hg
 have hz:=tA_fit.sz
 have hin:InV tA.Vars (0,1):=⟨by decide,by decide,by decide,by decide⟩
 have hs:StP tA.Vars tA.Init:=stateF_st (good_init tA_fit.good)
 have hal:Alive tA R tA.Init:=fun a b ha hb=>h2.init a b ha hb
 have h4:isF tA R (0,1) (0,1)=true:=alive_step tA_fit h2.closed hs hal (o:=oA) (mI_.2 rfl) (by decide) ⟨hin,hin,.inl rfl⟩ (by decide) (by decide) (.inl rfl)
 rw[M_l33_awake]
 show ob2 (M_mutex_New g tA) _=_
 rw[h1,ob2_some]
 show ob1 (M_stratagem_mutex_Table_Reached (some (tbl tA R)) (0,1)) _=_
 have e1:reaF tA R (0,1)=true:=by rw[reaF,h4];rfl
 have e2:reaF tA R (0,2)=false:=by rw[reaF,h3,Bool.and_false]
 rw[reached_eq hz h2.rk,ob1_some,e1,sel_tt,reached_eq hz h2.rk,ob1_some,e2]
 rfl
theorem law_head {t:GTask}(ht:ShT t)(g:Nat)(hg:1000000≤g){k:Unit→Option Bool}(h:Fit3 t→k ()=some true):ob1 (ob1 (M_l33_fit t) (fun z7 =>
    sel (!z7)
     (ob1 (M_l33_awake g) (fun z10 =>
       some (.inr z10)))
     (ob1 (M_l33_awake g) (fun z8 =>
       sel (!z8)
        (ob1 (M_l33_awake g) (fun z9 =>
          some (.inr z9)))
        (some (.inl ()))))):Option (Unit⊕Bool)) (osum k (fun r5=>some r5))=some true:=by
  rw[fit3_eq t ht,ob1_some,awake3 g hg,ob1_some,ob1_some]
  cases hf:fit3F t with
  | false=>rfl
  | true =>
    rw[Bool.not_true,sel_ff,sel_ff,ob1_some,osum_inl]
    exact h (fit3_of hf)
theorem rg_any {α γ:Type}{B:α→Int→Bool→(Bool→Option γ)→Option γ}{E:Bool→Option γ}{q:α→Bool}:∀ {l:List α}{i:Int}{v:Bool},(∀ y∈l,∀ i v rc,B y i v rc=rc (v||q y))→Rg B E l i v=E (v||l.any q)
 | [],i,v,_=>by rw[Rg,List.any_nil,Bool.or_false]
 | y :: r,i,v,h=>by
  rw[Rg,h y (mS_ ..),rg_any (fun z hz=>h z (mC_ _ hz)),List.any_cons,Bool.or_assoc]
theorem bfacts_loop (a b:List Fact):∀ (r s:List Fact)(n:Nat),a.drop n=r→b.drop n=s→r.length=s.length→Rg (M_b_Facts_L1_B a b) (M_b_Facts_L1_E a b) r n ()=some (decide (r=s))
 | [],[],n,_,_,_=>by rw[Rg,M_b_Facts_L1_E,decide_eq_true rfl]
 | [],_ :: _,n,_,_,h=>by cases h
 | _ :: _,[],n,_,_,h=>by cases h
 | x :: r,y :: s,n,h1,h2,hl=>by
  obtain⟨hy,hd,-⟩:=drop_cons h2
  have ih:=bfacts_loop a b r s (n+1) (drop_cons h1).2.1 hd (by simpa using hl)
  rw[Rg,M_b_Facts_L1_B,ixv,ix_at hy,fact_beq]
  by_cases e:x=y
  ·rw[decide_eq_true e,Bool.not_true,sel_ff]
   refine Eq.trans ih ?_
   subst e;simp
  ·rw[decide_eq_false e,Bool.not_false,sel_tt,decide_eq_false]
   intro h;exact e (List.cons.inj h).1
theorem bfacts_eq (a b:List Fact)(ha:Sh a):M_b_Facts a b=some (decide (a=b)):=by
 rw[M_b_Facts,lM_,lM_,bne_len]
 by_cases h:a.length=b.length
 ·rw[decide_eq_false (by simp[h]),sel_ff]
  have e:=M_b_Facts_L1_eq a b ha.lt
  rw[lM_]at e
  rw[e]
  exact bfacts_loop a b a b 0 rfl rfl h
 ·rw[decide_eq_true h,sel_tt,decide_eq_false]
  rintro rfl;exact h rfl
abbrev infD : Int:=1125899906842624
theorem take_set (x:Int):∀ (l:List Int)(n:Nat),n<l.length→(l.set n x).take (n+1)=l.take n++[x]
 | [],n,h=>by simp at h
 | y :: l,0,_=>by simp
 | y :: l,n+1,h=>by
  rw[List.set_cons_succ,List.take_succ_cons,take_set x l n (by simpa using h),List.take_succ_cons,List.cons_append]
theorem sum_set (x:Int):∀ (l:List Int)(n:Nat)(y:Int),l[n]?=some y→(l.set n x).sum=l.sum-y+x
 | [],n,y,h=>by simp at h
 | z :: l,0,y,h=>by
  simp only[List.getElem?_cons_zero,Option.some.injEq]at h
  subst h
  rw[List.set_cons_zero,List.sum_cons,List.sum_cons];omega
 | z :: l,n+1,y,h=>by
  rw[List.getElem?_cons_succ]at h
  rw[List.set_cons_succ,List.sum_cons,List.sum_cons,sum_set x l n y h];omega
theorem sum_pos : ∀ (l:List Int),(∀ x∈l,0≤x)→0≤l.sum
 | [],_=>by simp
 | x :: l,h=>by
  have h0:=h x (mS_ ..)
  have:=sum_pos l (fun y hy=>h y (mC_ _ hy))
  rw[List.sum_cons];omega
theorem sum_le (B:Int):∀ (l:List Int),(∀ x∈l,x≤B)→l.sum≤B*l.length
 | [],_=>by simp
 | x :: l,h=>by
  have h0:=h x (mS_ ..)
  have:=sum_le B l (fun y hy=>h y (mC_ _ hy))
  rw[List.sum_cons,lC_,Int.natCast_add,Int.mul_add];omega
structure DInv (t:GTask)(Q:List Int→Int→Prop)(d:List Int):Prop where
 len:d.length=(allF t).length
 ok:∀ (i:Nat) (s:List Int) (x:Int),(allF t)[i]?=some s→d[i]?=some x→0≤x∧x≤infD∧(x≠infD→Q s x)
theorem DInv.all {t:GTask}{Q:List Int→Int→Prop}{d:List Int}(h:DInv t Q d):∀ x∈d,0≤x∧x≤infD:=fun x hx=>by
 obtain⟨i,hi⟩:=List.getElem?_of_mem hx
 have hlt:=(gS_.1 hi).1
 have hs:(allF t)[i]?=some ((allF t)[i]'(by rw[← h.len];exact hlt)):=gE_ _
 obtain⟨h1,h2,-⟩:=h.ok i _ x hs hi
 exact⟨h1,h2⟩
structure DQ (t:GTask)(Q:List Int→Int→Prop):Prop where
 goal:∀ s∈allF t,holdsF s t.Goal=true→Q s 0
 step:∀ s∈allF t,∀ o∈t.Ops,holdsF s o.Pre=true→∀ x:Int,0≤x→Q (nextF s o) x→Q s (x+o.Cost)
theorem dis1 {t:GTask}(hgood:goodF t=true):∀ (r:List (List Int))(n:Nat)(v:List Int),(allF t).drop n=r→v.length=(allF t).length →
  Rg (M_b_Distances_L1_B t (allF t)) (M_b_Distances_L1_E t (allF t)) r n v=some (v.take n++r.map fun s=>if holdsF s t.Goal=true then 0 else infD)
 | [],n,v,hd,hl=>by
  have hn:=congrArg List.length hd
  simp only[List.length_drop,lN_]at hn
  rw[Rg,M_b_Distances_L1_E,List.map_nil,List.append_nil,List.take_of_length_le (by omega)]
 | s :: r,n,v,hd,hl=>by
  obtain⟨hs,hd',hlt⟩:=drop_cons hd
  have hv:v[n]?=some (v[n]'(by omega)):=gE_ _
  have hv2:(v.set n 1125899906842624)[n]?=some 1125899906842624:=List.getElem?_set_self (by omega)
  rw[Rg,M_b_Distances_L1_B,ixv,Int.toNat_natCast,ixn_at hv,grd_t (by omega),holds_eq t.Goal s (prop_sh (good_dom hgood).len (good_goal hgood)),ob1_some,List.map_cons]
  have hcast:((n:Int)+1)=((n+1:Nat):Int):=rfl
  by_cases hh:holdsF s t.Goal=true
  ·rw[hh,sel_tt,ixn_at hv2,List.set_set,hcast,dis1 hgood r (n+1) _ hd' (by rw[List.length_set];exact hl),take_set 0 v n (by omega),if_pos rfl,List.append_assoc];rfl
  ·rw[Bool.eq_false_iff.2 hh,sel_ff,hcast,dis1 hgood r (n+1) _ hd' (by rw[List.length_set];exact hl),take_set _ v n (by omega),if_neg (by decide),List.append_assoc];rfl
theorem dis2 {t:GTask}(hgood:goodF t=true){Q:List Int→Int→Prop}(hQ:DQ t Q)(es:List GEdge):∀ (r:List GEdge)(i:Int)(b:Bool)(d:List Int),(∀ e∈r,EdgP t e)→DInv t Q d →
  ∃ b' d',Rg (M_b_Distances_L2_B t es) (M_b_Distances_L2_E t es) r i (b,d)=some (b',d')∧DInv t Q d'∧((b'=b∧d'=d)∨(b'=true∧d'.sum<d.sum))
 | [],i,b,d,_,hd=>⟨b,d,rfl,hd,.inl ⟨rfl,rfl⟩⟩
 | e :: r,i,b,d,he,hd=>by
  have her:∀ e∈r,EdgP t e:=fun u hu=>he u (mC_ _ hu)
  obtain⟨a,bb,q,s,o,e1,e2,e3,h1,h2,h3,h4⟩:=(he e (mS_ ..)).ex
  obtain⟨F,O,T⟩:=e
  simp only at e1 e2 e3
  subst e1 e2 e3
  have ho:=mG_ h3
  have hcost:=good_cost hgood ho
  have hla:a<d.length:=by rw[hd.len];exact(gS_.1 h1).1
  have hlb:bb<d.length:=by rw[hd.len];exact(gS_.1 h2).1
  obtain⟨x,hx⟩:∃ x,d[bb]?=some x:=⟨_,gE_ hlb⟩
  obtain⟨y,hy⟩:∃ y,d[a]?=some y:=⟨_,gE_ hla⟩
  obtain⟨x0,x1,xq⟩:=hd.ok bb _ x h2 hx
  obtain⟨y0,y1,yq⟩:=hd.ok a s y h1 hy
  unfold infD at x1 y1 xq
  have hw:IntKind.i64.wrap (x+o.Cost)=x+o.Cost:=wrap_eq (by omega) (by omega)
  rw[Rg,M_b_Distances_L2_B]
  simp only[ixv,ix_at h3,ob1_some,Int.toNat_natCast,ixn_at hx,ixn_at hy,sel_dec]
  by_cases hlt:x<1125899906842624
  ·rw[if_pos hlt,grd_t (by omega),grd_t (by omega),grd_t (by omega),grd_t (by omega),ob1_some,hw]
   by_cases hr:x+o.Cost<y
   ·rw[decide_eq_true hr,sel_tt,grd_t (by omega),grd_t (by omega),grd_t (by omega),grd_t (by omega)]
    have hd1:DInv t Q (d.set a (x+o.Cost)):=by
     refine⟨by rw[List.length_set];exact hd.len,fun i s' z hs' hz=>?_⟩
     by_cases hai:a=i
     ·subst hai
      rw[List.getElem?_set_self hla]at hz
      injection hz with hz
      rw[h1]at hs'
      injection hs' with hs'
      subst hz hs'
      exact⟨by omega,by unfold infD;omega,fun _=>hQ.step s (mG_ h1) o ho h4 x x0 (xq (by omega))⟩
     ·rw[List.getElem?_set_ne hai]at hz
      exact hd.ok i s' z hs' hz
    obtain⟨b',d',g1,g2,g3⟩:=dis2 hgood hQ es r (i+1) true _ her hd1
    have hsum:=sum_set (x+o.Cost) d a y hy
    refine⟨b',d',g1,g2,.inr ?_⟩
    rcases g3 with⟨g3,g4⟩|⟨g3,g4⟩
    ·exact⟨g3,by rw[g4,hsum];omega⟩
    ·exact⟨g3,by rw[hsum]at g4;omega⟩
   ·rw[decide_eq_false hr,sel_ff]
    exact dis2 hgood hQ es r (i+1) b d her hd
  ·rw[if_neg hlt,grd_t (by omega),grd_t (by omega),ob1_some,sel_ff]
   exact dis2 hgood hQ es r (i+1) b d her hd
theorem dis3 {t:GTask}(hgood:goodF t=true){Q:List Int→Int→Prop}(hQ:DQ t Q)(es:List GEdge)(hes:∀ e∈es,EdgP t e)(hlen:es.length≤100000)(hal:(allF t).length≤512):∀ (S k:Nat)(d:List Int),DInv t Q d→d.sum≤S→S+2≤k→∃ d',M_b_Distances_L3 t es k true d=some d'∧DInv t Q d':=by
 intro S
 induction S with
 | zero =>
  intro k d hd hs hk
  obtain⟨k,rfl⟩:∃ j,k=j+2:=⟨k-2,by omega⟩
  obtain⟨b',d',g1,g2,g3⟩:=dis2 hgood hQ es es 0 false d hes hd
  have hpos:=sum_pos d' (fun x hx=>(g2.all x hx).1)
  rcases g3 with⟨rfl,rfl⟩|⟨-,g4⟩
  ·refine⟨d',?_,g2⟩
   have hl:=g2.len
   rw[M_b_Distances_L3,sel_tt,M_b_Distances_L2_eq t es false d' (by omega),g1,ob1_some]
   simp only
   rw[M_b_Distances_L3,sel_ff,grd_t (by omega)]
  ·omega
 | succ S ih =>
  intro k d hd hs hk
  obtain⟨k,rfl⟩:∃ j,k=j+2:=⟨k-2,by omega⟩
  obtain⟨b',d',g1,g2,g3⟩:=dis2 hgood hQ es es 0 false d hes hd
  rw[M_b_Distances_L3,sel_tt,M_b_Distances_L2_eq t es false d (by omega),g1,ob1_some]
  simp only
  rcases g3 with⟨rfl,rfl⟩|⟨rfl,g4⟩
  ·have hl:=g2.len
   exact⟨d',by rw[M_b_Distances_L3,sel_ff,grd_t (by omega)],g2⟩
  ·exact ih (k+1) d' g2 (by omega) (by omega)
theorem dis_eq {t:GTask}(hsm:smallF t=true){Q:List Int→Int→Prop}(hQ:DQ t Q)(g:Nat)(hg:1000000000000000000≤g)(u:List Int):∃ d,M_b_Distances g t u=some d∧DInv t Q d:=by
 have hgood:=(small_good hsm).1
 have hal:=allF_len t hsm
 obtain⟨es,h1,h2,h3⟩:=edges_eq hsm
 have hd0:DInv t Q ((allF t).map fun s=>if holdsF s t.Goal=true then 0 else infD):=by
  refine⟨lM_ _,fun i s x hs hx=>?_⟩
  rw[List.getElem?_map,hs]at hx
  simp only[Option.map_some,Option.some.injEq]at hx
  subst hx
  by_cases hh:holdsF s t.Goal=true
  ·rw[if_pos hh];exact⟨by decide,by decide,fun _=>hQ.goal s (mG_ hs) hh⟩
  ·rw[if_neg hh];exact⟨by decide,by decide,fun h=>absurd rfl h⟩
 have hsum:=sum_le infD _ (fun x hx=>(hd0.all x hx).2)
 rw[hd0.len]at hsum
 have hle:infD*((allF t).length:Int)≤infD*512:=Int.mul_le_mul_of_nonneg_left (by omega) (by decide)
 have hs2:((allF t).map fun s=>if holdsF s t.Goal=true then 0 else infD).sum≤(576460752303423488:Nat):=Int.le_trans hsum (Int.le_trans hle (by decide))
 obtain⟨d,e1,e2⟩:=dis3 hgood hQ es h3 h2 hal 576460752303423488 g _ hd0 hs2 (by omega)
 refine⟨d,?_,e2⟩
 have hrep:(List.replicate ((((allF t).map cL_cI).length:Int)).toNat (0:Int)).length=(allF t).length:=by rw[lR_,lM_,Int.toNat_natCast]
 have hd1:=dis1 hgood (allF t) 0 (List.replicate ((((allF t).map cL_cI).length:Int)).toNat 0) rfl hrep
 have hd1':Rg (M_b_Distances_L1_B t (allF t)) (M_b_Distances_L1_E t (allF t)) (allF t) 0 (List.replicate ((((allF t).map cL_cI).length:Int)).toNat 0)=_:=hd1
 have hlm:((allF t).map cL_cI).length=(allF t).length:=lM_ _
 rw[M_b_Distances,states_eq t hsm,ob1_some,grd_t (by omega),grd_t (by omega),M_b_Distances_L1_eq t (allF t) _ (by omega),hd1',List.take_zero,List.nil_append,ob1_some,h1,ob1_some]
 exact e1
theorem ext_at (u:List Int):∀ (m:Nat)(j:Int)(x:Nat)(z:List Int),(extF u m j)[x]?=some z→x<m∧z=u++[j+(x:Int)]
 | 0,j,x,z,h=>by simp[extF]at h
 | m+1,j,0,z,h=>by
  simp only[extF,List.getElem?_cons_zero,Option.some.injEq]at h
  exact⟨by omega,by rw[← h];simp⟩
 | m+1,j,x+1,z,h=>by
  rw[extF,List.getElem?_cons_succ]at h
  obtain⟨h1,h2⟩:=ext_at u m (j+1) x z h
  refine⟨by omega,?_⟩
  rw[h2,show j+1+(x:Int)=j+((x+1:Nat):Int)from by omega]
theorem flat_inv (m:Nat):∀ (out:List (List Int))(j:Nat)(z:List Int),(out.flatMap fun s=>extF s m 0)[j]?=some z→∃ (i x:Nat)(s:List Int),j=i*m+x∧x<m∧out[i]?=some s∧z=s++[(x:Int)]
 | [],j,z,h=>by simp at h
 | u :: out,j,z,h=>by
  rw[List.flatMap_cons]at h
  by_cases hj:j<(extF u m 0).length
  ·rw[List.getElem?_append_left hj]at h
   obtain⟨h1,h2⟩:=ext_at u m 0 j z h
   exact⟨0,j,u,by omega,h1,rfl,by rw[h2];congr 2;omega⟩
  ·rw[List.getElem?_append_right (by omega),extF_len]at h
   rw[extF_len]at hj
   obtain⟨i,x,s,e1,e2,e3,e4⟩:=flat_inv m out (j-m) z h
   exact⟨i+1,x,s,by rw[Nat.add_mul];omega,e2,by rw[List.getElem?_cons_succ];exact e3,e4⟩
theorem rank_inv : ∀ (r:List Int)(out:List (List Int))(k:Nat)(z:List Int),(∀ y∈r,1≤y)→(statesG r out)[k]?=some z→∃ (i:Nat)(s u:List Int),out[i]?=some s∧z=s++u∧stateF r u=true∧rankF r u i=(k:Int)
 | [],out,k,z,_,h=>⟨k,z,[],h,(List.append_nil z).symm,rfl,rfl⟩
 | y :: r,out,k,z,hy,h=>by
  rw[statesG]at h
  obtain⟨j,s,u,h1,h2,h3,h4⟩:=rank_inv r _ k z (fun x hx=>hy x (mC_ _ hx)) h
  obtain⟨i,x,s0,e1,e2,e3,e4⟩:=flat_inv y.toNat out j s h1
  have hy0:=hy y (mS_ ..)
  refine⟨i,s0,(x:Int) :: u,e3,by rw[h2,e4,List.append_assoc];rfl,?_,?_⟩
  ·rw[stateF,bA_,decide_eq_true_iff]
   exact⟨by omega,h3⟩
  ·rw[rankF,← h4,e1,Int.natCast_add,Int.natCast_mul,show((y.toNat:Nat):Int)=y from by omega]
theorem place_one {t:GTask}(hgood:goodF t=true){i j:Nat}{s:List Int}(hi:(allF t)[i]?=some s)(hj:(allF t)[j]?=some s):i=j:=by
 have key:∀ k:Nat,(allF t)[k]?=some s→rankF t.Vars s 0=(k:Int):=fun k hk=>by
  obtain⟨i0,s0,u,h1,h2,-,h4⟩:=rank_inv t.Vars [[]] k s (fun y hy=>((good_dom hgood).dom y hy).1) hk
  cases i0 with
  | zero =>
   simp only[List.getElem?_cons_zero,Option.some.injEq]at h1
   subst h1
   rw[List.nil_append]at h2
   subst h2
   exact h4
  | succ i0=>simp at h1
 have h1:=key i hi
 have h2:=key j hj
 omega
def EdgI (t:GTask)(i q:Nat)(o:GOp)(s:List Int)(e:GEdge):Prop:=∃ k:Nat,e={ From:=(i:Int),Op:=(q:Int),To:=(k:Int) }∧(allF t)[k]?=some (nextF s o)
theorem edges1c {t:GTask}(hsm:smallF t=true)(i:Nat)(s:List Int)(hi:(allF t)[i]?=some s):∀ (l:List GOp)(m j:Nat)(v:List GEdge),t.Ops.drop j=l→l.length=m→v.length+m≤100000 →
  ∃ v',Rn (M_b_Edges_L1_B t i s) (M_b_Edges_L1_E t i s) m j v=some v'∧v'.length≤v.length+m∧(∀ e∈v,e∈v')∧∀ q o,j≤q→t.Ops[q]?=some o→holdsF s o.Pre=true→∃ e∈v',EdgI t i q o s e
 | [],m,j,v,hdr,hm,_=>by
  subst hm
  refine⟨v,rfl,Nat.le_refl _,fun _ h=>h,fun q o hq ho _=>?_⟩
  have hlt:=(gS_.1 ho).1
  have hn:=congrArg List.length hdr
  simp only[List.length_drop,lN_]at hn
  omega
 | o :: os,m,j,v,hdr,hm,hlen=>by
  have hgood:=(small_good hsm).1
  obtain⟨hj,hd',hlt⟩:=drop_cons hdr
  obtain⟨m,rfl⟩:∃ k,m=k+1:=⟨os.length,hm.symm⟩
  have hst:=(allF_mem t s).1 (mG_ hi)
  have hm':os.length=m:=by simpa using hm
  rw[Rn,M_b_Edges_L1_B,apply_eq t hgood s (stateF_st hst) j o hj]
  by_cases hp:holdsF s o.Pre=true
  ·obtain⟨k,e1,e2⟩:=rank_eq hsm (next_state hgood hst (mG_ hj))
   rw[if_pos hp,ob2_some,sel_tt,e1,ob1_some,grd_t (by omega)]
   obtain⟨v',h1,h2,h3,h4⟩:=edges1c hsm i s hi os m (j+1) (v++[{ From:=(i:Int),Op:=(j:Int),To:=(k:Int) }]) hd' hm' (by simp;omega)
   refine⟨v',h1,by simp at h2;omega,fun e he=>h3 e (List.mem_append.2 (.inl he)),fun q u hq hu hpu=>?_⟩
   rcases Nat.lt_or_ge j q with hjq|hjq
   ·exact h4 q u (by omega) hu hpu
   ·obtain rfl:q=j:=by omega
    rw[hj]at hu
    injection hu with hu
    subst hu
    exact⟨_,h3 _ (List.mem_append.2 (.inr (mI_.2 rfl))),k,rfl,e2⟩
  ·rw[if_neg hp,ob2_some,sel_ff]
   obtain⟨v',h1,h2,h3,h4⟩:=edges1c hsm i s hi os m (j+1) v hd' hm' (by omega)
   refine⟨v',h1,by omega,h3,fun q u hq hu hpu=>?_⟩
   rcases Nat.lt_or_ge j q with hjq|hjq
   ·exact h4 q u (by omega) hu hpu
   ·obtain rfl:q=j:=by omega
    rw[hj]at hu
    injection hu with hu
    subst hu
    exact absurd hpu hp
theorem edges2c {t:GTask}(hsm:smallF t=true):∀ (r:List (List Int))(i:Nat)(v:List GEdge),(allF t).drop i=r→v.length+r.length*20≤100000 →
  ∃ v',Rg (M_b_Edges_L2_B t (allF t)) (M_b_Edges_L2_E t (allF t)) r i v=some v'∧(∀ e∈v,e∈v')∧∀ k s q o,i≤k→(allF t)[k]?=some s→t.Ops[q]?=some o→holdsF s o.Pre=true→∃ e∈v',EdgI t k q o s e
 | [],i,v,hdr,hl=>by
  refine⟨v,by rw[Rg,M_b_Edges_L2_E,grd_t (by simp at hl;omega)],fun _ h=>h,fun k s q o hk hs _ _=>?_⟩
  have hlt:=(gS_.1 hs).1
  have hn:=congrArg List.length hdr
  simp only[List.length_drop,lN_]at hn
  omega
 | s :: r,i,v,hdr,hl=>by
  obtain⟨hi,hd',hlt⟩:=drop_cons hdr
  have hops:=(small_good hsm).2.2
  rw[lC_]at hl
  rw[Rg,M_b_Edges_L2_B,ixv,M_b_Edges_L1_eq t i s v (m:=t.Ops.length) (by rw[lM_]) (by omega)]
  obtain⟨v1,h1,h2,h3,h4⟩:=edges1c hsm i s hi t.Ops t.Ops.length 0 v rfl rfl (by omega)
  have h1':Rn (M_b_Edges_L1_B t i s) (M_b_Edges_L1_E t i s) t.Ops.length 0 v=some v1:=h1
  rw[h1',ob1_some]
  obtain⟨v',g1,g2,g3⟩:=edges2c hsm r (i+1) v1 hd' (by omega)
  refine⟨v',g1,fun e he=>g2 e (h3 e he),fun k u q o hk hu ho hp=>?_⟩
  rcases Nat.lt_or_ge i k with hik|hik
  ·exact g3 k u q o (by omega) hu ho hp
  ·obtain rfl:k=i:=by omega
   rw[hi]at hu
   injection hu with hu
   subst hu
   obtain⟨e,he,hx⟩:=h4 q o (Nat.zero_le _) ho hp
   exact⟨e,g2 e he,hx⟩
theorem edges_all {t:GTask}(hsm:smallF t=true):∃ es,M_b_Edges t=some es∧es.length≤100000∧(∀ e∈es,EdgP t e)∧∀ k s q o,(allF t)[k]?=some s→t.Ops[q]?=some o→holdsF s o.Pre=true→∃ e∈es,EdgI t k q o s e:=by
 have hal:=allF_len t hsm
 obtain⟨es,h1,h2,h3⟩:=edges_eq hsm
 obtain⟨es',g1,-,g3⟩:=edges2c hsm (allF t) 0 [] rfl (by simp;omega)
 have he:M_b_Edges t=some es':=by
  rw[M_b_Edges,states_eq t hsm,ob1_some,M_b_Edges_L2_eq t (allF t) [] (by omega)]
  exact g1
 rw[h1]at he
 obtain rfl:=sI_ he
 exact⟨es,h1,h2,h3,fun k s q o hk ho hp=>g3 k s q o (Nat.zero_le _) hk ho hp⟩
def finN (d:List Int):Nat:=(d.filter fun x=>decide (x≠infD)).length
theorem finN_set : ∀ (d:List Int)(a:Nat)(y v:Int),d[a]?=some y→v≠infD→finN (d.set a v)=finN d+(if y=infD then 1 else 0)
 | [],a,y,v,h,_=>by simp at h
 | z :: d,0,y,v,h,hv=>by
  simp only[List.getElem?_cons_zero,Option.some.injEq]at h
  subst h
  unfold finN
  rw[List.set_cons_zero,List.filter_cons,List.filter_cons,if_pos (decide_eq_true hv)]
  by_cases hz:z=infD
  ·rw[if_neg (by simp[hz]),if_pos hz,lC_]
  ·rw[if_pos (decide_eq_true hz),if_neg hz,lC_,lC_,Nat.add_zero]
 | z :: d,a+1,y,v,h,hv=>by
  rw[List.getElem?_cons_succ]at h
  have ih:=finN_set d a y v h hv
  unfold finN at ih ⊢
  rw[List.set_cons_succ,List.filter_cons,List.filter_cons]
  split
  ·rw[lC_,lC_,ih];omega
  ·exact ih
structure DG (t:GTask)(d:List Int):Prop where
 len:d.length=(allF t).length
 ok:∀ (i:Nat) (s:List Int) (x:Int),(allF t)[i]?=some s→d[i]?=some x→0≤x∧x≤infD∧(holdsF s t.Goal=true→x=0)
 bnd:∀ x∈d,x≠infD→x≤1048576*(finN d:Int)
theorem DG.all {t:GTask}{d:List Int}(h:DG t d):∀ x∈d,0≤x∧x≤infD:=fun x hx=>by
 obtain⟨i,hi⟩:=List.getElem?_of_mem hx
 have hlt:=(gS_.1 hi).1
 have hs:(allF t)[i]?=some ((allF t)[i]'(by rw[← h.len];exact hlt)):=gE_ _
 obtain⟨h1,h2,-⟩:=h.ok i _ x hs hi
 exact⟨h1,h2⟩
def Calm (t:GTask)(d:List Int)(e:GEdge):Prop:=∀ (a b q:Nat) (o:GOp) (x y:Int),e={ From:=(a:Int),Op:=(q:Int),To:=(b:Int) }→t.Ops[q]?=some o→d[b]?=some x→d[a]?=some y→x<infD→y≤x+o.Cost
theorem dis2c {t:GTask}(hgood:goodF t=true)(es:List GEdge):∀ (r:List GEdge)(i:Int)(b:Bool)(d:List Int),(∀ e∈r,EdgP t e)→DG t d →
  ∃ b' d',Rg (M_b_Distances_L2_B t es) (M_b_Distances_L2_E t es) r i (b,d)=some (b',d')∧DG t d'∧((b'=b∧d'=d∧∀ e∈r,Calm t d e)∨(b'=true∧d'.sum<d.sum))
 | [],i,b,d,_,hd=>⟨b,d,rfl,hd,.inl ⟨rfl,rfl,fun e he=>by cases he⟩⟩
 | e :: r,i,b,d,he,hd=>by
  have her:∀ e∈r,EdgP t e:=fun u hu=>he u (mC_ _ hu)
  obtain⟨a,bb,q,s,o,e1,e2,e3,h1,h2,h3,h4⟩:=(he e (mS_ ..)).ex
  obtain⟨F,O,T⟩:=e
  simp only at e1 e2 e3
  subst e1 e2 e3
  have ho:=mG_ h3
  have hcost:=good_cost hgood ho
  have hla:a<d.length:=by rw[hd.len];exact(gS_.1 h1).1
  have hlb:bb<d.length:=by rw[hd.len];exact(gS_.1 h2).1
  obtain⟨x,hx⟩:∃ x,d[bb]?=some x:=⟨_,gE_ hlb⟩
  obtain⟨y,hy⟩:∃ y,d[a]?=some y:=⟨_,gE_ hla⟩
  obtain⟨x0,x1,-⟩:=hd.ok bb _ x h2 hx
  obtain⟨y0,y1,yq⟩:=hd.ok a s y h1 hy
  have hcalm:(x<infD→y≤x+o.Cost)→Calm t d { From:=(a:Int),Op:=(q:Int),To:=(bb:Int) }:=fun hh a' b' q' o' x' y' e ho' hx' hy' hlt=>by
   simp only[GEdge.mk.injEq]at e
   obtain⟨ea,eq,eb⟩:=e
   obtain rfl:a'=a:=by omega
   obtain rfl:b'=bb:=by omega
   obtain rfl:q'=q:=by omega
   rw[h3]at ho';rw[hx]at hx';rw[hy]at hy'
   injection ho' with ho';injection hx' with hx';injection hy' with hy'
   subst ho' hx' hy'
   exact hh hlt
  unfold infD at x1 y1 hcalm
  have hw:IntKind.i64.wrap (x+o.Cost)=x+o.Cost:=wrap_eq (by omega) (by omega)
  have hcons:(x<1125899906842624→y≤x+o.Cost)→∃ b' d',Rg (M_b_Distances_L2_B t es) (M_b_Distances_L2_E t es) r (i+1) (b,d)=some (b',d')∧DG t d'∧((b'=b∧d'=d∧∀ e∈({ From:=(a:Int),Op:=(q:Int),To:=(bb:Int) }:GEdge) :: r,Calm t d e)∨(b'=true∧d'.sum<d.sum)):=fun hh=>by
   obtain⟨b',d',g1,g2,g3⟩:=dis2c hgood es r (i+1) b d her hd
   refine⟨b',d',g1,g2,g3.imp (fun⟨q1,q2,q3⟩=>⟨q1,q2,fun e he=>?_⟩) id⟩
   rcases List.mem_cons.1 he with rfl|he
   ·exact hcalm hh
   ·exact q3 e he
  rw[Rg,M_b_Distances_L2_B]
  simp only[ixv,ix_at h3,ob1_some,Int.toNat_natCast,ixn_at hx,ixn_at hy,sel_dec]
  by_cases hlt:x<1125899906842624
  ·rw[if_pos hlt,grd_t (by omega),grd_t (by omega),grd_t (by omega),grd_t (by omega),ob1_some,hw]
   by_cases hr:x+o.Cost<y
   ·rw[decide_eq_true hr,sel_tt,grd_t (by omega),grd_t (by omega),grd_t (by omega),grd_t (by omega)]
    have hd1:DG t (d.set a (x+o.Cost)):=by
     have hbx:=hd.bnd x (mG_ hx) (by unfold infD;omega)
     have hfin:=finN_set d a y (x+o.Cost) hy (by unfold infD;omega)
     refine⟨by rw[List.length_set];exact hd.len,fun i s' z hs' hz=>?_,fun z hz hne=>?_⟩
     rotate_left
     ·rw[hfin]
      rcases List.mem_or_eq_of_mem_set hz with hz|rfl
      ·have:=hd.bnd z hz hne
       split <;> omega
      ·by_cases hyi:y=infD
       ·rw[if_pos hyi];omega
       ·have:=hd.bnd y (mG_ hy) hyi
        rw[if_neg hyi];omega
     by_cases hai:a=i
     ·subst hai
      rw[List.getElem?_set_self hla]at hz
      injection hz with hz
      rw[h1]at hs'
      injection hs' with hs'
      subst hz hs'
      exact⟨by omega,by unfold infD;omega,fun hg=>by have:=yq hg;omega⟩
     ·rw[List.getElem?_set_ne hai]at hz
      exact hd.ok i s' z hs' hz
    obtain⟨b',d',g1,g2,g3⟩:=dis2c hgood es r (i+1) true _ her hd1
    have hsum:=sum_set (x+o.Cost) d a y hy
    refine⟨b',d',g1,g2,.inr ?_⟩
    rcases g3 with⟨g3,g4,-⟩|⟨g3,g4⟩
    ·exact⟨g3,by rw[g4,hsum];omega⟩
    ·exact⟨g3,by rw[hsum]at g4;omega⟩
   ·rw[decide_eq_false hr,sel_ff]
    exact hcons (fun _=>by omega)
  ·rw[if_neg hlt,grd_t (by omega),grd_t (by omega),ob1_some,sel_ff]
   exact hcons (fun h=>absurd h hlt)
theorem dis3c {t:GTask}(hgood:goodF t=true)(es:List GEdge)(hes:∀ e∈es,EdgP t e)(hlen:es.length≤100000)(hal:(allF t).length≤512):∀ (S k:Nat)(d:List Int),DG t d→d.sum≤S→S+2≤k→∃ d',M_b_Distances_L3 t es k true d=some d'∧DG t d'∧∀ e∈es,Calm t d' e:=by
 intro S
 induction S with
 | zero =>
  intro k d hd hs hk
  obtain⟨k,rfl⟩:∃ j,k=j+2:=⟨k-2,by omega⟩
  obtain⟨b',d',g1,g2,g3⟩:=dis2c hgood es es 0 false d hes hd
  have hpos:=sum_pos d' (fun x hx=>(g2.all x hx).1)
  rcases g3 with⟨rfl,rfl,g5⟩|⟨-,g4⟩
  ·refine⟨d',?_,g2,g5⟩
   have hl:=g2.len
   rw[M_b_Distances_L3,sel_tt,M_b_Distances_L2_eq t es false d' (by omega),g1,ob1_some]
   simp only
   rw[M_b_Distances_L3,sel_ff,grd_t (by omega)]
  ·omega
 | succ S ih =>
  intro k d hd hs hk
  obtain⟨k,rfl⟩:∃ j,k=j+2:=⟨k-2,by omega⟩
  obtain⟨b',d',g1,g2,g3⟩:=dis2c hgood es es 0 false d hes hd
  rw[M_b_Distances_L3,sel_tt,M_b_Distances_L2_eq t es false d (by omega),g1,ob1_some]
  simp only
  rcases g3 with⟨rfl,rfl,g5⟩|⟨rfl,g4⟩
  ·have hl:=g2.len
   exact⟨d',by rw[M_b_Distances_L3,sel_ff,grd_t (by omega)],g2,g5⟩
  ·exact ih (k+1) d' g2 (by omega) (by omega)
structure DFix (t:GTask)(d:List Int):Prop where
 g:DG t d
 step:∀ (i k:Nat) (s:List Int) (o:GOp) (x y:Int),(allF t)[i]?=some s→o∈t.Ops→holdsF s o.Pre=true→(allF t)[k]?=some (nextF s o)→d[k]?=some x→d[i]?=some y→x<infD→y≤x+o.Cost
theorem fix_eq {t:GTask}(hsm:smallF t=true)(g:Nat)(hg:1000000000000000000≤g)(u:List Int):∃ d,M_b_Distances g t u=some d∧DFix t d:=by
 have hgood:=(small_good hsm).1
 have hal:=allF_len t hsm
 obtain⟨es,h1,h2,h3,h4⟩:=edges_all hsm
 have hd0:DG t ((allF t).map fun s=>if holdsF s t.Goal=true then 0 else infD):=by
  refine⟨lM_ _,fun i s x hs hx=>?_,fun x hx hne=>?_⟩
  ·rw[List.getElem?_map,hs]at hx
   simp only[Option.map_some,Option.some.injEq]at hx
   subst hx
   by_cases hh:holdsF s t.Goal=true
   ·rw[if_pos hh];exact⟨by decide,by decide,fun _=>rfl⟩
   ·rw[if_neg hh];exact⟨by decide,by decide,fun h=>absurd h hh⟩
  ·obtain⟨s,-,rfl⟩:=List.mem_map.1 hx
   by_cases hh:holdsF s t.Goal=true
   ·rw[if_pos hh];omega
   ·rw[if_neg hh]at hne;exact absurd rfl hne
 have hsum:=sum_le infD _ (fun x hx=>(hd0.all x hx).2)
 rw[hd0.len]at hsum
 have hle:infD*((allF t).length:Int)≤infD*512:=Int.mul_le_mul_of_nonneg_left (by omega) (by decide)
 have hs2:((allF t).map fun s=>if holdsF s t.Goal=true then 0 else infD).sum≤(576460752303423488:Nat):=Int.le_trans hsum (Int.le_trans hle (by decide))
 obtain⟨d,e1,e2,e3⟩:=dis3c hgood es h3 h2 hal 576460752303423488 g _ hd0 hs2 (by omega)
 refine⟨d,?_,e2,fun i k s o x y hi ho hp hk hx hy hlt=>?_⟩
 ·have hrep:(List.replicate ((((allF t).map cL_cI).length:Int)).toNat (0:Int)).length=(allF t).length:=by rw[lR_,lM_,Int.toNat_natCast]
  have hd1:=dis1 hgood (allF t) 0 (List.replicate ((((allF t).map cL_cI).length:Int)).toNat 0) rfl hrep
  have hd1':Rg (M_b_Distances_L1_B t (allF t)) (M_b_Distances_L1_E t (allF t)) (allF t) 0 (List.replicate ((((allF t).map cL_cI).length:Int)).toNat 0)=_:=hd1
  have hlm:((allF t).map cL_cI).length=(allF t).length:=lM_ _
  rw[M_b_Distances,states_eq t hsm,ob1_some,grd_t (by omega),grd_t (by omega),M_b_Distances_L1_eq t (allF t) _ (by omega),hd1',List.take_zero,List.nil_append,ob1_some,h1,ob1_some]
  exact e1
 ·obtain⟨q,hq⟩:=List.getElem?_of_mem ho
  obtain⟨e,he,kk,hee,hkk⟩:=h4 i s q o hi hq hp
  have:=place_one hgood hk hkk
  subst this
  exact e3 e he i k q o x y hee hq hx hy hlt
end Go.Proofs.YtinnphmnhmdcgaaGreat.Am
namespace Go.Proofs.YtinnphmnhmdcgaaGreat.Am
end Go.Proofs.YtinnphmnhmdcgaaGreat.Am
namespace Go.Proofs.YtinnphmnhmdcgaaGreat.Am
open Go.RowKit
inductive Rch (t:GTask):List Int→Prop
 | init:Rch t t.Init
 | step {s:List Int} {o:GOp}:Rch t s→o∈t.Ops→holdsF s o.Pre=true→Rch t (nextF s o)
theorem Rch.state {t:GTask}(hg:goodF t=true){s:List Int}(h:Rch t s):stateF t.Vars s=true:=by
 induction h with
 | init=>exact good_init hg
 | step _ ho _ ih=>exact next_state hg ih ho
theorem Rch.alive {t:GTask}(F:Fit3 t){R:List (List Bool)}(h:MxR t R){s:List Int}(hr:Rch t s):Alive t R s:=by
 induction hr with
 | init=>exact fun a b ha hb=>h.init a b ha hb
 | step h1 ho hp ih =>
  have h2:=h1.state F.good
  exact alive_next F h.sy h.closed (stateF_st h2) (stateF_st (next_state F.good h2 ho)) ih ho hp
theorem statesG_prod : ∀ (r:List Int)(out:List (List Int)),(∀ k∈r,1≤k)→(statesG r out).length=out.length*prodN r
 | [],out,_=>by rw[statesG,prodN,Nat.mul_one]
 | k :: r,out,h=>by
  have:=h k (mS_ ..)
  rw[statesG,statesG_prod r _ fun x hx=>h x (mC_ _ hx),flat_ext_len,prodN,Nat.mul_assoc]
theorem allF_prod {t:GTask}(hg:goodF t=true):(allF t).length=prodN t.Vars:=by
 rw[allF,statesG_prod t.Vars [[]] fun k hk=>((good_vars hg).2.2 k hk).1,List.length_singleton,Nat.one_mul]
theorem many_small {t:GTask}(hsm:smallF t=true):manyF 65536 t.Vars 1=((allF t).length:Int):=by
 have hg:=(small_good hsm).1
 have hv:=(good_vars hg).2.2
 have hp:=allF_prod hg
 have hl:=allF_len t hsm
 have hm:=manyF_prod 65536 t.Vars 1 hv (by decide) (by decide)
 rw[show((65536:Nat):Int)=65536 from rfl,show((1:Nat):Int)=1 from rfl,Nat.one_mul]at hm
 rw[hm,if_pos (by omega),hp]
structure RInv (t:GTask)(b:List Bool):Prop where
 len:b.length=(allF t).length
 ok:∀ (i:Nat) (s:List Int),(allF t)[i]?=some s→b[i]?=some true→Rch t s
def fal (b:List Bool):Nat:=(b.filter fun x=>!x).length
theorem fal_set : ∀ (b:List Bool)(k:Nat),b[k]?=some false→fal (b.set k true)+1=fal b
 | [],k,h=>by simp at h
 | x :: b,0,h=>by
  simp at h
  subst h
  simp[fal]
 | x :: b,k+1,h=>by
  have:=fal_set b k (by simpa using h)
  unfold fal at this ⊢
  rw[List.set_cons_succ,List.filter_cons,List.filter_cons]
  split
  ·rw[lC_,lC_];omega
  ·exact this
theorem fal_le (b:List Bool):fal b≤b.length:=List.length_filter_le _ _
def Still (b:List Bool)(e:GEdge):Prop:=b[e.From.toNat]?=some true→b[e.To.toNat]?=some true
theorem rch1 {t:GTask}(es:List GEdge):∀ (r:List GEdge)(i:Int)(ch:Bool)(b:List Bool),(∀ e∈r,EdgP t e)→RInv t b →
  ∃ ch' b',Rg (M_b_Reached_L1_B es) (M_b_Reached_L1_E es) r i (ch,b)=some (ch',b')∧RInv t b'∧(∀ k:Nat,b[k]?=some true→b'[k]?=some true)∧fal b'≤fal b∧((ch'=ch∧b'=b∧∀ e∈r,Still b e)∨(ch'=true∧fal b'<fal b))
 | [],i,ch,b,_,hb=>⟨ch,b,rfl,hb,fun _ h=>h,Nat.le_refl _,.inl ⟨rfl,rfl,fun _ h=>nomatch h⟩⟩
 | e :: r,i,ch,b,he,hb=>by
  obtain⟨x,y,q,s,o,h1,h2,h3,h4,h5,h6,h7⟩:=(he e (mS_ ..)).ex
  have ih:=fun i ch b hb=>rch1 es r i ch b (fun u hu=>he u (mC_ _ hu)) hb
  have hlx:x<b.length:=by rw[hb.len];exact(gS_.1 h4).1
  have hly:y<b.length:=by rw[hb.len];exact(gS_.1 h5).1
  have gx:b[x]?=some (b[x]):=gE_ hlx
  have gy:b[y]?=some (b[y]):=gE_ hly
  rw[Rg,M_b_Reached_L1_B]
  simp only[ixv,h1,h2,Int.toNat_natCast,ixn_at gx,ixn_at gy]
  cases hx:b[x]with
  | false =>
   rw[sel_ff,grd_t (by omega),grd_t (by omega)]
   obtain⟨ch',b',e1,e2,e3,e4,e5⟩:=ih (i+1) ch b hb
   refine⟨ch',b',e1,e2,e3,e4,e5.imp (fun⟨a1,a2,a3⟩=>⟨a1,a2,fun u hu=>?_⟩) id⟩
   rcases List.mem_cons.1 hu with rfl|hu
   ·intro hc
    rw[h1,Int.toNat_natCast,gx,hx]at hc
    cases hc
   ·exact a3 u hu
  | true =>
   rw[sel_tt,grd_t (by omega),grd_t (by omega),grd_t (by omega),grd_t (by omega)]
   cases hy:b[y]with
   | true =>
    rw[Bool.not_true,sel_ff]
    obtain⟨ch',b',e1,e2,e3,e4,e5⟩:=ih (i+1) ch b hb
    refine⟨ch',b',e1,e2,e3,e4,e5.imp (fun⟨a1,a2,a3⟩=>⟨a1,a2,fun u hu=>?_⟩) id⟩
    rcases List.mem_cons.1 hu with rfl|hu
    ·intro _
     rw[h2,Int.toNat_natCast,gy,hy]
    ·exact a3 u hu
   | false =>
    rw[Bool.not_false,sel_tt]
    have hf:=fal_set b y (by rw[gy,hy])
    have hb':RInv t (b.set y true):=by
     refine⟨by rw[List.length_set];exact hb.len,fun k u hu hk=>?_⟩
     by_cases e:y=k
     ·subst e
      rw[h5]at hu
      obtain rfl:=sI_ hu
      exact .step (hb.ok x s h4 (by rw[gx,hx])) (mG_ h6) h7
     ·rw[List.getElem?_set_ne e]at hk
      exact hb.ok k u hu hk
    obtain⟨ch',b',e1,e2,e3,e4,e5⟩:=ih (i+1) true (b.set y true) hb'
    refine⟨ch',b',e1,e2,fun k hk=>e3 k ?_,by omega,.inr ?_⟩
    ·by_cases e:y=k
     ·subst e
      exact List.getElem?_set_self hly
     ·rw[List.getElem?_set_ne e];exact hk
    ·rcases e5 with⟨a1,a2,-⟩|⟨a1,a2⟩
     ·exact⟨a1,by rw[a2];omega⟩
     ·exact⟨a1,by omega⟩
theorem rch2 {t:GTask}(es:List GEdge)(hes:∀ e∈es,EdgP t e)(hlen:es.length≤100000)(hal:(allF t).length≤512):∀ (S k:Nat)(b:List Bool),RInv t b→fal b≤S→S+2≤k →
  ∃ b',M_b_Reached_L2 es k true b=some b'∧RInv t b'∧(∀ k:Nat,b[k]?=some true→b'[k]?=some true)∧∀ e∈es,Still b' e
 | S,k,b,hb,hS,hk=>by
  obtain⟨k,rfl⟩:∃ q,k=q+1:=⟨k-1,by omega⟩
  obtain⟨ch,b1,e1,e2,e3,e4,e5⟩:=rch1 es es 0 false b hes hb
  have hL:=M_b_Reached_L1_eq es false b (by omega)
  rw[e1]at hL
  rw[M_b_Reached_L2,sel_tt,hL,ob1_some]
  dsimp only
  obtain⟨k,rfl⟩:∃ q,k=q+1:=⟨k-1,by omega⟩
  rcases e5 with⟨rfl,rfl,a3⟩|⟨rfl,a2⟩
  ·have:=e2.len
   exact⟨b1,by rw[M_b_Reached_L2,sel_ff,grd_t (by omega)],e2,fun _ h=>h,a3⟩
  ·obtain⟨S,rfl⟩:∃ q,S=q+1:=⟨S-1,by omega⟩
   obtain⟨b',f1,f2,f3,f4⟩:=rch2 es hes hlen hal S (k+1) b1 e2 (by omega) (by omega)
   exact⟨b',f1,f2,fun q hq=>f3 q (e3 q hq),f4⟩
theorem marks_eq {t:GTask}(hsm:smallF t=true)(g:Nat)(hg:1000000≤g):∃ b,M_b_Reached g t t.Init=some b∧b.length=(allF t).length∧∀ (i:Nat)(s:List Int),(allF t)[i]?=some s→(b[i]?=some true↔Rch t s):=by
 have hgood:=(small_good hsm).1
 have hal:=allF_len t hsm
 have hin:=good_init hgood
 obtain⟨es,h1,h2,h3,h4⟩:=edges_all hsm
 obtain⟨k,r1,r2⟩:=rank_eq hsm hin
 have hk:k<(allF t).length:=(gS_.1 r2).1
 have hv:=good_vars hgood
 have hb0:RInv t ((List.replicate (allF t).length false).set k true):=by
  refine⟨by rw[List.length_set,lR_],fun i s hs hi=>?_⟩
  by_cases e:k=i
  ·subst e
   rw[r2]at hs
   obtain rfl:=sI_ hs
   exact .init
  ·rw[List.getElem?_set_ne e,List.getElem?_replicate]at hi
   split at hi <;> cases hi
 obtain⟨b,e1,e2,e3,e4⟩:=rch2 es h3 h2 hal 512 g _ hb0 (by have:=fal_le ((List.replicate (allF t).length false).set k true);rw[List.length_set,lR_]at this;omega) (by omega)
 have hget:(List.replicate (allF t).length false)[k]?=some false:=by rw[List.getElem?_replicate,if_pos hk]
 refine⟨b,?_,e2.len,fun i s hs=>⟨e2.ok i s hs,fun hr=>?_⟩⟩
 ·rw[M_b_Reached,many_eq t.Vars (by show _≤_;omega) 65536 (by decide),ob1_some,many_small hsm,grd_t (by omega),grd_t (by omega),r1,ob1_some,Int.toNat_natCast,Int.toNat_natCast,ixn_at hget,grd_t (by omega),grd_t (by omega),h1,ob1_some]
  exact e1
 ·have key:∀ s:List Int,Rch t s→∀ i:Nat,(allF t)[i]?=some s→b[i]?=some true:=by
   intro s hr
   induction hr with
   | init =>
    intro i hi
    obtain rfl:=place_one hgood hi r2
    exact e3 i (List.getElem?_set_self (by rw[lR_];exact hk))
   | @step s o hr ho hp ih =>
    intro i hi
    obtain⟨j,-,hj⟩:=rank_all (hr.state hgood)
    obtain⟨q,hq⟩:=List.getElem?_of_mem ho
    obtain⟨e,he,kk,hee,hkk⟩:=h4 j s q o hj hq hp
    obtain rfl:=place_one hgood hi hkk
    have:=e4 e he
    unfold Still at this
    rw[hee]at this
    simp only[Int.toNat_natCast]at this
    exact this (ih j hj)
  exact key s hr i hs
theorem rea_of {t:GTask}{R:List (List Bool)}{a:Fact}(ha:InV t.Vars a):reaF t R a=isF t R a a:=by rw[reaF,inV_iff.2 ha,Bool.true_and]
def M_l33_MutexPrunes_L1 (y1917:GOp)(y2074:Fact)(z16:GTable):Nat→Bool→Int→Option (Bool)|0,_,_=>none|k2083+1,v2081,v2082=>sel (decide (v2082<((y1917.Pre.map cF).length:Int))) (ix y1917.Pre v2082 (fun y2084=>sel v2081 (M_l33_MutexPrunes_L1 y1917 y2074 z16 k2083 true (IntKind.i64.wrap (v2082+1))) (ob1 (M_stratagem_mutex_Table_Together (some z16) y2074 y2084) (fun z2085=>M_l33_MutexPrunes_L1 y1917 y2074 z16 k2083 (!z2085) (IntKind.i64.wrap (v2082+1)))))) (some v2081)
def M_l33_MutexPrunes_L2 (y1917:GOp)(z16:GTable):Nat→Bool→Int→Option (Bool)|0,_,_=>none|k2059+1,v2057,v2058=>sel (decide (v2058<((y1917.Pre.map cF).length:Int))) (ob1 (ix y1917.Pre v2058 (fun y2074=>M_l33_MutexPrunes_L1 y1917 y2074 z16 ((((y1917.Pre.map cF).length:Int)).toNat+1) v2057 0):Option (Bool)) (fun v2072=>M_l33_MutexPrunes_L2 y1917 z16 k2059 v2072 (IntKind.i64.wrap (v2058+1)))) (some v2057)
def M_l33_MutexPrunes_L3 (a0:GTask)(z16:GTable):Nat→Int→(List GOp)→(List Int)→Option ((List GOp)×(List Int))|0,_,_,_=>none|k1744+1,v1741,v1742,v1743=>sel (decide (v1741<((a0.Ops.map cGOp).length:Int))) (ob1 (ix a0.Ops v1741 (fun y1917=>ob1 (M_l33_MutexPrunes_L2 y1917 z16 ((((y1917.Pre.map cF).length:Int)).toNat+1) false 0:Option (Bool)) (fun v2001=>sel (!v2001) (grd ((v1742.length+1)*72≤140737488355328) (grd ((v1743.length+1)*8≤140737488355328) (some ((v1742++[y1917]),(v1743++[v1741]))))) (some (v1742,v1743)))):Option ((List GOp)×(List Int))) (fun(v1914,v1915)=>M_l33_MutexPrunes_L3 a0 z16 k1744 (IntKind.i64.wrap (v1741+1)) v1914 v1915)) (some (v1742,v1743))
def M_l33_MutexPrunes_L4 (z2096:List Bool)(z2097:List Bool):Nat→Int→Option (Bool)|0,_=>none|k2104+1,v2103=>sel (decide (v2103<((z2096.map cB).length:Int))) (ix z2096 v2103 (fun y2105=>ix z2097 v2103 (fun y2106=>sel (!(y2105 == y2106)) (some false) (M_l33_MutexPrunes_L4 z2096 z2097 k2104 (IntKind.i64.wrap (v2103+1)))))) (some true)
def M_l33_MutexPrunes (g:Nat)(a0:GTask):Option (Bool):=ob1 (ob1 (M_l33_fit a0) (fun z7=>sel (!z7) (ob1 (M_l33_awake g) (fun z10=>some (.inr z10))) (ob1 (M_l33_awake g) (fun z8=>sel (!z8) (ob1 (M_l33_awake g) (fun z9=>some (.inr z9))) (some (.inl ()))))):Option (Unit⊕Bool)) (osum (fun _=>ob2 (M_mutex_New g a0) (fun z11 z12=>ob3 (M_mutex_Prune g a0) (fun z13 z14 z15=>opM z11 (none) (fun z16=>ob1 (erM z12 (erM z15 (some (.inl ())) (fun _=>some (.inr false))) (fun _=>some (.inr false)):Option (Unit⊕Bool)) (osum (fun _=>ob1 (M_l33_MutexPrunes_L3 a0 z16 ((((a0.Ops.map cGOp).length:Int)).toNat+1) 0 [] []:Option ((List GOp)×(List Int))) (fun(v1053,v1054)=>ob1 (grd (v1053.length≤140737488355328) (ob1 (M_b_Tasks z13 ({ Vars:=a0.Vars,Init:=a0.Init,Goal:=a0.Goal,Ops:=v1053:GTask })) (fun z2092=>sel (!z2092) (some (.inr false)) (grd (v1054.length≤140737488355328) (ob1 (M_b_Ints z14 v1054) (fun z2093=>sel (!z2093) (some (.inr false)) (ob1 (M_b_Best g z13) (fun z2094=>ob1 (M_b_Best g a0) (fun z2095=>sel (z2094 != z2095) (some (.inr false)) (some (.inl ())))))))))):Option (Unit⊕Bool)) (osum (fun _=>ob1 (M_b_Reached g a0 a0.Init) (fun z2096=>ob1 (M_b_Reached g z13 a0.Init) (fun z2097=>M_l33_MutexPrunes_L4 z2096 z2097 ((((z2096.map cB).length:Int)).toNat+1) 0))) (fun r2090=>some r2090)))) (fun r19=>some r19)))))) (fun r5=>some r5))
set_option maxHeartbeats 16000000 in
set_option maxRecDepth 100000 in
theorem A_l33_MutexPrunes (g:Nat)(a0:GTask){r1:Bool}(h:M_l33_MutexPrunes g a0=some r1):ACall cx 6 [.agg [.sl 1 (a0.Vars.map cI),.sl 1 (a0.Init.map cI),.sl 2 (a0.Goal.map cF),.sl 4 (a0.Ops.map cGOp)]] (.c (.bool r1)):=by
 refine aOf Tryz.func6 rfl (by decide) rfl (bT3 rfl) ?_;intro _;unfold M_l33_MutexPrunes at h;refine aSR ?_;intro _;refine dr ?_;obtain⟨o1,h,hK2⟩:=ob1_ok h;refine awp_cut (α:=Unit) (fun _=>mkS 137 [(1,.ptr 1 0 0 0)] [(1,⟨26,4,true,[[.sl 1 (a0.Vars.map cI),.sl 1 (a0.Init.map cI),.sl 2 (a0.Goal.map cF),.sl 4 (a0.Ops.map cGOp)]]⟩)]) (fun v=>o1=(.inl v)) ?_ ?_
 ·refine aSR ?_;intro _;obtain⟨z7,u3,h⟩:=ob1_ok h;refine cl rfl (A_l33_fit a0 u3) ?_;intro _;refine spf h (fun c4 h=>?_) (fun c4 h=>?_)
  ·intro _;obtain⟨z8,u5,h⟩:=ob1_ok h;refine cl rfl (A_l33_awake g u5) ?_;intro _;refine dr (aCd ?_);intro _;refine spl h (fun c6 h=>?_) (fun c6 h=>?_)
   ·refine aSR ?_;intro _;obtain⟨z9,u7,h⟩:=ob1_ok h;refine cl rfl (A_l33_awake g u7) ?_;intro _;refine dr (aRt ?_);have j8:=sI_ h;subst j8;replace h:=(osum_r hK2);intro _;obtain rfl:=inj1 h;exact ca_0
   ·refine aSk ?_;refine⟨(),(sI_ h).symm,?_⟩;exact ca_0
  ·intro _;refine dr (aCd ?_);intro _;refine litT (aSR ?_);intro _;obtain⟨z10,u9,h⟩:=ob1_ok h;refine cl rfl (A_l33_awake g u9) ?_;intro _;refine dr (aRt ?_);have j10:=sI_ h;subst j10;replace h:=(osum_r hK2);intro _;obtain rfl:=inj1 h;exact ca_0
 ·rintro _ ho;have ho:=ho.symm;subst ho;intro _;replace h:=(osum_l hK2);refine aSR ?_;intro _;obtain⟨z11,z12,u11,h⟩:=ob2_ok h;refine cl rfl (A_mutex_New g a0 u11) ?_;intro _;refine dr (aSR ?_);intro _;obtain⟨z13,z14,z15,u12,h⟩:=ob3_ok h;refine cl rfl (A_mutex_Prune g a0 u12) ?_;intro _;refine dr ?_;rcases z11 with _|z16
  ·replace h:=opM_none h;cases h
  ·replace h:=opM_some h;obtain⟨o13,h,hK14⟩:=ob1_ok h;refine awp_cut (α:=Unit) (fun _=>mkS 137 [(1,.ptr 1 0 0 0),(3,.pim [.sl 1 (z16.t.Vars.map cI),.sl 1 (z16.t.Init.map cI),.sl 2 (z16.t.Goal.map cF),.sl 4 (z16.t.Ops.map cGOp),.sl 1 (z16.first.map cI),.sl 1 (z16.reached.map cL_cB)] 0),(5,.ptr 5 0 0 0),(6,.sl 1 (z14.map cI))] [(1,⟨26,4,true,[[.sl 1 (a0.Vars.map cI),.sl 1 (a0.Init.map cI),.sl 2 (a0.Goal.map cF),.sl 4 (a0.Ops.map cGOp)]]⟩),(5,⟨26,4,true,[[.sl 1 (z13.Vars.map cI),.sl 1 (z13.Init.map cI),.sl 2 (z13.Goal.map cF),.sl 4 (z13.Ops.map cGOp)]]⟩)]) (fun v=>o13=(.inl v)) ?_ ?_
   ·refine aSq ?_;rcases z12 with _|e21
    ·replace h:=erM_nil h;rcases z15 with _|e22
     ·replace h:=erM_nil h;refine aRg ?_;intro _;refine litFf ?_;intro _;refine dr (aCd ?_);intro _;refine litF (aSk ?_);refine⟨(),(sI_ h).symm,?_⟩;exact ca_0
     ·replace h:=erM_no h;refine aRg ?_;intro _;refine litFf ?_;intro _;refine dr (aCd ?_);intro _;refine litT (aSR ?_);intro _;refine dr (aRt ?_);have j15:=sI_ h;subst j15;replace h:=(osum_r hK14);intro _;obtain rfl:=inj1 h;exact ca_0
    ·replace h:=erM_no h;refine aRg ?_;intro _;refine litTf ?_;intro _;refine dr (aCd ?_);intro _;refine litT (aSR ?_);intro _;refine dr (aRt ?_);have j16:=sI_ h;subst j16;replace h:=(osum_r hK14);intro _;obtain rfl:=inj1 h;exact ca_0
   ·rintro _ ho;have ho:=ho.symm;subst ho;intro _;replace h:=(osum_l hK14);refine aSR ?_;intro _;refine dr (aSR ?_);intro _;refine dr ?_;obtain⟨o17,h,hK18⟩:=ob1_ok h;refine awp_cut (α:=(List GOp)×(List Int)) (fun(v1053,v1054)=>mkS 137 [(1,.ptr 1 0 0 0),(5,.ptr 5 0 0 0),(6,.sl 1 (z14.map cI)),(8,.ptr 8 0 0 0),(9,.own 94 0 0 v1054.length)] [(1,⟨26,4,true,[[.sl 1 (a0.Vars.map cI),.sl 1 (a0.Init.map cI),.sl 2 (a0.Goal.map cF),.sl 4 (a0.Ops.map cGOp)]]⟩),(5,⟨26,4,true,[[.sl 1 (z13.Vars.map cI),.sl 1 (z13.Init.map cI),.sl 2 (z13.Goal.map cF),.sl 4 (z13.Ops.map cGOp)]]⟩),(8,⟨26,4,true,[[.sl 1 (a0.Vars.map cI),.sl 1 (a0.Init.map cI),.sl 2 (a0.Goal.map cF),.own 90 0 0 v1053.length]]⟩),(90,⟨60,4,false,v1053.map cGOp⟩),(94,⟨3,1,false,v1054.map cI⟩)]) (fun v=>o17=v) ?_ ?_
    ·refine aSR ?_;intro _;refine dr (aBk ?_);refine awp_loop (α:=Nat×Int×(List GOp)×(List Int)) (fun x=>mkS 137 [(1,.ptr 1 0 0 0),(3,.pim [.sl 1 (z16.t.Vars.map cI),.sl 1 (z16.t.Init.map cI),.sl 2 (z16.t.Goal.map cF),.sl 4 (z16.t.Ops.map cGOp),.sl 1 (z16.first.map cI),.sl 1 (z16.reached.map cL_cB)] 0),(5,.ptr 5 0 0 0),(6,.sl 1 (z14.map cI)),(8,.ptr 8 0 0 0),(9,.own 94 0 0 x.2.2.2.length),(53,.sl 4 (a0.Ops.map cGOp)),(54,.c (.int .i64 ((a0.Ops.map cGOp).length:Int))),(55,.c (.int .i64 x.2.1))] [(1,⟨26,4,true,[[.sl 1 (a0.Vars.map cI),.sl 1 (a0.Init.map cI),.sl 2 (a0.Goal.map cF),.sl 4 (a0.Ops.map cGOp)]]⟩),(5,⟨26,4,true,[[.sl 1 (z13.Vars.map cI),.sl 1 (z13.Init.map cI),.sl 2 (z13.Goal.map cF),.sl 4 (z13.Ops.map cGOp)]]⟩),(8,⟨26,4,true,[[.sl 1 (a0.Vars.map cI),.sl 1 (a0.Init.map cI),.sl 2 (a0.Goal.map cF),.own 90 0 0 x.2.2.1.length]]⟩),(90,⟨60,4,false,x.2.2.1.map cGOp⟩),(94,⟨3,1,false,x.2.2.2.map cI⟩)]) (fun x=>M_l33_MutexPrunes_L3 a0 z16 x.1 x.2.1 x.2.2.1 x.2.2.2=some o17) (fun x=>x.1) ((((a0.Ops.map cGOp).length:Int)).toNat+1,0,[],[]) h ?_ ?_
     ·exact ca_0
     ·intro x19 h;intro _;obtain⟨k1744,m20,h⟩:=succ_of (f:=fun n=>M_l33_MutexPrunes_L3 a0 z16 n x19.2.1 x19.2.2.1 x19.2.2.2) rfl h;replace h:M_l33_MutexPrunes_L3 a0 z16 (k1744+1) x19.2.1 x19.2.2.1 x19.2.2.2=some o17:=h;rw[M_l33_MutexPrunes_L3]at h;refine aSR ?_;intro _;refine dr (aSq (aCd ?_));intro _;refine spl h (fun c21 h=>?_) (fun c21 h=>?_)
      ·refine aSk ?_;obtain⟨o22,h,hK23⟩:=ob1_ok h;refine awp_cut (α:=(List GOp)×(List Int)) (fun(v1914,v1915)=>mkS 137 [(1,.ptr 1 0 0 0),(3,.pim [.sl 1 (z16.t.Vars.map cI),.sl 1 (z16.t.Init.map cI),.sl 2 (z16.t.Goal.map cF),.sl 4 (z16.t.Ops.map cGOp),.sl 1 (z16.first.map cI),.sl 1 (z16.reached.map cL_cB)] 0),(5,.ptr 5 0 0 0),(6,.sl 1 (z14.map cI)),(8,.ptr 8 0 0 0),(9,.own 94 0 0 v1915.length),(53,.sl 4 (a0.Ops.map cGOp)),(54,.c (.int .i64 ((a0.Ops.map cGOp).length:Int))),(55,.c (.int .i64 x19.2.1))] [(1,⟨26,4,true,[[.sl 1 (a0.Vars.map cI),.sl 1 (a0.Init.map cI),.sl 2 (a0.Goal.map cF),.sl 4 (a0.Ops.map cGOp)]]⟩),(5,⟨26,4,true,[[.sl 1 (z13.Vars.map cI),.sl 1 (z13.Init.map cI),.sl 2 (z13.Goal.map cF),.sl 4 (z13.Ops.map cGOp)]]⟩),(8,⟨26,4,true,[[.sl 1 (a0.Vars.map cI),.sl 1 (a0.Init.map cI),.sl 2 (a0.Goal.map cF),.own 90 0 0 v1914.length]]⟩),(90,⟨60,4,false,v1914.map cGOp⟩),(94,⟨3,1,false,v1915.map cI⟩)]) (fun v=>o22=v) ?_ ?_
       ·refine aBk (aSR ?_);intro _;obtain⟨y1917,w24,q25,h⟩:=ix_ok h;refine Exists.intro (cGOp y1917) (And.intro (map_at' w24) ?_);intro _;refine pr (dr (aSR ?_));intro _;refine dr ?_;obtain⟨o26,h,hK27⟩:=ob1_ok h;refine awp_cut (α:=Bool) (fun v2001=>mkS 137 [(1,.ptr 1 0 0 0),(3,.pim [.sl 1 (z16.t.Vars.map cI),.sl 1 (z16.t.Init.map cI),.sl 2 (z16.t.Goal.map cF),.sl 4 (z16.t.Ops.map cGOp),.sl 1 (z16.first.map cI),.sl 1 (z16.reached.map cL_cB)] 0),(5,.ptr 5 0 0 0),(6,.sl 1 (z14.map cI)),(8,.ptr 8 0 0 0),(9,.own 94 0 0 x19.2.2.2.length),(10,.c (.int .i64 x19.2.1)),(11,.ptr 11 0 0 0),(12,.c (.bool v2001)),(53,.sl 4 (a0.Ops.map cGOp)),(54,.c (.int .i64 ((a0.Ops.map cGOp).length:Int))),(55,.c (.int .i64 x19.2.1))] [(1,⟨26,4,true,[[.sl 1 (a0.Vars.map cI),.sl 1 (a0.Init.map cI),.sl 2 (a0.Goal.map cF),.sl 4 (a0.Ops.map cGOp)]]⟩),(5,⟨26,4,true,[[.sl 1 (z13.Vars.map cI),.sl 1 (z13.Init.map cI),.sl 2 (z13.Goal.map cF),.sl 4 (z13.Ops.map cGOp)]]⟩),(8,⟨26,4,true,[[.sl 1 (a0.Vars.map cI),.sl 1 (a0.Init.map cI),.sl 2 (a0.Goal.map cF),.own 90 0 0 x19.2.2.1.length]]⟩),(11,⟨60,4,true,[[.c (.string y1917.Name),.c (.int .i64 y1917.Cost),.sl 2 (y1917.Pre.map cF),.sl 3 (y1917.Effs.map cGEffect)]]⟩),(90,⟨60,4,false,x19.2.2.1.map cGOp⟩),(94,⟨3,1,false,x19.2.2.2.map cI⟩)]) (fun v=>o26=v) ?_ ?_
        ·refine aSR ?_;intro _;refine dr (aBk ?_);refine awp_loop (α:=Nat×Bool×Int) (fun x=>mkS 137 [(1,.ptr 1 0 0 0),(3,.pim [.sl 1 (z16.t.Vars.map cI),.sl 1 (z16.t.Init.map cI),.sl 2 (z16.t.Goal.map cF),.sl 4 (z16.t.Ops.map cGOp),.sl 1 (z16.first.map cI),.sl 1 (z16.reached.map cL_cB)] 0),(5,.ptr 5 0 0 0),(6,.sl 1 (z14.map cI)),(8,.ptr 8 0 0 0),(9,.own 94 0 0 x19.2.2.2.length),(10,.c (.int .i64 x19.2.1)),(11,.ptr 11 0 0 0),(12,.c (.bool x.2.1)),(53,.sl 4 (a0.Ops.map cGOp)),(54,.c (.int .i64 ((a0.Ops.map cGOp).length:Int))),(55,.c (.int .i64 x19.2.1)),(61,.sl 2 (y1917.Pre.map cF)),(62,.c (.int .i64 ((y1917.Pre.map cF).length:Int))),(63,.c (.int .i64 x.2.2))] [(1,⟨26,4,true,[[.sl 1 (a0.Vars.map cI),.sl 1 (a0.Init.map cI),.sl 2 (a0.Goal.map cF),.sl 4 (a0.Ops.map cGOp)]]⟩),(5,⟨26,4,true,[[.sl 1 (z13.Vars.map cI),.sl 1 (z13.Init.map cI),.sl 2 (z13.Goal.map cF),.sl 4 (z13.Ops.map cGOp)]]⟩),(8,⟨26,4,true,[[.sl 1 (a0.Vars.map cI),.sl 1 (a0.Init.map cI),.sl 2 (a0.Goal.map cF),.own 90 0 0 x19.2.2.1.length]]⟩),(11,⟨60,4,true,[[.c (.string y1917.Name),.c (.int .i64 y1917.Cost),.sl 2 (y1917.Pre.map cF),.sl 3 (y1917.Effs.map cGEffect)]]⟩),(90,⟨60,4,false,x19.2.2.1.map cGOp⟩),(94,⟨3,1,false,x19.2.2.2.map cI⟩)]) (fun x=>M_l33_MutexPrunes_L2 y1917 z16 x.1 x.2.1 x.2.2=some o26) (fun x=>x.1) ((((y1917.Pre.map cF).length:Int)).toNat+1,false,0) h ?_ ?_
         ·exact ca_0
         ·intro x28 h;intro _;obtain⟨k2059,m29,h⟩:=succ_of (f:=fun n=>M_l33_MutexPrunes_L2 y1917 z16 n x28.2.1 x28.2.2) rfl h;replace h:M_l33_MutexPrunes_L2 y1917 z16 (k2059+1) x28.2.1 x28.2.2=some o26:=h;rw[M_l33_MutexPrunes_L2]at h;refine aSR ?_;intro _;refine dr (aSq (aCd ?_));intro _;refine spl h (fun c30 h=>?_) (fun c30 h=>?_)
          ·refine aSk ?_;obtain⟨o31,h,hK32⟩:=ob1_ok h;refine awp_cut (α:=Bool) (fun v2072=>mkS 137 [(1,.ptr 1 0 0 0),(3,.pim [.sl 1 (z16.t.Vars.map cI),.sl 1 (z16.t.Init.map cI),.sl 2 (z16.t.Goal.map cF),.sl 4 (z16.t.Ops.map cGOp),.sl 1 (z16.first.map cI),.sl 1 (z16.reached.map cL_cB)] 0),(5,.ptr 5 0 0 0),(6,.sl 1 (z14.map cI)),(8,.ptr 8 0 0 0),(9,.own 94 0 0 x19.2.2.2.length),(10,.c (.int .i64 x19.2.1)),(11,.ptr 11 0 0 0),(12,.c (.bool v2072)),(53,.sl 4 (a0.Ops.map cGOp)),(54,.c (.int .i64 ((a0.Ops.map cGOp).length:Int))),(55,.c (.int .i64 x19.2.1)),(61,.sl 2 (y1917.Pre.map cF)),(62,.c (.int .i64 ((y1917.Pre.map cF).length:Int))),(63,.c (.int .i64 x28.2.2))] [(1,⟨26,4,true,[[.sl 1 (a0.Vars.map cI),.sl 1 (a0.Init.map cI),.sl 2 (a0.Goal.map cF),.sl 4 (a0.Ops.map cGOp)]]⟩),(5,⟨26,4,true,[[.sl 1 (z13.Vars.map cI),.sl 1 (z13.Init.map cI),.sl 2 (z13.Goal.map cF),.sl 4 (z13.Ops.map cGOp)]]⟩),(8,⟨26,4,true,[[.sl 1 (a0.Vars.map cI),.sl 1 (a0.Init.map cI),.sl 2 (a0.Goal.map cF),.own 90 0 0 x19.2.2.1.length]]⟩),(11,⟨60,4,true,[[.c (.string y1917.Name),.c (.int .i64 y1917.Cost),.sl 2 (y1917.Pre.map cF),.sl 3 (y1917.Effs.map cGEffect)]]⟩),(90,⟨60,4,false,x19.2.2.1.map cGOp⟩),(94,⟨3,1,false,x19.2.2.2.map cI⟩)]) (fun v=>o31=v) ?_ ?_
           ·refine aBk (aSR ?_);intro _;obtain⟨y2074,w33,q34,h⟩:=ix_ok h;refine Exists.intro (cF y2074) (And.intro (map_at' w33) ?_);intro _;refine pr (dr (aSR ?_));intro _;refine dr (aBk ?_);refine awp_loop (α:=Nat×Bool×Int) (fun x=>mkS 137 [(1,.ptr 1 0 0 0),(3,.pim [.sl 1 (z16.t.Vars.map cI),.sl 1 (z16.t.Init.map cI),.sl 2 (z16.t.Goal.map cF),.sl 4 (z16.t.Ops.map cGOp),.sl 1 (z16.first.map cI),.sl 1 (z16.reached.map cL_cB)] 0),(5,.ptr 5 0 0 0),(6,.sl 1 (z14.map cI)),(8,.ptr 8 0 0 0),(9,.own 94 0 0 x19.2.2.2.length),(10,.c (.int .i64 x19.2.1)),(11,.ptr 11 0 0 0),(12,.c (.bool x.2.1)),(14,.ptr 14 0 0 0),(53,.sl 4 (a0.Ops.map cGOp)),(54,.c (.int .i64 ((a0.Ops.map cGOp).length:Int))),(55,.c (.int .i64 x19.2.1)),(61,.sl 2 (y1917.Pre.map cF)),(62,.c (.int .i64 ((y1917.Pre.map cF).length:Int))),(63,.c (.int .i64 x28.2.2)),(68,.sl 2 (y1917.Pre.map cF)),(69,.c (.int .i64 ((y1917.Pre.map cF).length:Int))),(70,.c (.int .i64 x.2.2))] [(1,⟨26,4,true,[[.sl 1 (a0.Vars.map cI),.sl 1 (a0.Init.map cI),.sl 2 (a0.Goal.map cF),.sl 4 (a0.Ops.map cGOp)]]⟩),(5,⟨26,4,true,[[.sl 1 (z13.Vars.map cI),.sl 1 (z13.Init.map cI),.sl 2 (z13.Goal.map cF),.sl 4 (z13.Ops.map cGOp)]]⟩),(8,⟨26,4,true,[[.sl 1 (a0.Vars.map cI),.sl 1 (a0.Init.map cI),.sl 2 (a0.Goal.map cF),.own 90 0 0 x19.2.2.1.length]]⟩),(11,⟨60,4,true,[[.c (.string y1917.Name),.c (.int .i64 y1917.Cost),.sl 2 (y1917.Pre.map cF),.sl 3 (y1917.Effs.map cGEffect)]]⟩),(14,⟨39,2,true,[[.c (.int .i64 y2074.1),.c (.int .i64 y2074.2)]]⟩),(90,⟨60,4,false,x19.2.2.1.map cGOp⟩),(94,⟨3,1,false,x19.2.2.2.map cI⟩)]) (fun x=>M_l33_MutexPrunes_L1 y1917 y2074 z16 x.1 x.2.1 x.2.2=some o31) (fun x=>x.1) ((((y1917.Pre.map cF).length:Int)).toNat+1,x28.2.1,0) h ?_ ?_
            ·exact ca_0
            ·intro x35 h;intro _;obtain⟨k2083,m36,h⟩:=succ_of (f:=fun n=>M_l33_MutexPrunes_L1 y1917 y2074 z16 n x35.2.1 x35.2.2) rfl h;replace h:M_l33_MutexPrunes_L1 y1917 y2074 z16 (k2083+1) x35.2.1 x35.2.2=some o31:=h;rw[M_l33_MutexPrunes_L1]at h;refine aSR ?_;intro _;refine dr (aSq (aCd ?_));intro _;refine spl h (fun c37 h=>?_) (fun c37 h=>?_)
             ·refine aSk (aSq (aBk (aSR ?_)));intro _;obtain⟨y2084,w38,q39,h⟩:=ix_ok h;refine Exists.intro (cF y2084) (And.intro (map_at' w38) ?_);intro _;refine pr (dr (aRg ?_));intro _;refine spf h (fun c40 h=>?_) (fun c40 h=>?_)
              ·intro _;obtain⟨z2085,u41,h⟩:=ob1_ok h;refine cl rfl (A_stratagem_mutex_Table_Together (some z16) y2074 y2084 u41) ?_;intro _;refine dr (aRg ?_);intro _;refine dr ?_;refine⟨(k2083,(!z2085),(IntKind.i64.wrap (x35.2.2+1))),h,ltS m36,?_⟩;exact ca_0
              ·intro _;refine dr (aRg ?_);intro _;refine dr ?_;refine⟨(k2083,true,(IntKind.i64.wrap (x35.2.2+1))),h,ltS m36,?_⟩;exact ca_0
             ·refine aEx ?_;refine⟨x35.2.1,(sI_ h).symm,?_⟩;exact ca_0
           ·rintro v2072 ho;have ho:=ho.symm;subst ho;intro _;replace h:=hK32;refine aRg ?_;intro _;refine dr ?_;refine⟨(k2059,v2072,(IntKind.i64.wrap (x28.2.2+1))),h,ltS m29,?_⟩;exact ca_0
          ·refine aEx ?_;refine⟨x28.2.1,(sI_ h).symm,?_⟩;exact ca_0
        ·rintro v2001 ho;have ho:=ho.symm;subst ho;intro _;replace h:=hK27;refine aSR ?_;intro _;refine dr (aCd ?_);intro _;refine spl h (fun c42 h=>?_) (fun c42 h=>?_)
         ·refine aRg ?_;intro _;obtain⟨q43,h⟩:=grd_ok h;obtain⟨q44,h⟩:=grd_ok h;refine pl (pl ?_);refine And.intro (by first|with_reducible assumption|(show(x19.2.2.1.length+1)*72≤140737488355328;with_reducible assumption)|omega|(simp;omega)) ?_;refine pe (pl (pl ?_));refine And.intro (by first|with_reducible assumption|(show(x19.2.2.2.length+1)*8≤140737488355328;with_reducible assumption)|omega|(simp;omega)) ?_;refine pe (dr ?_);refine⟨((x19.2.2.1++[y1917]),(x19.2.2.2++[x19.2.1])),(sI_ h).symm,?_⟩;exact ca_0
         ·refine aSk ?_;refine⟨(x19.2.2.1,x19.2.2.2),(sI_ h).symm,?_⟩;exact ca_0
       ·rintro⟨v1914,v1915⟩ ho;have ho:=ho.symm;subst ho;intro _;replace h:=hK23;refine aRg ?_;intro _;refine dr ?_;refine⟨(k1744,(IntKind.i64.wrap (x19.2.1+1)),v1914,v1915),h,ltS m20,?_⟩;exact ca_0
      ·refine aEx ?_;refine⟨(x19.2.2.1,x19.2.2.2),(sI_ h).symm,?_⟩;exact ca_0
    ·rintro⟨v1053,v1054⟩ ho;have ho:=ho.symm;subst ho;intro _;replace h:=hK18;obtain⟨o45,h,hK46⟩:=ob1_ok h;refine awp_cut (α:=Unit) (fun _=>mkS 137 [(1,.ptr 1 0 0 0),(5,.ptr 5 0 0 0)] [(1,⟨26,4,true,[[.sl 1 (a0.Vars.map cI),.sl 1 (a0.Init.map cI),.sl 2 (a0.Goal.map cF),.sl 4 (a0.Ops.map cGOp)]]⟩),(5,⟨26,4,true,[[.sl 1 (z13.Vars.map cI),.sl 1 (z13.Init.map cI),.sl 2 (z13.Goal.map cF),.sl 4 (z13.Ops.map cGOp)]]⟩)]) (fun v=>o45=(.inl v)) ?_ ?_
     ·refine aSR ?_;intro _;obtain⟨q47,h⟩:=grd_ok h;obtain⟨z2092,u48,h⟩:=ob1_ok h;refine clb [90] rfl rfl (A_b_Tasks z13 ({ Vars:=a0.Vars,Init:=a0.Init,Goal:=a0.Goal,Ops:=v1053:GTask }) u48) ?_;intro _;refine spf h (fun c49 h=>?_) (fun c49 h=>?_)
      ·intro _;obtain⟨q50,h⟩:=grd_ok h;obtain⟨z2093,u51,h⟩:=ob1_ok h;refine clb [94] rfl rfl (A_b_Ints z14 v1054 u51) ?_;intro _;refine spf h (fun c52 h=>?_) (fun c52 h=>?_)
       ·intro _;obtain⟨z2094,u53,h⟩:=ob1_ok h;refine cl rfl (A_b_Best g z13 u53) ?_;intro _;obtain⟨z2095,u54,h⟩:=ob1_ok h;refine cl rfl (A_b_Best g a0 u54) ?_;intro _;refine dr (aCd ?_);intro _;refine spl h (fun c55 h=>?_) (fun c55 h=>?_)
        ·refine aSR ?_;intro _;refine dr (aRt ?_);have j56:=sI_ h;subst j56;replace h:=(osum_r hK46);intro _;obtain rfl:=inj1 h;exact ca_0
        ·refine aSk ?_;refine⟨(),(sI_ h).symm,?_⟩;exact ca_0
       ·intro _;refine dr (aCd ?_);intro _;refine litT (aSR ?_);intro _;refine dr (aRt ?_);have j57:=sI_ h;subst j57;replace h:=(osum_r hK46);intro _;obtain rfl:=inj1 h;exact ca_0
      ·intro _;refine dr (aCd ?_);intro _;refine litT (aSR ?_);intro _;refine dr (aRt ?_);have j58:=sI_ h;subst j58;replace h:=(osum_r hK46);intro _;obtain rfl:=inj1 h;exact ca_0
     ·rintro _ ho;have ho:=ho.symm;subst ho;intro _;replace h:=(osum_l hK46);refine aSR ?_;intro _;obtain⟨z2096,u59,h⟩:=ob1_ok h;refine cl rfl (A_b_Reached g a0 a0.Init u59) ?_;intro _;obtain⟨z2097,u60,h⟩:=ob1_ok h;refine cl rfl (A_b_Reached g z13 a0.Init u60) ?_;intro _;refine dr (aSq (aSR ?_));intro _;refine dr (aBk ?_);refine awp_loop (α:=Nat×Int) (fun x=>mkS 137 [(17,.sl 1 (z2096.map cB)),(18,.sl 1 (z2097.map cB)),(123,.c (.int .i64 ((z2096.map cB).length:Int))),(124,.c (.int .i64 x.2))] []) (fun x=>M_l33_MutexPrunes_L4 z2096 z2097 x.1 x.2=some r1) (fun x=>x.1) ((((z2096.map cB).length:Int)).toNat+1,0) h ?_ ?_
      ·exact ca_0
      ·intro x61 h;intro _;obtain⟨k2104,m62,h⟩:=succ_of (f:=fun n=>M_l33_MutexPrunes_L4 z2096 z2097 n x61.2) rfl h;replace h:M_l33_MutexPrunes_L4 z2096 z2097 (k2104+1) x61.2=some r1:=h;rw[M_l33_MutexPrunes_L4]at h;refine aSR ?_;intro _;refine dr (aSq (aCd ?_));intro _;refine spl h (fun c63 h=>?_) (fun c63 h=>?_)
       ·refine aSk (aSq (aBk (aSR ?_)));intro _;refine dr (aSR ?_);intro _;obtain⟨y2105,w64,q65,h⟩:=ix_ok h;refine Exists.intro (cB y2105) (And.intro (map_at' w64) ?_);intro _;obtain⟨y2106,w66,q67,h⟩:=ix_ok h;refine Exists.intro (cB y2106) (And.intro (map_at' w66) ?_);intro _;refine pr (pr (dr (aCd ?_)));intro _;refine spl h (fun c68 h=>?_) (fun c68 h=>?_)
        ·refine aSR ?_;intro _;refine dr (aRt ?_);intro _;obtain rfl:=inj1 h;exact ca_0
        ·refine aSk (aRg ?_);intro _;refine dr ?_;refine⟨(k2104,(IntKind.i64.wrap (x61.2+1))),h,ltS m62,?_⟩;exact ca_0
       ·refine aEx (aSR ?_);intro _;refine dr (aRt ?_);intro _;obtain rfl:=inj1 h;exact ca_0
end Go.Proofs.YtinnphmnhmdcgaaGreat.Am
namespace Go.Proofs.YtinnphmnhmdcgaaGreat.Am
def M_l33_MutexPrunes_L1_B (_:GOp)(y2074:Fact)(z16:GTable)(_y2084:Fact)(_:Int):((Bool))→(((Bool))→Option (Bool))→Option (Bool):=fun v2081 rc=>ixv _y2084 (fun y2084=>sel v2081 (rc (true)) (ob1 (M_stratagem_mutex_Table_Together (some z16) y2074 y2084) (fun z2085=>rc ((!z2085)))))
def M_l33_MutexPrunes_L1_E (_:GOp)(_:Fact)(_:GTable):((Bool))→Option (Bool):=fun v2081=>some v2081
theorem M_l33_MutexPrunes_L1_eq (y1917:GOp)(y2074:Fact)(z16:GTable)(v2081:Bool)(hl:y1917.Pre.length<9223372036854775807):M_l33_MutexPrunes_L1 y1917 y2074 z16 (((y1917.Pre.map cF).length:Int).toNat+1) v2081 0=Rg (M_l33_MutexPrunes_L1_B y1917 y2074 z16) (M_l33_MutexPrunes_L1_E y1917 y2074 z16) y1917.Pre 0 v2081:=rg_e1 (L:=fun k i v2081=>M_l33_MutexPrunes_L1 y1917 y2074 z16 k v2081 i) hl (fun _ _ _=>rfl) v2081
def M_l33_MutexPrunes_L2_B (y1917:GOp)(z16:GTable)(_y2074:Fact)(_:Int):((Bool))→(((Bool))→Option (Bool))→Option (Bool):=fun v2057 rc=>ob1 (ixv _y2074 (fun y2074=>M_l33_MutexPrunes_L1 y1917 y2074 z16 ((((y1917.Pre.map cF).length:Int)).toNat+1) v2057 0):Option (Bool)) (fun v2072=>rc (v2072))
def M_l33_MutexPrunes_L2_E (_:GOp)(_:GTable):((Bool))→Option (Bool):=fun v2057=>some v2057
theorem M_l33_MutexPrunes_L2_eq (y1917:GOp)(z16:GTable)(v2057:Bool)(hl:y1917.Pre.length<9223372036854775807):M_l33_MutexPrunes_L2 y1917 z16 (((y1917.Pre.map cF).length:Int).toNat+1) v2057 0=Rg (M_l33_MutexPrunes_L2_B y1917 z16) (M_l33_MutexPrunes_L2_E y1917 z16) y1917.Pre 0 v2057:=rg_e2 (L:=fun k i v2057=>M_l33_MutexPrunes_L2 y1917 z16 k v2057 i) hl (fun k n p y hy h1 h2=>by first|(simp only[M_l33_MutexPrunes_L2,M_l33_MutexPrunes_L2_B,lM_,decide_lt h1,sel,ix_at hy,ixv,h2];done)|(simp only[lM_]at h1 hy;(simp only[M_l33_MutexPrunes_L2,M_l33_MutexPrunes_L2_B,lM_,decide_lt h1,sel,ix_at hy,ixv,h2];done))) (fun k p=>by simp only[M_l33_MutexPrunes_L2,M_l33_MutexPrunes_L2_E,lM_,decide_ge,sel]) v2057
def M_l33_MutexPrunes_L3_B (_:GTask)(z16:GTable)(_y1917:GOp)(v1741:Int):((List GOp)×(List Int))→(((List GOp)×(List Int))→Option ((List GOp)×(List Int)))→Option ((List GOp)×(List Int)):=fun(v1742,v1743) rc=>ob1 (ixv _y1917 (fun y1917=>ob1 (M_l33_MutexPrunes_L2 y1917 z16 ((((y1917.Pre.map cF).length:Int)).toNat+1) false 0:Option (Bool)) (fun v2001=>sel (!v2001) (grd ((v1742.length+1)*72≤140737488355328) (grd ((v1743.length+1)*8≤140737488355328) (some ((v1742++[y1917]),(v1743++[v1741]))))) (some (v1742,v1743)))):Option ((List GOp)×(List Int))) (fun(v1914,v1915)=>rc (v1914,v1915))
def M_l33_MutexPrunes_L3_E (_:GTask)(_:GTable):((List GOp)×(List Int))→Option ((List GOp)×(List Int)):=fun(v1742,v1743)=>some (v1742,v1743)
theorem M_l33_MutexPrunes_L3_eq (a0:GTask)(z16:GTable)(v1742:List GOp)(v1743:List Int)(hl:a0.Ops.length<9223372036854775807):M_l33_MutexPrunes_L3 a0 z16 (((a0.Ops.map cGOp).length:Int).toNat+1) 0 v1742 v1743=Rg (M_l33_MutexPrunes_L3_B a0 z16) (M_l33_MutexPrunes_L3_E a0 z16) a0.Ops 0 (v1742,v1743):=rg_e2 (L:=fun k i p=>match p with|(v1742,v1743)=>M_l33_MutexPrunes_L3 a0 z16 k i v1742 v1743) hl (fun k n p y hy h1 h2=>by first|(simp only[M_l33_MutexPrunes_L3,M_l33_MutexPrunes_L3_B,lM_,decide_lt h1,sel,ix_at hy,ixv,h2];done)|(simp only[lM_]at h1 hy;(simp only[M_l33_MutexPrunes_L3,M_l33_MutexPrunes_L3_B,lM_,decide_lt h1,sel,ix_at hy,ixv,h2];done))) (fun k p=>by simp only[M_l33_MutexPrunes_L3,M_l33_MutexPrunes_L3_E,lM_,decide_ge,sel]) (v1742,v1743)
def M_l33_MutexPrunes_L4_B (_:List Bool)(z2097:List Bool)(_y2105:Bool)(v2103:Int):Unit→(Unit→Option (Bool))→Option (Bool):=fun _ rc=>ixv _y2105 (fun y2105=>ix z2097 v2103 (fun y2106=>sel (!(y2105 == y2106)) (some false) (rc ())))
def M_l33_MutexPrunes_L4_E (_:List Bool)(_:List Bool):Unit→Option (Bool):=fun _=>some true
theorem M_l33_MutexPrunes_L4_eq (z2096:List Bool)(z2097:List Bool)  (hl:z2096.length<9223372036854775807):M_l33_MutexPrunes_L4 z2096 z2097 (((z2096.map cB).length:Int).toNat+1) 0=Rg (M_l33_MutexPrunes_L4_B z2096 z2097) (M_l33_MutexPrunes_L4_E z2096 z2097) z2096 0 ():=rg_e1 (L:=fun k i _=>M_l33_MutexPrunes_L4 z2096 z2097 k i) hl (fun _ _ _=>rfl) ()
end Go.Proofs.YtinnphmnhmdcgaaGreat.Am
namespace Go.Proofs.YtinnphmnhmdcgaaGreat.Am
open Go.RowKit
def cutT (t:GTask)(R:List (List Bool)):GTask:={ Vars:=t.Vars,Init:=t.Init,Goal:=t.Goal,Ops:=t.Ops.filter fun o=>okF t R o.Pre }
def idxG (t:GTask)(R:List (List Bool)):List GOp→Int→List Int
 | [],_=>[]
 | o :: r,i=>(if okF t R o.Pre=true then[i]else[])++idxG t R r (i+1)
theorem idxG_len (t:GTask)(R:List (List Bool)):∀ (r:List GOp)(i:Int),(idxG t R r i).length≤r.length
 | [],_=>Nat.le_refl _
 | o :: r,i=>by
  have:=idxG_len t R r (i+1)
  rw[idxG,lA_,lC_]
  split <;> simp <;> omega
section
variable {t : GTask} (F : Fit3 t) {R : List (List Bool)} (h : MxR t R)
include F h
theorem pre_hold {o:GOp}(ho:o∈t.Ops):M_stratagem_mutex_Table_mutex (tbl t R) o.Pre=some (!okF t R o.Pre):=by
 have oo:=good_op F.good ho
 have hl:=propF_len' oo.pre
 have hv:=F.vlen
 rw[M_stratagem_mutex_Table_mutex,mholds_eq (tb_of F.sz h.rk) h.sy (inV_at oo.pre) (by omega),ob1_some]
 rfl
theorem prune1 (u:GTask):∀ (r:List GOp)(i:Int)(v:List GOp)(w:List Int),(∀ o∈r,o∈t.Ops)→v.length+r.length≤1000→w.length+r.length≤1000→Rg (M_mutex_Prune_L1_B u (tbl t R)) (M_mutex_Prune_L1_E u (tbl t R)) r i (v,w)=some ({ Vars:=u.Vars,Init:=u.Init,Goal:=u.Goal,Ops:=v++r.filter fun o=>okF t R o.Pre },w++idxG t R r i,Er.nil)
 | [],i,v,w,_,hv,hw=>by
  rw[lN_]at hv hw
  rw[Rg,M_mutex_Prune_L1_E]
  rw[grd_t (by omega),grd_t (by omega),List.filter_nil,List.append_nil,idxG,List.append_nil]
 | o :: r,i,v,w,hr,hv,hw=>by
  rw[lC_]at hv hw
  have hr':∀ o∈r,o∈t.Ops:=fun x hx=>hr x (mC_ _ hx)
  rw[Rg,M_mutex_Prune_L1_B]
  dsimp only[ixv]
  rw[pre_hold F h (hr o (mS_ ..)),ob1_some,Bool.not_not,List.filter_cons,idxG]
  cases okF t R o.Pre with
  | true =>
   rw[sel_tt,grd_t (by omega),grd_t (by omega),prune1 u r (i+1) _ _ hr' (by rw[lA_,List.length_singleton];omega) (by rw[lA_,List.length_singleton];omega),if_pos rfl,if_pos rfl,List.append_assoc,List.append_assoc]
   rfl
  | false =>
   rw[sel_ff,prune1 u r (i+1) v w hr' (by omega) (by omega),if_neg (by decide),if_neg (by decide),List.nil_append]
theorem prune_eq {g:Nat}(hn:M_mutex_New g t=some (some (tbl t R),Er.nil)):M_mutex_Prune g t=some (cutT t R,idxG t R t.Ops 0,Er.nil):=by
 have ho:=F.ops
 rw[M_mutex_Prune,hn,ob2_some,erM,copied_eq F.good,ob1_some,opM,M_mutex_Prune_L1_eq t (tbl t R) [] [] (by show t.Ops.length<_;omega)]
 have:=prune1 F h t t.Ops 0 [] [] (fun _ h=>h) (by rw[lN_];omega) (by rw[lN_];omega)
 rw[List.nil_append,List.nil_append]at this
 exact this
omit F h in
theorem tog_pre {p:List Fact}(hp:propF t.Vars (-1) p=true):okF t R p=p.all fun a=>p.all fun b=>togF t R a b:=by
 obtain⟨hv,hr⟩:=(propF_iff t.Vars p (-1)).1 hp
 have hasc:=((vF_iff' p).1 hv).2
 have hin:=inV_at hp
 rw[Bool.eq_iff_iff,okF_iff,List.all_eq_true]
 simp only[List.all_eq_true]
 constructor
 ·intro hk a ha b hb
  rw[togF,rea_of (hin a ha),rea_of (hin b hb),hk a ha a ha,hk b hb b hb,hk a ha b hb]
  by_cases e:a=b
  ·simp[e]
  ·have:a.1≠b.1:=fun h=>e (asc_inj hasc ha hb h)
   simp[this]
 ·intro hk a ha b hb
  have h1:=hk a ha b hb
  unfold togF at h1
  rw[rea_of (hin a ha),rea_of (hin b hb)]at h1
  simp only[bA_,Bool.or_eq_true,decide_eq_true_iff]at h1
  rcases h1.2.2 with e|⟨-,e⟩
  ·rw[← e];exact h1.1
  ·exact e
theorem bad_eq {o:GOp}(ho:o∈t.Ops):M_l33_MutexPrunes_L2 o (tbl t R) (((o.Pre.map cF).length:Int).toNat+1) false 0=some (!okF t R o.Pre):=by
 have oo:=good_op F.good ho
 have hl:=propF_len' oo.pre
 have hv:=F.vlen
 rw[M_l33_MutexPrunes_L2_eq o (tbl t R) false (by omega),rg_any (q:=fun a=>o.Pre.any fun b=>!togF t R a b),M_l33_MutexPrunes_L2_E,tog_pre oo.pre,Bool.false_or,List.not_all_eq_any_not]
 ·congr 2
  funext a
  rw[List.not_all_eq_any_not]
 ·intro a ha i v rc
  rw[M_l33_MutexPrunes_L2_B,ixv,M_l33_MutexPrunes_L1_eq o a (tbl t R) v (by omega),rg_any (q:=fun b=>!togF t R a b),M_l33_MutexPrunes_L1_E,ob1_some]
  intro b hb i v rc
  rw[M_l33_MutexPrunes_L1_B,ixv,together_eq F.sz h.rk,ob1_some]
  cases v <;> rfl
theorem pru3 : ∀ (r:List GOp)(i:Int)(v:List GOp)(w:List Int),(∀ o∈r,o∈t.Ops)→v.length+r.length≤1000→w.length+r.length≤1000→Rg (M_l33_MutexPrunes_L3_B t (tbl t R)) (M_l33_MutexPrunes_L3_E t (tbl t R)) r i (v,w)=some (v++r.filter (fun o=>okF t R o.Pre),w++idxG t R r i)
 | [],i,v,w,_,hv,hw=>by
  rw[Rg,M_l33_MutexPrunes_L3_E]
  rw[List.filter_nil,List.append_nil,idxG,List.append_nil]
 | o :: r,i,v,w,hr,hv,hw=>by
  rw[lC_]at hv hw
  have hr':∀ o∈r,o∈t.Ops:=fun x hx=>hr x (mC_ _ hx)
  rw[Rg,M_l33_MutexPrunes_L3_B]
  dsimp only[ixv]
  rw[bad_eq F h (hr o (mS_ ..)),ob1_some,Bool.not_not,List.filter_cons,idxG]
  cases okF t R o.Pre with
  | true =>
   rw[sel_tt,grd_t (by omega),grd_t (by omega),ob1_some]
   dsimp only
   rw[pru3 r (i+1) _ _ hr' (by rw[lA_,List.length_singleton];omega) (by rw[lA_,List.length_singleton];omega),if_pos rfl,if_pos rfl,List.append_assoc,List.append_assoc]
   rfl
  | false =>
   rw[sel_ff,ob1_some]
   dsimp only
   rw[pru3 r (i+1) v w hr' (by omega) (by omega),if_neg (by decide),if_neg (by decide),List.nil_append]
omit h in
theorem cut_good : goodF (cutT t R)=true:=by
 have hg:=F.good
 unfold goodF at hg ⊢
 simp only[bA_,decide_eq_true_iff,List.all_eq_true]at hg ⊢
 obtain⟨⟨g1,g2⟩,g3,g4,g5,g6⟩:=hg
 exact⟨⟨g1,Nat.le_trans (List.length_filter_le _ _) g2⟩,g3,g4,g5,fun o ho=>g6 o (List.mem_filter.1 ho).1⟩
omit h in
theorem cut_small : smallF (cutT t R)=true:=by
 have hs:=F.small
 unfold smallF at hs ⊢
 simp only[bA_,decide_eq_true_iff,List.all_eq_true]at hs ⊢
 obtain⟨⟨g1,g2⟩,g3,-,g5⟩:=hs
 exact⟨⟨g1,Nat.le_trans (List.length_filter_le _ _) g2⟩,fun o ho=>g3 o (List.mem_filter.1 ho).1,cut_good F,g5⟩
omit F h in
theorem alive_pre {s:List Int}(ha:Alive t R s){o:GOp}(ho:o∈t.Ops)(hp:holdsF s o.Pre=true):o∈(cutT t R).Ops :=
 List.mem_filter.2 ⟨ho,okF_iff.2 fun a h1 b h2=>ha a b (holdsF_iff.1 hp a h1) (holdsF_iff.1 hp b h2)⟩
theorem cut_rch {s:List Int}:Rch t s↔Rch (cutT t R) s:=by
 constructor
 ·intro hr
  induction hr with
  | init=>exact .init
  | step h1 ho hp ih=>exact .step ih (alive_pre (h1.alive F h) ho hp) hp
 ·intro hr
  induction hr with
  | init=>exact .init
  | step _ ho hp ih=>exact .step ih (List.mem_filter.1 ho).1 hp
omit h in
theorem cost_nn {o:GOp}(ho:o∈t.Ops):0≤o.Cost:=by
 have hg:=F.good
 unfold goodF at hg
 simp only[bA_,List.all_eq_true]at hg
 have:=hg.2.2.2.2 o ho
 unfold opF at this
 simp only[bA_,decide_eq_true_iff]at this
 exact this.1.1
theorem best_same (g:Nat)(hg:1000000000000000000≤g):∃ x,M_b_Best g t=some x∧M_b_Best g (cutT t R)=some x:=by
 have hsm:=F.small
 have hsu:=cut_small F (R:=R)
 have hgood:=F.good
 obtain⟨dt,a1,a2⟩:=fix_eq hsm g hg []
 obtain⟨du,b1,b2⟩:=fix_eq hsu g hg []
 have hin:=good_init hgood
 obtain⟨k,r1,r2⟩:=rank_eq hsm hin
 have hku:M_b_Rank (cutT t R).Vars (cutT t R).Init=some (k:Int):=r1
 have haf:allF (cutT t R)=allF t:=rfl
 have hk:k<(allF t).length:=(gS_.1 r2).1
 have lt':=a2.g.len
 have lu:=b2.g.len
 rw[haf]at lu
 have gt:dt[k]?=some (dt[k]'(by omega)):=gE_ _
 have gu:du[k]?=some (du[k]'(by omega)):=gE_ _
 have c1:dt[k]'(by omega)≤du[k]'(by omega):=by
  obtain⟨d,e1,e2⟩:=dis_eq hsu (Q:=fun s v=>∀ (i:Nat) (y:Int),(allF t)[i]?=some s→dt[i]?=some y→y≤v) ⟨fun s hs hh i y hi hy=>by
   have:=(a2.g.ok i s y hi hy).2.2 hh
   omega,fun s hs o ho hp x hx hq i y hi hy=>by
   obtain⟨j,-,hj⟩:=rank_all (next_state hgood ((allF_mem t s).1 hs) (List.mem_filter.1 ho).1)
   have hjl:j<dt.length:=by rw[lt'];exact(gS_.1 hj).1
   have hz:=hq j _ hj (gE_ hjl)
   have hc:=cost_nn F (List.mem_filter.1 ho).1
   by_cases hlt:dt[j]<infD
   ·have:=a2.step i j s o _ y hi (List.mem_filter.1 ho).1 hp hj (gE_ hjl) hy hlt
    omega
   ·have:=(a2.g.ok i s y hi hy).2.1
    omega⟩ g hg []
  rw[b1]at e1
  obtain rfl:=sI_ e1
  have hd:=e2.ok k t.Init _ r2 gu
  by_cases he:du[k]'(by omega)=infD
  ·have:=(a2.g.ok k t.Init _ r2 gt).2.1
   omega
  ·exact hd.2.2 he k _ r2 gt
 have c2:du[k]'(by omega)≤dt[k]'(by omega):=by
  obtain⟨d,e1,e2⟩:=dis_eq hsm (Q:=fun s v=>Rch t s→∀ (i:Nat) (y:Int),(allF t)[i]?=some s→du[i]?=some y→y≤v) ⟨fun s hs hh _ i y hi hy=>by
   have:=(b2.g.ok i s y hi hy).2.2 hh
   omega,fun s hs o ho hp x hx hq hr i y hi hy=>by
   obtain⟨j,-,hj⟩:=rank_all (next_state hgood ((allF_mem t s).1 hs) ho)
   have hjl:j<du.length:=by rw[lu];exact(gS_.1 hj).1
   have hz:=hq (.step hr ho hp) j _ hj (gE_ hjl)
   have hc:=cost_nn F ho
   have hou:=alive_pre (hr.alive F h) ho hp
   by_cases hlt:du[j]<infD
   ·have:=b2.step i j s o _ y hi hou hp hj (gE_ hjl) hy hlt
    omega
   ·have:=(b2.g.ok i s y hi hy).2.1
    omega⟩ g hg []
  rw[a1]at e1
  obtain rfl:=sI_ e1
  have hd:=e2.ok k t.Init _ r2 gt
  by_cases he:dt[k]'(by omega)=infD
  ·have:=(b2.g.ok k t.Init _ r2 gu).2.1
   omega
  ·exact hd.2.2 he .init k _ r2 gu
 have hxt:ix dt (k:Int) (fun y3=>some y3)=some (dt[k]'(by omega)):=ix_at gt
 have hxu:ix du (k:Int) (fun y3=>some y3)=some (du[k]'(by omega)):=ix_at gu
 refine⟨dt[k]'(by omega),by rw[M_b_Best,a1,ob1_some,r1,ob1_some,hxt],?_⟩
 rw[M_b_Best,b1,ob1_some,hku,ob1_some,hxu]
 congr 1
 omega
omit F h in
theorem ints_loop (l:List Int):∀ (r:List Int)(n:Nat),l.drop n=r→Rg (M_b_Ints_L1_B l l) (M_b_Ints_L1_E l l) r n ()=some true
 | [],n,_=>rfl
 | x :: r,n,hd=>by
  obtain⟨h1,h2,h3⟩:=drop_cons hd
  rw[Rg,M_b_Ints_L1_B]
  simp only[ixv,ix_at h1]
  rw[show(x != x)=false from by simp,sel_ff]
  exact ints_loop l r (n+1) h2
omit F h in
theorem ints_self (l:List Int)(hl:Sh l):M_b_Ints l l=some true:=by
 rw[M_b_Ints,show(((l.map cI).length:Int) != ((l.map cI).length:Int))=false from by simp,sel_ff,M_b_Ints_L1_eq l l hl.lt]
 exact ints_loop l l 0 rfl
omit F h in
theorem effs_loop (l:List GEffect)(hs:∀ e∈l,Sh e.When):∀ (r:List GEffect)(n:Nat),l.drop n=r→Rg (M_b_Effects_L1_B l l) (M_b_Effects_L1_E l l) r n ()=some true
 | [],n,_=>rfl
 | x :: r,n,hd=>by
  obtain⟨h1,h2,h3⟩:=drop_cons hd
  rw[Rg,M_b_Effects_L1_B]
  simp only[ixv,ix_at h1]
  rw[show(x.Var != x.Var)=false from by simp,sel_ff,show(x.Val != x.Val)=false from by simp,sel_ff,bfacts_eq x.When x.When (hs x (mG_ h1)),ob1_some,decide_eq_true rfl,Bool.not_true,sel_ff]
  exact effs_loop l hs r (n+1) h2
omit F h in
theorem effs_self (l:List GEffect)(hl:Sh l)(hs:∀ e∈l,Sh e.When):M_b_Effects l l=some true:=by
 rw[M_b_Effects,show(((l.map cGEffect).length:Int) != ((l.map cGEffect).length:Int))=false from by simp,sel_ff,M_b_Effects_L1_eq l l hl.lt]
 exact effs_loop l hs l 0 rfl
omit F h in
theorem tasks_loop (u:GTask)(hu:ShT u):∀ (r:List GOp)(n:Nat),u.Ops.drop n=r→Rg (M_b_Tasks_L1_B u u) (M_b_Tasks_L1_E u u) r n ()=some true
 | [],n,_=>rfl
 | x :: r,n,hd=>by
  obtain⟨h1,h2,h3⟩:=drop_cons hd
  have ho:=hu.op x (mG_ h1)
  rw[Rg,M_b_Tasks_L1_B]
  simp only[ixv,ix_at h1]
  rw[show(x.Name.toList == x.Name.toList)=true from by simp,Bool.not_true,sel_ff,show(x.Cost != x.Cost)=false from by simp,sel_ff,bfacts_eq x.Pre x.Pre ho.pre,ob1_some,decide_eq_true rfl,Bool.not_true,sel_ff,effs_self x.Effs ho.effs ho.when,ob1_some,Bool.not_true,sel_ff]
  exact tasks_loop u hu r (n+1) h2
omit F h in
theorem tasks_self (u:GTask)(hu:ShT u):M_b_Tasks u u=some true:=by
 rw[M_b_Tasks,ints_self _ hu.vars,ob1_some,Bool.not_true,sel_ff,ints_self _ hu.init,ob1_some,Bool.not_true,sel_ff,bfacts_eq _ _ hu.goal,ob1_some,decide_eq_true rfl,Bool.not_true,sel_ff,show(((u.Ops.map cGOp).length:Int) != ((u.Ops.map cGOp).length:Int))=false from by simp,sel_ff,ob1_some,osum_inl,M_b_Tasks_L1_eq u u hu.ops.lt]
 exact tasks_loop u hu u.Ops 0 rfl
omit F h in
theorem pru4 {a b:List Bool}(hab:a=b):∀ (r:List Bool)(n:Nat),a.drop n=r→Rg (M_l33_MutexPrunes_L4_B a b) (M_l33_MutexPrunes_L4_E a b) r n ()=some true
 | [],n,_=>rfl
 | x :: r,n,hd=>by
  obtain⟨h1,h2,h3⟩:=drop_cons hd
  have h4:=h1
  rw[hab]at h4
  rw[Rg,M_l33_MutexPrunes_L4_B]
  simp only[ixv,ix_at h4]
  rw[show(x == x)=true from by simp,Bool.not_true,sel_ff]
  exact pru4 hab r (n+1) h2
end
theorem prunes_true (g:Nat)(hg:1000000000000000000≤g)(t:GTask)(ht:ShT t):M_l33_MutexPrunes g t=some true:=by
 rw[M_l33_MutexPrunes]
 refine law_head ht g (by omega) fun F=>?_
 obtain⟨R,h1,h,-⟩:=new_eq F ht g (by omega) (Q:=fun _=>True) (fun _ _ _ _ _ _ _ _=>trivial) (fun _ _ _ _=>trivial)
 obtain⟨x,x1,x2⟩:=best_same F h g hg
 obtain⟨b,b1,b2,b3⟩:=marks_eq F.small g (by omega)
 obtain⟨c,c1,c2,c3⟩:=marks_eq (cut_small F (R:=R)) g (by omega)
 have haf:allF (cutT t R)=allF t:=rfl
 rw[haf]at c2 c3
 have hbc:b=c:=by
  refine List.ext_getElem? fun i=>?_
  by_cases hi:i<(allF t).length
  ·have hs:(allF t)[i]?=some ((allF t)[i]):=gE_ hi
   have e1:=b3 i _ hs
   have e2:=c3 i _ hs
   rw[← cut_rch F h,← e1]at e2
   have gb:b[i]?=some (b[i]'(by omega)):=gE_ _
   have gc:c[i]?=some (c[i]'(by omega)):=gE_ _
   rw[gb,gc]at e2 ⊢
   simp only[Option.some.injEq]at e2 ⊢
   exact(Bool.eq_iff_iff.2 e2).symm
  ·rw[List.getElem?_eq_none (by omega),List.getElem?_eq_none (by omega)]
 have ho:=F.ops
 have hal:=allF_len t F.small
 have hi:=idxG_len t R t.Ops 0
 have hf:(t.Ops.filter fun o=>okF t R o.Pre).length≤t.Ops.length:=List.length_filter_le _ _
 have e3:=pru3 F h t.Ops 0 [] [] (fun _ h=>h) (by rw[lN_];omega) (by rw[lN_];omega)
 rw[List.nil_append,List.nil_append]at e3
 have hsh:ShT (cutT t R):=⟨ht.vars,ht.init,ht.goal,Nat.le_trans hf ht.ops,fun o ho=>ht.op o (List.mem_filter.1 ho).1⟩
 have hts:M_b_Tasks (cutT t R) { Vars:=t.Vars,Init:=t.Init,Goal:=t.Goal,Ops:=t.Ops.filter fun o=>okF t R o.Pre }=some true:=tasks_self _ hsh
 have hmc:M_b_Reached g (cutT t R) t.Init=some c:=c1
 have e4:=pru4 hbc b 0 rfl
 rw[show((0:Nat):Int)=0 from rfl]at e4
 rw[h1,ob2_some,prune_eq F h h1,ob3_some,opM,erM,erM,ob1_some,osum_inl,M_l33_MutexPrunes_L3_eq _ _ _ _ (by omega),e3,ob1_some]
 dsimp only
 rw[grd_t (by omega),hts,ob1_some,Bool.not_true,sel_ff,grd_t (by omega),ints_self _ (by show _≤_;omega),ob1_some,Bool.not_true,sel_ff,x2,ob1_some,x1,ob1_some,show(x != x)=false from by simp,sel_ff,ob1_some,osum_inl,b1,ob1_some,hmc,ob1_some,M_l33_MutexPrunes_L4_eq _ _ (by omega),e4]
end Go.Proofs.YtinnphmnhmdcgaaGreat.Am
namespace Go.Proofs.YtinnphmnhmdcgaaGreat
open Go.RowKit Go.ChangeShapes Go.WideShapes Go.Deep Go.Joins
def I64 (x:Int):Prop:=-9223372036854775808≤x∧x≤9223372036854775807
theorem I64.of {x:Int}(h:(Lit.int .i64 x).wf=true):I64 x:=by
 have:=bounds_i64 h
 exact this
section
variable {H : Type} {enc : TypeId × Value → H} {P : Program} {w : World} {base : Nat} {spare : Nat → Bool} {held : Bool}
def Sized (P:Program)(t:TypeId)(d:DataW H):Prop:=∀ n∈d.weights P t,n≤reachBytes
theorem sized_arg {ts:List TypeId}{ds:List (DataW H)}(h:(DataW.weightsEach P ts ds).all (·≤reachBytes)=true){j:Nat}{t:TypeId}{d:DataW H}(ht:ts[j]?=some t)(hd:ds[j]?=some d):Sized P t d :=
 fun n hn=>of_decide_eq_true (List.all_eq_true.1 h n (DataW.weights_mem_each ht hd n hn))
theorem sized_field {t:TypeId}{fs:Array Field}{parts:List (DataW H)}(h:Sized P t (.agg parts))(hu:P.underlying t=some (.struct fs)){j:Nat}{f:Field}{d:DataW H}(hf:fs[j]?=some f)(hd:parts[j]?=some d):Sized P f.type d :=
 fun n hn=>h n (by
  simp only[DataW.weights,hu]
  exact DataW.weights_mem_each (j:=j) (by simp[List.getElem?_map,hf]) hd n hn)
theorem weightsAll_mem {e:TypeId}:∀ {l:List (DataW H)}{d:DataW H},d∈l→∀ n∈d.weights P e,n∈DataW.weightsAll P e l
 | x :: l,d,hd,n,hn=>by
  simp only[DataW.weightsAll,List.mem_append]
  rcases List.mem_cons.1 hd with rfl|h
  ·exact Or.inl hn
  ·exact Or.inr (weightsAll_mem h n hn)
theorem sized_elem {t e:TypeId}{elems sp:List (DataW H)}(h:Sized P t (.slice elems sp))(hu:P.underlying t=some (.slice e)){d:DataW H}(hd:d∈elems):Sized P e d :=
 fun n hn=>h n (by
  simp only[DataW.weights,hu,List.mem_cons,List.mem_append]
  exact Or.inr (Or.inl (weightsAll_mem hd n hn)))
theorem sized_len {t e:TypeId}{elems sp:List (DataW H)}(h:Sized P t (.slice elems sp))(hu:P.underlying t=some (.slice e)):elems.length*P.bytesOf e≤140737488355328:=by
 have h1:=h ((elems.length+sp.length)*P.bytesOf e) (by simp[DataW.weights,hu])
 have h2:elems.length*P.bytesOf e≤(elems.length+sp.length)*P.bytesOf e:=Nat.mul_le_mul_right _ (by omega)
 have h3:reachBytes≤140737488355328:=by decide
 omega
end
theorem spot_of_cell {w:World}{p:Addr}{v:Value}(h:w.cell? p=some v):p.spot=none:=by
 unfold World.cell? at h
 split at h
 ·split at h
  ·cases h
  ·rename_i hs;simpa using hs
 ·cases h
theorem addr_of_cell {w:World}{a:Addr}{k:Nat}{v:Value}(h0:∃ u,w.cell? (a.add 0)=some u)(h:w.cell? (a.add k)=some v):a=⟨a.block,a.off,none⟩∧w.cell? ⟨a.block,a.off+k,none⟩=some v:=by
 obtain⟨u,hu⟩:=h0
 have hs:=spot_of_cell hu
 obtain⟨b,off,sp⟩:=a
 simp[Addr.add]at hs
 subst hs
 refine⟨rfl,?_⟩
 rw[← h]
 congr 1
 unfold Addr.add
 split
 ·subst k;rfl
 ·rfl
theorem list_of {α:Type}(n:Nat)(R:Nat→α→Prop)(h:∀ i,i<n→∃ x,R i x):∃ l:List α,l.length=n∧∀ k x,l[k]?=some x→R k x:=by
 induction n with
 | zero=>exact⟨[],rfl,fun k x hx=>by simp at hx⟩
 | succ n ih =>
  obtain⟨l,hl,hr⟩:=ih (fun i hi=>h i (by omega))
  obtain⟨x,hx⟩:=h n (by omega)
  refine⟨l++[x],by simp[hl],fun k y hy=>?_⟩
  by_cases hk:k<n
  ·rw[List.getElem?_append_left (by omega)]at hy
   exact hr k y hy
  ·rw[List.getElem?_append_right (by omega)]at hy
   have hk':k-l.length=0:=by
    have:=(gS_.1 hy).1
    simp at this
    omega
   rw[hk']at hy
   simp at hy
   subst hy
   obtain rfl:k=n:=by omega
   exact hx
variable {H : Type} {enc : TypeId × Value → H} {w : World} {base : Nat} {spare : Nat → Bool} {held : Bool}
end Go.Proofs.YtinnphmnhmdcgaaGreat
namespace Go.Proofs.YtinnphmnhmdcgaaGreat.Am
open Go.RowKit Go.ChangeShapes Go.WideShapes Go.Deep Go.Joins
abbrev mZ : MM:=mO (fun _=>False)
theorem noZ (b:Nat):¬ Owned nov mZ b:=fun h=>owned_nov.1 h
section
variable {H : Type} {enc : TypeId × Value → H} {P : Program} {w : World} {base : Nat} {spare : Nat → Bool} {held : Bool}
def CellsRv (w:World)(es:List AV)(cs:List Value):Prop:=es.length=cs.length∧(∀ (j:Nat) (y:AV) (u:Value),es[j]?=some y→cs[j]?=some u→RV w nov mZ y u∧u.oneCell'=true)∧∀ y∈es,Fr y
def Opens (enc:TypeId×Value→H)(P:Program)(w:World)(base:Nat)(spare:Nat→Bool)(held:Bool)(t:TypeId){α:Type}(en:α→List AV)(R:α→Prop):Prop :=
 ∀ (fuel:Nat) (cs:List Value) (x:DataW H×List MemPlace),DataW.trod enc P w base spare held fuel t cs=some x→Sized P t x.1→∃ a,R a∧CellsRv w (en a) cs
theorem cells_one1 {y:AV}{u:Value}(h:RV w nov mZ y u)(h1:u.oneCell'=true)(hf:Fr y):CellsRv w [y] [u]:=by
 refine⟨rfl,fun j z v hz hv=>?_,fun z hz=>by simp at hz;subst hz;exact hf⟩
 cases j with
 | zero=>simp at hz hv;subst hz hv;exact⟨h,h1⟩
 | succ j=>simp at hz
theorem opens_int {t:TypeId}{k:IntKind}(ht:P.underlying t=some (.int k)):Opens enc P w base spare held t (fun z:Int=>[.c (.int k z)]) (fun z=>(Lit.int k z).wf=true):=by
 intro fuel cs x h _
 obtain⟨z,rfl,_,wz⟩:=DataW.trod_int ht h
 exact⟨z,wz,cells_one1 (.c _) rfl (.c _)⟩
theorem opens_slice {t e:TypeId}{α:Type}{en:α→List AV}{R:α→Prop}{sz by_:Nat}(ht:P.underlying t=some (.slice e))(hc:P.cellsOf e=sz)(hb:P.bytesOf e=by_)(hby:0<by_)(hsz:0<sz)(he:Opens enc P w base spare held e en R) :
  Opens enc P w base spare held t (fun l:List α=>[.sl sz (l.map en)]) (fun l=>l.length*by_≤140737488355328∧∀ x∈l,R x):=by
 intro fuel cs x h hs
 rcases open_slice ht h with⟨rfl,_⟩|⟨a,len,cap,m,n,D,Pl,rfl,_,hl,hm,hmm,rfl,hi⟩
 ·refine⟨[],⟨by simp,by simp⟩,cells_one1 ?_ rfl (.sl (fun e he=>by cases he))⟩
  exact RV.sl (l:=[]) (b:=0) (off:=0) (f:=fun _ _=>undef) (fun h=>absurd rfl h) (Nat.zero_le _) (by simp) (fun k e h=>by simp at h) (fun k j e x h=>by simp at h) (fun k j e x h=>by simp at h) (fun e he=>by cases he)
 ·have hlen:=sized_len hs ht
  rw[hb]at hlen
  simp only[lM_,List.length_range]at hlen
  have hml:len≤m:=by rw[hmm];split <;> omega
  have hcell:∀ i,i<len→∃ z:α,R z∧∃ cs',CellsRv w (en z) cs'∧cs'.length=sz∧∀ j,j<sz→w.cell? (a.add (i*sz+j))=cs'[j]?:=by
   intro i hi'
   obtain⟨cs',hcc,ht'⟩:=hi i (by omega)
   rw[hc]at hcc
   obtain⟨z,hz,hcr⟩:=he n cs' _ ht' (sized_elem hs ht (List.mem_map.2 ⟨i,by simpa using hi',rfl⟩))
   obtain⟨_,hcl',hat⟩:=World.cells?_some hcc
   exact⟨z,hz,cs',hcr,hcl',fun j hj=>by rw[← hat j hj,Go.Deep.add_add]⟩
  obtain⟨l,hl',hat⟩:=list_of len _ hcell
  have hR:∀ x∈l,R x:=fun x hx=>by
   obtain⟨k,hk⟩:=List.getElem?_of_mem hx
   exact(hat k x hk).1
  have hfr:FrL (l.map en):=by
   intro e he
   obtain⟨x,hx,rfl⟩:=List.mem_map.1 he
   obtain⟨k,hk⟩:=List.getElem?_of_mem hx
   obtain⟨_,cs',hcr,_⟩:=hat k x hk
   exact hcr.2.2
  refine⟨l,⟨by rw[hl'];exact hlen,hR⟩,cells_one1 ?_ rfl (.sl hfr)⟩
  have key:∀ (k j:Nat) (e:List AV) (y:AV),(l.map en)[k]?=some e→e[j]?=some y→e.length=sz∧∃ u,w.cell? ⟨a.block,a.off+(k*sz+j),none⟩=some u∧u.oneCell'=true∧RV w nov mZ y u∧a=⟨a.block,a.off,none⟩∧a.block<w.heap.size:=by
   intro k j e y hk hj
   rw[List.getElem?_map]at hk
   cases hx:l[k]? with
   | none=>rw[hx]at hk;cases hk
   | some z =>
    rw[hx]at hk
    simp at hk
    subst hk
    obtain⟨_,cs',⟨c1,c2,_⟩,c4,c5⟩:=hat k z hx
    have hjl:j<sz:=by rw[← c4,← c1];exact(gS_.1 hj).1
    have hcj:=c5 j hjl
    have hget:cs'[j]?=some (cs'[j]'(by omega)):=gE_ _
    rw[hget]at hcj
    obtain⟨r1,r2⟩:=c2 j y _ hj hget
    have h0:0<len:=by have:=(gS_.1 hx).1;omega
    obtain⟨_,_,cs0,⟨_,_,_⟩,d4,d5⟩:=hcell 0 h0
    have hz0:=d5 0 hsz
    rw[gE_ (by omega)]at hz0
    obtain⟨e1,e2⟩:=addr_of_cell ⟨_,by simpa using hz0⟩ hcj
    exact⟨by rw[c1,c4],_,e2,r2,r1,e1,lt_of_cell (p:=⟨a.block,a.off+(k*sz+j),none⟩) e2⟩
  have hlen2:(l.map en).length=len:=by simp[hl']
  have:=RV.sl (w:=w) (vs:=nov) (m:=mZ) (sz:=sz) (l:=l.map en) (A:=some a) (cap:=cap) (b:=a.block) (off:=a.off) (f:=fun k j=>(w.cell? ⟨a.block,a.off+(k*sz+j),none⟩).getD undef)
   (fun hne=>?_) (by omega) (by rw[hlen2];exact Nat.le_trans (Nat.le_mul_of_pos_right _ hby) hlen) (fun k e hk=>?_) (fun k j e y hk hj=>?_) (fun k j e y hk hj=>?_) hfr
  ·rw[hlen2]at this
   exact this
  ·have h0:0<(l.map en).length:=List.length_pos_iff.2 hne
   have hk:=gE_ h0
   obtain⟨x0,hx0,hx0'⟩:∃ x0,l[0]?=some x0∧(l.map en)[0]=en x0:=by
    have h1:0<l.length:=by simpa using h0
    exact⟨l[0],gE_ h1,by simp⟩
   obtain⟨_,cs',⟨c1,_,_⟩,c4,_⟩:=hat 0 x0 hx0
   have hel:0<((l.map en)[0]).length:=by rw[hx0',c1,c4];exact hsz
   obtain⟨_,_,_,_,_,q1,q2⟩:=key 0 0 _ _ hk (gE_ hel)
   exact⟨by rw[← q1],noZ _,q2⟩
  ·rw[List.getElem?_map]at hk
   cases hx:l[k]? with
   | none=>rw[hx]at hk;cases hk
   | some z =>
    rw[hx]at hk
    simp at hk
    subst hk
    obtain⟨_,cs',⟨c1,_,_⟩,c4,_⟩:=hat k z hx
    rw[c1,c4]
  ·obtain⟨_,u,q1,q2,_⟩:=key k j e y hk hj
   rw[q1]
   exact⟨rfl,q2⟩
  ·obtain⟨_,u,q1,_,q3,_⟩:=key k j e y hk hj
   rw[q1]
   exact q3
def OpensF (enc:TypeId×Value→H)(P:Program)(w:World)(base:Nat)(spare:Nat→Bool)(held:Bool)(fs:List Field)(off tot:Nat){α:Type}(en:α→List AV)(R:α→Prop):Prop :=
 ∀ (fuel:Nat) (cs:List Value) (xs:List (DataW H×List MemPlace)),cs.length=tot→xs.length=fs.length→(∀ (i:Nat) (f:Field),fs[i]?=some f→DataW.trod enc P w base spare held fuel f.type ((cs.drop f.offset).take (P.cellsOf f.type))=xs[i]?) →
  (∀ (i:Nat) (f:Field) (x:DataW H×List MemPlace),fs[i]?=some f→xs[i]?=some x→Sized P f.type x.1)→∃ a,R a∧CellsRv w (en a) (cs.drop off)
theorem cells_append {a b:List AV}{xs ys:List Value}(h1:CellsRv w a xs)(h2:CellsRv w b ys):CellsRv w (a++b) (xs++ys):=by
 refine⟨by rw[lA_,lA_,h1.1,h2.1],fun j y u hy hu=>?_,fun y hy=>?_⟩
 ·rcases Nat.lt_or_ge j a.length with hlt|hge
  ·rw[List.getElem?_append_left hlt]at hy
   rw[List.getElem?_append_left (by rw[← h1.1];exact hlt)]at hu
   exact h1.2.1 j y u hy hu
  ·rw[List.getElem?_append_right hge]at hy
   rw[List.getElem?_append_right (by rw[← h1.1];exact hge)]at hu
   rw[h1.1]at hy
   exact h2.2.1 _ y u hy hu
 ·rcases List.mem_append.1 hy with h|h
  ·exact h1.2.2 y h
  ·exact h2.2.2 y h
theorem opensF_last {f:Field}{off tot:Nat}{α:Type}{en:α→List AV}{R:α→Prop}(ho:f.offset=off)(htot:off+P.cellsOf f.type=tot)(h:Opens enc P w base spare held f.type en R):OpensF enc P w base spare held [f] off tot en R:=by
 intro fuel cs xs hcl hx ht hs
 obtain⟨x,rfl⟩:=List.length_eq_one_iff.1 hx
 have h1:=ht 0 f rfl
 obtain⟨a,ha,hc⟩:=h fuel _ x h1 (hs 0 f x rfl rfl)
 refine⟨a,ha,?_⟩
 rw[ho,List.take_of_length_le (by simp;omega)]at hc
 exact hc
theorem opensF_cons {f:Field}{fs:List Field}{off off' tot:Nat}{α β:Type}{en:α→List AV}{R:α→Prop}{en':β→List AV}{R':β→Prop}(ho:f.offset=off)(hoff:off+P.cellsOf f.type=off')(h:Opens enc P w base spare held f.type en R)(h':OpensF enc P w base spare held fs off' tot en' R') :
  OpensF enc P w base spare held (f :: fs) off tot (fun p:α×β=>en p.1++en' p.2) (fun p=>R p.1∧R' p.2):=by
 intro fuel cs xs hcl hx ht hs
 cases xs with
 | nil=>simp at hx
 | cons x xs =>
  obtain⟨a,ha,hc⟩:=h fuel _ x (ht 0 f rfl) (hs 0 f x rfl rfl)
  obtain⟨b,hb,hc'⟩:=h' fuel cs xs hcl (by simpa using hx) (fun i g hg=>by simpa using ht (i+1) g (by simpa using hg)) (fun i g y hg hy=>hs (i+1) g y (by simpa using hg) (by simpa using hy))
  refine⟨(a,b),⟨ha,hb⟩,?_⟩
  rw[ho]at hc
  have:cs.drop off=(cs.drop off).take (P.cellsOf f.type)++cs.drop off':=by
   rw[← hoff,← List.drop_drop,List.take_append_drop]
  rw[this]
  exact cells_append hc hc'
theorem opens_struct {t:TypeId}{fs:Array Field}{α:Type}{en:α→List AV}{R:α→Prop}(ht:P.underlying t=some (.struct fs))(h:OpensF enc P w base spare held fs.toList 0 (P.cellsOf t) en R):Opens enc P w base spare held t en R:=by
 intro fuel cs x hx hs
 obtain⟨xs,n,_,rfl,hcl,hxl,hf⟩:=DataW.trod_struct ht hx
 obtain⟨a,ha,hc⟩:=h n cs xs hcl (by simpa using hxl) (fun i f hi=>hf i f (by simpa using hi)) (fun i f y hi hy=>sized_field hs ht (j:=i) (by simpa using hi) (by simp[List.getElem?_map,hy]))
 exact⟨a,ha,by simpa using hc⟩
theorem agg_rv {es:List AV}{us:Array Value}(h:CellsRv w es us.toList):RV w nov mZ (.agg es) (.agg us) :=
 .agg (by rw[h.1];simp) (fun j y u hy hu=>(h.2.1 j y u hy (by simpa using hu)).1)
end
end Go.Proofs.YtinnphmnhmdcgaaGreat.Am
namespace Go.Proofs.YtinnphmnhmdcgaaGreat
open Go.RowKit Go.WideShapes Go.ChangeShapes Go.ChangeAt
section
variable {H : Type} {enc : TypeId × Value → H} {P : Program}
theorem post_of_below {f:Func}{s:ChangeSpec}{apart fresh handsOn again:Bool}{W W':World}{args:Array Value}{v:Value}{ds gs:List (DataW H)}{before pa pv:List MemPlace}
  (hW:DataW.Whole enc P f.params.toList s.vars apart W args.toList ds gs before)
  (hres:∀ (b:Nat) (sp:Nat→Bool) (hd:Bool),DataW.TrodAll enc P W' b sp hd f.resultTypes.toList (v.resultList f.resultTypes.size) (s.fn H (ds++gs)).results [])
  (hargs:∀ sp:Nat→Bool,(∀ p∈before,sp p.block=true)→DataW.TrodAll enc P W' 0 sp true f.params.toList args.toList (s.fn H (ds++gs)).args pa)
  (hvars:∀ sp:Nat→Bool,(∀ p∈before,sp p.block=true)→DataW.TrodVars enc P W' sp s.vars (s.fn H (ds++gs)).vars pv)
  (hps:before=pa++pv) (hb:Below W.heap.size W W')
  (hok:∀ (j:Nat) (t:TypeId) (r:Value),f.resultTypes[j]?=some t→(v.resultList f.resultTypes.size)[j]?=some r→Value.okWide P W' .any 0 t r) :
  s.post enc P f apart fresh handsOn again W args v W':=by
 have hlt:∀ p∈before,p.block<W.heap.size:=fun p hp=>hW.lt p hp
 have hold:∀ p∈before,(fun b=>decide (b<W.heap.size)) p.block=true:=fun p hp=>by simpa using hlt p hp
 refine⟨ds,gs,before,[],pa,pv,hW,hres _ _ _,hargs _ hold,hvars _ hold,World.keptBut_mono (fun p hp=>⟨hp,?_⟩) (hb.frame (·∈before)),fun _=>?_⟩
 ·rw[hps,List.mem_append]at hp
  exact Or.inr hp
 ·obtain⟨_,_,_,_,_,hz,hn⟩:=hW
  refine⟨hok,_,_,([]++pa)++pv,⟨[]++pa,pv,trodAll_append (hargs _ (fun _ _=>rfl)) (hres _ _ _),hvars _ (fun _ _=>rfl),rfl,?_,?_⟩,?_⟩
  ·intro b off hp
   have hin:MemPlace.cell b off∈before:=by rw[hps];simpa using hp
   rw[hb.frozen (hlt _ hin)]
   exact hz b off hin
  ·intro ha
   have:=hn ha
   rw[hps]at this
   simpa using this
  ·intro p hp _
   rw[hps]
   simpa using hp
theorem trodAll_keep (hl:laidOutB P=true){W W':World}(hb:Below W.heap.size W W')(sp:Nat→Bool)(ts:List TypeId):∀ (vs:List Value)(ds:List (DataW H))(ps:List MemPlace),(∀ t∈ts,P.readableRec t=true∧t<P.types.size) →
  DataW.TrodAll enc P W 0 (fun _=>true) true ts vs ds ps→(∀ x∈ps,x.block<W.heap.size)→(∀ x∈ps,sp x.block=true)→DataW.TrodAll enc P W' 0 sp true ts vs ds ps:=by
 induction ts with
 | nil =>
  intro vs ds ps _ h _ _
  obtain⟨rfl,rfl,rfl⟩:=trodAll_nil h
  exact trodAll_mk0
 | cons t ts ih =>
  intro vs ds ps hts h hlt hsp
  obtain⟨v0,vs0,d0,ds0,p0,q0,rfl,rfl,rfl,h0,r0⟩:=trodAll_cons h
  obtain⟨hr,hrow⟩:=hts t (by simp)
  exact trodAll_cons_mk (WideElems.Trod_stays hl hr hrow h0 (fun x hx=>hb.same (hlt x (by simp[hx]))) (fun x hx=>hsp x (by simp[hx])))
   (ih _ _ _ (fun t ht=>hts t (by simp[ht])) r0 (fun x hx=>hlt x (by simp[hx])) (fun x hx=>hsp x (by simp[hx])))
theorem law_post (hl:laidOutB P=true){f:Func}{s:ChangeSpec}{T:TypeId}{W W':World}{args:Array Value}{ds:List (DataW H)}{before:List MemPlace}
  (hvars:s.vars=[]) (hrt:f.resultTypes=#[T]) (hT:P.underlying T=some .bool) (hts:f.params.toList.all (fun t=>P.readableRec t&&decide (t<P.types.size))=true)
  (hW:DataW.Whole enc P f.params.toList s.vars false W args.toList ds [] before) (hA:DataW.TrodAll enc P W 0 (fun _=>true) true f.params.toList args.toList ds before)
  (e1:(s.fn H (ds++[])).results=[.lit (.bool true)]) (e2:(s.fn H (ds++[])).args=ds) (e3:(s.fn H (ds++[])).vars=[]) (hb:Below W.heap.size W W') :
  s.post enc P f false true false false W args (.bool true) W':=by
 have hlt:∀ x∈before,x.block<W.heap.size:=fun x hx=>hW.lt x hx
 refine post_of_below (pa:=before) (pv:=[]) hW ?_ ?_ ?_ (by simp) hb ?_
 ·intro b sp hd
  rw[e1,hrt]
  exact trodAll_cons_mk (shut_bool hT true) trodAll_mk0
 ·intro sp hsp
  rw[e2]
  exact trodAll_keep hl hb sp _ _ _ _ (fun t ht=>by simpa using List.all_eq_true.1 hts t ht) hA hlt hsp
 ·intro sp hsp
  rw[e3,hvars]
  rfl
 ·exact ok_one hrt rfl (okWide_bool_mk hT true)
end
end Go.Proofs.YtinnphmnhmdcgaaGreat
namespace Go.Proofs.YtinnphmnhmdcgaaGreat.Am
open Go.RowKit Go.ChangeShapes Go.WideShapes Go.Deep Go.Joins
section
variable {H : Type} {enc : TypeId × Value → H} {w : World} {base : Nat} {spare : Nat → Bool} {held : Bool}
theorem opens_conv {P:Program}{t:TypeId}{α β:Type}{en:α→List AV}{en2:β→List AV}{R:α→Prop}{R2:β→Prop}(f:α→β)(h:Opens enc P w base spare held t en R)(he:∀ a,en2 (f a)=en a)(hR:∀ a,R a→R2 (f a)):Opens enc P w base spare held t en2 R2:=by
 intro fuel cs x hx hs
 obtain⟨a,ha,hc⟩:=h fuel cs x hx hs
 exact⟨f a,hR a ha,by rw[he];exact hc⟩
theorem opens_str2 {P:Program}{t:TypeId}(ht:P.underlying t=some .string):Opens enc P w base spare held t (fun s:ByteArray=>[.c (.string s)]) (fun s=>s.size≤140737488355328):=by
 intro fuel cs x h hsz
 obtain⟨s,rfl,rfl,-⟩:=DataW.trod_string ht h
 refine⟨s,?_,cells_one1 (.c _) rfl (.c _)⟩
 have h1:s.data.toList.length≤140737488355328:=Nat.le_trans (hsz s.data.toList.length (mI_.2 rfl)) (by decide)
 rw[Array.length_toList]at h1
 exact h1
abbrev I64F (p:Fact):Prop:=(Lit.int .i64 p.1).wf=true∧(Lit.int .i64 p.2).wf=true
abbrev FactsR (l:List Fact):Prop:=l.length*16≤140737488355328∧∀ p∈l,I64F p
abbrev EffR (e:GEffect):Prop:=FactsR e.When
abbrev OpR (o:GOp):Prop:=o.Name.size≤140737488355328∧FactsR o.Pre∧o.Effs.length*40≤140737488355328∧∀ e∈o.Effs,EffR e
abbrev IntsR (l:List Int):Prop:=l.length*8≤140737488355328∧∀ z∈l,(Lit.int .i64 z).wf=true
abbrev TaskR (t:GTask):Prop:=IntsR t.Vars∧IntsR t.Init∧FactsR t.Goal∧t.Ops.length*72≤140737488355328∧∀ o∈t.Ops,OpR o
set_option maxRecDepth 100000 in
theorem oFact : Opens enc Tryz.prog w base spare held 39 cF I64F :=
 opens_struct Tryz.underlying39 (opensF_cons (off':=1) rfl (by kernel_rfl) (opens_int Tryz.underlying3) (opensF_last rfl (by kernel_rfl) (opens_int Tryz.underlying3)))
set_option maxRecDepth 100000 in
theorem oFacts : Opens enc Tryz.prog w base spare held 23 (fun l:List Fact=>[.sl 2 (l.map cF)]) FactsR :=
 opens_slice Tryz.underlying23 (by kernel_rfl) (by kernel_rfl) (by decide) (by decide) oFact
set_option maxRecDepth 100000 in
theorem oInts : Opens enc Tryz.prog w base spare held 22 (fun l:List Int=>[.sl 1 (l.map cI)]) IntsR :=
 opens_slice Tryz.underlying22 (by kernel_rfl) (by kernel_rfl) (by decide) (by decide) (opens_int Tryz.underlying3)
set_option maxRecDepth 100000 in
theorem oEff : Opens enc Tryz.prog w base spare held 76 cGEffect EffR :=
 opens_conv (fun p:List Fact×(Int×Int)=>{ When:=p.1,Var:=p.2.1,Val:=p.2.2:GEffect })
  (opens_struct Tryz.underlying76 (opensF_cons (off':=1) (en:=fun l:List Fact=>[AV.sl 2 (l.map cF)]) (R:=FactsR) (en':=fun z:Int×Int=>[AV.c (.int .i64 z.1)]++[AV.c (.int .i64 z.2)]) (R':=fun z:Int×Int=>(Lit.int .i64 z.1).wf=true∧(Lit.int .i64 z.2).wf=true) rfl (by kernel_rfl) oFacts
   (opensF_cons (off':=2) (en:=fun z:Int=>[AV.c (.int .i64 z)]) (R:=fun z:Int=>(Lit.int .i64 z).wf=true) (en':=fun z:Int=>[AV.c (.int .i64 z)]) (R':=fun z:Int=>(Lit.int .i64 z).wf=true) rfl (by kernel_rfl) (opens_int Tryz.underlying3) (opensF_last rfl (by kernel_rfl) (opens_int Tryz.underlying3)))))
  (fun _=>rfl) (fun _ h=>h.1)
set_option maxRecDepth 100000 in
theorem oOp : Opens enc Tryz.prog w base spare held 60 cGOp OpR :=
 opens_conv (fun p:ByteArray×(Int×(List Fact×List GEffect))=>{ Name:=p.1,Cost:=p.2.1,Pre:=p.2.2.1,Effs:=p.2.2.2:GOp })
  (opens_struct Tryz.underlying60 (opensF_cons (off':=1) (en:=fun s:ByteArray=>[AV.c (.string s)]) (R:=fun s=>s.size≤140737488355328) (en':=fun p:Int×(List Fact×List GEffect)=>[AV.c (.int .i64 p.1)]++([AV.sl 2 (p.2.1.map cF)]++[AV.sl 3 (p.2.2.map cGEffect)])) (R':=fun p:Int×(List Fact×List GEffect)=>(Lit.int .i64 p.1).wf=true∧(FactsR p.2.1∧(p.2.2.length*40≤140737488355328∧∀ e∈p.2.2,EffR e))) rfl (by kernel_rfl) (opens_str2 Tryz.underlying9)
   (opensF_cons (off':=2) (en:=fun z:Int=>[AV.c (.int .i64 z)]) (R:=fun z:Int=>(Lit.int .i64 z).wf=true) (en':=fun p:List Fact×List GEffect=>[AV.sl 2 (p.1.map cF)]++[AV.sl 3 (p.2.map cGEffect)]) (R':=fun p:List Fact×List GEffect=>FactsR p.1∧(p.2.length*40≤140737488355328∧∀ e∈p.2,EffR e)) rfl (by kernel_rfl) (opens_int Tryz.underlying3)
    (opensF_cons (off':=3) (en:=fun l:List Fact=>[AV.sl 2 (l.map cF)]) (R:=FactsR) (en':=fun l:List GEffect=>[AV.sl 3 (l.map cGEffect)]) (R':=fun l:List GEffect=>l.length*40≤140737488355328∧∀ e∈l,EffR e) rfl (by kernel_rfl) oFacts
     (opensF_last rfl (by kernel_rfl) (opens_slice Tryz.underlying58 (by kernel_rfl) (by kernel_rfl) (by decide) (by decide) oEff))))))
  (fun _=>rfl) (fun _ h=>⟨h.1,h.2.2.1,h.2.2.2⟩)
set_option maxRecDepth 100000 in
theorem oTask : Opens enc Tryz.prog w base spare held 26 cGTask TaskR :=
 opens_conv (fun p:List Int×(List Int×(List Fact×List GOp))=>{ Vars:=p.1,Init:=p.2.1,Goal:=p.2.2.1,Ops:=p.2.2.2:GTask })
  (opens_struct Tryz.underlying26 (opensF_cons (off':=1) (en:=fun l:List Int=>[AV.sl 1 (l.map cI)]) (R:=IntsR) (en':=fun p:List Int×(List Fact×List GOp)=>[AV.sl 1 (p.1.map cI)]++([AV.sl 2 (p.2.1.map cF)]++[AV.sl 4 (p.2.2.map cGOp)])) (R':=fun p:List Int×(List Fact×List GOp)=>IntsR p.1∧(FactsR p.2.1∧(p.2.2.length*72≤140737488355328∧∀ o∈p.2.2,OpR o))) rfl (by kernel_rfl) oInts
   (opensF_cons (off':=2) (en:=fun l:List Int=>[AV.sl 1 (l.map cI)]) (R:=IntsR) (en':=fun p:List Fact×List GOp=>[AV.sl 2 (p.1.map cF)]++[AV.sl 4 (p.2.map cGOp)]) (R':=fun p:List Fact×List GOp=>FactsR p.1∧(p.2.length*72≤140737488355328∧∀ o∈p.2,OpR o)) rfl (by kernel_rfl) oInts
    (opensF_cons (off':=3) (en:=fun l:List Fact=>[AV.sl 2 (l.map cF)]) (R:=FactsR) (en':=fun l:List GOp=>[AV.sl 4 (l.map cGOp)]) (R':=fun l:List GOp=>l.length*72≤140737488355328∧∀ o∈l,OpR o) rfl (by kernel_rfl) oFacts
     (opensF_last rfl (by kernel_rfl) (opens_slice Tryz.underlying24 (by kernel_rfl) (by kernel_rfl) (by decide) (by decide) oOp))))))
  (fun _=>rfl) (fun _ h=>h)
theorem arg_struct {P:Program}{t:TypeId}{fs:Array Field}{α:Type}{en:α→List AV}{R:α→Prop}{r:Reach}{b0:Nat}{v:Value}{d:DataW H}{p:List MemPlace}(ht:P.underlying t=some (.struct fs))(hv:Value.okWide P w r b0 t v)(ho:Opens enc P w base spare held t en R)(h:DataW.Trod enc P w base spare held t v d p)(hs:Sized P t d) :
  ∃ a,R a∧RV w nov mZ (.agg (en a)) v:=by
 obtain⟨cs,rfl,hsz⟩:=okWide_struct ht hv
 obtain⟨fuel,hf⟩:=h
 obtain⟨a,ha,hc⟩:=ho fuel _ _ hf hs
 exact⟨a,ha,agg_rv hc⟩
end
theorem TaskR.sh {t:GTask}(h:TaskR t):ShT t:=by
 obtain⟨⟨h1,-⟩,⟨h2,-⟩,⟨h3,-⟩,h4,h5⟩:=h
 refine⟨?_,?_,?_,?_,fun o ho=>?_⟩
 ·show _≤_;omega
 ·show _≤_;omega
 ·show _≤_;omega
 ·show _≤_;omega
 ·obtain⟨g1,⟨g2,-⟩,g3,g4⟩:=h5 o ho
  refine⟨by omega,?_,?_,fun e he=>?_⟩
  ·show _≤_;omega
  ·show _≤_;omega
  ·have:=(g4 e he).1
   show _≤_;omega
theorem FactsR.sh {l:List Fact}(h:FactsR l):Sh l:=by have:=h.1;show _≤_;omega
theorem law_of {f:FuncId}{args:List AV}{w:World}{cargs:Array Value}(h:ACall cx f args (.c (.bool true)))(hs:cargs.size=args.length)(hr:∀ (j:Nat)(x:AV)(v:Value),args[j]?=some x→cargs[j]?=some v→RV w nov (mO (fun _=>False)) x v) :
  Calls Tryz.prog f cargs w fun e w'=>e=.returned (.bool true)∧Below w.heap.size w w':=by
 refine Calls.mono (h.2 w (fun _=>False) cargs trivial (Nat.zero_le _) (fun b hb=>hb.elim) hs hr) ?_
 rintro e w' ⟨v,rfl,h1,h2,_⟩
 rw[rv_c h1]
 exact⟨rfl,⟨h2.os,h2.tape,h2.output,h2.size,fun b hb=>h2.block b hb (fun h=>h)⟩⟩
end Go.Proofs.YtinnphmnhmdcgaaGreat.Am
namespace Go.Proofs.YtinnphmnhmdcgaaGreat.rowPrunes
open Go.ChangeShapes Go.WideShapes Go.ChangeAt Go.RowKit Am
theorem laidOut : laidOutB Tryz.prog=true:=by kernel_rfl
set_option maxRecDepth 100000 in
theorem contract (H:Type)(enc:TypeId×Value→H)(W:World)(base:Nat)(args:Array Value)(ds gs:List (DataW H))(before:List MemPlace)
  (hval:∀ (j:Nat) t v,Tryz.f6.params[j]?=some t→args[j]?=some v→Value.okWide Tryz.prog W .any base t v)
  (hW:DataW.Whole enc Tryz.prog Tryz.f6.params.toList Rows.mutexPrunesSpec.vars false W args.toList ds gs before)
  (hsz:(DataW.weightsEach Tryz.prog (Tryz.f6.params.toList++(OpenSpec.ofChange Rows.mutexPrunesSpec).bare.plain.varTypes Tryz.prog) (ds++gs)).all (·≤reachBytes)=true) :
  Calls Tryz.prog 6 args W fun e W'=>∃ v,e=.returned v∧Rows.mutexPrunesSpec.post enc Tryz.prog Tryz.f6 false true false false W args v W':=by
 have hW':=hW
 obtain⟨p,q,hA0,hV,rfl,hfz,hnd⟩:=hW
 have hA:DataW.TrodAll enc Tryz.prog W 0 (fun _=>true) true Tryz.f6.params.toList args.toList ds p:=hA0
 rw[Tryz.params6]at hA hval
 obtain⟨v0,vs0,d0,ds0,p0,q0,hargs,rfl,rfl,h0,r0⟩:=trodAll_cons hA
 obtain⟨rfl,rfl,rfl⟩:=trodAll_nil r0
 obtain rfl:args=#[v0]:=Array.ext' hargs
 obtain⟨rfl,rfl⟩:=trodVars_none hV
 simp only[List.append_nil]at hW' hA0 hsz
 rw[Tryz.params6]at hsz
 obtain⟨t,ht,k0⟩:=arg_struct Tryz.underlying26 (hval 0 26 v0 rfl rfl) oTask h0 (sized_arg hsz (j:=0) rfl rfl)
 refine(law_of (A_l33_MutexPrunes 1000000000000000000 t (prunes_true _ (by decide) t ht.sh)) rfl (fun j x v hx hv=>?_)).mono fun e W' ⟨he,hb⟩=>?_
 ·match j,hx,hv with
  | 0,hx,hv=>simp at hx hv;subst hx hv;exact k0
  | j+1,hx,hv=>simp at hx
 ·subst he
  exact⟨_,rfl,law_post laidOut rfl (by kernel_rfl) Tryz.underlying4 (by kernel_rfl) hW' hA0 rfl rfl rfl hb⟩
theorem own : ownKnob Tryz.prog.godebug=none:=by kernel_rfl
theorem laid_met (os:Os):laidMet Tryz.prog Rows.mutexPrunesRow.laid ((World.holding Tryz.prog os ⟨#[],#[],[]⟩).forCall (fun _ _=>0) ⟨#[],#[.agg #[.slice none 0 0,.slice none 0 0,.slice none 0 0,.slice none 0 0]],[]⟩).memory :=
 laidMet_of_run' 8 (by kernel_rfl) (by kernel_rfl)
theorem reads (os:Os){H:Type}(enc:TypeId×Value→H):∃ places,DataW.whole enc Tryz.prog ((World.holding Tryz.prog os ⟨#[],#[],[]⟩).forCall (fun _ _=>0) ⟨#[],#[.agg #[.slice none 0 0,.slice none 0 0,.slice none 0 0,.slice none 0 0]],[]⟩).memory Tryz.f6.params.toList Rows.mutexPrunesSpec.vars false (#[.agg #[.slice none 0 0,.slice none 0 0,.slice none 0 0,.slice none 0 0]]:Array Value).toList 8=some ([.agg [.nil,.nil,.nil,.nil]],[],places) :=
 ⟨[],by kernel_rfl⟩
set_option maxRecDepth 100000 in
theorem lifted (os:Os)(started:os.Started)(H:Type)(enc:TypeId×Value→H)(F:Stop.Interp) :
  ReturnsInHanded {} Tryz.checked os 6 .any ((OpenSpec.ofChange Rows.mutexPrunesSpec).preRow enc Tryz.prog Tryz.f6 Rows.mutexPrunesRow.domain false Rows.mutexPrunesRow.laid) (((OpenSpec.ofChange Rows.mutexPrunesSpec).at F).post enc Tryz.prog Tryz.f6 false true false false):=by
 obtain⟨places,hx⟩:=reads os enc
 refine returnsInHanded_of_row (C:=Tryz.checked) (s:=OpenSpec.ofChange Rows.mutexPrunesSpec) own started (by kernel_rfl) Tryz.func6
  (witness_row_at (enc:=enc) (C:=Tryz.checked) false (World.holding Tryz.prog os ⟨#[],#[],[]⟩) #[.agg #[.slice none 0 0,.slice none 0 0,.slice none 0 0,.slice none 0 0]] rfl (by kernel_rfl) (by kernel_rfl) (by kernel_rfl)
   (OpenSpec.preRow_of_cond 8 hx (by kernel_rfl) (fun k hk=>by cases hk) (by kernel_rfl) (laid_met os))) ?_
 intro W base args ds gs before hval hW _ _ hsz _ _ _
 exact contract H enc W base args ds gs before hval hW hsz
theorem said : Rows.MutexPrunesSaid :=
 OpenClaim.holds_of_cond 6 Tryz.f6 rfl rfl rfl rfl rfl rfl rfl ⟨rfl,rfl,rfl,rfl,rfl⟩ rfl rfl rfl rfl rfl (by kernel_rfl) Tryz.func6 (by kernel_rfl)
  (of_decide_eq_true (by kernel_rfl)) (by unfold Func.isWrapper;first|(rw[if_pos (by decide +kernel)];kernel_rfl)|(rw[if_neg (by decide +kernel)];exact⟨rfl,rfl⟩))
  (fun os started H enc _ F=>by rw[OpenClaim.pre_eq_preRow];exact lifted os started H enc F)
end Go.Proofs.YtinnphmnhmdcgaaGreat.rowPrunes
