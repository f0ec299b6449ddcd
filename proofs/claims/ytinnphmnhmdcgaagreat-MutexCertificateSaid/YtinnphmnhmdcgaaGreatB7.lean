/- Texts of the proof, part 7 of 8. -/
import Derived.Test.YtinnphmnhmdcgaaGreatB6
import Derived.Test.YtinnphmnhmdcgaaGreatB5
import Derived.Test.YtinnphmnhmdcgaaGreatB3
import Derived.Test.YtinnphmnhmdcgaaGreatB2
import Derived.Test.YtinnphmnhmdcgaaGreatB4
import Derived.Test.YtinnphmnhmdcgaaGreatB1
import Derived.Deep.Slices
import Derived.Deep.Fields
import Derived.ChangeSame
import Derived.SizedLaws
import Derived.Lib.SmallJoins
set_option linter.unusedVariables false
set_option linter.unusedSectionVars false
open List renaming getElem?_eq_getElem→gE_, length_map→lM_, length_append→lA_, mem_cons_of_mem→mC_, length_cons→lC_, mem_cons_self→mS_, mem_of_getElem?→mG_, getElem?_eq_some_iff→gS_, getD_eq_getElem?_getD→gD_, length_nil→lN_, mem_singleton→mI_, take_of_length_le→tL_, length_replicate→lR_
open Option.some renaming inj→sI_
open Bool renaming and_eq_true→bA_
open Option renaming bind_some→oB_
namespace Go.Proofs.YtinnphmnhmdcgaaGreat.Am
open Go.RowKit
theorem bT3 {n m:Nat}(h:Nat.ble n m=true):n≤m:=Nat.le_of_ble_eq_true h
theorem sum_ge (c:Int→Nat):∀ (m:Nat)(x:Int),(∀ y,x≤y→y<x+m→1≤c y)→m≤((List.range m).map fun k:Nat=>c (x+k)).sum
 | 0,_,_=>Nat.zero_le _
 | m+1,x,h=>by
  have e:((fun k:Nat=>c (x+k)) ∘ Nat.succ)=fun k:Nat=>c (x+1+k):=by
   funext k;simp only[Function.comp,Nat.succ_eq_add_one];congr 1;omega
  rw[List.range_succ_eq_map,List.map_cons,List.sum_cons,List.map_map,e]
  have h0:=h (x+(0:Nat)) (by omega) (by omega)
  have ih:=sum_ge c m (x+1) (fun y h1 h2=>h y (by omega) (by omega))
  omega
theorem kids_cost2 (f:Int→Bool×Int)(c:Int→Nat):∀ (m:Nat)(x a:Int),(∀ y,x≤y→y<x+m→1≤(f y).2∧(f y).2+1≤2*(c y:Int))→(kids f m x a).2+m≤a+2*((((List.range m).map fun k:Nat=>c (x+k)).sum:Nat):Int)
 | 0,x,a,_=>by simp[kids]
 | m+1,x,a,h=>by
  have h0:=h x (Int.le_refl _) (by omega)
  have e:((fun k:Nat=>c (x+k)) ∘ Nat.succ)=fun k:Nat=>c (x+1+k):=by
   funext k;simp only[Function.comp,Nat.succ_eq_add_one];congr 1;omega
  have e0:x+((0:Nat):Int)=x:=by omega
  rw[List.range_succ_eq_map,List.map_cons,List.sum_cons,List.map_map,e,e0,Int.natCast_add]
  have hs:=sum_ge c m (x+1) (fun y h1 h2=>by have:=h y (by omega) (by omega);omega)
  rw[kids]
  split
  ·have ih:=kids_cost2 f c m (x+1) (a+(f x).2) (fun y h1 h2=>h y (by omega) (by omega))
   omega
  ·show a+(f x).2+_≤_;omega
theorem decA_cost2 {vars:List Int}(h2:∀ n∈vars,2≤n)(S:List (List Int))(hS:∀ s,stateF vars s=true→s∈S):∀ (d:Nat)(p:List Fact)(l:List (List Fact)),DecP vars d p l→(decA vars d p l).2+1≤2*(cntS S p:Int)
 | 0,p,l,h=>h.zero.elim
 | d+1,p,l,h=>by
  have hone:1≤cntS S p:=by
   obtain⟨s,s1,s2⟩:=some_state h.dom h.prop
   exact List.length_pos_of_mem (List.mem_filter.2 ⟨hS s s1,s2⟩)
  rw[decA]
  split
  ·show(1:Int)+1≤_;omega
  ·split
   ·show(1:Int)+1≤_;omega
   ·rename_i hc hl
    obtain⟨l1,l2,l3⟩:=h.low hl
    have hm2:2≤vars.getD (lowL p (restP p l) vars.length).toNat 0:=by
     rw[gD_,gE_ (by omega),Option.getD_some]
     exact h2 _ (List.getElem_mem _)
    have hk:=kids_cost2 (fun x=>decA vars d (pwithF p (lowL p (restP p l) vars.length,x)) (restP p l)) (fun x=>cntS S (pwithF p (lowL p (restP p l) vars.length,x))) (vars.getD (lowL p (restP p l) vars.length).toNat 0).toNat 0 1
     (fun y y0 y1=>⟨decA_pos vars d _ _,decA_cost2 h2 S hS d _ _ (h.kid hl y0 (by omega))⟩)
    have hsum:=cnt_split (lowL p (restP p l) vars.length) p S (vars.getD (lowL p (restP p l) vars.length).toNat 0).toNat 0 (fun x=>cntS S (pwithF p (lowL p (restP p l) vars.length,x))) (fun y=>by
     unfold cntS
     refine Nat.le_of_eq (congrArg List.length (List.filter_congr fun s _=>?_))
     rw[Bool.eq_iff_iff,holds_pwith,bA_])
    have hle:(S.filter fun s=>holdsF s p&&decide (0≤s.getD (lowL p (restP p l) vars.length).toNat 0)).length≤cntS S p:=by
     unfold cntS
     rw[show(S.filter fun s=>holdsF s p&&decide (0≤s.getD (lowL p (restP p l) vars.length).toNat 0))=(S.filter fun s=>holdsF s p).filter fun s=>decide (0≤s.getD (lowL p (restP p l) vars.length).toNat 0)from by
      rw[List.filter_filter];exact List.filter_congr fun s _=>Bool.and_comm _ _]
     exact List.length_filter_le _ _
    have:=Nat.le_trans hsum hle
    omega
def qtP (vars:List Int)(f:Fact):List GEffect→List (List Fact)→List (List Fact)
 | [],l=>l
 | e :: r,l=>if e.Val=f.2 then qtP vars f r l else qtP vars f r (joinLL l (silF vars e.When))
def casesP (vars:List Int)(f:Fact):List GEffect→List (List Fact)
 | []=>[]
 | e :: r=>casesP vars f r++(if e.Val=f.2 then qtP vars f r [e.When]else[])
theorem qtP_eq {vars:List Int}{f:Fact}:∀ (es:List GEffect)(l j:List (List Fact)),quietG vars f es l=some j→j=qtP vars f es l
 | [],l,j,h=>by rw[quietG]at h;rw[qtP];exact(sI_ h).symm
 | e :: r,l,j,h=>by
  rw[quietG]at h
  rw[qtP]
  split at h
  ·rename_i hv;rw[if_pos hv];exact qtP_eq r l j h
  ·rename_i hv
   rw[if_neg hv]
   cases hq:capO (silF vars e.When)with
   | none=>rw[hq]at h;cases h
   | some q =>
    rw[hq,oB_]at h
    cases hj:capO (joinLL l q)with
    | none=>rw[hj]at h;cases h
    | some m =>
     rw[hj,oB_]at h
     obtain⟨rfl,-⟩:=capO_some hq
     obtain⟨rfl,-⟩:=capO_some hj
     exact qtP_eq r _ j h
theorem casesP_eq {vars:List Int}{f:Fact}:∀ (es:List GEffect)(out:List (List Fact)),casesG vars f es=some out→∀ z,z∈out↔z∈casesP vars f es
 | [],out,h,z=>by rw[casesG]at h;obtain rfl:=sI_ h;rw[casesP]
 | e :: r,out,h,z=>by
  rw[casesG]at h
  cases hr:casesG vars f r with
  | none=>rw[hr]at h;cases h
  | some o1 =>
   rw[hr,oB_]at h
   have ih:=casesP_eq r o1 hr z
   rw[casesP,List.mem_append,← ih]
   split at h
   ·rename_i hv
    rw[if_pos hv]
    cases hq:quietG vars f r [e.When]with
    | none=>rw[hq]at h;cases h
    | some q =>
     rw[hq,Option.map_some]at h
     obtain rfl:=sI_ h
     rw[foldN_mem,qtP_eq r _ q hq]
   ·rename_i hv
    rw[if_neg hv]
    obtain rfl:=sI_ h
    simp
def fwdL (vars:List Int)(f:Fact):List GEffect→List (List Fact)→List (List Fact)
 | [],l=>l
 | e :: r,l=>if e.Val=f.2 then(if e.When=[]then fwdL vars f r [[]]else fwdL vars f r (l++[e.When]))else fwdL vars f r (joinLL l (silF vars e.When))
def SubL (a b:List (List Fact)):Prop:=∀ z∈a,∃ x∈b,∀ u∈x,u∈z
theorem joinO_down {vars:List Int}{x x' y z:List Fact}(hx':propF vars (-1) x'=true)(hy:propF vars (-1) y=true)(hs:∀ u∈x',u∈x)(h:joinO x y=some z):∃ z',joinO x' y=some z'∧∀ u∈z',u∈z:=by
 obtain⟨hv,hm⟩:=joinO_some h
 cases e:joinO x' y with
 | some z'=>exact⟨z',rfl,fun u hu=>(hm u).2 (((joinO_some e).2 u).1 hu |>.imp (hs u) id)⟩
 | none =>
  refine absurd ?_ (joinO_none (propF_vF' hx') (propF_vF' hy) e)
  intro u hu u' hu' e2
  have hin:∀ u∈x'++y,u∈z:=fun u hu=>(hm u).2 ((List.mem_append.1 hu).imp (hs u) id)
  rw[asc_inj ((vF_iff' z).1 hv).2 (hin u hu) (hin u' hu') e2]
theorem qtP_down {vars:List Int}{f:Fact}:∀ (es:List GEffect)(l l':List (List Fact)),WhenP vars es→PropL vars l→PropL vars l'→SubL l l'→SubL (qtP vars f es l) (qtP vars f es l')
 | [],l,l',_,_,_,h=>h
 | e :: r,l,l',hw,hl,hl',h=>by
  have hr:WhenP vars r:=fun u hu=>hw u (mC_ _ hu)
  have hs:=silF_prop (hw e (mS_ ..))
  rw[qtP,qtP]
  split
  ·exact qtP_down r l l' hr hl hl' h
  ·refine qtP_down r _ _ hr (joinLL_prop hl hs) (joinLL_prop hl' hs) fun z hz=>?_
   obtain⟨x,hx,y,hy,hj⟩:=(joinLL_mem z _ _).1 hz
   obtain⟨x',hx',hsub⟩:=h x hx
   obtain⟨z',h1,h2⟩:=joinO_down (hl' x' hx') (hs y hy) hsub hj
   exact⟨z',(joinLL_mem z' _ _).2 ⟨x',hx',y,hy,h1⟩,h2⟩
theorem qtP_app {vars:List Int}{f:Fact}(z:List Fact):∀ (es:List GEffect)(a b c:List (List Fact)),(∀ x,x∈c↔x∈a∨x∈b)→(z∈qtP vars f es c↔z∈qtP vars f es a∨z∈qtP vars f es b)
 | [],a,b,c,h=>h z
 | e :: r,a,b,c,h=>by
  rw[qtP,qtP,qtP]
  split
  ·exact qtP_app z r a b c h
  ·refine qtP_app z r _ _ _ fun x=>?_
   rw[joinLL_mem,joinLL_mem,joinLL_mem]
   constructor
   ·rintro⟨u,hu,v⟩
    rcases(h u).1 hu with hu|hu
    ·exact .inl ⟨u,hu,v⟩
    ·exact .inr ⟨u,hu,v⟩
   ·rintro(⟨u,hu,v⟩|⟨u,hu,v⟩)
    ·exact⟨u,(h u).2 (.inl hu),v⟩
    ·exact⟨u,(h u).2 (.inr hu),v⟩
theorem propL_nil (vars:List Int):PropL vars [[]]:=fun x hx=>by rw[mI_.1 hx];rfl
theorem fwd_prop {vars:List Int}{f:Fact}:∀ (es:List GEffect)(l:List (List Fact)),WhenP vars es→PropL vars l→PropL vars (fwdL vars f es l)
 | [],l,_,h=>h
 | e :: r,l,hw,h=>by
  have hr:WhenP vars r:=fun u hu=>hw u (mC_ _ hu)
  have he:=hw e (mS_ ..)
  rw[fwdL]
  split
  ·split
   ·exact fwd_prop r _ hr (propL_nil vars)
   ·exact fwd_prop r _ hr fun x hx=>by
     rcases List.mem_append.1 hx with hx|hx
     ·exact h x hx
     ·rw[mI_.1 hx];exact he
  ·exact fwd_prop r _ hr (joinLL_prop h (silF_prop he))
theorem fwd_ok {vars:List Int}{f:Fact}:∀ (es:List GEffect)(l:List (List Fact)),WhenP vars es→PropL vars l→(∀ x∈fwdL vars f es l,x∈qtP vars f es l∨x∈casesP vars f es)∧∀ z,z∈qtP vars f es l∨z∈casesP vars f es→∃ x∈fwdL vars f es l,∀ u∈x,u∈z
 | [],l,_,_=>⟨fun x hx=>.inl hx,fun z hz=>⟨z,hz.resolve_right (fun h=>by rw[casesP]at h;cases h),fun _ h=>h⟩⟩
 | e :: r,l,hw,h=>by
  have hr:WhenP vars r:=fun u hu=>hw u (mC_ _ hu)
  have he:=hw e (mS_ ..)
  rw[fwdL,qtP,casesP]
  by_cases hv:e.Val=f.2
  ·rw[if_pos hv,if_pos hv,if_pos hv]
   by_cases hn:e.When=[]
   ·rw[if_pos hn,hn]
    obtain⟨i1,i2⟩:=fwd_ok r [[]] hr (propL_nil vars)
    refine⟨fun x hx=>.inr (List.mem_append.2 ((i1 x hx).symm)),fun z hz=>?_⟩
    rcases hz with hz|hz
    ·obtain⟨z',h1,h2⟩:=qtP_down (f:=f) r l [[]] hr h (propL_nil vars) (fun z _=>⟨[],mI_.2 rfl,fun _ h=>nomatch h⟩) z hz
     obtain⟨x,h3,h4⟩:=i2 z' (.inl h1)
     exact⟨x,h3,fun u hu=>h2 u (h4 u hu)⟩
    ·rcases List.mem_append.1 hz with hz|hz
     ·exact i2 z (.inr hz)
     ·exact i2 z (.inl hz)
   ·rw[if_neg hn]
    obtain⟨i1,i2⟩:=fwd_ok r (l++[e.When]) hr fun x hx=>by
     rcases List.mem_append.1 hx with hx|hx
     ·exact h x hx
     ·rw[mI_.1 hx];exact he
    have ha:∀ z,z∈qtP vars f r (l++[e.When])↔z∈qtP vars f r l∨z∈qtP vars f r [e.When]:=fun z=>qtP_app z r l [e.When] _ fun x=>List.mem_append
    refine⟨fun x hx=>?_,fun z hz=>?_⟩
    ·rcases i1 x hx with h1|h1
     ·rcases(ha x).1 h1 with h1|h1
      ·exact .inl h1
      ·exact .inr (List.mem_append.2 (.inr h1))
     ·exact .inr (List.mem_append.2 (.inl h1))
    ·rcases hz with hz|hz
     ·exact i2 z (.inl ((ha z).2 (.inl hz)))
     ·rcases List.mem_append.1 hz with hz|hz
      ·exact i2 z (.inr hz)
      ·exact i2 z (.inl ((ha z).2 (.inr hz)))
  ·rw[if_neg hv,if_neg hv,if_neg hv,List.append_nil]
   exact fwd_ok r _ hr (joinLL_prop h (silF_prop he))
def hasN (s:List Int)(l:List (List Fact)):Nat:=(l.filter fun p=>holdsF s p).length
theorem hasN_join (s:List Int)(a b:List (List Fact)):hasN s (joinLL a b)≤hasN s a*hasN s b:=by
 refine Nat.le_trans (nodupT_le _ (joinLL (a.filter fun p=>holdsF s p) (b.filter fun p=>holdsF s p)) ((joinLL_nodup a b).filter _) fun z hz=>?_) (joinLL_le _ _)
 obtain⟨h1,h2⟩:=List.mem_filter.1 hz
 obtain⟨x,hx,y,hy,hj⟩:=(joinLL_mem z a b).1 h1
 obtain⟨h3,h4⟩:=(holds_joinO hj).1 h2
 exact(joinLL_mem z _ _).2 ⟨x,List.mem_filter.2 ⟨hx,h3⟩,y,List.mem_filter.2 ⟨hy,h4⟩,hj⟩
def wtE (vars:List Int)(s:List Int)(f:Fact)(e:GEffect):Nat :=
 if e.Val=f.2 then(if holdsF s e.When=true then 2 else 1)else max 1 (hasN s (silF vars e.When))
def wtL (vars:List Int)(s:List Int)(f:Fact):List GEffect→Nat
 | []=>1
 | e :: r=>(if 0<e.When.length then wtE vars s f e else 1)*wtL vars s f r
theorem wtE_pos (vars s:List Int)(f:Fact)(e:GEffect):1≤wtE vars s f e:=by
 unfold wtE
 split
 ·split <;> omega
 ·exact Nat.le_max_left ..
theorem fwd_cnt {vars s:List Int}{f:Fact}:∀ (es:List GEffect)(l:List (List Fact))(P:Nat),1≤P→hasN s l≤P→hasN s (fwdL vars f es l)≤P*wtL vars s f es
 | [],l,P,_,h=>by rw[fwdL,wtL,Nat.mul_one];exact h
 | e :: r,l,P,hP,h=>by
  rw[fwdL,wtL]
  by_cases hn:e.When=[]
  ·have hz:¬ 0<e.When.length:=by rw[hn];decide
   rw[if_neg hz,Nat.one_mul]
   split
   ·refine fwd_cnt r _ P hP (Nat.le_trans (List.length_filter_le _ _) hP)
   ·refine fwd_cnt r _ P hP ?_
    have h0:silF vars []=[]:=rfl
    rw[hn,h0,joinLL_nil']
    exact Nat.zero_le _
  ·have hz:=List.length_pos_iff.2 hn
   rw[if_pos hz,← Nat.mul_assoc]
   split
   ·rename_i hv
    refine fwd_cnt r _ _ (Nat.mul_pos hP (wtE_pos vars s f e)) ?_
    unfold hasN
    rw[List.filter_append,lA_]
    unfold hasN at h
    unfold wtE
    rw[if_pos hv]
    by_cases hh:holdsF s e.When=true
    ·rw[if_pos hh]
     have:([e.When].filter fun p=>holdsF s p).length≤1:=List.length_filter_le _ _
     omega
    ·rw[if_neg hh]
     have:[e.When].filter (fun p=>holdsF s p)=[]:=by rw[List.filter_cons,if_neg hh,List.filter_nil]
     rw[this,lN_]
     omega
   ·rename_i hv
    refine fwd_cnt r _ _ (Nat.mul_pos hP (wtE_pos vars s f e)) ?_
    refine Nat.le_trans (hasN_join s l _) (Nat.mul_le_mul h ?_)
    unfold wtE
    rw[if_neg hv]
    exact Nat.le_max_right ..
def unL (t:GTask)(o:GOp)(l:List (List Fact)):List Fact→List (List Fact)
 | []=>l
 | f :: p=>unL t o (joinLL l (fwdL t.Vars f (o.Effs.filter fun e=>e.Var == f.1) [[f]])) p
theorem casesO_mem {vars:List Int}{o:GOp}{f:Fact}{c:List (List Fact)}(h:casesO vars o f=some c):∀ z,z∈c↔z∈qtP vars f (o.Effs.filter fun e=>e.Var == f.1) [[f]]∨z∈casesP vars f (o.Effs.filter fun e=>e.Var == f.1):=fun z=>by
 unfold casesO at h
 generalize o.Effs.filter (fun e=>e.Var == f.1)=es at h ⊢
 unfold casesE at h
 cases hg:casesG vars f es with
 | none=>rw[hg]at h;cases h
 | some out =>
  rw[hg,oB_]at h
  cases hq:quietG vars f es [[f]]with
  | none=>rw[hq]at h;cases h
  | some q =>
   rw[hq,Option.map_some,oB_]at h
   obtain⟨rfl,-⟩:=capO_some h
   rw[foldN_mem,casesP_eq es out hg z,qtP_eq es _ q hq,or_comm]
theorem regG_un {t:GTask}{o:GOp}(hw:WhenP t.Vars o.Effs):∀ (p:List Fact)(l l' j:List (List Fact)),(∀ f∈p,propF t.Vars (-1) [f]=true)→PropL t.Vars l→PropL t.Vars l'→SubL l l'→(∀ x∈l',x∈l)→regG t.Vars o p l=some j→SubL j (unL t o l' p)∧∀ x∈unL t o l' p,x∈j
 | [],l,l',j,_,_,_,h1,h2,h=>by rw[regG]at h;obtain rfl:=sI_ h;exact⟨h1,h2⟩
 | f :: p,l,l',j,hp,hl,hl',h1,h2,h=>by
  rw[regG]at h
  have hf:=hp f (mS_ ..)
  cases hc:casesO t.Vars o f with
  | none=>rw[hc]at h;cases h
  | some c =>
   rw[hc,oB_]at h
   cases hj:capO (joinLL l c)with
   | none=>rw[hj]at h;cases h
   | some m =>
    rw[hj,oB_]at h
    obtain⟨rfl,-⟩:=capO_some hj
    have hcp:=(casesO_prop hw hf hc).1
    have hw2:WhenP t.Vars (o.Effs.filter fun e=>e.Var == f.1):=fun e he=>hw e (List.mem_filter.1 he).1
    have hff:PropL t.Vars [[f]]:=fun x hx=>by rw[mI_.1 hx];exact hf
    obtain⟨f1,f2⟩:=fwd_ok (f:=f) _ [[f]] hw2 hff
    have hfp:=fwd_prop (f:=f) _ [[f]] hw2 hff
    have hm:=casesO_mem hc
    rw[unL]
    refine regG_un hw p _ _ j (fun u hu=>hp u (mC_ _ hu)) (joinLL_prop hl hcp) (joinLL_prop hl' hfp) (fun z hz=>?_) (fun x hx=>?_) h
    ·obtain⟨x,hx,y,hy,hxy⟩:=(joinLL_mem z _ _).1 hz
     obtain⟨x',hx',hs1⟩:=h1 x hx
     obtain⟨y',hy',hs2⟩:=f2 y ((hm y).1 hy)
     obtain⟨hv,hmz⟩:=joinO_some hxy
     cases e:joinO x' y' with
     | some z'=>exact⟨z',(joinLL_mem z' _ _).2 ⟨x',hx',y',hy',e⟩,fun u hu=>(hmz u).2 (((joinO_some e).2 u).1 hu |>.imp (hs1 u) (hs2 u))⟩
     | none =>
      refine absurd ?_ (joinO_none (propF_vF' (hl' x' hx')) (propF_vF' (hfp y' hy')) e)
      intro u hu u' hu' e2
      have hin:∀ u∈x'++y',u∈z:=fun u hu=>(hmz u).2 ((List.mem_append.1 hu).imp (hs1 u) (hs2 u))
      rw[asc_inj ((vF_iff' z).1 hv).2 (hin u hu) (hin u' hu') e2]
    ·obtain⟨x1,hx1,y,hy,hxy⟩:=(joinLL_mem x _ _).1 hx
     exact(joinLL_mem x _ _).2 ⟨x1,h2 x1 hx1,y,(hm y).2 (f1 y hy),hxy⟩
def wtA (vars:List Int)(s:List Int)(o:GOp):List Fact→Nat
 | []=>1
 | f :: p=>wtL vars s f (o.Effs.filter fun e=>e.Var == f.1)*wtA vars s o p
theorem unL_cnt {t:GTask}{o:GOp}{s:List Int}:∀ (p:List Fact)(l:List (List Fact)),hasN s (unL t o l p)≤hasN s l*wtA t.Vars s o p
 | [],l=>by rw[unL,wtA,Nat.mul_one];exact Nat.le_refl _
 | f :: p,l=>by
  rw[unL,wtA,← Nat.mul_assoc]
  refine Nat.le_trans (unL_cnt p _) (Nat.mul_le_mul_right _ (Nat.le_trans (hasN_join s l _) (Nat.mul_le_mul_left _ ?_)))
  have:=fwd_cnt (vars:=t.Vars) (s:=s) (f:=f) (o.Effs.filter fun e=>e.Var == f.1) [[f]] 1 (Nat.le_refl _) (List.length_filter_le _ _)
  rw[Nat.one_mul]at this
  exact this
theorem reg_cnt {t:GTask}(F:Fit3 t){a b:Fact}(h:SetP t a b){o:GOp}(ho:o∈t.Ops)(s:List Int):hasN s (regS t o (pset a b))≤wtA t.Vars s o (pset a b):=by
 obtain⟨r1,-,-⟩:=reg_ok F h ho
 have oo:=good_op F.good ho
 have hpre:PropL t.Vars [o.Pre]:=fun x hx=>by rw[mI_.1 hx];exact oo.pre
 cases hg:regG t.Vars o (pset a b) [o.Pre]with
 | none=>rw[regO,hg]at r1;cases r1
 | some j =>
  have e:regS t o (pset a b)=sortLL (minF j):=by rw[regS,regO,hg,Option.map_some,Option.getD_some]
  obtain⟨u1,u2⟩:=regG_un (t:=t) oo.when (pset a b) [o.Pre] [o.Pre] j (fun f hf=>propF_one h.prop hf) hpre hpre (fun z hz=>⟨z,hz,fun _ h=>h⟩) (fun _ h=>h) hg
  obtain⟨j1,j2,-⟩:=pre_prop F.good h.prop ho hg
  have hn:(regS t o (pset a b)).Nodup:=by
   rw[e]
   exact((List.mergeSort_perm (minF j) _).nodup_iff).2 (j2.filter _)
  have hsub:∀ z∈regS t o (pset a b),z∈unL t o [o.Pre] (pset a b):=fun z hz=>by
   rw[e]at hz
   obtain⟨hzj,hk⟩:=List.mem_filter.1 ((sortLL_mem z _).1 hz)
   obtain⟨x,hx,hs⟩:=u1 z hzj
   unfold keepF at hk
   have:=List.all_eq_true.1 hk x (u2 x hx)
   rw[subF_iff.2 hs]at this
   have hxz:x=z:=by simpa using this
   rw[← hxz]
   exact hx
  refine Nat.le_trans (nodupT_le _ ((unL t o [o.Pre] (pset a b)).filter fun p=>holdsF s p) (hn.filter _) fun z hz=>?_) ?_
  ·obtain⟨h1,h2⟩:=List.mem_filter.1 hz
   exact List.mem_filter.2 ⟨hsub z h1,h2⟩
  ·refine Nat.le_trans (unL_cnt (pset a b) [o.Pre]) ?_
   have:hasN s [o.Pre]≤1:=List.length_filter_le _ _
   exact Nat.le_trans (Nat.mul_le_mul_right _ this) (Nat.le_of_eq (Nat.one_mul _))
section
variable {C : Cx} {n : Nat}
theorem lf_makeX {o:Oper}{tm:List AV}{hp:List Ent}{t e:TypeId}{ti te:TI}{x y:Operand}{kx ky:IntKind}{p:Int}{d ver:Nat}{z:List AV}(ho:o.op=.makeSlice t x y)(hdd:o.dst=some d)(hdn:d<n)(ht:TyOk C.P t ti)(hk:ti.kind=.slice e)(hte:TyOk C.P e te)
  (hx:evA (tmF tm) x=.c (.int kx p)) (hy:evA (tmF tm) y=.c (.int ky p)) (hver:(hpF hp d).ver=ver) (h0:0≤p) (hb:p*te.bytes≤281474976710656) (h63:p≤140737488355328)
  (hz:te.zero.cells.toList.map AV.c=z) (hone:∀ u∈te.zero.cells.toList,u.oneCell'=true) (_hpos:0<te.sz) :
  LF C n o (tmF tm) (hpF hp) ⟨.ownx d (ver+1) p.toNat,[(d,⟨ver+1,some ⟨e,te.sz,false,List.replicate p.toNat z⟩⟩)],[]⟩:=by
 intro τ' η' hτ hη w0 X m a w h
 have hη':(η' d).ver=ver:=by rw[hη d (.inr (by simp[Foot.ids]))];exact hver
 have h1:=h.ev x
 have h2:=h.ev y
 rw[hτ x (by simp[ho,Op.operands]),hx]at h1
 rw[hτ y (by simp[ho,Op.operands]),hy]at h2
 obtain⟨i,hi,hiz⟩:∃ i,C.P.info? e=some i∧i.zero=some te.zero∧i.size=te.sz∧i.bytes=te.bytes:=by
  have:=hte.info
  cases hh:C.P.info? e with
  | none=>rw[hh]at this;cases this
  | some i=>rw[hh]at this;simp at this;exact⟨i,rfl,this.1,this.2.1,this.2.2⟩
 obtain⟨hi1,hi2,hi3⟩:=hiz
 have hr:=run_make (P:=C.P) w t e i te.zero (ht.sliceU hk) hi hi1 kx ky p p h0 (Int.le_refl _) (by rw[hi3,Int.mul_comm];exact hb) (by omega)
 have hzl:z.length=te.sz:=by rw[← hz,lM_,← hte.cells];simp
 have hflat:Flat w (shp η') m te.sz (List.replicate p.toNat z) (madeCells te.zero.cells (p.toNat*i.size)):=by
  refine⟨by simp[hi2,madeCells],fun k q hq=>?_⟩
  obtain⟨hk1,rfl⟩:k<p.toNat∧z=q:=by
   rw[List.getElem?_replicate]at hq
   split at hq
   ·exact⟨by assumption,by injection hq⟩
   ·cases hq
  refine⟨hzl,fun j v hj=>?_⟩
  have hjlt:j<te.sz:=by rw[← hzl];exact(gS_.1 hj).1
  have hjc:j<te.zero.cells.size:=by rw[hte.cells];exact hjlt
  have hmod:(k*te.sz+j) % te.sz=j:=by rw[Nat.mul_comm,Nat.mul_add_mod];exact Nat.mod_eq_of_lt hjlt
  have hlt:k*te.sz+j<p.toNat*te.sz:=by
   calc k*te.sz+j<k*te.sz+te.sz:=by omega
    _=(k+1)*te.sz:=by rw[Nat.add_mul];omega
    _≤p.toNat*te.sz:=Nat.mul_le_mul_right _ hk1
  refine⟨te.zero.cells[j],?_,hone _ (by simp),?_⟩
  ·simp only[madeCells,hi2,Array.getElem?_map]
   rw[Array.getElem?_range,if_pos hlt]
   simp only[Option.map_some,hte.cells,hmod,Option.some.injEq]
   exact getElem!_pos te.zero.cells j hjc
  ·rw[← hz,List.getElem?_map]at hj
   simp[hjc]at hj
   rw[← hj]
   exact .c _
 have hfr:=h.fresh (i:=d) (ver:=(η' d).ver+1) (B:=⟨e,te.sz,false,List.replicate p.toNat z⟩) rfl hdn (Nat.lt_succ_self _) hflat
 have hrun:(execOp a.eval o).run C.P w=.ok (.value (.slice (some ⟨w.heap.size,0,none⟩) p.toNat p.toNat)) (w.alloc (.cells (madeCells te.zero.cells (p.toNat*i.size)) e)):=by
  simp only[execOp,ho,rv_c h1,rv_c h2,Sem.run_bind,hr,Result.andThen_ok,Sem.run_pure]
 unfold Oper.wp
 rw[hrun]
 rw[hη']at hfr
 refine⟨_,hfr.put (by rw[hdd];exact hdn) ?_⟩
 refine .ownx (b:=w.heap.size) (sz:=te.sz) (ty:=e) ?_ ?_ ?_ ?_
 ·simp[shp,updE]
 ·simp[newM]
 ·omega
 ·have:=heap_alloc_new w (.cells (madeCells te.zero.cells (p.toNat*i.size)) e)
  simp only[World.shape?,this]
  simp[madeCells,hi2]
theorem wpOps_set {ops:Array Oper}{Q:Exit→Act→World→Prop}{i:Nat}{rest:List Nat}{o:Oper}{τ τ':Nat→AV}{η:Nat→Ent}{w0:World}{X:XX}{m:MM}{a:Act}{w:World}{f:FuncId}{os:Array Operand}{ats:Array TypeId}{args:List AV}{ch:Chg}(hi:ops[i]?=some o)(hg:o.guard=none)(h:Rep C n w0 X τ η m a w)
  (ho:o.op=.call ⟨.value (.func f),os,ats⟩) (hd:InB n o.dst) (hargs:os.toList.map (evA τ)=args) (hc:ASet C f args ch) (hfr:frs args) (hN:C.N=0) (hno:∀ b∈ch.map (·.1),¬ Owned (shp η) m b) (hX:∀ b∈ch.map (·.1),X b∨w0.heap.size≤b)
  (hτ:∀ t,US ch (τ t) (τ' t)) (hη:∀ i B,(η i).blk=some B→∀ e∈B.els,∀ x∈e,US ch x x) (hk:∀ a' w',Rep C n w0 X (putA τ' o.dst .dead) η m a' w'→wpOps C.P ops Q rest a' w'):wpOps C.P ops Q (i :: rest) a w:=by
 refine wpOps_at hi hg ?_
 subst hargs
 obtain⟨hen,hcall⟩:=hc
 have hrun:(execOp a.eval o).run C.P w=.ok (.enter f (os.map a.eval)) w:=by
  simp[execOp,ho,resolve,Act.eval,Deferred.ofValue,invoke,hen]
 have hO:∀ b,Owned (shp η) m b→b<w.heap.size∧C.N≤b:=by
  rintro b (h1|⟨i,h1,h2⟩)
  ·exact h.mem.olt b h1
  ·exact⟨h.mem.lt (blk_live.1 h1) h2,h.mem.low i b (blk_live.1 h1) h2⟩
 have:=hcall w (Owned (shp η) m) (os.map a.eval) h.gl h.mem.big hO (by simp) (fun j x v hx hv=>by
  refine rv_fr1 (frs_at hfr hx) (fun b hb=>owned_nov.1 hb) ?_ (vs:=shp η) (m:=m)
  rw[List.getElem?_map]at hx
  rw[Array.getElem?_map]at hv
  cases hj:os[j]? with
  | none=>rw[hj]at hv;cases hv
  | some q =>
   have hj':os.toList[j]?=some q:=by simpa using hj
   rw[hj']at hx
   rw[hj]at hv
   simp at hx hv
   rw[← hx,← hv]
   exact h.ev q)
 unfold Oper.wp
 rw[hrun]
 refine Calls.mono this ?_
 rintro e w' ⟨⟨v,rfl⟩,h2,h3⟩
 exact hk _ _ ((h.rows h2 hno hX hN hτ hη).put hd (.dead v))
end
noncomputable def cxL (C:Cx)(lo:Nat):Cx:={ C with Pw:=fun w X=>w.heap.size=lo∧∀ b,¬ X.X b }
theorem acall_ofL {C:Cx}{n:Nat}{f:FuncId}{fn:Func}{c:Code}{args:List AV}{r:AV}(hf:C.P.funcs[f]?=some fn)(hb:fn.body=some c)(hname:(fn.name == "runtime.NumGoroutine")=false)(hn:fn.ntmps=n)(ha:args.length≤n)
  (h:∀ lo,forceK (args++List.replicate (n-args.length) .dead) (fun tm=>forceK (List.replicate n ⟨0,none⟩) (fun hp=>True→AWP (cxL C lo) c (retK (cxL C lo) fn.results.toList r) ⟨tm,hp⟩))):ACall C f args r:=by
 refine⟨fun vs w=>?_,fun w O cargs hg hN hO hsz hargs=>?_⟩
 ·simp only[callFunc,Sem.run_bind,program,Sem.run,Result.andThen_ok,hf,hname,hb]
  rfl
 ·exact acall_at (C:=cxL C w.heap.size) hf hb hn ha hg hN hO hsz hargs (forceK_ok (forceK_ok (h w.heap.size)) trivial) ⟨rfl,fun b hb=>hb⟩
theorem toL {C:Cx}{lo:Nat}{f:FuncId}{args:List AV}{bs bs':List (Nat×Blk)}{ks:List Nat}{r:AV}(h:ACallG C f args bs ks r bs'):ACallG (cxL C lo) f args bs ks r bs':=by
 refine⟨h.1,fun w m cargs hg hm hs hr=>Calls.mono (h.2 w m cargs hg hm hs hr) ?_⟩
 rintro e w' ⟨v,m',e1,g⟩
 exact⟨v,m',e1,⟨g.rv,g.mem,g.oo,g.kin,g.own,g.ks,g.gl⟩⟩
theorem rv_ownx {w:World}{vs:Shp}{m:MM}{i ver len:Nat}{v:Value}(h:RV w vs m (.ownx i ver len) v):ver<(vs i).1∨∃ sz b ty,vs i=(ver,some sz)∧m i=some b∧len≤140737488355328∧w.shape? b=some (ty,len*sz)∧v=.slice (some ⟨b,0,none⟩) len len:=by
 cases h with
 | ownxS h1=>exact .inl h1
 | ownx h1 h2 h3 h4=>exact .inr ⟨_,_,_,h1,h2,h3,h4,rfl⟩
theorem rwT_at1 {lo ty k:Nat}{q:Nat×List Bool}{T:Tab}(h:T[k]?=some q):(rwT lo ty T)[k]?=some [.rowb lo ty q.1 q.2]:=by
 unfold rwT
 rw[List.getElem?_map,h]
 rfl
theorem rwT_app {lo ty:Nat}{T U:Tab}:rwT lo ty (T++U)=rwT lo ty T++rwT lo ty U:=by unfold rwT;rw[List.map_append]
theorem rwT_len {lo ty:Nat}{T:Tab}:(rwT lo ty T).length=T.length:=by unfold rwT;rw[lM_]
theorem Rep.reveal {C:Cx}{n:Nat}{w0:World}{X:XX}{τ:Nat→AV}{η:Nat→Ent}{m:MM}{a:Act}{w:World}{lo i j ver v ty ety len:Nat}{T:Tab}(h:Rep C n w0 X τ η m a w)(hC:C.Pw w0 X→w0.heap.size=lo∧∀ b,¬ X.X b)
  (hi:η i=⟨ver,some ⟨ty,1,false,List.replicate len [.c (.bool false)]⟩⟩) (hj:η j=⟨v,some ⟨ety,1,false,rwT lo ty T++[[.ownx i ver len]]⟩⟩) (hne:i≠j) (hin:i<n) :
  ∃ b,b∉T.map (·.1)∧Rep C n w0 X τ (updE (updE η i ⟨ver+1,none⟩) j ⟨v,some ⟨ety,1,false,rwT lo ty (T++[(b,List.replicate len false)])⟩⟩) m a w:=by
 obtain⟨hlo,hX⟩:=hC h.pw
 have okj:=h.mem.ok j _ (by rw[hj])
 have oki:=h.mem.ok i _ (by rw[hi])
 have si:shp η i=(ver,some 1):=by simp[shp,hi]
 cases hmj:m j with
 | none =>
  rw[hmj]at okj
  have:=okj.1
  simp at this
 | some bj =>
  rw[hmj]at okj
  obtain⟨arr,c1,c2,c3⟩:=okj
  have hlast:(rwT lo ty T++[[AV.ownx i ver len]])[T.length]?=some [.ownx i ver len]:=by
   rw[List.getElem?_append_right (by rw[rwT_len];exact Nat.le_refl _),rwT_len,Nat.sub_self]
   rfl
  obtain⟨val,v1,v2,v3⟩:=(c3 T.length _ hlast).2 0 _ rfl
  rcases rv_ownx v3 with hst|⟨sz,b,ty',x1,x2,x3,x4,rfl⟩
  ·rw[si]at hst
   exact absurd hst (Nat.lt_irrefl _)
  ·rw[si]at x1
   injection x1 with _ x1
   injection x1 with x1
   subst x1
   rw[Nat.mul_one]at x4
   rw[x2]at oki
   obtain⟨arri,d1,d2,d3⟩:=oki
   have hb:=d1.shape x4
   have hsz:arri.size=len:=by
    have:=x4
    simp only[World.shape?,hb]at this
    injection this with this
    injection this
   have harr:arri=((List.replicate len false).map Value.bool).toArray:=by
    apply Array.ext
    ·simp[hsz]
    ·intro k k1 k2
     have hk:k<len:=by omega
     obtain⟨u,u1,_,u3⟩:=(d3 k [.c (.bool false)] (by simp[hk])).2 0 _ rfl
     have:=rv_c u3
     subst this
     simp only[Nat.mul_one,Nat.add_zero]at u1
     rw[Array.getElem?_eq_getElem k1]at u1
     injection u1 with u1
     rw[u1]
     simp
   rw[harr]at hb
   have hlivei:(η i).blk≠none:=by rw[hi];simp
   have hlivej:(η j).blk≠none:=by rw[hj];simp
   have hown:Owned (shp η) m b:=.inr ⟨i,blk_live.2 hlivei,x2⟩
   have hnb:b∉T.map (·.1):=by
    intro hm
    obtain⟨q,hq,rfl⟩:=List.mem_map.1 hm
    obtain⟨k,hk⟩:=List.mem_iff_getElem?.1 hq
    have hkl:=(gS_.1 hk).1
    have:(rwT lo ty T++[[AV.ownx i ver len]])[k]?=some [.rowb lo ty q.1 q.2]:=by
     rw[List.getElem?_append_left (by rw[rwT_len];exact hkl)]
     exact rwT_at1 hk
    obtain⟨u,_,_,u3⟩:=(c3 k _ this).2 0 _ rfl
    exact(rv_rowb u3).2.1 hown
   refine⟨b,hnb,?_⟩
   generalize hη':(updE (updE η i ⟨ver+1,none⟩) j ⟨v,some ⟨ety,1,false,rwT lo ty (T++[(b,List.replicate len false)])⟩⟩)=η'
   have ei:η' i=⟨ver+1,none⟩:=by rw[← hη'];simp[updE,hne]
   have ej:η' j=⟨v,some ⟨ety,1,false,rwT lo ty (T++[(b,List.replicate len false)])⟩⟩:=by rw[← hη'];simp[updE]
   have eo:∀ k,k≠i→k≠j→η' k=η k:=fun k k1 k2=>by rw[← hη'];simp[updE,k1,k2]
   have live:∀ k,(η' k).blk≠none→(η k).blk≠none∧k≠i:=fun k hk=>by
    by_cases k1:k=i
    ·subst k1;rw[ei]at hk;exact absurd rfl hk
    ·by_cases k2:k=j
     ·subst k2;exact⟨hlivej,k1⟩
     ·rw[eo k k1 k2]at hk;exact⟨hk,k1⟩
   have hm:Mono w (shp η) m w (shp η') m:=by
    refine⟨Nat.le_refl _,fun _ _ _=>rfl,fun b' _ hno ho=>hno ?_,fun k=>?_,fun k hk=>?_⟩
    ·rcases ho with ho|⟨k,k1,k2⟩
     ·exact .inl ho
     ·exact .inr ⟨k,blk_live.2 (live k (blk_live.1 k1)).1,k2⟩
    ·by_cases k1:k=i
     ·subst k1;simp[shp,ei,hi]
     ·by_cases k2:k=j
      ·subst k2;simp[shp,ej,hj]
      ·simp[shp,eo k k1 k2]
    ·by_cases k1:k=i
     ·subst k1;simp[shp,ei,hi]at hk
     ·by_cases k2:k=j
      ·subst k2;exact⟨by simp[shp,ej,hj],fun _=>⟨rfl,fun _ _=>rfl⟩⟩
      ·exact⟨by simp[shp,eo k k1 k2],fun _=>⟨rfl,fun _ _=>rfl⟩⟩
   have hnob:¬ Owned (shp η') m b:=by
    rintro(ho|⟨k,k1,k2⟩)
    ·exact h.mem.sep i b hlivei x2 ho
    ·obtain⟨l1,l2⟩:=live k (blk_live.1 k1)
     exact l2 (h.mem.inj k i b l1 hlivei k2 x2)
   have hlob:lo≤b:=by
    rcases h.own i b hlivei x2 with ho|ho
    ·exact absurd ho (hX b)
    ·omega
   refine h.move hm ⟨fun k B hB=>?_,fun k k' b' l1 l2=>h.mem.inj k k' b' (live k l1).1 (live k' l2).1,fun k b' l1=>h.mem.low k b' (live k l1).1,fun k b' l1=>h.mem.sep k b' (live k l1).1,h.mem.olt,h.mem.big⟩ h.kin rfl (fun k b' l1=>h.own k b' (live k l1).1) (fun k hk=>?_)
   ·by_cases k1:k=i
    ·subst k1;rw[ei]at hB;cases hB
    ·by_cases k2:k=j
     ·subst k2
      rw[ej]at hB
      injection hB with hB
      subst hB
      rw[hmj]
      refine⟨arr,c1.congr rfl rfl (by simp[rwT_len]) rfl,by simpa [rwT_len] using c2,fun q e he=>?_⟩
      rw[rwT_app]at he
      rcases Nat.lt_or_ge q T.length with hq|hq
      ·rw[List.getElem?_append_left (by rw[rwT_len];exact hq)]at he
       have he':(rwT lo ty T++[[AV.ownx i ver len]])[q]?=some e:=by rw[List.getElem?_append_left (by rw[rwT_len];exact hq)];exact he
       refine⟨(c3 q e he').1,fun jj x hx=>?_⟩
       obtain⟨u,u1,u2,u3⟩:=(c3 q e he').2 jj x hx
       exact⟨u,u1,u2,u3.mono hm⟩
      ·rw[List.getElem?_append_right (by rw[rwT_len];exact hq),rwT_len]at he
       obtain⟨hq',he'⟩:=gS_.1 he
       have hq0:q=T.length:=by simp[rwT]at hq';omega
       subst hq0
       have hee:e=[.rowb lo ty b (List.replicate len false)]:=by rw[← he'];simp[rwT]
       subst hee
       refine⟨rfl,fun jj x hx=>?_⟩
       cases jj with
       | succ jj=>simp at hx
       | zero =>
        simp at hx
        subst hx
        refine⟨_,v1,v2,?_⟩
        have:=RV.rowb (w:=w) (vs:=shp η') (m:=m) (lo:=lo) (ty:=ty) (b:=b) (r:=List.replicate len false) hnob hlob hb (by simpa using x3)
        simpa using this
     ·rw[eo k k1 k2]at hB
      exact(h.mem.ok k B hB).mono hm (fun _ _=>rfl)
   ·have k1:k≠i:=by omega
    by_cases k2:k=j
    ·subst k2;rw[ej,hj]
    ·rw[eo k k1 k2]
theorem hpF_setU {hp:List Ent}{i:Nat}{e:Ent}(h:i<hp.length):hpF (hp.set i e)=updE (hpF hp) i e:=by
 funext k
 show(hp.set i e).getD k _=if k=i then e else hp.getD k _
 rw[gD_,gD_,List.getElem?_set]
 by_cases hk:i=k
 ·subst hk;simp[h]
 ·rw[if_neg hk,if_neg (fun e=>hk e.symm)]
theorem awp_reveal {C:Cx}{c:Code}{Q:Exit→St→Prop}{tm:List AV}{hp:List Ent}{lo ver v ty ety len:Nat}{T:Tab}(i j:Nat)(hC:∀ w0 X,C.Pw w0 X→w0.heap.size=lo∧∀ b,¬ X.X b)(hi:hp[i]?=some ⟨ver,some ⟨ty,1,false,List.replicate len [.c (.bool false)]⟩⟩)
  (hj:hp[j]?=some ⟨v,some ⟨ety,1,false,rwT lo ty T++[[.ownx i ver len]]⟩⟩) (hne:i≠j) (hin:i<tm.length) (h:∀ b,b∉T.map (·.1)→forceK ((hp.set i ⟨ver+1,none⟩).set j ⟨v,some ⟨ety,1,false,rwT lo ty (T++[(b,List.replicate len false)])⟩⟩) (fun hp'=>True→AWP C c Q ⟨tm,hp'⟩)):AWP C c Q ⟨tm,hp⟩:=by
 unfold AWP at h ⊢
 intro w0 X m a w hr
 have li:=(gS_.1 hi).1
 have lj:=(gS_.1 hj).1
 obtain⟨b,hb,hr'⟩:=Rep.reveal (C:=C) (n:=tm.length) (lo:=lo) (T:=T) hr (hC w0 X) (hp_get hi) (hp_get hj) hne hin
 refine forceK_ok (h b hb) trivial w0 X m a w ?_
 unfold RepS
 show Rep C tm.length w0 X (tmF tm) (hpF _) m a w
 rw[hpF_setU (by simpa using lj),hpF_setU li]
 exact hr'
theorem fr0_fr {x:AV}(h:Fr x):fr0 x:=by cases x <;> first|trivial|exact h
section
variable {ch : Chg}
inductive USL (ch:Chg):List AV→List AV→Prop
 | nil:USL ch [] []
 | cons {x y:AV} {r s:List AV}:US ch x y→USL ch r s→USL ch (x :: r) (y :: s)
theorem USL.len {r s:List AV}(h:USL ch r s):s.length=r.length:=by
 induction h with
 | nil=>rfl
 | cons _ _ ih=>simp[ih]
theorem USL.at_ {r s:List AV}(h:USL ch r s):∀ t,US ch (tmF r t) (tmF s t):=by
 induction h with
 | nil=>intro t;exact .dead
 | cons h1 _ ih =>
  intro t
  cases t with
  | zero=>exact h1
  | succ t=>exact ih t
inductive UHL (ch:Chg):List Ent→Prop
 | nil:UHL ch []
 | none {v:Nat} {r:List Ent}:UHL ch r→UHL ch (⟨v,none⟩ :: r)
 | some {v:Nat} {B:Blk} {r:List Ent}:(∀ e∈B.els,∀ x∈e,US ch x x)→UHL ch r→UHL ch (⟨v,some B⟩ :: r)
theorem UHL.at_ {r:List Ent}(h:UHL ch r):∀ i B,(hpF r i).blk=.some B→∀ e∈B.els,∀ x∈e,US ch x x:=by
 induction h with
 | nil=>intro i B hB;cases hB
 | none _ ih =>
  intro i B hB
  cases i with
  | zero=>cases hB
  | succ i=>exact ih i B hB
 | some h1 _ ih =>
  intro i B hB
  cases i with
  | zero =>
   have:B=_:=(sI_ hB).symm
   rw[this]
   exact h1
  | succ i=>exact ih i B hB
theorem ub_tabs {lo ty:Nat}{T T2:Tab}(h:T2.map (·.1)=T.map (·.1)):UB (chT T T2) (.sl 1 (rwT lo ty T)) (.sl 1 (rwT lo ty T2)):=by
 have hl:T2.length=T.length:=by have:=congrArg List.length h;simpa using this
 refine .sl (by decide) (by simp[rwT,hl]) (fun k e e' h1 h2=>?_) (fun k e e' h1 h2=>?_) FrI.h
 ·unfold rwT at h1 h2
  rw[List.getElem?_map]at h1 h2
  obtain⟨q,_,rfl⟩:=Option.map_eq_some_iff.1 h1
  obtain⟨q',_,rfl⟩:=Option.map_eq_some_iff.1 h2
  rfl
 ·unfold rwT at h1 h2
  rw[List.getElem?_map]at h1 h2
  obtain⟨q,hq,rfl⟩:=Option.map_eq_some_iff.1 h1
  obtain⟨q',hq',rfl⟩:=Option.map_eq_some_iff.1 h2
  intro j x x' g1 g2
  cases j with
  | succ j=>simp at g1
  | zero =>
   simp at g1 g2
   subst g1 g2
   have e1:q'.1=q.1:=by
    have:=congrArg (fun l=>l[k]?) h
    simp only[List.getElem?_map,hq,hq',Option.map_some]at this
    injection this
   rw[e1]
   refine .row ?_
   unfold chT
   refine List.mem_map.2 ⟨(q,q'),mG_ (i:=k) (List.getElem?_zip_eq_some.2 ⟨hq,hq'⟩),rfl⟩
theorem us_zT {z:GTable}{lo:Nat}{T T2:Tab}(h:T2.map (·.1)=T.map (·.1)):US (chT T T2) (.pim (cT z lo T) 0) (.pim (cT z lo T2) 0):=by
 refine .ub (.pim (by simp[cT]) rfl (fun k x x' h1 h2=>?_))
 match k,h1,h2 with
 | 0,h1,h2=>simp[cT]at h1 h2;subst h1 h2;exact ub_cI _
 | 1,h1,h2=>simp[cT]at h1 h2;subst h1 h2;exact ub_cI _
 | 2,h1,h2=>simp[cT]at h1 h2;subst h1 h2;exact ub_cF _
 | 3,h1,h2=>simp[cT]at h1 h2;subst h1 h2;exact ub_cO _
 | 4,h1,h2=>simp[cT]at h1 h2;subst h1 h2;exact ub_cI _
 | 5,h1,h2=>simp[cT]at h1 h2;subst h1 h2;exact ub_tabs h
 | k+6,h1,_=>simp[cT]at h1
theorem us_lf {l:List (List Fact)}:US ch (.sl 1 (l.map cL_cF)) (.sl 1 (l.map cL_cF)):=.ub (ub_map (by decide) (fun x y hy=>by
 simp only[cL_cF,List.mem_cons,List.not_mem_nil,or_false]at hy
 subst hy
 exact ub_cF _) FrI.h)
theorem us_i {l:List Int}:US ch (.sl 1 (l.map cI)) (.sl 1 (l.map cI)):=.ub (ub_cI _)
theorem us_f {l:List Fact}:US ch (.sl 2 (l.map cF)) (.sl 2 (l.map cF)):=.ub (ub_cF _)
theorem us_o {l:List GOp}:US ch (.sl 4 (l.map cGOp)) (.sl 4 (l.map cGOp)):=.ub (ub_cO _)
end
theorem us_box {ch:Chg}{z:GTask}:∀ e∈[[AV.sl 1 (z.Vars.map cI),.sl 1 (z.Init.map cI),.sl 2 (z.Goal.map cF),.sl 4 (z.Ops.map cGOp)]],∀ x∈e,US ch x x:=by
 intro e he x hx
 simp only[List.mem_cons,List.not_mem_nil,or_false]at he
 subst he
 simp only[List.mem_cons,List.not_mem_nil,or_false]at hx
 rcases hx with rfl|rfl|rfl|rfl
 ·exact us_i
 ·exact us_i
 ·exact us_f
 ·exact us_o
theorem us_map {ch:Chg}{M:List ((Int×Int×Int)×Option GCause)}:∀ e∈(mB k3 oGCause M).els,∀ x∈e,US ch x x:=by
 intro e he x hx
 obtain⟨q,_,rfl⟩:=List.mem_map.1 he
 simp only[List.mem_cons,List.not_mem_nil,or_false]at hx
 rcases hx with rfl|rfl
 ·exact .c
 ·cases q.2 with
  | none=>exact .c
  | some y=>exact .ub (.pim (by simp) rfl (fun j x x' g1 g2=>by
    rw[g1]at g2
    injection g2 with g2
    subst g2
    cases j with
    | zero =>
     simp at g1
     subst g1
     exact ub_map (by decide) (fun x y hy=>by
      simp only[cL_cF,List.mem_cons,List.not_mem_nil,or_false]at hy
      subst hy
      exact ub_cF _) FrI.h
    | succ j=>simp at g1))
theorem M_set_some {z:GTable}{a b:Fact}{R:List (List Bool)}(h:M_set z a b=some R):∃ ia ib,M_stratagem_mutex_Table_number z a=some ia∧M_stratagem_mutex_Table_number z b=some ib∧0≤ia∧ia<z.reached.length∧0≤ib∧ib<z.reached.length∧(∀ r∈z.reached,r.length=z.reached.length)∧R=setR (setR z.reached ia.toNat ib.toNat) ib.toNat ia.toNat:=by
 unfold M_set at h
 obtain⟨ia,h1,h⟩:=ob1_ok h
 obtain⟨ib,h2,h⟩:=ob1_ok h
 obtain⟨⟨g0,g1,g2,g3,g4⟩,h⟩:=grd_ok h
 exact⟨ia,ib,h1,h2,g0,g1,g2,g3,g4,(sI_ h).symm⟩
theorem set_call {lo:Nat}{z:GTable}{T:Tab}{a b:Fact}{R:List (List Bool)}{tm:List AV}{hp:List Ent}{ops:Array Oper}{Q:Exit→Act→World→Prop}{i d:Nat}{o:Oper}{w0:World}{X:XX}{m:MM}{act:Act}{w:World}{os:Array Operand}{ats:Array TypeId}(k:Nat)(hk:k<tm.length)
  (hrep:RepS (cxL cx lo) w0 X ⟨tm,hp⟩ m act w) (hi:ops[i]?=some o) (hg:o.guard=none) (ho:o.op=.call ⟨.value (.func 42),os,ats⟩) (hd:o.dst=some d) (hdn:d<tm.length)
  (hargs:os.toList.map (evA (tmF tm))=[.pim (cT z lo T) 0,.agg [.c (.int .i64 a.1),.c (.int .i64 a.2)],.agg [.c (.int .i64 b.1),.c (.int .i64 b.2)]]) (h5:tmF tm k=.pim (cT z lo T) 0) (hz:z.reached=T.map (·.2)) (hM:M_set z a b=some R) (hn:(T.map (·.1)).Nodup)
  (h:∀ T2:Tab,T2.map (·.2)=R→T2.map (·.1)=T.map (·.1)→UHL (chT T T2) hp∧∃ tm',USL (chT T T2) tm tm'∧tmF tm' d=.dead∧∀ m' a' w',RepS (cxL cx lo) w0 X ⟨tm',hp⟩ m' a' w'→Q .normal a' w'):wpOps (cxL cx lo).P ops Q [i] act w:=by
 obtain⟨ia,ib,u1,u2,g0,g1,g2,g3,g4,hR⟩:=M_set_some hM
 have hlen:z.reached.length=T.length:=by rw[hz,lM_]
 have hr:∀ (k:Nat) (q:Nat×List Bool),T[k]?=some q→q.2.length=T.length:=fun k q hq=>by
  rw[← hlen]
  exact g4 _ (by rw[hz];exact List.mem_map.2 ⟨q,mG_ hq,rfl⟩)
 rw[hlen]at g1 g3
 have hA:ASet (cxL cx lo) _ _ _:=A_set z lo T a b hz u1 u2 hn rfl hr g0 g1 g2 g3
 have e1:(setT (setT T ia.toNat ib.toNat) ib.toNat ia.toNat).map (·.1)=T.map (·.1):=by rw[setT_fst,setT_fst]
 have e2:(setT (setT T ia.toNat ib.toNat) ib.toNat ia.toNat).map (·.2)=R:=by rw[setT_snd,setT_snd,hR,hz]
 obtain⟨hU,tm',hL,hdd,hQ⟩:=h _ e2 e1
 generalize setT (setT T ia.toNat ib.toNat) ib.toNat ia.toNat=T2 at *
 have hrep':Rep (cxL cx lo) tm.length w0 X (tmF tm) (hpF hp) m act w:=hrep
 have hpw:w0.heap.size=lo∧∀ b,¬ X.X b:=hrep'.pw
 have hrow:=rv_tab (k:=5) (by have:=hrep'.tm k;rw[h5]at this;exact this) (show(cT z lo T)[5]?=some (.sl 1 (rwT lo 4 T))from rfl)
 have hmem:∀ b∈(chT T T2).map (·.1),∃ q∈T,q.1=b:=fun b hb=>by
  rw[chT_fst e1]at hb
  obtain⟨q,h1,h2⟩:=List.mem_map.1 hb
  exact⟨q,h1,h2⟩
 refine wpOps_set hi hg hrep' ho (by rw[hd];exact hdn) hargs hA ?_ rfl (fun b hb=>?_) (fun b hb=>?_) hL.at_ hU.at_ (fun a' w' hr'=>?_)
 ·have fz:Fr (.pim (cT z lo T) 0):=by unfold cT;exact FrV.h
  exact⟨fr1_fr fz,fr1_fr FrV.h,fr1_fr FrV.h,trivial⟩
 ·obtain⟨q,h1,rfl⟩:=hmem b hb
  exact(hrow q h1).2.1
 ·obtain⟨q,h1,rfl⟩:=hmem b hb
  exact .inr (by rw[hpw.1];exact(hrow q h1).2.2)
 ·refine hQ m a' w' ?_
  unfold RepS
  show Rep (cxL cx lo) tm'.length w0 X (tmF tm') (hpF hp) m a' w'
  rw[hL.len]
  have:putA (tmF tm') o.dst .dead=tmF tm':=by
   rw[hd]
   funext t
   simp only[putA]
   split
   ·rename_i e;rw[e,hdd]
   ·rfl
  rw[this]at hr'
  exact hr'
theorem rv_ownsRow {α:Type}{sz ty:Nat}{f:α→List AV}{vals:α→List Value}{l:List α}{w w':World}{O:Nat→Prop}{v:Value}(hO:∀ b,O b→b<w.heap.size)(hsz:0<sz)(hf:∀ x,f x=(vals x).map .c)(hv:∀ x,(vals x).length=sz)(h1:∀ x,∀ u∈vals x,u.oneCell'=true)
  (ho:w'.ownsRow w.heap.size ty sz v l.length (l.map vals).flatten) (hl:l.length≤140737488355328):RV w' nov (mO O) (.sl sz (l.map f)) v:=by
 rcases ho.2 with⟨rfl,h0⟩|⟨g,cp,cur,rfl,hg,hh,hn,_,hcs,htake⟩
 ·have hl:l=[]:=List.length_eq_zero_iff.1 h0
  subst hl
  exact RV.sl (f:=fun _ _=>.nilIface) (b:=0) (off:=0) (fun h=>absurd rfl h) (by simp) (by simp) (fun k e he=>by simp at he) (fun k j e x he=>by simp at he) (fun k j e x he=>by simp at he) (fun e he=>by simp at he)
 ·have hlt:g<w'.heap.size:=lt_of_block hh
  have hcell:∀ (k j:Nat) (x:α) (u:Value),l[k]?=some x→(vals x)[j]?=some u→w'.cell? ⟨g,0+(k*sz+j),none⟩=some u:=by
   intro k j x u hx hu
   have hk:k<l.length:=(gS_.1 hx).1
   have hj:j<sz:=by rw[← hv x];exact(gS_.1 hu).1
   have hat:(l.map vals).flatten[k*sz+j]?=some u:=by
    rw[flatten_get (l.map vals) (fun e he=>by obtain⟨y,_,rfl⟩:=List.mem_map.1 he;exact hv y) k (vals x) j (by rw[List.getElem?_map,hx];rfl) hj,hu]
   have hlen:k*sz+j<l.length*sz:=by
    have:(k+1)*sz≤l.length*sz:=Nat.mul_le_mul_right _ hk
    rw[Nat.succ_mul]at this
    omega
   have:=ho.cellAt (k*sz+j) hlen
   rw[Nat.zero_add]
   rw[this]
   exact hat
  have:=RV.sl (w:=w') (vs:=nov) (m:=mO O) (sz:=sz) (l:=l.map f) (A:=some ⟨g,0,none⟩) (cap:=cp) (b:=g) (off:=0) (f:=fun k j=>(l[k]?.bind (fun x=>(vals x)[j]?)).getD .nilIface)
   (fun _=>⟨rfl,fun ho'=>by have:=hO _ (owned_nov.1 ho');omega,hlt⟩) (by simp;omega) (by simp;omega)
   (fun k e he=>by obtain⟨x,_,rfl⟩:=get_map he;rw[hf,lM_,hv])
   (fun k j e x he hx=>by
    obtain⟨y,hy,rfl⟩:=get_map he
    rw[hf,List.getElem?_map]at hx
    obtain⟨u,hu,rfl⟩:=Option.map_eq_some_iff.1 hx
    refine⟨?_,?_⟩
    ·rw[hcell k j y u hy hu]
     simp only[hy,oB_,hu,Option.getD_some]
    ·simp only[hy,oB_,hu,Option.getD_some]
     exact h1 y u (mG_ hu))
   (fun k j e x he hx=>by
    obtain⟨y,hy,rfl⟩:=get_map he
    rw[hf,List.getElem?_map]at hx
    obtain⟨u,hu,rfl⟩:=Option.map_eq_some_iff.1 hx
    simp only[hy,oB_,hu,Option.getD_some]
    exact .c _) (FrL_map (fun x _=>by
     rw[hf]
     intro y hy
     obtain⟨u,_,rfl⟩:=List.mem_map.1 hy
     exact .c _))
  simp only[lM_]at this
  exact this
theorem acall_bl {f:FuncId}{fn:Func}{c:Code}{args:List AV}{r:AV}(hf:Tryz.prog.funcs[f]?=some fn)(hb:fn.body=some c)(hname:(fn.name == "runtime.NumGoroutine")=false)
  (h:∀ (w:World) (O:Nat→Prop) (cargs:Array Value),(∀ b,O b→b<w.heap.size)→cargs.size=args.length→(∀ (j:Nat) (x:AV) (v:Value),args[j]?=some x→cargs[j]?=some v→RV w nov (mO O) x v) →
   Calls Tryz.prog f cargs w (fun e w'=>∃ v,e=.returned v∧RV w' nov (mO O) r v∧Below w.heap.size w w')):ACall cx f args r:=by
 refine⟨enter_g hf hb hname,fun w O cargs _ _ hO hs hr=>?_⟩
 refine Calls.mono (h w O cargs (fun b hb=>(hO b hb).1) hs hr) ?_
 rintro e w' ⟨v,h1,h2,h3⟩
 exact⟨v,h1,h2,⟨h3.os,h3.tape,h3.output,h3.size,fun b hb _=>h3.block b hb⟩,trivial⟩
def M_cloneI (l:List Int):Option (List Int):=grd (l.length*8≤140737488355328) (some l)
theorem int_flat (l:List Int):(l.map (fun x=>[Value.int .i64 x])).flatten=l.map (Value.int .i64):=by
 induction l with
 | nil=>rfl
 | cons x r ih=>rw[List.map_cons,List.flatten_cons,ih];rfl
theorem A_cloneI (l:List Int){r:List Int}(h:M_cloneI l=some r):ACall cx 71 [.sl 1 (l.map cI)] (.sl 1 (r.map cI)):=by
 obtain⟨h0,h⟩:=grd_ok h
 obtain rfl:=sI_ h
 refine acall_bl Tryz.func71 rfl (by decide) (fun w O cargs hO hs hr=>?_)
 obtain⟨v,rfl⟩:=cargs1 hs
 obtain⟨A,cap,b,off,f,rfl,hA,hcap,_,_,hc,hv,_⟩:=rv_sl (hr 0 _ v rfl rfl)
 have done:∀ (w':World) (v':Value),w'.ownsRow w.heap.size 3 1 v' l.length (l.map (Value.int .i64))→RV w' nov (mO O) (.sl 1 (l.map cI)) v':=fun w' v' ho =>
  rv_ownsRow (vals:=fun x=>[Value.int .i64 x]) hO (by decide) (fun x=>rfl) (fun x=>rfl) (fun x u hu=>by simp at hu;subst hu;rfl) (by rw[int_flat];exact ho) (by omega)
 have hlen:(l.map cI).length=l.length:=lM_ _
 by_cases hl:l=[]
 ·subst hl
  cases A with
  | none =>
   refine(Tryz.slices_Clone_int_nil _ cap w).mono ?_
   rintro e w' ⟨rfl,rfl⟩
   exact⟨_,rfl,done _ _ ⟨rfl,.inl ⟨rfl,rfl⟩⟩,Below.refl _ _⟩
  | some a =>
   refine(Tryz.slices_Clone_int_zero a cap w).mono ?_
   rintro e w' ⟨v',rfl,ho,_,hb⟩
   exact⟨v',rfl,done _ _ ho,hb⟩
 ·obtain⟨rfl,_,_⟩:=hA (by simpa using hl)
  rw[hlen]
  refine(Tryz.slices_Clone_int b off l.length cap l w (Nat.le_refl _) h0 (fun j hj=>?_)).mono ?_
  ·have hx:=gE_ hj
   have:=(hc j 0 _ _ (map_at' hx) rfl).1
   rw[rv_c (hv j 0 _ _ (map_at' hx) rfl)]at this
   simpa [gD_,hx] using this
  ·rintro e w' ⟨v',rfl,ho,_,hb⟩
   rw[tL_ (Nat.le_refl _)]at ho
   exact⟨v',rfl,done _ _ ho,hb⟩
def M_mutex_copied_L1 (y145:GOp):Nat→Int→(List GEffect)→Option (List GEffect)|0,_,_=>none|k168+1,v166,v167=>sel (decide (v166<((y145.Effs.map cGEffect).length:Int))) (ix y145.Effs v166 (fun y169=>ob1 (M_cloneF y169.When) (fun z170=>grd ((v167.length+1)*40≤140737488355328) (grd (z170.length≤140737488355328) (M_mutex_copied_L1 y145 k168 (IntKind.i64.wrap (v166+1)) (v167++[{ When:=z170,Var:=y169.Var,Val:=y169.Val:GEffect }])))))) (some v167)
def M_mutex_copied_L2 (a0:GTask)(z1:List Int)(z2:List Int)(z3:List Fact):Nat→Int→(List GOp)→Option (GTask)|0,_,_=>none|k116+1,v114,v115=>sel (decide (v114<((a0.Ops.map cGOp).length:Int))) (ob1 (ix a0.Ops v114 (fun y145=>ob1 (M_cloneF y145.Pre) (fun z146=>ob1 (M_mutex_copied_L1 y145 ((((y145.Effs.map cGEffect).length:Int)).toNat+1) 0 []:Option (List GEffect)) (fun v158=>grd ((v115.length+1)*72≤140737488355328) (grd (z146.length≤140737488355328) (grd (v158.length≤140737488355328) (some (v115++[{ Name:=y145.Name,Cost:=y145.Cost,Pre:=z146,Effs:=v158:GOp }]))))))):Option (List GOp)) (fun v143=>M_mutex_copied_L2 a0 z1 z2 z3 k116 (IntKind.i64.wrap (v114+1)) v143)) (grd (z3.length≤140737488355328) (grd (v115.length≤140737488355328) (some ({ Vars:=z1,Init:=z2,Goal:=z3,Ops:=v115:GTask }))))
def M_mutex_copied (a0:GTask):Option (GTask):=ob1 (M_cloneI a0.Vars) (fun z1=>ob1 (M_cloneI a0.Init) (fun z2=>ob1 (M_cloneF a0.Goal) (fun z3=>M_mutex_copied_L2 a0 z1 z2 z3 ((((a0.Ops.map cGOp).length:Int)).toNat+1) 0 [])))
set_option maxHeartbeats 16000000 in
set_option maxRecDepth 100000 in
theorem A_mutex_copied (a0:GTask){r1:GTask}(h:M_mutex_copied a0=some r1):ACall cx 41 [.agg [.sl 1 (a0.Vars.map cI),.sl 1 (a0.Init.map cI),.sl 2 (a0.Goal.map cF),.sl 4 (a0.Ops.map cGOp)]] (.agg [.sl 1 (r1.Vars.map cI),.sl 1 (r1.Init.map cI),.sl 2 (r1.Goal.map cF),.sl 4 (r1.Ops.map cGOp)]):=by
 refine aOf Tryz.func41 rfl (by decide) rfl (bT3 rfl) ?_;intro _;unfold M_mutex_copied at h;refine aSR ?_;intro _;refine dr (aSR ?_);intro _;obtain⟨z1,u1,h⟩:=ob1_ok h;refine cl rfl (A_cloneI a0.Vars u1) ?_;intro _;obtain⟨z2,u2,h⟩:=ob1_ok h;refine cl rfl (A_cloneI a0.Init u2) ?_;intro _;obtain⟨z3,u3,h⟩:=ob1_ok h;refine clg [(0,17)] [] [] [(17,⟨2,some ⟨39,2,false,z3.map cF⟩⟩)] (.own 17 2 0 z3.length) rfl rfl (A_cloneF a0.Goal u3) ?_;intro _;refine dr (aSq (aSR ?_));intro _;refine dr (aBk ?_);refine awp_loop (α:=Nat×Int×(List GOp)) (fun x=>mkS 56 [(2,.ptr 2 0 0 0),(3,.ptr 3 0 0 0),(20,.sl 4 (a0.Ops.map cGOp)),(21,.c (.int .i64 ((a0.Ops.map cGOp).length:Int))),(22,.c (.int .i64 x.2.1))] [(2,⟨26,4,true,[[.c (.slice none 0 0),.c (.slice none 0 0),.c (.slice none 0 0),.c (.slice none 0 0)]]⟩),(3,⟨26,4,true,[[.sl 1 (z1.map cI),.sl 1 (z2.map cI),.own 17 0 0 z3.length,.own 52 0 0 x.2.2.length]]⟩),(17,⟨39,2,false,z3.map cF⟩),(52,⟨60,4,false,x.2.2.map cGOp⟩)]) (fun x=>M_mutex_copied_L2 a0 z1 z2 z3 x.1 x.2.1 x.2.2=some r1) (fun x=>x.1) ((((a0.Ops.map cGOp).length:Int)).toNat+1,0,[]) h ?_ ?_
 ·exact ca_0
 ·intro x4 h;intro _;obtain⟨k116,m5,h⟩:=succ_of (f:=fun n=>M_mutex_copied_L2 a0 z1 z2 z3 n x4.2.1 x4.2.2) rfl h;replace h:M_mutex_copied_L2 a0 z1 z2 z3 (k116+1) x4.2.1 x4.2.2=some r1:=h;rw[M_mutex_copied_L2]at h;refine aSR ?_;intro _;refine dr (aSq (aCd ?_));intro _;refine spl h (fun c6 h=>?_) (fun c6 h=>?_)
  ·refine aSk ?_;obtain⟨o7,h,hK8⟩:=ob1_ok h;refine awp_cut (α:=List GOp) (fun v143=>mkS 56 [(2,.ptr 2 0 0 0),(3,.ptr 3 0 0 0),(20,.sl 4 (a0.Ops.map cGOp)),(21,.c (.int .i64 ((a0.Ops.map cGOp).length:Int))),(22,.c (.int .i64 x4.2.1))] [(2,⟨26,4,true,[[.c (.slice none 0 0),.c (.slice none 0 0),.c (.slice none 0 0),.c (.slice none 0 0)]]⟩),(3,⟨26,4,true,[[.sl 1 (z1.map cI),.sl 1 (z2.map cI),.own 17 0 0 z3.length,.own 52 0 0 v143.length]]⟩),(17,⟨39,2,false,z3.map cF⟩),(52,⟨60,4,false,v143.map cGOp⟩)]) (fun v=>o7=v) ?_ ?_
   ·refine aBk (aSR ?_);intro _;obtain⟨y145,w9,q10,h⟩:=ix_ok h;refine Exists.intro (cGOp y145) (And.intro (map_at' w9) ?_);intro _;refine pr (dr (aSR ?_));intro _;obtain⟨z146,u11,h⟩:=ob1_ok h;refine clg [(0,28)] [] [] [(28,⟨2,some ⟨39,2,false,z146.map cF⟩⟩)] (.own 28 2 0 z146.length) rfl rfl (A_cloneF y145.Pre u11) ?_;intro _;refine dr (aSR ?_);intro _;refine dr ?_;obtain⟨o12,h,hK13⟩:=ob1_ok h;refine awp_cut (α:=List GEffect) (fun v158=>mkS 56 [(2,.ptr 2 0 0 0),(3,.ptr 3 0 0 0),(5,.ptr 5 0 0 0),(6,.own 44 0 0 v158.length),(20,.sl 4 (a0.Ops.map cGOp)),(21,.c (.int .i64 ((a0.Ops.map cGOp).length:Int))),(22,.c (.int .i64 x4.2.1))] [(2,⟨26,4,true,[[.c (.slice none 0 0),.c (.slice none 0 0),.c (.slice none 0 0),.c (.slice none 0 0)]]⟩),(3,⟨26,4,true,[[.sl 1 (z1.map cI),.sl 1 (z2.map cI),.own 17 0 0 z3.length,.own 52 0 0 x4.2.2.length]]⟩),(5,⟨60,4,true,[[.c (.string y145.Name),.c (.int .i64 y145.Cost),.own 28 0 0 z146.length,.sl 3 (y145.Effs.map cGEffect)]]⟩),(17,⟨39,2,false,z3.map cF⟩),(28,⟨39,2,false,z146.map cF⟩),(44,⟨76,3,false,v158.map cGEffect⟩),(52,⟨60,4,false,x4.2.2.map cGOp⟩)]) (fun v=>o12=v) ?_ ?_
    ·refine aSR ?_;intro _;refine dr (aBk ?_);refine awp_loop (α:=Nat×Int×(List GEffect)) (fun x=>mkS 56 [(2,.ptr 2 0 0 0),(3,.ptr 3 0 0 0),(5,.ptr 5 0 0 0),(6,.own 44 0 0 x.2.2.length),(20,.sl 4 (a0.Ops.map cGOp)),(21,.c (.int .i64 ((a0.Ops.map cGOp).length:Int))),(22,.c (.int .i64 x4.2.1)),(31,.sl 3 (y145.Effs.map cGEffect)),(32,.c (.int .i64 ((y145.Effs.map cGEffect).length:Int))),(33,.c (.int .i64 x.2.1))] [(2,⟨26,4,true,[[.c (.slice none 0 0),.c (.slice none 0 0),.c (.slice none 0 0),.c (.slice none 0 0)]]⟩),(3,⟨26,4,true,[[.sl 1 (z1.map cI),.sl 1 (z2.map cI),.own 17 0 0 z3.length,.own 52 0 0 x4.2.2.length]]⟩),(5,⟨60,4,true,[[.c (.string y145.Name),.c (.int .i64 y145.Cost),.own 28 0 0 z146.length,.sl 3 (y145.Effs.map cGEffect)]]⟩),(17,⟨39,2,false,z3.map cF⟩),(28,⟨39,2,false,z146.map cF⟩),(44,⟨76,3,false,x.2.2.map cGEffect⟩),(52,⟨60,4,false,x4.2.2.map cGOp⟩)]) (fun x=>M_mutex_copied_L1 y145 x.1 x.2.1 x.2.2=some o12) (fun x=>x.1) ((((y145.Effs.map cGEffect).length:Int)).toNat+1,0,[]) h ?_ ?_
     ·exact ca_0
     ·intro x14 h;intro _;obtain⟨k168,m15,h⟩:=succ_of (f:=fun n=>M_mutex_copied_L1 y145 n x14.2.1 x14.2.2) rfl h;replace h:M_mutex_copied_L1 y145 (k168+1) x14.2.1 x14.2.2=some o12:=h;rw[M_mutex_copied_L1]at h;refine aSR ?_;intro _;refine dr (aSq (aCd ?_));intro _;refine spl h (fun c16 h=>?_) (fun c16 h=>?_)
      ·refine aSk (aSq (aBk (aSR ?_)));intro _;obtain⟨y169,w17,q18,h⟩:=ix_ok h;refine Exists.intro (cGEffect y169) (And.intro (map_at' w17) ?_);intro _;refine pr (dr (aSR ?_));intro _;obtain⟨z170,u19,h⟩:=ob1_ok h;refine clg [(0,39)] [] [] [(39,⟨2,some ⟨39,2,false,z170.map cF⟩⟩)] (.own 39 2 0 z170.length) rfl rfl (A_cloneF y169.When u19) ?_;intro _;refine dr (aRg ?_);intro _;obtain⟨q20,h⟩:=grd_ok h;refine pl (pl ?_);refine And.intro (by first|with_reducible assumption|(show(x14.2.2.length+1)*40≤140737488355328;with_reducible assumption)|omega|(simp;omega)) ?_;refine pe (dr (aRg ?_));intro _;refine dr ?_;obtain⟨q21,h⟩:=grd_ok h;refine⟨(k168,(IntKind.i64.wrap (x14.2.1+1)),(x14.2.2++[{ When:=z170,Var:=y169.Var,Val:=y169.Val:GEffect }])),h,ltS m15,?_⟩;exact ca_0
      ·refine aEx ?_;refine⟨x14.2.2,(sI_ h).symm,?_⟩;exact ca_0
    ·rintro v158 ho;have ho:=ho.symm;subst ho;intro _;replace h:=hK13;refine aSR ?_;intro _;refine dr (aRg ?_);intro _;obtain⟨q22,h⟩:=grd_ok h;refine pl (pl ?_);refine And.intro (by first|with_reducible assumption|(show(x4.2.2.length+1)*72≤140737488355328;with_reducible assumption)|omega|(simp;omega)) ?_;refine pe (dr ?_);obtain⟨q23,h⟩:=grd_ok h;obtain⟨q24,h⟩:=grd_ok h;refine⟨(x4.2.2++[{ Name:=y145.Name,Cost:=y145.Cost,Pre:=z146,Effs:=v158:GOp }]),(sI_ h).symm,?_⟩;exact ca_0
   ·rintro v143 ho;have ho:=ho.symm;subst ho;intro _;replace h:=hK8;refine aRg ?_;intro _;refine dr ?_;refine⟨(k116,(IntKind.i64.wrap (x4.2.1+1)),v143),h,ltS m5,?_⟩;exact ca_0
  ·refine aEx (aSR ?_);intro _;refine dr (aRt ?_);obtain⟨q25,h⟩:=grd_ok h;obtain⟨q26,h⟩:=grd_ok h;intro _;obtain rfl:=inj1 h;exact ca_0
theorem zb_XNew {P:Prop}(h:P:=by repeat (first|exact BWL.nil|exact bwll_nil|exact bw_c|exact BW.sl|exact BW.nil|exact bwll_same rfl FrI.h|refine BWL.cons ?_ ?_|refine bwll_cons ?_ ?_|(refine bw_own3 rfl rfl rfl FrI.h ?_ ?_ ?_)|exact BW.fr FrV.h|exact bw_fr2 rfl FrV.h|exact BW.fr (by assumption)|refine bw_agg ?_|refine bw_clo ?_|refine bw_ptr rfl rfl rfl ?_|(refine bw_own rfl rfl rfl ?_ FrI.h ?_ ?_)|assumption|omega|rfl|(rw[lM_,← lA_];assumption)|(refine bwll_same ?_ FrI.h;(simp[cGTask,cI,cF,cGOp,cGEffect,cGTable,cB,cL_cB,cGCause,cL_cF] <;> fail))|(rw[List.map_set];refine bwll_set (by first|rfl|omega|simp) ?_ ?_)|refine bwll_set (by first|rfl|omega|simp) ?_ ?_|(rw[List.map_replicate];refine bwll_rep ?_)|refine bwll_rep ?_|(rw[List.map_append];refine bwll_append ?_ ?_)|refine bwll_append ?_ ?_|(simp[cGTask,cI,cF,cGOp,cGEffect,cGTable,cB,cL_cB,cGCause,cL_cF,take_len_map] <;> fail)|(rw[List.drop_zero,tL_] <;> first|rfl|(simp[cGTask,cI,cF,cGOp,cGEffect,cGTable,cB,cL_cB,cGCause,cL_cF] <;> fail))|(simp;omega)|(simp only[lM_,lA_,List.drop_zero,lC_,lN_,Nat.zero_add,Nat.add_zero]at *;omega))):P:=h
theorem zg_XNew {P:Prop}(h:P:=by repeat (first|exact True.intro|exact gb_nil rfl rfl|refine gb_some ⟨rfl,rfl,rfl⟩ ?_|refine And.intro ?_ ?_|refine gw_ren rfl rfl rfl rfl rfl ?_|exact gw_oren rfl rfl rfl rfl rfl|exact gw_opren rfl rfl rfl rfl rfl|exact gw_onil rfl rfl|exact gw_mren rfl rfl rfl rfl|refine gw_pren rfl rfl rfl rfl rfl|exact gw_thaw rfl rfl rfl|refine gw_tup ?_|exact GWL.nil|exact gwll_nil|exact gw_c|exact GW.sl|exact GW.nil|exact gwll_same rfl FrI.h|refine GWL.cons ?_ ?_|refine gwll_cons ?_ ?_|(refine gw_own3 rfl rfl rfl FrI.h ?_ ?_ ?_)|exact GW.fr FrV.h|exact gw_fr2 rfl FrV.h|exact GW.fr (by assumption)|refine gw_agg ?_|refine gw_clo ?_|refine gw_ptr rfl rfl rfl ?_|(refine gw_own rfl rfl rfl ?_ FrI.h ?_ ?_)|assumption|omega|rfl|(rw[lM_,← lA_];assumption)|(refine gwll_same ?_ FrI.h;(simp[cGTask,cI,cF,cGOp,cGEffect,cGTable,cB,cL_cB,cGCause,cL_cF] <;> fail))|(rw[List.map_set];refine gwll_set (by first|rfl|omega|simp) ?_ ?_)|refine gwll_set (by first|rfl|omega|simp) ?_ ?_|(rw[List.map_replicate];refine gwll_rep ?_)|refine gwll_rep ?_|(rw[List.map_append];refine gwll_append ?_ ?_)|refine gwll_append ?_ ?_|(simp[cGTask,cI,cF,cGOp,cGEffect,cGTable,cB,cL_cB,cGCause,cL_cF,take_len_map] <;> fail)|(rw[List.drop_zero,tL_] <;> first|rfl|(simp[cGTask,cI,cF,cGOp,cGEffect,cGTable,cB,cL_cB,cGCause,cL_cF] <;> fail))|(simp;omega)|(simp only[lM_,lA_,List.drop_zero,lC_,lN_,Nat.zero_add,Nat.add_zero]at *;omega))):P:=h
theorem ci_XNew {p K:Prop}(k:K)(h:p:=by first|rfl|exact⟨rfl,rfl⟩|exact BW.fr FrV.h|exact bw_fr2 rfl FrV.h|(refine BW.fr ?_;assumption)|(refine⟨rfl,?_⟩;(simp[cGTask,cI,cF,cGOp,cGEffect,cGTable,cB,cL_cB,cGCause,cL_cF,take_len_map];done))|(refine RowK.same ?_ FrI.h;first|rfl|(simp[cGTask,cI,cF,cGOp,cGEffect,cGTable,cB,cL_cB,cGCause,cL_cF,take_len_map];done))|(refine row_part1 ?_;(exact zb_XNew);done)|((exact zb_XNew);done)|(simp[cGTask,cI,cF,cGOp,cGEffect,cGTable,cB,cL_cB,cGCause,cL_cF,take_len_map];done)):p∧K:=⟨h,k⟩
theorem ca_XNew {P:Prop}(h:P:=by repeat (first|exact True.intro|refine ci_XNew ?_)):P:=h
theorem pr_XNew {p K:Prop}(k:K)(h:p:=by first|assumption|exact Int.natCast_nonneg _|exact Nat.le_refl _|exact Nat.zero_le _|omega|(simp;done)|(simp;omega)):p∧K:=⟨h,k⟩
theorem pl_XNew {p K:Prop}(k:K)(h:p:=by first|rfl|exact lM_ _|(simp;done)|(simp;omega)):p∧K:=⟨h,k⟩
theorem pe_XNew {p K:Prop}(k:K)(h:p:=by first|omega|(simp;omega)|(simp only[lM_,lC_,lN_,lA_];omega)|(simp only[lM_,List.drop_zero,lC_,lN_,Nat.zero_add,Nat.add_zero]at *;omega)):p∧K:=⟨h,k⟩
theorem dr_XNew {b:Bool}{p K:Prop}(k:K)(h:b=true→p:=by intro h;first|(cases h;done)|exact⟨by kernel_rfl,by kernel_rfl⟩):(b=true→p)∧K:=⟨h,k⟩
theorem cl_XNew {C:Cx}{n:Nat}{o:Oper}{τ:Nat→AV}{η:Nat→Ent}{f:FuncId}{os:Array Operand}{ats:Array TypeId}{r:AV}{args:List AV}{K:Foot→Prop}(ho:o.op=.call ⟨.value (.func f),os,ats⟩)(hc:ACall C f args r)(k:K ⟨r,[],[]⟩)
  (hd:InB n o.dst:=by exact bT3 rfl) (hargs:os.toList.map (evA τ)=args:=by first|rfl|(simp[cGTask,cI,cF,cGOp,cGEffect,cGTable,cB,cL_cB,cGCause,cL_cF];done)|(repeat (first|exact rfl|refine cons_eq ?_ ?_|exact sl_dt rfl))) (hfr:frs args:=by repeat (first|exact trivial|exact fr1_eA _|exact fr0_eA _|exact fr1_fr (by assumption)|exact FrV.h|exact fr1_fr FrV.h|refine And.intro ?_ ?_)) (hr:fr1 r:=by repeat (first|exact trivial|exact fr1_eA _|exact fr0_eA _|exact fr1_fr (by assumption)|exact FrV.h|exact fr1_fr FrV.h|refine And.intro ?_ ?_)):∃ f:Foot,LF C n o τ η f∧K f:=⟨_,lf_call ho hd hargs hc hfr hr,k⟩
theorem clf_XNew {C:Cx}{n:Nat}{o:Oper}{τ:Nat→AV}{η:Nat→Ent}{f:FuncId}{os:Array Operand}{ats:Array TypeId}{r:AV}{xs ys:List AV}{K:Foot→Prop}(us:List (Nat×Ent))(ho:o.op=.call ⟨.value (.func f),os,ats⟩)(hargs:os.toList.map (evA τ)=xs)(hc:ACall C f ys r)(k:K ⟨r,us,[]⟩)
  (hus:allUs η us:=by repeat (first|exact trivial|refine And.intro rfl ?_)) (hul:ltUs n us:=by repeat (first|exact trivial|refine And.intro (bT3 rfl) ?_)) (hd:InB n o.dst:=by exact bT3 rfl) (hb:BWL η (dropB η (us.map (·.1))) xs ys:=by exact zb_XNew) (hr:fr1 r:=by repeat (first|exact trivial|exact fr1_eA _|exact fr0_eA _|exact fr1_fr (by assumption)|exact FrV.h|exact fr1_fr FrV.h|refine And.intro ?_ ?_)):∃ f:Foot,LF C n o τ η f∧K f:=⟨_,lf_callF us (allUs_at hus) (ltUs_at hul) ho hd hargs hb hc hr,k⟩
theorem clg_XNew {C:Cx}{n:Nat}{o:Oper}{τ:Nat→AV}{η:Nat→Ent}{f:FuncId}{os:Array Operand}{ats:Array TypeId}{r:AV}{xs ys:List AV}{bs bs':List (Nat×Blk)}{ks:List Nat}{K:Foot→Prop}(ρ:List (Nat×Nat))(fz:List Nat)(go nb:List (Nat×Ent))(r':AV)(ho:o.op=.call ⟨.value (.func f),os,ats⟩)(hargs:os.toList.map (evA τ)=xs)
  (hc:ACallG C f ys bs ks r bs') (k:K ⟨r',go++nb,[]⟩) (hd:InB n o.dst:=by exact bT3 rfl) (hok:okC ρ fz bs ks bs' (idsE go)=true:=by rfl) (hgo:allUs η go:=by repeat (first|exact trivial|refine And.intro rfl ?_)) (hgl:ltUs n go:=by repeat (first|exact trivial|refine And.intro (bT3 rfl) ?_))
  (hw:GWL η (fE bs) (lk ρ) (fun i=>inB fz i=true) (fun i=>inB (keys bs) i=true) xs ys:=by exact zg_XNew) (hb:GBL η (fE bs) (lk ρ) (fun i=>inB fz i=true) (fun i=>inB (keys bs) i=true) bs:=by exact zg_XNew)
  (hr:GW (fE bs') (updAll η (go++nb)) (lk (backN ρ bs')) (fun _=>False) (fun i=>inB (idsE nb) i=true) r r':=by exact zg_XNew)
  (hnb:nbOk n η (updAll η (go++nb)) ρ ks (fE bs') (lk (backN ρ bs')) (fun i=>inB (idsE nb) i=true) bs' nb:=by repeat (first|exact True.intro|rfl|exact bT3 rfl|exact gb_nil rfl rfl|refine gb_some ⟨rfl,rfl,rfl⟩ ?_|refine And.intro ?_ ?_|refine gw_ren rfl rfl rfl rfl rfl ?_|exact gw_oren rfl rfl rfl rfl rfl|exact gw_opren rfl rfl rfl rfl rfl|exact gw_onil rfl rfl|exact gw_mren rfl rfl rfl rfl|refine gw_pren rfl rfl rfl rfl rfl|exact gw_thaw rfl rfl rfl|refine gw_tup ?_|exact GWL.nil|exact gwll_nil|exact gw_c|exact GW.sl|exact GW.nil|exact gwll_same rfl FrI.h|refine GWL.cons ?_ ?_|refine gwll_cons ?_ ?_|(refine gw_own3 rfl rfl rfl FrI.h ?_ ?_ ?_)|exact GW.fr FrV.h|exact gw_fr2 rfl FrV.h|exact GW.fr (by assumption)|refine gw_agg ?_|refine gw_clo ?_|refine gw_ptr rfl rfl rfl ?_|(refine gw_own rfl rfl rfl ?_ FrI.h ?_ ?_)|assumption|omega|rfl|(rw[lM_,← lA_];assumption)|(refine gwll_same ?_ FrI.h;(simp[cGTask,cI,cF,cGOp,cGEffect,cGTable,cB,cL_cB,cGCause,cL_cF] <;> fail))|(rw[List.map_set];refine gwll_set (by first|rfl|omega|simp) ?_ ?_)|refine gwll_set (by first|rfl|omega|simp) ?_ ?_|(rw[List.map_replicate];refine gwll_rep ?_)|refine gwll_rep ?_|(rw[List.map_append];refine gwll_append ?_ ?_)|refine gwll_append ?_ ?_|(simp[cGTask,cI,cF,cGOp,cGEffect,cGTable,cB,cL_cB,cGCause,cL_cF,take_len_map] <;> fail)|(rw[List.drop_zero,tL_] <;> first|rfl|(simp[cGTask,cI,cF,cGOp,cGEffect,cGTable,cB,cL_cB,cGCause,cL_cF] <;> fail))|(simp;omega)|(simp only[lM_,lA_,List.drop_zero,lC_,lN_,Nat.zero_add,Nat.add_zero]at *;omega))):∃ f:Foot,LF C n o τ η f∧K f:=⟨_,lf_callG ρ fz go nb ho hd hargs hc hok hgo hgl hw hb hr hnb,k⟩
def M_mutex_New_L1 (a0:GTask):Nat→Int→Int→(List Int)→Option (Int×(List Int))|0,_,_,_=>none|k25+1,v22,v23,v24=>sel (decide (v23<((a0.Vars.map cI).length:Int))) (ix a0.Vars v23 (fun y26=>grd ((v24.length+1)*8≤140737488355328) (M_mutex_New_L1 a0 k25 (IntKind.i64.wrap (v22+y26)) (IntKind.i64.wrap (v23+1)) (v24++[v22])))) (some (v22,v24))
def M_mutex_New_L2 (v14:Int):Nat→Int→(List (List Bool))→Option (List (List Bool))|0,_,_=>none|k38+1,v36,v37=>sel (decide (v36<v14)) (grd (0≤v14) (grd (v14*1≤281474976710656) (grd ((v37.length+1)*24≤140737488355328) (grd (v14.toNat≤140737488355328) (M_mutex_New_L2 v14 k38 (IntKind.i64.wrap (v36+1)) (v37++[(List.replicate v14.toNat false)])))))) (some v37)
def M_mutex_New_L3 (a0:GTask)(v15:List Int)(v32:List (List Bool))(v179:Int)(y195:Int)(z3:GTask):Nat→(List (List Bool))→Int→Option (List (List Bool))|0,_,_=>none|k204+1,v202,v203=>sel (decide (v203<((a0.Init.map cI).length:Int))) (ix a0.Init v203 (fun y205=>ob1 (M_set ({ t:=z3,first:=v15,reached:=v202:GTable }) (v179,y195) (v203,y205)) (fun z206=>M_mutex_New_L3 a0 v15 v32 v179 y195 z3 k204 z206 (IntKind.i64.wrap (v203+1))))) (some v202)
def M_mutex_New_L4 (a0:GTask)(v15:List Int)(v32:List (List Bool))(z3:GTask):Nat→(List (List Bool))→Int→Option (List (List Bool))|0,_,_=>none|k180+1,v178,v179=>sel (decide (v179<((a0.Init.map cI).length:Int))) (ob1 (ix a0.Init v179 (fun y195=>M_mutex_New_L3 a0 v15 v32 v179 y195 z3 ((((a0.Init.map cI).length:Int)).toNat+1) v178 0):Option (List (List Bool))) (fun v193=>M_mutex_New_L4 a0 v15 v32 z3 k180 v193 (IntKind.i64.wrap (v179+1)))) (some v178)
def M_mutex_New_L5 (g:Nat)(v15:List Int)(v32:List (List Bool))(z3:GTask)(z360:List (List Fact)):Nat→(List (List Bool))→Bool→Int→(List ((Int×Int×Int)×(Option GCause)))→Option (((List (List Bool))×Bool×(List ((Int×Int×Int)×(Option GCause))))⊕((Option GTable)×Er))|0,_,_,_,_=>none|k424+1,v420,v421,v422,v423=>sel (decide (v422<((z360.map cL_cF).length:Int))) (ix z360 v422 (fun y425=>ob3 (M_stratagem_mutex_Table_made g ({ t:=z3,first:=v15,reached:=v420:GTable }) y425 v423) (fun z426 z427 c428=>erM z427 (sel z426 (ix y425 0 (fun y430=>ix y425 (IntKind.i64.wrap (((y425.map cF).length:Int)-1)) (fun y431=>ob1 (M_set ({ t:=z3,first:=v15,reached:=v420:GTable }) y430 y431) (fun z432=>M_mutex_New_L5 g v15 v32 z3 z360 k424 z432 true (IntKind.i64.wrap (v422+1)) c428)))) (M_mutex_New_L5 g v15 v32 z3 z360 k424 v420 v421 (IntKind.i64.wrap (v422+1)) c428)) (fun e429=>some (.inr (none,(Er.no e429))))))) (some (.inl (v420,v421,v423)))
def M_mutex_New_L6 (g:Nat)(v15:List Int)(v32:List (List Bool))(z3:GTask):Nat→(List (List Bool))→Bool→(List ((Int×Int×Int)×(Option GCause)))→Option ((Option GTable)×Er)|0,_,_,_=>none|k359+1,v356,v357,v358=>sel v357 (ob1 (M_stratagem_mutex_Table_open ({ t:=z3,first:=v15,reached:=v356:GTable })) (fun z360=>ob1 (M_mutex_New_L5 g v15 v32 z3 z360 ((((z360.map cL_cF).length:Int)).toNat+1) v356 false 0 v358:Option (((List (List Bool))×Bool×(List ((Int×Int×Int)×(Option GCause))))⊕((Option GTable)×Er))) (osum (fun(v394,v395,v396)=>M_mutex_New_L6 g v15 v32 z3 k359 v394 v395 v396) (fun(r397,r398)=>some (r397,r398))))) (some ((some ({ t:=z3,first:=v15,reached:=v356:GTable })),Er.nil))
def M_mutex_New (g:Nat)(a0:GTask):Option ((Option GTable)×Er):=ob1 (M_task_Check a0) (fun z1=>erM z1 (ob1 (M_mutex_copied a0) (fun z3=>ob1 (M_mutex_New_L1 a0 ((((a0.Vars.map cI).length:Int)).toNat+1) 0 0 []:Option (Int×(List Int))) (fun(v14,v15)=>sel (decide (v14>512)) (some (none,(Er.no 5))) (ob1 (M_mutex_New_L2 v14 ((v14).toNat+1) 0 []:Option (List (List Bool))) (fun v32=>ob1 (grd (v15.length≤140737488355328) (grd (v32.length≤140737488355328) (M_mutex_New_L4 a0 v15 v32 z3 ((((a0.Init.map cI).length:Int)).toNat+1) v32 0)):Option (List (List Bool))) (fun v122=>M_mutex_New_L6 g v15 v32 z3 g v122 true [])))))) (fun e2=>some (none,(Er.no e2))))
set_option maxHeartbeats 16000000 in
set_option maxRecDepth 100000 in
theorem A_mutex_New (g:Nat)(a0:GTask){r1:Option GTable}{r2:Er}(h:M_mutex_New g a0=some (r1,r2)):ACall cx 13 [.agg [.sl 1 (a0.Vars.map cI),.sl 1 (a0.Init.map cI),.sl 2 (a0.Goal.map cF),.sl 4 (a0.Ops.map cGOp)]] (.tup [oGTable r1,eA r2]):=by
 refine acall_ofL Tryz.func13 rfl (by decide) rfl (bT3 rfl) (fun lo=>?_);intro _;unfold M_mutex_New at h;refine aSR ?_;intro _;refine dr_XNew (aSq (aSR ?_));intro _;obtain⟨z1,u1,h⟩:=ob1_ok h;refine cl_XNew rfl (A_task_Check a0 u1) ?_;intro _;refine dr_XNew (aSq ?_);rcases z1 with _|e2
 ·replace h:=erM_nil h;refine aRg ?_;intro _;refine dr_XNew (aCd ?_);intro _;refine litF (aSk (aSR ?_));intro _;obtain⟨z3,u2,h⟩:=ob1_ok h;refine cl_XNew rfl (A_mutex_copied a0 u2) ?_;intro _;refine dr_XNew (aSR ?_);intro _;refine dr_XNew ?_;obtain⟨o3,h,hK4⟩:=ob1_ok h;refine awp_cut (α:=Int×(List Int)) (fun(v14,v15)=>mkS 126 [(1,.ptr 1 0 0 0),(5,.ptr 27 0 0 0),(6,.c (.int .i64 v14))] [(1,⟨26,4,true,[[.sl 1 (a0.Vars.map cI),.sl 1 (a0.Init.map cI),.sl 2 (a0.Goal.map cF),.sl 4 (a0.Ops.map cGOp)]]⟩),(27,⟨80,6,true,[[.sl 1 (z3.Vars.map cI),.sl 1 (z3.Init.map cI),.sl 2 (z3.Goal.map cF),.sl 4 (z3.Ops.map cGOp),.own 42 0 0 v15.length,.c (.slice none 0 0)]]⟩),(42,⟨3,1,false,v15.map cI⟩)]) (fun v=>o3=v) ?_ ?_
  ·refine aSR ?_;intro _;refine dr_XNew (aBk ?_);refine awp_loop (α:=Nat×Int×Int×(List Int)) (fun x=>mkS 126 [(1,.ptr 1 0 0 0),(5,.ptr 27 0 0 0),(6,.c (.int .i64 x.2.1)),(29,.sl 1 (a0.Vars.map cI)),(30,.c (.int .i64 ((a0.Vars.map cI).length:Int))),(31,.c (.int .i64 x.2.2.1))] [(1,⟨26,4,true,[[.sl 1 (a0.Vars.map cI),.sl 1 (a0.Init.map cI),.sl 2 (a0.Goal.map cF),.sl 4 (a0.Ops.map cGOp)]]⟩),(27,⟨80,6,true,[[.sl 1 (z3.Vars.map cI),.sl 1 (z3.Init.map cI),.sl 2 (z3.Goal.map cF),.sl 4 (z3.Ops.map cGOp),.own 42 0 0 x.2.2.2.length,.c (.slice none 0 0)]]⟩),(42,⟨3,1,false,x.2.2.2.map cI⟩)]) (fun x=>M_mutex_New_L1 a0 x.1 x.2.1 x.2.2.1 x.2.2.2=some o3) (fun x=>x.1) ((((a0.Vars.map cI).length:Int)).toNat+1,0,0,[]) h ?_ ?_
   ·exact ca_XNew
   ·intro x5 h;intro _;obtain⟨k25,m6,h⟩:=succ_of (f:=fun n=>M_mutex_New_L1 a0 n x5.2.1 x5.2.2.1 x5.2.2.2) rfl h;replace h:M_mutex_New_L1 a0 (k25+1) x5.2.1 x5.2.2.1 x5.2.2.2=some o3:=h;rw[M_mutex_New_L1]at h;refine aSR ?_;intro _;refine dr_XNew (aSq (aCd ?_));intro _;refine spl h (fun c7 h=>?_) (fun c7 h=>?_)
    ·refine aSk (aSq (aBk (aSR ?_)));intro _;obtain⟨y26,w8,q9,h⟩:=ix_ok h;refine Exists.intro (cI y26) (And.intro (map_at' w8) ?_);intro _;refine pr_XNew (dr_XNew (aSR ?_));intro _;obtain⟨q10,h⟩:=grd_ok h;refine pl_XNew (pl_XNew ?_);refine And.intro (by first|with_reducible assumption|(show(x5.2.2.2.length+1)*8≤140737488355328;with_reducible assumption)|omega|(simp;omega)) ?_;refine pe_XNew (dr_XNew (aRg ?_));intro _;refine dr_XNew (aRg ?_);intro _;refine dr_XNew ?_;refine⟨(k25,(IntKind.i64.wrap (x5.2.1+y26)),(IntKind.i64.wrap (x5.2.2.1+1)),(x5.2.2.2++[x5.2.1])),h,ltS m6,?_⟩;exact ca_XNew
    ·refine aEx ?_;refine⟨(x5.2.1,x5.2.2.2),(sI_ h).symm,?_⟩;exact ca_XNew
  ·rintro⟨v14,v15⟩ ho;have ho:=ho.symm;subst ho;intro _;replace h:=hK4;refine aSq (aSR ?_);intro _;refine dr_XNew (aCd ?_);intro _;refine spl h (fun c11 h=>?_) (fun c11 h=>?_)
   ·refine aSR ?_;intro _;refine dr_XNew (aRt ?_);intro _;obtain⟨rfl,rfl⟩:=inj2 h;exact ca_XNew
   ·refine aSk ?_;obtain⟨o12,h,hK13⟩:=ob1_ok h;refine awp_cut (α:=Tab) (fun v32=>mkS 126 [(1,.ptr 1 0 0 0),(5,.ptr 27 0 0 0)] [(1,⟨26,4,true,[[.sl 1 (a0.Vars.map cI),.sl 1 (a0.Init.map cI),.sl 2 (a0.Goal.map cF),.sl 4 (a0.Ops.map cGOp)]]⟩),(27,⟨80,6,true,[[.sl 1 (z3.Vars.map cI),.sl 1 (z3.Init.map cI),.sl 2 (z3.Goal.map cF),.sl 4 (z3.Ops.map cGOp),.own 42 0 0 v15.length,.own 63 0 0 v32.length]]⟩),(42,⟨3,1,false,v15.map cI⟩),(63,⟨41,1,false,rwT lo 4 v32⟩)]) (fun v=>o12=v.map (·.2)∧((v).map (·.1)).Nodup) ?_ ?_
    ·refine aSR ?_;intro _;refine dr_XNew (aBk ?_);refine awp_loop (α:=Nat×Int×Tab) (fun x=>mkS 126 [(1,.ptr 1 0 0 0),(5,.ptr 27 0 0 0),(6,.c (.int .i64 v14)),(52,.c (.int .i64 v14)),(53,.c (.int .i64 x.2.1))] [(1,⟨26,4,true,[[.sl 1 (a0.Vars.map cI),.sl 1 (a0.Init.map cI),.sl 2 (a0.Goal.map cF),.sl 4 (a0.Ops.map cGOp)]]⟩),(27,⟨80,6,true,[[.sl 1 (z3.Vars.map cI),.sl 1 (z3.Init.map cI),.sl 2 (z3.Goal.map cF),.sl 4 (z3.Ops.map cGOp),.own 42 0 0 v15.length,.own 63 0 0 x.2.2.length]]⟩),(42,⟨3,1,false,v15.map cI⟩),(63,⟨41,1,false,rwT lo 4 x.2.2⟩)]) (fun x=>M_mutex_New_L2 v14 x.1 x.2.1 (x.2.2.map (·.2))=some o12∧((x.2.2).map (·.1)).Nodup) (fun x=>x.1) ((v14).toNat+1,0,[]) ⟨h,List.nodup_nil⟩ ?_ ?_
     ·exact ca_XNew
     ·intro x14 ⟨h,n2⟩;intro _;obtain⟨k38,m15,h⟩:=succ_of (f:=fun n=>M_mutex_New_L2 v14 n x14.2.1 (x14.2.2.map (·.2))) rfl h;replace h:M_mutex_New_L2 v14 (k38+1) x14.2.1 (x14.2.2.map (·.2))=some o12:=h;rw[M_mutex_New_L2]at h;refine aSR ?_;intro _;refine dr_XNew (aSq (aCd ?_));intro _;refine spl h (fun c16 h=>?_) (fun c16 h=>?_)
      ·refine aSk (aSq (aBk ?_));refine awp_regionO [6] ?_;intro _;intro _;obtain⟨q17,h⟩:=grd_ok h;obtain⟨q18,h⟩:=grd_ok h;obtain⟨q19,h⟩:=grd_ok h;obtain⟨q20,h⟩:=grd_ok h;rw[lM_]at q19;refine⟨rfl,_,lf_makeX rfl rfl (bT3 rfl) (tyTab_ok 41 _ rfl) rfl (tyTab_ok 4 _ rfl) rfl rfl rfl q17 (by show _*(1:Int)≤_;omega) (by omega) rfl (by simp only[Value.cells];simp[Value.oneCell']) (by decide),?_⟩;intro _;refine pl_XNew (pl_XNew ?_);refine And.intro (by first|with_reducible assumption|omega|(simp;omega)) ?_;refine pe_XNew (dr_XNew ?_);refine awp_reveal (lo:=lo) (T:=x14.2.2) 61 63 (fun w0 X h=>h) rfl rfl (by decide) (bT3 rfl) (fun b hb=>?_);intro _;refine aRg ?_;intro _;refine dr_XNew ?_;refine⟨(k38,(IntKind.i64.wrap (x14.2.1+1)),(x14.2.2++[(b,List.replicate v14.toNat false)])),⟨by rw[List.map_append];exact h,by rw[List.map_append,List.nodup_append];exact⟨n2,by simp,by intro a ha c hc;simp at hc;subst hc;intro e;subst e;exact hb ha⟩⟩,ltS m15,?_⟩;exact ca_XNew
      ·refine aEx ?_;refine⟨x14.2.2,⟨(sI_ h).symm,n2⟩,?_⟩;exact ca_XNew
    ·rintro T32 ⟨ho32,n32⟩;have e32:T32.length=o12.length:=(by rw[ho32,lM_]);intro _;replace h:=hK13;obtain⟨o21,h,hK22⟩:=ob1_ok h;refine awp_cut (α:=Tab) (fun v122=>mkS 126 [(5,.pim [.sl 1 ((z3.Vars).map cI),.sl 1 ((z3.Init).map cI),.sl 2 ((z3.Goal).map cF),.sl 4 ((z3.Ops).map cGOp),.sl 1 (v15.map cI),.sl 1 (rwT lo 4 v122)] 0)] []) (fun v=>o21=v.map (·.2)∧((v).map (·.1)).Nodup) ?_ ?_
     ·refine aSR ?_;intro _;refine dr_XNew (aBk ?_);obtain⟨q23,h⟩:=grd_ok h;obtain⟨q24,h⟩:=grd_ok h;refine awp_wk (mkS 126 [(1,.ptr 1 0 0 0),(5,.pim [.sl 1 ((z3.Vars).map cI),.sl 1 ((z3.Init).map cI),.sl 2 ((z3.Goal).map cF),.sl 4 ((z3.Ops).map cGOp),.sl 1 (v15.map cI),.sl 1 (rwT lo 4 T32)] 0),(68,.sl 1 (a0.Init.map cI)),(69,.c (.int .i64 ((a0.Init.map cI).length:Int))),(70,.c (.int .i64 0))] [(1,⟨26,4,true,[[.sl 1 (a0.Vars.map cI),.sl 1 (a0.Init.map cI),.sl 2 (a0.Goal.map cF),.sl 4 (a0.Ops.map cGOp)]]⟩)]) ?_ ?_
      ·repeat (first|exact True.intro|refine(ci_XNew ?_));refine And.intro (bw_ptr rfl rfl rfl (.cons (.fr FrV.h) (.cons (.fr FrV.h) (.cons (.fr FrV.h) (.cons (.fr FrV.h) (.cons (bw_own3 rfl rfl rfl FrI.h (bwll_same rfl FrI.h) (by simp) q23) (.cons (bw_own3 rfl rfl rfl FrI.h (bwll_same rfl FrI.h) (by rw[rwT_len]) (by omega)) .nil))))))) ?_;exact ca_XNew
      ·intro _;refine awp_loop (α:=Nat×Tab×Int) (fun x=>mkS 126 [(1,.ptr 1 0 0 0),(5,.pim [.sl 1 ((z3.Vars).map cI),.sl 1 ((z3.Init).map cI),.sl 2 ((z3.Goal).map cF),.sl 4 ((z3.Ops).map cGOp),.sl 1 (v15.map cI),.sl 1 (rwT lo 4 x.2.1)] 0),(68,.sl 1 (a0.Init.map cI)),(69,.c (.int .i64 ((a0.Init.map cI).length:Int))),(70,.c (.int .i64 x.2.2))] [(1,⟨26,4,true,[[.sl 1 (a0.Vars.map cI),.sl 1 (a0.Init.map cI),.sl 2 (a0.Goal.map cF),.sl 4 (a0.Ops.map cGOp)]]⟩)]) (fun x=>M_mutex_New_L4 a0 v15 o12 z3 x.1 (x.2.1.map (·.2)) x.2.2=some o21∧((x.2.1).map (·.1)).Nodup) (fun x=>x.1) ((((a0.Init.map cI).length:Int)).toNat+1,T32,0) ⟨by rw[← ho32];exact h,n32⟩ ?_ ?_
       ·exact ca_XNew
       ·intro x25 ⟨h,nx25⟩;intro _;obtain⟨k180,m26,h⟩:=succ_of (f:=fun n=>M_mutex_New_L4 a0 v15 o12 z3 n (x25.2.1.map (·.2)) x25.2.2) rfl h;replace h:M_mutex_New_L4 a0 v15 o12 z3 (k180+1) (x25.2.1.map (·.2)) x25.2.2=some o21:=h;rw[M_mutex_New_L4]at h;refine aSR ?_;intro _;refine dr_XNew (aSq (aCd ?_));intro _;refine spl h (fun c27 h=>?_) (fun c27 h=>?_)
        ·refine aSk ?_;obtain⟨o28,h,hK29⟩:=ob1_ok h;refine awp_cut (α:=Tab) (fun v193=>mkS 126 [(1,.ptr 1 0 0 0),(5,.pim [.sl 1 ((z3.Vars).map cI),.sl 1 ((z3.Init).map cI),.sl 2 ((z3.Goal).map cF),.sl 4 ((z3.Ops).map cGOp),.sl 1 (v15.map cI),.sl 1 (rwT lo 4 v193)] 0),(68,.sl 1 (a0.Init.map cI)),(69,.c (.int .i64 ((a0.Init.map cI).length:Int))),(70,.c (.int .i64 x25.2.2))] [(1,⟨26,4,true,[[.sl 1 (a0.Vars.map cI),.sl 1 (a0.Init.map cI),.sl 2 (a0.Goal.map cF),.sl 4 (a0.Ops.map cGOp)]]⟩)]) (fun v=>o28=v.map (·.2)∧((v).map (·.1)).Nodup) ?_ ?_
         ·refine aBk (aSR ?_);intro _;obtain⟨y195,w30,q31,h⟩:=ix_ok h;refine Exists.intro (cI y195) (And.intro (map_at' w30) ?_);intro _;refine pr_XNew (dr_XNew (aSR ?_));intro _;refine dr_XNew (aBk ?_);refine awp_loop (α:=Nat×Tab×Int) (fun x=>mkS 126 [(1,.ptr 1 0 0 0),(5,.pim [.sl 1 ((z3.Vars).map cI),.sl 1 ((z3.Init).map cI),.sl 2 ((z3.Goal).map cF),.sl 4 ((z3.Ops).map cGOp),.sl 1 (v15.map cI),.sl 1 (rwT lo 4 x.2.1)] 0),(9,.c (.int .i64 x25.2.2)),(10,.c (.int .i64 y195)),(68,.sl 1 (a0.Init.map cI)),(69,.c (.int .i64 ((a0.Init.map cI).length:Int))),(70,.c (.int .i64 x25.2.2)),(76,.sl 1 (a0.Init.map cI)),(77,.c (.int .i64 ((a0.Init.map cI).length:Int))),(78,.c (.int .i64 x.2.2))] [(1,⟨26,4,true,[[.sl 1 (a0.Vars.map cI),.sl 1 (a0.Init.map cI),.sl 2 (a0.Goal.map cF),.sl 4 (a0.Ops.map cGOp)]]⟩)]) (fun x=>M_mutex_New_L3 a0 v15 o12 x25.2.2 y195 z3 x.1 (x.2.1.map (·.2)) x.2.2=some o28∧((x.2.1).map (·.1)).Nodup) (fun x=>x.1) ((((a0.Init.map cI).length:Int)).toNat+1,x25.2.1,0) ⟨h,nx25⟩ ?_ ?_
          ·exact ca_XNew
          ·intro x32 ⟨h,nx32⟩;intro _;obtain⟨k204,m33,h⟩:=succ_of (f:=fun n=>M_mutex_New_L3 a0 v15 o12 x25.2.2 y195 z3 n (x32.2.1.map (·.2)) x32.2.2) rfl h;replace h:M_mutex_New_L3 a0 v15 o12 x25.2.2 y195 z3 (k204+1) (x32.2.1.map (·.2)) x32.2.2=some o28:=h;rw[M_mutex_New_L3]at h;refine aSR ?_;intro _;refine dr_XNew (aSq (aCd ?_));intro _;refine spl h (fun c34 h=>?_) (fun c34 h=>?_)
           ·refine aSk (aSq (aBk (aSR ?_)));intro _;obtain⟨y205,w35,q36,h⟩:=ix_ok h;refine Exists.intro (cI y205) (And.intro (map_at' w35) ?_);intro _;refine pr_XNew (dr_XNew ?_);refine awp_regionS [] 7 rfl ?_;intro _;obtain⟨z206,u37,h⟩:=ob1_ok h;refine And.intro (by intro h;first|(cases h;done)|exact⟨by kernel_rfl,by kernel_rfl,by kernel_rfl⟩) ?_;intro w0 X m a w hr;refine set_call (lo:=lo) (z:=({ t:=z3,first:=v15,reached:=x32.2.1.map (·.2):GTable })) (T:=x32.2.1) (a:=(x25.2.2,y195)) (b:=(x32.2.2,y205)) 5 (bT3 rfl) hr rfl rfl rfl rfl (bT3 rfl) rfl rfl rfl u37 nx32 (fun T2 e2 e1=>⟨?_,mkT 0 126 [(1,.ptr 1 0 0 0),(5,.pim [.sl 1 ((z3.Vars).map cI),.sl 1 ((z3.Init).map cI),.sl 2 ((z3.Goal).map cF),.sl 4 ((z3.Ops).map cGOp),.sl 1 (v15.map cI),.sl 1 (rwT lo 4 T2)] 0),(9,.c (.int .i64 x25.2.2)),(10,.c (.int .i64 y195)),(68,.sl 1 (a0.Init.map cI)),(69,.c (.int .i64 ((a0.Init.map cI).length:Int))),(70,.c (.int .i64 x25.2.2)),(76,.sl 1 (a0.Init.map cI)),(77,.c (.int .i64 ((a0.Init.map cI).length:Int))),(78,.c (.int .i64 x32.2.2))],?_,rfl,?_⟩)
            ·repeat (first|exact UHL.nil|refine UHL.none ?_|refine UHL.some (by first|exact us_box|exact us_map) ?_)
            ·repeat (first|exact USL.nil|refine USL.cons US.dead ?_|refine USL.cons US.c ?_|refine USL.cons (us_zT (z:=({ t:=z3,first:=v15,reached:=x32.2.1.map (·.2):GTable })) (lo:=lo) e1) ?_|refine USL.cons us_i ?_|refine USL.cons us_f ?_|refine USL.cons us_o ?_|refine USL.cons us_lf ?_|refine USL.cons (.ub .mp) ?_|refine USL.cons (.ub .ptr) ?_)
            intro m' a' w' hr';refine⟨⟨mkT 0 126 [(1,.ptr 1 0 0 0),(5,.pim [.sl 1 ((z3.Vars).map cI),.sl 1 ((z3.Init).map cI),.sl 2 ((z3.Goal).map cF),.sl 4 ((z3.Ops).map cGOp),.sl 1 (v15.map cI),.sl 1 (rwT lo 4 T2)] 0),(9,.c (.int .i64 x25.2.2)),(10,.c (.int .i64 y195)),(68,.sl 1 (a0.Init.map cI)),(69,.c (.int .i64 ((a0.Init.map cI).length:Int))),(70,.c (.int .i64 x25.2.2)),(76,.sl 1 (a0.Init.map cI)),(77,.c (.int .i64 ((a0.Init.map cI).length:Int))),(78,.c (.int .i64 x32.2.2))],_⟩,m',rfl,?_,hr'⟩;refine awp_wk (mkS 126 [(1,.ptr 1 0 0 0),(5,.pim [.sl 1 ((z3.Vars).map cI),.sl 1 ((z3.Init).map cI),.sl 2 ((z3.Goal).map cF),.sl 4 ((z3.Ops).map cGOp),.sl 1 (v15.map cI),.sl 1 (rwT lo 4 T2)] 0),(9,.c (.int .i64 x25.2.2)),(10,.c (.int .i64 y195)),(68,.sl 1 (a0.Init.map cI)),(69,.c (.int .i64 ((a0.Init.map cI).length:Int))),(70,.c (.int .i64 x25.2.2)),(76,.sl 1 (a0.Init.map cI)),(77,.c (.int .i64 ((a0.Init.map cI).length:Int))),(78,.c (.int .i64 x32.2.2))] [(1,⟨26,4,true,[[.sl 1 (a0.Vars.map cI),.sl 1 (a0.Init.map cI),.sl 2 (a0.Goal.map cF),.sl 4 (a0.Ops.map cGOp)]]⟩)]) ?_ ?_
            ·exact ca_XNew
            intro _;refine aRg ?_;intro _;refine dr_XNew ?_;refine⟨(k204,T2,(IntKind.i64.wrap (x32.2.2+1))),⟨by rw[e2];exact h,by rw[e1];exact nx32⟩,ltS m33,?_⟩;exact ca_XNew
           ·refine aEx ?_;refine⟨x32.2.1,⟨(sI_ h).symm,nx32⟩,?_⟩;exact ca_XNew
         ·rintro T193 ⟨ho193,n193⟩;intro _;replace h:=hK29;refine aRg ?_;intro _;refine dr_XNew ?_;refine⟨(k180,T193,(IntKind.i64.wrap (x25.2.2+1))),⟨by rw[← ho193];exact h,n193⟩,ltS m26,?_⟩;exact ca_XNew
        ·refine aEx ?_;refine⟨x25.2.1,⟨(sI_ h).symm,nx25⟩,?_⟩;exact ca_XNew
     ·rintro T122 ⟨ho122,n122⟩;intro _;replace h:=hK22;refine aSR ?_;intro _;refine⟨_,lf_mapnew k3 oGCause rfl rfl (bT3 rfl) rfl,?_⟩;intro _;refine dr_XNew (aSq (aSR ?_));intro _;refine dr_XNew (aBk ?_);refine awp_loop (α:=Nat×Tab×Bool×(List ((Int×Int×Int)×(Option GCause)))) (fun x=>mkS 126 [(5,.pim [.sl 1 ((z3.Vars).map cI),.sl 1 ((z3.Init).map cI),.sl 2 ((z3.Goal).map cF),.sl 4 ((z3.Ops).map cGOp),.sl 1 (v15.map cI),.sl 1 (rwT lo 4 x.2.1)] 0),(13,.mp 93 0),(14,.c (.bool x.2.2.1))] [(93,mB k3 oGCause x.2.2.2)]) (fun x=>M_mutex_New_L6 g v15 o12 z3 x.1 (x.2.1.map (·.2)) x.2.2.1 x.2.2.2=some (r1,r2)∧((x.2.1).map (·.1)).Nodup) (fun x=>x.1) (g,T122,true,[]) ⟨by rw[← ho122];exact h,n122⟩ ?_ ?_
      ·exact ca_XNew
      ·intro x38 ⟨h,nx38⟩;intro _;obtain⟨k359,m39,h⟩:=succ_of (f:=fun n=>M_mutex_New_L6 g v15 o12 z3 n (x38.2.1.map (·.2)) x38.2.2.1 x38.2.2.2) rfl h;replace h:M_mutex_New_L6 g v15 o12 z3 (k359+1) (x38.2.1.map (·.2)) x38.2.2.1 x38.2.2.2=some (r1,r2):=h;rw[M_mutex_New_L6]at h;refine aSq (aSR ?_);intro _;refine dr_XNew (aCd ?_);intro _;refine spl h (fun c40 h=>?_) (fun c40 h=>?_)
       ·refine aSk (aBk (aSR ?_));intro _;refine dr_XNew (aSR ?_);intro _;obtain⟨z360,u41,h⟩:=ob1_ok h;have cvo:∀ {η η':Nat→Ent},BWL η η' [.pim (cT ({ t:=z3,first:=v15,reached:=x38.2.1.map (·.2):GTable }) lo x38.2.1) 0] _:=.cons (.cv (cv_z rfl) FrV.h) .nil;refine clf_XNew [] rfl rfl (A_stratagem_mutex_Table_open ({ t:=z3,first:=v15,reached:=x38.2.1.map (·.2):GTable }) u41) ?_ (hb:=cvo);intro _;refine dr_XNew ?_;obtain⟨o42,h,hK43⟩:=ob1_ok h;refine awp_cutT (α:=Tab×Bool×(List ((Int×Int×Int)×(Option GCause)))) (fun(v394,v395,v396)=>mkS 126 [(5,.pim [.sl 1 ((z3.Vars).map cI),.sl 1 ((z3.Init).map cI),.sl 2 ((z3.Goal).map cF),.sl 4 ((z3.Ops).map cGOp),.sl 1 (v15.map cI),.sl 1 (rwT lo 4 v394)] 0),(13,.mp 93 0),(14,.c (.bool v395))] [(93,mB k3 oGCause v396)]) (fun v=>o42=(.inl (v.1.map (·.2),v.2.1,v.2.2))∧((v.1).map (·.1)).Nodup) ?_ ?_
        ·refine aBk ?_;refine awp_loop (α:=Nat×Tab×Bool×Int×(List ((Int×Int×Int)×(Option GCause)))) (fun x=>mkS 126 [(5,.pim [.sl 1 ((z3.Vars).map cI),.sl 1 ((z3.Init).map cI),.sl 2 ((z3.Goal).map cF),.sl 4 ((z3.Ops).map cGOp),.sl 1 (v15.map cI),.sl 1 (rwT lo 4 x.2.1)] 0),(13,.mp 93 0),(14,.c (.bool x.2.2.1)),(96,.sl 1 (z360.map cL_cF)),(97,.c (.int .i64 ((z360.map cL_cF).length:Int))),(98,.c (.int .i64 x.2.2.2.1))] [(93,mB k3 oGCause x.2.2.2.2)]) (fun x=>M_mutex_New_L5 g v15 o12 z3 z360 x.1 (x.2.1.map (·.2)) x.2.2.1 x.2.2.2.1 x.2.2.2.2=some o42∧((x.2.1).map (·.1)).Nodup) (fun x=>x.1) ((((z360.map cL_cF).length:Int)).toNat+1,x38.2.1,false,0,x38.2.2.2) ⟨h,nx38⟩ ?_ ?_
         ·exact ca_XNew
         ·intro x44 ⟨h,nx44⟩;intro _;obtain⟨k424,m45,h⟩:=succ_of (f:=fun n=>M_mutex_New_L5 g v15 o12 z3 z360 n (x44.2.1.map (·.2)) x44.2.2.1 x44.2.2.2.1 x44.2.2.2.2) rfl h;replace h:M_mutex_New_L5 g v15 o12 z3 z360 (k424+1) (x44.2.1.map (·.2)) x44.2.2.1 x44.2.2.2.1 x44.2.2.2.2=some o42:=h;rw[M_mutex_New_L5]at h;refine aSR ?_;intro _;refine dr_XNew (aSq (aCd ?_));intro _;refine spl h (fun c46 h=>?_) (fun c46 h=>?_)
          ·refine aSk (aSq (aBk (aSR ?_)));intro _;obtain⟨y425,w47,q48,h⟩:=ix_ok h;refine Exists.intro (cL_cF y425) (And.intro (map_at' w47) ?_);intro _;refine pr_XNew (dr_XNew (aSR ?_));intro _;obtain⟨z426,z427,c428,u49,h⟩:=ob3_ok h;have cvm:Cv (.pim (cT ({ t:=z3,first:=v15,reached:=x44.2.1.map (·.2):GTable }) lo x44.2.1) 0) _:=cv_z rfl;have mA:ACallG (cxL cx lo) _ _ _ _ _ _:=toL (A_stratagem_mutex_Table_made g ({ t:=z3,first:=v15,reached:=x44.2.1.map (·.2):GTable }) y425 x44.2.2.2.2 u49);refine clg_XNew [(78,93)] [] [] [(93,⟨0,some (mB k3 oGCause c428)⟩)] (.tup [.c (.bool z426),eA z427]) rfl rfl mA ?_ (hw:=by refine GWL.cons (.cv cvm FrV.h) ?_;refine GWL.cons (gw_fr2 rfl FrV.h) ?_;refine GWL.cons (gw_mren rfl rfl rfl rfl) ?_;exact GWL.nil);intro _;refine dr_XNew (aSq (aSq ?_));rcases z427 with _|e429
           ·replace h:=erM_nil h;refine aRg ?_;intro _;refine dr_XNew (aCd ?_);intro _;refine litF (aSk (aSR ?_));intro _;refine dr_XNew (aCd ?_);intro _;refine spl h (fun c50 h=>?_) (fun c50 h=>?_)
            ·refine aSq ?_;refine awp_regionS [] 10 rfl ?_;intro _;obtain⟨y430,w51,q52,h⟩:=ix_ok h;refine Exists.intro (cF y430) (And.intro (map_at' w51) ?_);intro _;obtain⟨y431,w53,q54,h⟩:=ix_ok h;refine Exists.intro (cF y431) (And.intro (map_at' w53) ?_);intro _;obtain⟨z432,u55,h⟩:=ob1_ok h;refine pr_XNew (pr_XNew ?_);refine And.intro (by intro h;first|(cases h;done)|exact⟨by kernel_rfl,by kernel_rfl,by kernel_rfl⟩) ?_;intro w0 X m a w hr;refine set_call (lo:=lo) (z:=({ t:=z3,first:=v15,reached:=x44.2.1.map (·.2):GTable })) (T:=x44.2.1) (a:=y430) (b:=y431) 5 (bT3 rfl) hr rfl rfl rfl rfl (bT3 rfl) rfl rfl rfl u55 nx44 (fun T2 e2 e1=>⟨?_,mkT 0 126 [(5,.pim [.sl 1 ((z3.Vars).map cI),.sl 1 ((z3.Init).map cI),.sl 2 ((z3.Goal).map cF),.sl 4 ((z3.Ops).map cGOp),.sl 1 (v15.map cI),.sl 1 (rwT lo 4 T2)] 0),(13,.mp 93 0),(96,.sl 1 (z360.map cL_cF)),(97,.c (.int .i64 ((z360.map cL_cF).length:Int))),(98,.c (.int .i64 x44.2.2.2.1))],?_,rfl,?_⟩)
             ·repeat (first|exact UHL.nil|refine UHL.none ?_|refine UHL.some (by first|exact us_box|exact us_map) ?_)
             ·repeat (first|exact USL.nil|refine USL.cons US.dead ?_|refine USL.cons US.c ?_|refine USL.cons (us_zT (z:=({ t:=z3,first:=v15,reached:=x44.2.1.map (·.2):GTable })) (lo:=lo) e1) ?_|refine USL.cons us_i ?_|refine USL.cons us_f ?_|refine USL.cons us_o ?_|refine USL.cons us_lf ?_|refine USL.cons (.ub .mp) ?_|refine USL.cons (.ub .ptr) ?_)
             intro m' a' w' hr';refine⟨⟨mkT 0 126 [(5,.pim [.sl 1 ((z3.Vars).map cI),.sl 1 ((z3.Init).map cI),.sl 2 ((z3.Goal).map cF),.sl 4 ((z3.Ops).map cGOp),.sl 1 (v15.map cI),.sl 1 (rwT lo 4 T2)] 0),(13,.mp 93 0),(96,.sl 1 (z360.map cL_cF)),(97,.c (.int .i64 ((z360.map cL_cF).length:Int))),(98,.c (.int .i64 x44.2.2.2.1))],_⟩,m',rfl,?_,hr'⟩;refine awp_wk (mkS 126 [(5,.pim [.sl 1 ((z3.Vars).map cI),.sl 1 ((z3.Init).map cI),.sl 2 ((z3.Goal).map cF),.sl 4 ((z3.Ops).map cGOp),.sl 1 (v15.map cI),.sl 1 (rwT lo 4 T2)] 0),(13,.mp 93 0),(96,.sl 1 (z360.map cL_cF)),(97,.c (.int .i64 ((z360.map cL_cF).length:Int))),(98,.c (.int .i64 x44.2.2.2.1))] [(93,mB k3 oGCause c428)]) ?_ ?_
             ·exact ca_XNew
             intro _;refine aRg ?_;intro _;refine dr_XNew (aRg ?_);intro _;refine dr_XNew ?_;refine⟨(k424,T2,true,(IntKind.i64.wrap (x44.2.2.2.1+1)),c428),⟨by rw[e2];exact h,by rw[e1];exact nx44⟩,ltS m45,?_⟩;exact ca_XNew
            ·refine aSk (aRg ?_);intro _;refine dr_XNew ?_;refine⟨(k424,x44.2.1,x44.2.2.1,(IntKind.i64.wrap (x44.2.2.2.1+1)),c428),⟨h,nx44⟩,ltS m45,?_⟩;exact ca_XNew
           ·replace h:=erM_no h;refine aRg ?_;intro _;refine dr_XNew (aCd ?_);intro _;refine litT (aSR ?_);intro _;refine dr_XNew (aRt ?_);have j56:=sI_ h;subst j56;replace h:=(osum_r hK43);intro _;obtain⟨rfl,rfl⟩:=inj2 h;exact ca_XNew
          ·refine aEx ?_;refine⟨(x44.2.1,x44.2.2.1,x44.2.2.2.2),⟨(sI_ h).symm,nx44⟩,?_⟩;exact ca_XNew
        ·rintro⟨v394,v395,v396⟩ ⟨ho,n394⟩;have ho:=ho.symm;subst ho;intro _;replace h:=(osum_l hK43);refine⟨(k359,v394,v395,v396),⟨h,n394⟩,ltS m39,?_⟩;exact ca_XNew
       ·refine aEx (aSR ?_);intro _;refine dr_XNew (aRt ?_);intro _;obtain⟨rfl,rfl⟩:=inj2 h;repeat (first|exact True.intro|refine And.intro (BW.cv (cv_z (z:=({ t:=z3,first:=v15,reached:=x38.2.1.map (·.2):GTable })) (lo:=lo) (T:=x38.2.1) rfl) FrV.h) ?_|refine ci_XNew ?_)
 ·replace h:=erM_no h;refine aRg ?_;intro _;refine dr_XNew (aCd ?_);intro _;refine litT (aSR ?_);intro _;refine dr_XNew (aRt ?_);intro _;obtain⟨rfl,rfl⟩:=inj2 h;exact ca_XNew
end Go.Proofs.YtinnphmnhmdcgaaGreat.Am
namespace Go.Proofs.YtinnphmnhmdcgaaGreat.Am
def M_mutex_copied_L1_B (_:GOp)(_y169:GEffect)(_:Int):((List GEffect))→(((List GEffect))→Option (List GEffect))→Option (List GEffect):=fun v167 rc=>ixv _y169 (fun y169=>ob1 (M_cloneF y169.When) (fun z170=>grd ((v167.length+1)*40≤140737488355328) (grd (z170.length≤140737488355328) (rc ((v167++[{ When:=z170,Var:=y169.Var,Val:=y169.Val:GEffect }]))))))
def M_mutex_copied_L1_E (_:GOp):((List GEffect))→Option (List GEffect):=fun v167=>some v167
theorem M_mutex_copied_L1_eq (y145:GOp)(v167:List GEffect)(hl:y145.Effs.length<9223372036854775807):M_mutex_copied_L1 y145 (((y145.Effs.map cGEffect).length:Int).toNat+1) 0 v167=Rg (M_mutex_copied_L1_B y145) (M_mutex_copied_L1_E y145) y145.Effs 0 v167:=rg_e1 (L:=fun k i v167=>M_mutex_copied_L1 y145 k i v167) hl (fun _ _ _=>rfl) v167
def M_mutex_copied_L2_B (_:GTask)(_:List Int)(_:List Int)(_:List Fact)(_y145:GOp)(_:Int):((List GOp))→(((List GOp))→Option (GTask))→Option (GTask):=fun v115 rc=>ob1 (ixv _y145 (fun y145=>ob1 (M_cloneF y145.Pre) (fun z146=>ob1 (M_mutex_copied_L1 y145 ((((y145.Effs.map cGEffect).length:Int)).toNat+1) 0 []:Option (List GEffect)) (fun v158=>grd ((v115.length+1)*72≤140737488355328) (grd (z146.length≤140737488355328) (grd (v158.length≤140737488355328) (some (v115++[{ Name:=y145.Name,Cost:=y145.Cost,Pre:=z146,Effs:=v158:GOp }]))))))):Option (List GOp)) (fun v143=>rc (v143))
def M_mutex_copied_L2_E (_:GTask)(z1:List Int)(z2:List Int)(z3:List Fact):((List GOp))→Option (GTask):=fun v115=>grd (z3.length≤140737488355328) (grd (v115.length≤140737488355328) (some ({ Vars:=z1,Init:=z2,Goal:=z3,Ops:=v115:GTask })))
theorem M_mutex_copied_L2_eq (a0:GTask)(z1:List Int)(z2:List Int)(z3:List Fact)(v115:List GOp)(hl:a0.Ops.length<9223372036854775807):M_mutex_copied_L2 a0 z1 z2 z3 (((a0.Ops.map cGOp).length:Int).toNat+1) 0 v115=Rg (M_mutex_copied_L2_B a0 z1 z2 z3) (M_mutex_copied_L2_E a0 z1 z2 z3) a0.Ops 0 v115:=rg_e2 (L:=fun k i v115=>M_mutex_copied_L2 a0 z1 z2 z3 k i v115) hl (fun k n p y hy h1 h2=>by first|(simp only[M_mutex_copied_L2,M_mutex_copied_L2_B,lM_,decide_lt h1,sel,ix_at hy,ixv,h2];done)|(simp only[lM_]at h1 hy;(simp only[M_mutex_copied_L2,M_mutex_copied_L2_B,lM_,decide_lt h1,sel,ix_at hy,ixv,h2];done))) (fun k p=>by simp only[M_mutex_copied_L2,M_mutex_copied_L2_E,lM_,decide_ge,sel]) v115
def M_mutex_New_L1_B (_:GTask)(_y26:Int)(_:Int):((Int)×(List Int))→(((Int)×(List Int))→Option (Int×(List Int)))→Option (Int×(List Int)):=fun(v22,v24) rc=>ixv _y26 (fun y26=>grd ((v24.length+1)*8≤140737488355328) (rc ((IntKind.i64.wrap (v22+y26)),(v24++[v22]))))
def M_mutex_New_L1_E (_:GTask):((Int)×(List Int))→Option (Int×(List Int)):=fun(v22,v24)=>some (v22,v24)
theorem M_mutex_New_L1_eq (a0:GTask)(v22:Int)(v24:List Int)(hl:a0.Vars.length<9223372036854775807):M_mutex_New_L1 a0 (((a0.Vars.map cI).length:Int).toNat+1) v22 0 v24=Rg (M_mutex_New_L1_B a0) (M_mutex_New_L1_E a0) a0.Vars 0 (v22,v24):=rg_e1 (L:=fun k i p=>match p with|(v22,v24)=>M_mutex_New_L1 a0 k v22 i v24) hl (fun _ _ ⟨_,_⟩=>rfl) (v22,v24)
def M_mutex_New_L2_B (v14:Int)(_:Int):((List (List Bool)))→(((List (List Bool)))→Option (List (List Bool)))→Option (List (List Bool)):=fun v37 rc=>grd (0≤v14) (grd (v14*1≤281474976710656) (grd ((v37.length+1)*24≤140737488355328) (grd (v14.toNat≤140737488355328) (rc ((v37++[(List.replicate v14.toNat false)]))))))
def M_mutex_New_L2_E (_:Int):((List (List Bool)))→Option (List (List Bool)):=fun v37=>some v37
theorem M_mutex_New_L2_eq (v14:Int)(v37:List (List Bool)){m:Nat}(hm:v14=(m:Int))(hl:m<9223372036854775807):M_mutex_New_L2 v14 ((v14).toNat+1) 0 v37=Rn (M_mutex_New_L2_B v14) (M_mutex_New_L2_E v14) m 0 v37:=rn_e (L:=fun k i v37=>M_mutex_New_L2 v14 k i v37) hm hl (fun _ _ _=>rfl) v37
def M_mutex_New_L3_B (_:GTask)(v15:List Int)(v32:List (List Bool))(v179:Int)(y195:Int)(z3:GTask)(_y205:Int)(v203:Int):((List (List Bool)))→(((List (List Bool)))→Option (List (List Bool)))→Option (List (List Bool)):=fun v202 rc=>ixv _y205 (fun y205=>ob1 (M_set ({ t:=(({ t:=z3,first:=v15,reached:=v32:GTable }).t),first:=({ t:=z3,first:=v15,reached:=v32:GTable }).first,reached:=v202:GTable }) (v179,y195) (v203,y205)) (fun z206=>rc (z206)))
def M_mutex_New_L3_E (_:GTask)(_:List Int)(_:List (List Bool))(_:Int)(_:Int)(_:GTask):((List (List Bool)))→Option (List (List Bool)):=fun v202=>some v202
theorem M_mutex_New_L3_eq (a0:GTask)(v15:List Int)(v32:List (List Bool))(v179:Int)(y195:Int)(z3:GTask)(v202:List (List Bool))(hl:a0.Init.length<9223372036854775807):M_mutex_New_L3 a0 v15 v32 v179 y195 z3 (((a0.Init.map cI).length:Int).toNat+1) v202 0=Rg (M_mutex_New_L3_B a0 v15 v32 v179 y195 z3) (M_mutex_New_L3_E a0 v15 v32 v179 y195 z3) a0.Init 0 v202:=rg_e1 (L:=fun k i v202=>M_mutex_New_L3 a0 v15 v32 v179 y195 z3 k v202 i) hl (fun _ _ _=>rfl) v202
def M_mutex_New_L4_B (a0:GTask)(v15:List Int)(v32:List (List Bool))(z3:GTask)(_y195:Int)(v179:Int):((List (List Bool)))→(((List (List Bool)))→Option (List (List Bool)))→Option (List (List Bool)):=fun v178 rc=>ob1 (ixv _y195 (fun y195=>M_mutex_New_L3 a0 v15 v32 v179 y195 z3 ((((a0.Init.map cI).length:Int)).toNat+1) v178 0):Option (List (List Bool))) (fun v193=>rc (v193))
def M_mutex_New_L4_E (_:GTask)(_:List Int)(_:List (List Bool))(_:GTask):((List (List Bool)))→Option (List (List Bool)):=fun v178=>some v178
theorem M_mutex_New_L4_eq (a0:GTask)(v15:List Int)(v32:List (List Bool))(z3:GTask)(v178:List (List Bool))(hl:a0.Init.length<9223372036854775807):M_mutex_New_L4 a0 v15 v32 z3 (((a0.Init.map cI).length:Int).toNat+1) v178 0=Rg (M_mutex_New_L4_B a0 v15 v32 z3) (M_mutex_New_L4_E a0 v15 v32 z3) a0.Init 0 v178:=rg_e2 (L:=fun k i v178=>M_mutex_New_L4 a0 v15 v32 z3 k v178 i) hl (fun k n p y hy h1 h2=>by first|(simp only[M_mutex_New_L4,M_mutex_New_L4_B,lM_,decide_lt h1,sel,ix_at hy,ixv,h2];done)|(simp only[lM_]at h1 hy;(simp only[M_mutex_New_L4,M_mutex_New_L4_B,lM_,decide_lt h1,sel,ix_at hy,ixv,h2];done))) (fun k p=>by simp only[M_mutex_New_L4,M_mutex_New_L4_E,lM_,decide_ge,sel]) v178
def M_mutex_New_L5_B (g:Nat)(v15:List Int)(v32:List (List Bool))(z3:GTask)(_:List (List Fact))(_y425:List Fact)(_:Int):((List (List Bool))×(Bool)×(List ((Int×Int×Int)×(Option GCause))))→(((List (List Bool))×(Bool)×(List ((Int×Int×Int)×(Option GCause))))→Option (((List (List Bool))×Bool×(List ((Int×Int×Int)×(Option GCause))))⊕((Option GTable)×Er)))→Option (((List (List Bool))×Bool×(List ((Int×Int×Int)×(Option GCause))))⊕((Option GTable)×Er)):=fun(v420,v421,v423) rc=>ixv _y425 (fun y425=>ob3 (M_stratagem_mutex_Table_made g ({ t:=(({ t:=z3,first:=v15,reached:=v32:GTable }).t),first:=({ t:=z3,first:=v15,reached:=v32:GTable }).first,reached:=v420:GTable }) y425 v423) (fun z426 z427 c428=>erM z427 (sel z426 (ix y425 0 (fun y430=>ix y425 (IntKind.i64.wrap (((y425.map cF).length:Int)-1)) (fun y431=>ob1 (M_set ({ t:=(({ t:=z3,first:=v15,reached:=v32:GTable }).t),first:=({ t:=z3,first:=v15,reached:=v32:GTable }).first,reached:=v420:GTable }) y430 y431) (fun z432=>rc (z432,true,c428))))) (rc (v420,v421,c428))) (fun e429=>some (.inr (none,(Er.no e429))))))
def M_mutex_New_L5_E (_:Nat)(_:List Int)(_:List (List Bool))(_:GTask)(_:List (List Fact)):((List (List Bool))×(Bool)×(List ((Int×Int×Int)×(Option GCause))))→Option (((List (List Bool))×Bool×(List ((Int×Int×Int)×(Option GCause))))⊕((Option GTable)×Er)):=fun(v420,v421,v423)=>some (.inl (v420,v421,v423))
theorem M_mutex_New_L5_eq (g:Nat)(v15:List Int)(v32:List (List Bool))(z3:GTask)(z360:List (List Fact))(v420:List (List Bool))(v421:Bool)(v423:List ((Int×Int×Int)×(Option GCause)))(hl:z360.length<9223372036854775807):M_mutex_New_L5 g v15 v32 z3 z360 (((z360.map cL_cF).length:Int).toNat+1) v420 v421 0 v423=Rg (M_mutex_New_L5_B g v15 v32 z3 z360) (M_mutex_New_L5_E g v15 v32 z3 z360) z360 0 (v420,v421,v423):=rg_e1 (L:=fun k i p=>match p with|(v420,v421,v423)=>M_mutex_New_L5 g v15 v32 z3 z360 k v420 v421 i v423) hl (fun _ _ ⟨_,_,_⟩=>rfl) (v420,v421,v423)
set_option maxHeartbeats 16000000
set_option maxRecDepth 100000
open Go.RowKit
def M_l33_awake (g:Nat):Option (Bool):=ob2 (M_mutex_New g ({ Vars:=[3],Init:=[0],Goal:=[],Ops:=[{ Name:=(⟨#[]⟩:ByteArray),Cost:=0,Pre:=[],Effs:=[{ When:=[],Var:=0,Val:=1:GEffect }]:GOp }]:GTask })) (fun z1 z2=>erM z2 (opM z1 (some false) (fun z4=>ob1 (M_stratagem_mutex_Table_Reached (some z4) (0,1)) (fun z5=>sel z5 (ob1 (M_stratagem_mutex_Table_Reached (some z4) (0,2)) (fun z6=>some (!z6))) (some false)))) (fun _=>some false))
theorem A_l33_awake (g:Nat){r1:Bool}(h:M_l33_awake g=some r1):ACall cx 12 [] (.c (.bool r1)):=by
 refine aOf Tryz.func12 rfl (by decide) rfl (bT3 rfl) ?_;intro _;unfold M_l33_awake at h;refine aSR ?_;intro _;refine dr (aSR ?_);intro _;obtain⟨z1,z2,u1,h⟩:=ob2_ok h;refine clf [(4,⟨2,none⟩),(5,⟨2,none⟩),(7,⟨2,none⟩),(9,⟨2,none⟩)] rfl rfl (A_mutex_New g ({ Vars:=[3],Init:=[0],Goal:=[],Ops:=[{ Name:=(⟨#[]⟩:ByteArray),Cost:=0,Pre:=[],Effs:=[{ When:=[],Var:=0,Val:=1:GEffect }]:GOp }]:GTask }) u1) ?_;intro _;refine dr (aSq ?_);rcases z2 with _|e3
 ·replace h:=erM_nil h;rcases z1 with _|z4
  ·replace h:=opM_none h;refine aRg ?_;intro _;refine litT ?_;intro _;refine⟨_,lf_nilQ rfl (bT3 rfl) rfl (by kernel_rfl) (.inr ⟨rfl,rfl⟩),?_⟩;intro _;refine litF ?_;intro _;refine dr (aRt ?_);intro _;obtain rfl:=inj1 h;exact ca_0
  ·replace h:=opM_some h;refine aRg ?_;intro _;refine litT ?_;intro _;refine⟨_,lf_nilP rfl (bT3 rfl) rfl (by kernel_rfl) (.inr ⟨rfl,rfl⟩),?_⟩;intro _;refine litT ?_;intro _;obtain⟨z5,u2,h⟩:=ob1_ok h;refine cl rfl (A_stratagem_mutex_Table_Reached (some z4) (0,1) u2) ?_;intro _;refine spl h (fun c3 h=>?_) (fun c3 h=>?_)
   ·intro _;obtain⟨z6,u4,h⟩:=ob1_ok h;refine cl rfl (A_stratagem_mutex_Table_Reached (some z4) (0,2) u4) ?_;intro _;refine dr (aRt ?_);intro _;obtain rfl:=inj1 h;exact ca_0
   ·intro _;refine dr (aRt ?_);intro _;obtain rfl:=inj1 h;exact ca_0
 ·replace h:=erM_no h;refine aRg ?_;intro _;refine litF ?_;intro _;refine dr (aRt ?_);intro _;obtain rfl:=inj1 h;exact ca_0
def M_l33_fit (a0:GTask):Option (Bool):=ob1 (M_b_Tame a0) (fun z1=>sel z1 (sel (decide (((a0.Ops.map cGOp).length:Int)≤10)) (some (decide (((a0.Vars.map cI).length:Int)≤6))) (some false)) (some false))
theorem A_l33_fit (a0:GTask){r1:Bool}(h:M_l33_fit a0=some r1):ACall cx 10 [.agg [.sl 1 (a0.Vars.map cI),.sl 1 (a0.Init.map cI),.sl 2 (a0.Goal.map cF),.sl 4 (a0.Ops.map cGOp)]] (.c (.bool r1)):=by
 refine aOf Tryz.func10 rfl (by decide) rfl (bT3 rfl) ?_;intro _;unfold M_l33_fit at h;refine aSR ?_;intro _;refine dr (aSR ?_);intro _;obtain⟨z1,u1,h⟩:=ob1_ok h;refine cl rfl (A_b_Tame a0 u1) ?_;intro _;refine spl h (fun c2 h=>?_) (fun c2 h=>?_)
 ·intro _;refine spl h (fun c3 h=>?_) (fun c3 h=>?_)
  ·intro _;refine dr (aRt ?_);intro _;obtain rfl:=inj1 h;exact ca_0
  ·intro _;refine dr (aRt ?_);intro _;obtain rfl:=inj1 h;exact ca_0
 ·intro _;refine dr (aRt ?_);intro _;obtain rfl:=inj1 h;exact ca_0
def M_b_Rank_L1 (a0:List Int)(a1:List Int):Nat→Int→Int→Option (Int)|0,_,_=>none|k9+1,v7,v8=>sel (decide (v8<((a1.map cI).length:Int))) (ix a0 v8 (fun y10=>ix a1 v8 (fun y11=>M_b_Rank_L1 a0 a1 k9 (IntKind.i64.wrap ((IntKind.i64.wrap (v7*y10))+y11)) (IntKind.i64.wrap (v8+1))))) (some v7)
def M_b_Rank (a0:List Int)(a1:List Int):Option (Int):=M_b_Rank_L1 a0 a1 ((((a1.map cI).length:Int)).toNat+1) 0 0
theorem A_b_Rank (a0:List Int)(a1:List Int){r1:Int}(h:M_b_Rank a0 a1=some r1):ACall cx 53 [.sl 1 (a0.map cI),.sl 1 (a1.map cI)] (.c (.int .i64 r1)):=by
 refine aOf Tryz.func53 rfl (by decide) rfl (bT3 rfl) ?_;intro _;unfold M_b_Rank at h;refine aSR ?_;intro _;refine dr (aSR ?_);intro _;refine dr (aSq (aSR ?_));intro _;refine dr (aBk ?_);refine awp_loop (α:=Nat×Int×Int) (fun x=>mkS 25 [(0,.sl 1 (a0.map cI)),(1,.sl 1 (a1.map cI)),(5,.c (.int .i64 x.2.1)),(8,.c (.int .i64 ((a1.map cI).length:Int))),(9,.c (.int .i64 x.2.2))] []) (fun x=>M_b_Rank_L1 a0 a1 x.1 x.2.1 x.2.2=some r1) (fun x=>x.1) ((((a1.map cI).length:Int)).toNat+1,0,0) h ?_ ?_
 ·exact ca_0
 ·intro x1 h;intro _;obtain⟨k9,m2,h⟩:=succ_of (f:=fun n=>M_b_Rank_L1 a0 a1 n x1.2.1 x1.2.2) rfl h;replace h:M_b_Rank_L1 a0 a1 (k9+1) x1.2.1 x1.2.2=some r1:=h;rw[M_b_Rank_L1]at h;refine aSR ?_;intro _;refine dr (aSq (aCd ?_));intro _;refine spl h (fun c3 h=>?_) (fun c3 h=>?_)
  ·refine aSk (aSq (aBk (aSR ?_)));intro _;refine dr (aRg ?_);intro _;obtain⟨y10,w4,q5,h⟩:=ix_ok h;refine Exists.intro (cI y10) (And.intro (map_at' w4) ?_);intro _;obtain⟨y11,w6,q7,h⟩:=ix_ok h;refine Exists.intro (cI y11) (And.intro (map_at' w6) ?_);intro _;refine pr (pr (dr (aRg ?_)));intro _;refine dr ?_;refine⟨(k9,(IntKind.i64.wrap ((IntKind.i64.wrap (x1.2.1*y10))+y11)),(IntKind.i64.wrap (x1.2.2+1))),h,ltS m2,?_⟩;exact ca_0
  ·refine aEx (aSR ?_);intro _;refine dr (aRt ?_);intro _;obtain rfl:=inj1 h;exact ca_0
def M_b_Edges_L1 (a0:GTask)(v68:Int)(y88:List Int):Nat→Int→(List GEdge)→Option (List GEdge)|0,_,_=>none|k99+1,v97,v98=>sel (decide (v97<((a0.Ops.map cGOp).length:Int))) (ob2 (M_b_Apply a0 y88 v97) (fun z100 z101=>sel z101 (ob1 (M_b_Rank a0.Vars z100) (fun z102=>grd ((v98.length+1)*24≤140737488355328) (M_b_Edges_L1 a0 v68 y88 k99 (IntKind.i64.wrap (v97+1)) (v98++[{ From:=v68,Op:=v97,To:=z102:GEdge }])))) (M_b_Edges_L1 a0 v68 y88 k99 (IntKind.i64.wrap (v97+1)) v98))) (some v98)
def M_b_Edges_L2 (a0:GTask)(z1:List (List Int)):Nat→Int→(List GEdge)→Option (List GEdge)|0,_,_=>none|k70+1,v68,v69=>sel (decide (v68<((z1.map cL_cI).length:Int))) (ob1 (ix z1 v68 (fun y88=>M_b_Edges_L1 a0 v68 y88 ((((a0.Ops.map cGOp).length:Int)).toNat+1) 0 v69):Option (List GEdge)) (fun v86=>M_b_Edges_L2 a0 z1 k70 (IntKind.i64.wrap (v68+1)) v86)) (grd (v69.length≤140737488355328) (some v69))
def M_b_Edges (a0:GTask):Option (List GEdge):=ob1 (M_b_States a0.Vars) (fun z1=>M_b_Edges_L2 a0 z1 ((((z1.map cL_cI).length:Int)).toNat+1) 0 [])
theorem A_b_Edges (a0:GTask){r1:List GEdge}(h:M_b_Edges a0=some r1):ACall cx 54 [.agg [.sl 1 (a0.Vars.map cI),.sl 1 (a0.Init.map cI),.sl 2 (a0.Goal.map cF),.sl 4 (a0.Ops.map cGOp)]] (.sl 3 (r1.map cGEdge)):=by
 refine aOf Tryz.func54 rfl (by decide) rfl (bT3 rfl) ?_;intro _;unfold M_b_Edges at h;refine aSR ?_;intro _;refine dr (aSR ?_);intro _;refine dr (aSq (aSR ?_));intro _;obtain⟨z1,u1,h⟩:=ob1_ok h;refine cl rfl (A_b_States a0.Vars u1) ?_;intro _;refine dr (aBk ?_);refine awp_loop (α:=Nat×Int×(List GEdge)) (fun x=>mkS 45 [(1,.ptr 1 0 0 0),(3,.own 41 0 0 x.2.2.length),(11,.sl 1 (z1.map cL_cI)),(12,.c (.int .i64 ((z1.map cL_cI).length:Int))),(13,.c (.int .i64 x.2.1))] [(1,⟨26,4,true,[[.sl 1 (a0.Vars.map cI),.sl 1 (a0.Init.map cI),.sl 2 (a0.Goal.map cF),.sl 4 (a0.Ops.map cGOp)]]⟩),(41,⟨97,3,false,x.2.2.map cGEdge⟩)]) (fun x=>M_b_Edges_L2 a0 z1 x.1 x.2.1 x.2.2=some r1) (fun x=>x.1) ((((z1.map cL_cI).length:Int)).toNat+1,0,[]) h ?_ ?_
 ·exact ca_0
 ·intro x2 h;intro _;obtain⟨k70,m3,h⟩:=succ_of (f:=fun n=>M_b_Edges_L2 a0 z1 n x2.2.1 x2.2.2) rfl h;replace h:M_b_Edges_L2 a0 z1 (k70+1) x2.2.1 x2.2.2=some r1:=h;rw[M_b_Edges_L2]at h;refine aSR ?_;intro _;refine dr (aSq (aCd ?_));intro _;refine spl h (fun c4 h=>?_) (fun c4 h=>?_)
  ·refine aSk ?_;obtain⟨o5,h,hK6⟩:=ob1_ok h;refine awp_cut (α:=List GEdge) (fun v86=>mkS 45 [(1,.ptr 1 0 0 0),(3,.own 41 0 0 v86.length),(11,.sl 1 (z1.map cL_cI)),(12,.c (.int .i64 ((z1.map cL_cI).length:Int))),(13,.c (.int .i64 x2.2.1))] [(1,⟨26,4,true,[[.sl 1 (a0.Vars.map cI),.sl 1 (a0.Init.map cI),.sl 2 (a0.Goal.map cF),.sl 4 (a0.Ops.map cGOp)]]⟩),(41,⟨97,3,false,v86.map cGEdge⟩)]) (fun v=>o5=v) ?_ ?_
   ·refine aBk (aSR ?_);intro _;obtain⟨y88,w7,q8,h⟩:=ix_ok h;refine Exists.intro (cL_cI y88) (And.intro (map_at' w7) ?_);intro _;refine pr (dr (aSR ?_));intro _;refine dr (aBk ?_);refine awp_loop (α:=Nat×Int×(List GEdge)) (fun x=>mkS 45 [(1,.ptr 1 0 0 0),(3,.own 41 0 0 x.2.2.length),(4,.c (.int .i64 x2.2.1)),(5,.sl 1 (y88.map cI)),(11,.sl 1 (z1.map cL_cI)),(12,.c (.int .i64 ((z1.map cL_cI).length:Int))),(13,.c (.int .i64 x2.2.1)),(20,.c (.int .i64 ((a0.Ops.map cGOp).length:Int))),(21,.c (.int .i64 x.2.1))] [(1,⟨26,4,true,[[.sl 1 (a0.Vars.map cI),.sl 1 (a0.Init.map cI),.sl 2 (a0.Goal.map cF),.sl 4 (a0.Ops.map cGOp)]]⟩),(41,⟨97,3,false,x.2.2.map cGEdge⟩)]) (fun x=>M_b_Edges_L1 a0 x2.2.1 y88 x.1 x.2.1 x.2.2=some o5) (fun x=>x.1) ((((a0.Ops.map cGOp).length:Int)).toNat+1,0,x2.2.2) h ?_ ?_
    ·exact ca_0
    ·intro x9 h;intro _;obtain⟨k99,m10,h⟩:=succ_of (f:=fun n=>M_b_Edges_L1 a0 x2.2.1 y88 n x9.2.1 x9.2.2) rfl h;replace h:M_b_Edges_L1 a0 x2.2.1 y88 (k99+1) x9.2.1 x9.2.2=some o5:=h;rw[M_b_Edges_L1]at h;refine aSR ?_;intro _;refine dr (aSq (aCd ?_));intro _;refine spl h (fun c11 h=>?_) (fun c11 h=>?_)
     ·refine aSk (aSq (aBk (aSR ?_)));intro _;refine dr (aSR ?_);intro _;obtain⟨z100,z101,u12,h⟩:=ob2_ok h;refine cl rfl (A_b_Apply a0 y88 x9.2.1 u12) ?_;intro _;refine dr (aSR ?_);intro _;refine dr (aCd ?_);intro _;refine spl h (fun c13 h=>?_) (fun c13 h=>?_)
      ·refine aRg ?_;intro _;obtain⟨z102,u14,h⟩:=ob1_ok h;refine cl rfl (A_b_Rank a0.Vars z100 u14) ?_;intro _;obtain⟨q15,h⟩:=grd_ok h;refine pl (pl ?_);refine And.intro (by first|with_reducible assumption|(show(x9.2.2.length+1)*24≤140737488355328;with_reducible assumption)|omega|(simp;omega)) ?_;refine pe (dr (aRg ?_));intro _;refine dr ?_;refine⟨(k99,(IntKind.i64.wrap (x9.2.1+1)),(x9.2.2++[{ From:=x2.2.1,Op:=x9.2.1,To:=z102:GEdge }])),h,ltS m10,?_⟩;exact ca_0
      ·refine aSk (aRg ?_);intro _;refine dr ?_;refine⟨(k99,(IntKind.i64.wrap (x9.2.1+1)),x9.2.2),h,ltS m10,?_⟩;exact ca_0
     ·refine aEx ?_;refine⟨x9.2.2,(sI_ h).symm,?_⟩;exact ca_0
   ·rintro v86 ho;have ho:=ho.symm;subst ho;intro _;replace h:=hK6;refine aRg ?_;intro _;refine dr ?_;refine⟨(k70,(IntKind.i64.wrap (x2.2.1+1)),v86),h,ltS m3,?_⟩;exact ca_0
  ·refine aEx (aSR ?_);intro _;refine dr (aRt ?_);obtain⟨q16,h⟩:=grd_ok h;intro _;obtain rfl:=inj1 h;exact ca_0
def M_b_Distances_L1 (a0:GTask)(z1:List (List Int)):Nat→Int→(List Int)→Option (List Int)|0,_,_=>none|k33+1,v31,v32=>sel (decide (v31<((z1.map cL_cI).length:Int))) (ix z1 v31 (fun y34=>ixn v32 ((v31).toNat) (fun _=>grd (v31<((v32.length:Nat):Int)) (ob1 (M_b_Holds a0.Goal y34) (fun z36=>sel z36 (ixn (v32.set ((v31).toNat) 1125899906842624) ((v31).toNat) (fun _=>M_b_Distances_L1 a0 z1 k33 (IntKind.i64.wrap (v31+1)) ((v32.set ((v31).toNat) 1125899906842624).set ((v31).toNat) 0))) (M_b_Distances_L1 a0 z1 k33 (IntKind.i64.wrap (v31+1)) (v32.set ((v31).toNat) 1125899906842624))))))) (some v32)
def M_b_Distances_L2 (a0:GTask)(z38:List GEdge):Nat→Bool→Int→(List Int)→Option (Bool×(List Int))|0,_,_,_=>none|k315+1,v312,v313,v314=>sel (decide (v313<((z38.map cGEdge).length:Int))) (ix z38 v313 (fun y316=>ix a0.Ops y316.Op (fun y317=>ob1 (some ():Option (Unit)) (fun _=>ob1 (ixn v314 ((y316.To).toNat) (fun y324=>sel (decide (y324<1125899906842624)) (ixn v314 ((y316.To).toNat) (fun y325=>ixn v314 ((y316.From).toNat) (fun y326=>grd (0≤y316.To) (grd (y316.To<((v314.length:Nat):Int)) (grd (0≤y316.From) (grd (y316.From<((v314.length:Nat):Int)) (some (decide ((IntKind.i64.wrap (y325+y317.Cost))<y326))))))))) (grd (0≤y316.To) (grd (y316.To<((v314.length:Nat):Int)) (some false)))):Option (Bool)) (fun v322=>sel v322 (ixn v314 ((y316.To).toNat) (fun y327=>ixn v314 ((y316.From).toNat) (fun _=>grd (0≤y316.To) (grd (y316.To<((v314.length:Nat):Int)) (grd (0≤y316.From) (grd (y316.From<((v314.length:Nat):Int)) (M_b_Distances_L2 a0 z38 k315 true (IntKind.i64.wrap (v313+1)) (v314.set ((y316.From).toNat) (IntKind.i64.wrap (y327+y317.Cost)))))))))) (M_b_Distances_L2 a0 z38 k315 v312 (IntKind.i64.wrap (v313+1)) v314)))))) (some (v312,v314))
def M_b_Distances_L3 (a0:GTask)(z38:List GEdge):Nat→Bool→(List Int)→Option (List Int)|0,_,_=>none|k233+1,v231,v232=>sel v231 (ob1 (M_b_Distances_L2 a0 z38 ((((z38.map cGEdge).length:Int)).toNat+1) false 0 v232:Option (Bool×(List Int))) (fun(v280,v281)=>M_b_Distances_L3 a0 z38 k233 v280 v281)) (grd (v232.length≤140737488355328) (some v232))
def M_b_Distances (g:Nat)(a0:GTask)(_:List Int):Option (List Int):=ob1 (M_b_States a0.Vars) (fun z1=>grd (0≤((z1.map cL_cI).length:Int)) (grd (((z1.map cL_cI).length:Int)*8≤281474976710656) (ob1 (M_b_Distances_L1 a0 z1 ((((z1.map cL_cI).length:Int)).toNat+1) 0 (List.replicate ((z1.map cL_cI).length:Int).toNat 0):Option (List Int)) (fun v19=>ob1 (M_b_Edges a0) (fun z38=>M_b_Distances_L3 a0 z38 g true v19)))))
theorem A_b_Distances (g:Nat)(a0:GTask)(a1:List Int){r1:List Int}(h:M_b_Distances g a0 a1=some r1):ACall cx 59 [.agg [.sl 1 (a0.Vars.map cI),.sl 1 (a0.Init.map cI),.sl 2 (a0.Goal.map cF),.sl 4 (a0.Ops.map cGOp)],.c (.slice none 0 0)] (.sl 1 (r1.map cI)):=by
 refine aOf Tryz.func59 rfl (by decide) rfl (bT3 rfl) ?_;intro _;unfold M_b_Distances at h;refine aSR ?_;intro _;refine dr (aSR ?_);intro _;obtain⟨z1,u1,h⟩:=ob1_ok h;refine cl rfl (A_b_States a0.Vars u1) ?_;intro _;refine dr (aSR ?_);intro _;obtain⟨q2,h⟩:=grd_ok h;obtain⟨q3,h⟩:=grd_ok h;refine⟨_,lf_make rfl rfl (bT3 rfl) (tyTab_ok 22 _ rfl) rfl (tyTab_ok 3 _ rfl) rfl rfl rfl (by first|assumption|omega) (by first|assumption|(show _*(8:Int)≤_;omega)|omega) (by omega) rfl (by simp only[Value.cells];simp[Value.oneCell']) (by decide),?_⟩;intro _;refine dr ?_;obtain⟨o4,h,hK5⟩:=ob1_ok h;refine awp_cut (α:=List Int) (fun v19=>mkS 95 [(1,.c (.slice none 0 0)),(2,.ptr 2 0 0 0),(6,.own 19 0 0 v19.length)] [(2,⟨26,4,true,[[.sl 1 (a0.Vars.map cI),.sl 1 (a0.Init.map cI),.sl 2 (a0.Goal.map cF),.sl 4 (a0.Ops.map cGOp)]]⟩),(19,⟨3,1,false,v19.map cI⟩)]) (fun v=>o4=v) ?_ ?_
 ·refine aSR ?_;intro _;refine dr (aBk ?_);refine awp_loop (α:=Nat×Int×(List Int)) (fun x=>mkS 95 [(1,.c (.slice none 0 0)),(2,.ptr 2 0 0 0),(6,.own 19 0 0 x.2.2.length),(20,.sl 1 (z1.map cL_cI)),(21,.c (.int .i64 ((z1.map cL_cI).length:Int))),(22,.c (.int .i64 x.2.1))] [(2,⟨26,4,true,[[.sl 1 (a0.Vars.map cI),.sl 1 (a0.Init.map cI),.sl 2 (a0.Goal.map cF),.sl 4 (a0.Ops.map cGOp)]]⟩),(19,⟨3,1,false,x.2.2.map cI⟩)]) (fun x=>M_b_Distances_L1 a0 z1 x.1 x.2.1 x.2.2=some o4) (fun x=>x.1) ((((z1.map cL_cI).length:Int)).toNat+1,0,(List.replicate ((z1.map cL_cI).length:Int).toNat 0)) h ?_ ?_
  ·exact ca_0
  ·intro x6 h;intro _;obtain⟨k33,m7,h⟩:=succ_of (f:=fun n=>M_b_Distances_L1 a0 z1 n x6.2.1 x6.2.2) rfl h;replace h:M_b_Distances_L1 a0 z1 (k33+1) x6.2.1 x6.2.2=some o4:=h;rw[M_b_Distances_L1]at h;refine aSR ?_;intro _;refine dr (aSq (aCd ?_));intro _;refine spl h (fun c8 h=>?_) (fun c8 h=>?_)
   ·refine aSk (aSq (aBk (aSR ?_)));intro _;obtain⟨y34,w9,q10,h⟩:=ix_ok h;refine Exists.intro (cL_cI y34) (And.intro (map_at' w9) ?_);intro _;refine pr (dr (aSR ?_));intro _;obtain⟨y35,w11,h⟩:=ixn_ok h;refine Exists.intro (cI y35) (And.intro (by first|exact map_at' w11|(have w:=map_at' (f:=cI) w11;simpa [cI,Value.cells] using w)) ?_);intro _;obtain⟨q12,h⟩:=grd_ok h;refine pr (pr (dr (aSR ?_)));intro _;obtain⟨z36,u13,h⟩:=ob1_ok h;refine cl rfl (A_b_Holds a0.Goal y34 u13) ?_;intro _;refine dr (aCd ?_);intro _;refine spl h (fun c14 h=>?_) (fun c14 h=>?_)
    ·refine aRg ?_;intro _;obtain⟨y37,w15,h⟩:=ixn_ok h;refine Exists.intro (cI y37) (And.intro (by first|exact map_at' w15|(have w:=map_at' (f:=cI) w15;simpa [cI,Value.cells] using w)) ?_);intro _;refine pr (pr (dr (aRg ?_)));intro _;refine dr ?_;refine⟨(k33,(IntKind.i64.wrap (x6.2.1+1)),((x6.2.2.set ((x6.2.1).toNat) 1125899906842624).set ((x6.2.1).toNat) 0)),h,ltS m7,?_⟩;exact ca_0
    ·refine aSk (aRg ?_);intro _;refine dr ?_;refine⟨(k33,(IntKind.i64.wrap (x6.2.1+1)),(x6.2.2.set ((x6.2.1).toNat) 1125899906842624)),h,ltS m7,?_⟩;exact ca_0
   ·refine aEx ?_;refine⟨x6.2.2,(sI_ h).symm,?_⟩;exact ca_0
 ·rintro v19 ho;have ho:=ho.symm;subst ho;intro _;replace h:=hK5;refine aSR ?_;intro _;obtain⟨z38,u16,h⟩:=ob1_ok h;refine cl rfl (A_b_Edges a0 u16) ?_;intro _;refine dr (aSq (aSR ?_));intro _;refine dr (aBk ?_);refine awp_loop (α:=Nat×Bool×(List Int)) (fun x=>mkS 95 [(1,.c (.slice none 0 0)),(2,.ptr 2 0 0 0),(6,.own 19 0 0 x.2.2.length),(9,.sl 3 (z38.map cGEdge)),(10,.c (.bool x.2.1))] [(2,⟨26,4,true,[[.sl 1 (a0.Vars.map cI),.sl 1 (a0.Init.map cI),.sl 2 (a0.Goal.map cF),.sl 4 (a0.Ops.map cGOp)]]⟩),(19,⟨3,1,false,x.2.2.map cI⟩)]) (fun x=>M_b_Distances_L3 a0 z38 x.1 x.2.1 x.2.2=some r1) (fun x=>x.1) (g,true,v19) h ?_ ?_
  ·exact ca_0
  ·intro x17 h;intro _;obtain⟨k233,m18,h⟩:=succ_of (f:=fun n=>M_b_Distances_L3 a0 z38 n x17.2.1 x17.2.2) rfl h;replace h:M_b_Distances_L3 a0 z38 (k233+1) x17.2.1 x17.2.2=some r1:=h;rw[M_b_Distances_L3]at h;refine aSq (aSR ?_);intro _;refine dr (aCd ?_);intro _;refine spl h (fun c19 h=>?_) (fun c19 h=>?_)
   ·refine aSk (aBk (aSR ?_));intro _;refine dr (aSR ?_);intro _;refine dr ?_;obtain⟨o20,h,hK21⟩:=ob1_ok h;refine awp_cutT (α:=Bool×(List Int)) (fun(v280,v281)=>mkS 95 [(1,.c (.slice none 0 0)),(2,.ptr 2 0 0 0),(6,.own 19 0 0 v281.length),(9,.sl 3 (z38.map cGEdge)),(10,.c (.bool v280))] [(2,⟨26,4,true,[[.sl 1 (a0.Vars.map cI),.sl 1 (a0.Init.map cI),.sl 2 (a0.Goal.map cF),.sl 4 (a0.Ops.map cGOp)]]⟩),(19,⟨3,1,false,v281.map cI⟩)]) (fun v=>o20=v) ?_ ?_
    ·refine aBk ?_;refine awp_loop (α:=Nat×Bool×Int×(List Int)) (fun x=>mkS 95 [(1,.c (.slice none 0 0)),(2,.ptr 2 0 0 0),(6,.own 19 0 0 x.2.2.2.length),(9,.sl 3 (z38.map cGEdge)),(10,.c (.bool x.2.1)),(41,.sl 3 (z38.map cGEdge)),(42,.c (.int .i64 ((z38.map cGEdge).length:Int))),(43,.c (.int .i64 x.2.2.1))] [(2,⟨26,4,true,[[.sl 1 (a0.Vars.map cI),.sl 1 (a0.Init.map cI),.sl 2 (a0.Goal.map cF),.sl 4 (a0.Ops.map cGOp)]]⟩),(19,⟨3,1,false,x.2.2.2.map cI⟩)]) (fun x=>M_b_Distances_L2 a0 z38 x.1 x.2.1 x.2.2.1 x.2.2.2=some o20) (fun x=>x.1) ((((z38.map cGEdge).length:Int)).toNat+1,false,0,x17.2.2) h ?_ ?_
     ·exact ca_0
     ·intro x22 h;intro _;obtain⟨k315,m23,h⟩:=succ_of (f:=fun n=>M_b_Distances_L2 a0 z38 n x22.2.1 x22.2.2.1 x22.2.2.2) rfl h;replace h:M_b_Distances_L2 a0 z38 (k315+1) x22.2.1 x22.2.2.1 x22.2.2.2=some o20:=h;rw[M_b_Distances_L2]at h;refine aSR ?_;intro _;refine dr (aSq (aCd ?_));intro _;refine spl h (fun c24 h=>?_) (fun c24 h=>?_)
      ·refine aSk (aSq (aBk (aSR ?_)));intro _;obtain⟨y316,w25,q26,h⟩:=ix_ok h;refine Exists.intro (cGEdge y316) (And.intro (map_at' w25) ?_);intro _;refine pr (dr (aSR ?_));intro _;obtain⟨y317,w27,q28,h⟩:=ix_ok h;refine Exists.intro (cGOp y317) (And.intro (map_at' w27) ?_);intro _;refine pr (dr ?_);obtain⟨o29,h,hK30⟩:=ob1_ok h;refine awp_cut (α:=Unit) (fun _=>mkS 95 [(1,.c (.slice none 0 0)),(2,.ptr 2 0 0 0),(6,.own 19 0 0 x22.2.2.2.length),(9,.sl 3 (z38.map cGEdge)),(10,.c (.bool x22.2.1)),(12,.ptr 12 0 0 0),(13,.c (.int .i64 y317.Cost)),(41,.sl 3 (z38.map cGEdge)),(42,.c (.int .i64 ((z38.map cGEdge).length:Int))),(43,.c (.int .i64 x22.2.2.1))] [(2,⟨26,4,true,[[.sl 1 (a0.Vars.map cI),.sl 1 (a0.Init.map cI),.sl 2 (a0.Goal.map cF),.sl 4 (a0.Ops.map cGOp)]]⟩),(12,⟨97,3,true,[[.c (.int .i64 y316.From),.c (.int .i64 y316.Op),.c (.int .i64 y316.To)]]⟩),(19,⟨3,1,false,x22.2.2.2.map cI⟩)]) (fun v=>o29=v) ?_ ?_
       ·refine aSR ?_;intro _;refine⟨_,lf_nilneq rfl (bT3 rfl) rfl rfl (tyTab_ok 22 _ rfl) rfl,?_⟩;intro _;refine dr (aCd ?_);intro _;refine litF (aSk ?_);refine⟨(),(sI_ h).symm,?_⟩;exact ca_0
       ·rintro _ ho;have ho:=ho.symm;subst ho;intro _;replace h:=hK30;obtain⟨o31,h,hK32⟩:=ob1_ok h;refine awp_cut (α:=Bool) (fun v322=>mkS 95 [(1,.c (.slice none 0 0)),(2,.ptr 2 0 0 0),(6,.own 19 0 0 x22.2.2.2.length),(9,.sl 3 (z38.map cGEdge)),(10,.c (.bool x22.2.1)),(12,.ptr 12 0 0 0),(13,.c (.int .i64 y317.Cost)),(41,.sl 3 (z38.map cGEdge)),(42,.c (.int .i64 ((z38.map cGEdge).length:Int))),(43,.c (.int .i64 x22.2.2.1)),(81,.c (.bool v322))] [(2,⟨26,4,true,[[.sl 1 (a0.Vars.map cI),.sl 1 (a0.Init.map cI),.sl 2 (a0.Goal.map cF),.sl 4 (a0.Ops.map cGOp)]]⟩),(12,⟨97,3,true,[[.c (.int .i64 y316.From),.c (.int .i64 y316.Op),.c (.int .i64 y316.To)]]⟩),(19,⟨3,1,false,x22.2.2.2.map cI⟩)]) (fun v=>o31=v) ?_ ?_
        ·refine aRg ?_;intro _;obtain⟨y324,w33,h⟩:=ixn_ok h;refine Exists.intro (cI y324) (And.intro (by first|exact map_at' w33|(have w:=map_at' (f:=cI) w33;simpa [cI,Value.cells] using w)) ?_);intro _;refine spl h (fun c34 h=>?_) (fun c34 h=>?_)
         ·intro _;obtain⟨y325,w35,h⟩:=ixn_ok h;refine Exists.intro (cI y325) (And.intro (by first|exact map_at' w35|(have w:=map_at' (f:=cI) w35;simpa [cI,Value.cells] using w)) ?_);intro _;obtain⟨y326,w36,h⟩:=ixn_ok h;refine Exists.intro (cI y326) (And.intro (by first|exact map_at' w36|(have w:=map_at' (f:=cI) w36;simpa [cI,Value.cells] using w)) ?_);intro _;obtain⟨q37,h⟩:=grd_ok h;obtain⟨q38,h⟩:=grd_ok h;obtain⟨q39,h⟩:=grd_ok h;obtain⟨q40,h⟩:=grd_ok h;refine pr (pr (pr (pr (pr (pr (dr ?_))))));refine⟨(decide ((IntKind.i64.wrap (y325+y317.Cost))<y326)),(sI_ h).symm,?_⟩;exact ca_0
         ·intro _;obtain⟨q41,h⟩:=grd_ok h;obtain⟨q42,h⟩:=grd_ok h;refine pr (pr (dr ?_));refine⟨false,(sI_ h).symm,?_⟩;exact ca_0
        ·rintro v322 ho;have ho:=ho.symm;subst ho;intro _;replace h:=hK32;refine aCd ?_;intro _;refine spl h (fun c43 h=>?_) (fun c43 h=>?_)
         ·refine aSR ?_;intro _;obtain⟨y327,w44,h⟩:=ixn_ok h;refine Exists.intro (cI y327) (And.intro (by first|exact map_at' w44|(have w:=map_at' (f:=cI) w44;simpa [cI,Value.cells] using w)) ?_);intro _;obtain⟨y328,w45,h⟩:=ixn_ok h;refine Exists.intro (cI y328) (And.intro (by first|exact map_at' w45|(have w:=map_at' (f:=cI) w45;simpa [cI,Value.cells] using w)) ?_);intro _;obtain⟨q46,h⟩:=grd_ok h;obtain⟨q47,h⟩:=grd_ok h;obtain⟨q48,h⟩:=grd_ok h;obtain⟨q49,h⟩:=grd_ok h;refine pr (pr (pr (pr (dr (aRg ?_)))));intro _;refine dr (aRg ?_);intro _;refine dr ?_;refine⟨(k315,true,(IntKind.i64.wrap (x22.2.2.1+1)),(x22.2.2.2.set ((y316.From).toNat) (IntKind.i64.wrap (y327+y317.Cost)))),h,ltS m23,?_⟩;exact ca_0
         ·refine aSk (aRg ?_);intro _;refine dr ?_;refine⟨(k315,x22.2.1,(IntKind.i64.wrap (x22.2.2.1+1)),x22.2.2.2),h,ltS m23,?_⟩;exact ca_0
      ·refine aEx ?_;refine⟨(x22.2.1,x22.2.2.2),(sI_ h).symm,?_⟩;exact ca_0
    ·rintro⟨v280,v281⟩ ho;have ho:=ho.symm;subst ho;intro _;replace h:=hK21;refine⟨(k233,v280,v281),h,ltS m18,?_⟩;exact ca_0
   ·refine aEx (aSR ?_);intro _;refine dr (aRt ?_);obtain⟨q50,h⟩:=grd_ok h;intro _;obtain rfl:=inj1 h;exact ca_0
def M_b_Best (g:Nat)(a0:GTask):Option (Int):=ob1 (M_b_Distances g a0 []) (fun z1=>ob1 (M_b_Rank a0.Vars a0.Init) (fun z2=>ix z1 z2 (fun y3=>some y3)))
theorem A_b_Best (g:Nat)(a0:GTask){r1:Int}(h:M_b_Best g a0=some r1):ACall cx 28 [.agg [.sl 1 (a0.Vars.map cI),.sl 1 (a0.Init.map cI),.sl 2 (a0.Goal.map cF),.sl 4 (a0.Ops.map cGOp)]] (.c (.int .i64 r1)):=by
 refine aOf Tryz.func28 rfl (by decide) rfl (bT3 rfl) ?_;intro _;unfold M_b_Best at h;refine aSR ?_;intro _;refine dr (aSR ?_);intro _;obtain⟨z1,u1,h⟩:=ob1_ok h;refine cl rfl (A_b_Distances g a0 [] u1) ?_;intro _;obtain⟨z2,u2,h⟩:=ob1_ok h;refine cl rfl (A_b_Rank a0.Vars a0.Init u2) ?_;intro _;obtain⟨y3,w3,q4,h⟩:=ix_ok h;refine Exists.intro (cI y3) (And.intro (map_at' w3) ?_);intro _;refine pr (dr (aRt ?_));intro _;obtain rfl:=inj1 h;exact ca_0
def M_b_Rank_L1_B (a0:List Int)(_:List Int)(_y11:Int)(v8:Int):((Int))→(((Int))→Option (Int))→Option (Int):=fun v7 rc=>ix a0 v8 (fun y10=>ixv _y11 (fun y11=>rc ((IntKind.i64.wrap ((IntKind.i64.wrap (v7*y10))+y11)))))
def M_b_Rank_L1_E (_:List Int)(_:List Int):((Int))→Option (Int):=fun v7=>some v7
theorem M_b_Rank_L1_eq (a0:List Int)(a1:List Int)(v7:Int)(hl:a1.length<9223372036854775807):M_b_Rank_L1 a0 a1 (((a1.map cI).length:Int).toNat+1) v7 0=Rg (M_b_Rank_L1_B a0 a1) (M_b_Rank_L1_E a0 a1) a1 0 v7:=rg_e2 (L:=fun k i v7=>M_b_Rank_L1 a0 a1 k v7 i) hl (fun k n p y hy h1 h2=>by first|(simp only[M_b_Rank_L1,M_b_Rank_L1_B,lM_,decide_lt h1,sel,ix_at hy,ixv,h2];done)|(simp only[lM_]at h1 hy;(simp only[M_b_Rank_L1,M_b_Rank_L1_B,lM_,decide_lt h1,sel,ix_at hy,ixv,h2];done))) (fun k p=>by simp only[M_b_Rank_L1,M_b_Rank_L1_E,lM_,decide_ge,sel]) v7
def M_b_Edges_L1_B (a0:GTask)(v68:Int)(y88:List Int)(v97:Int):((List GEdge))→(((List GEdge))→Option (List GEdge))→Option (List GEdge):=fun v98 rc=>ob2 (M_b_Apply a0 y88 v97) (fun z100 z101=>sel z101 (ob1 (M_b_Rank a0.Vars z100) (fun z102=>grd ((v98.length+1)*24≤140737488355328) (rc ((v98++[{ From:=v68,Op:=v97,To:=z102:GEdge }]))))) (rc (v98)))
def M_b_Edges_L1_E (_:GTask)(_:Int)(_:List Int):((List GEdge))→Option (List GEdge):=fun v98=>some v98
theorem M_b_Edges_L1_eq (a0:GTask)(v68:Int)(y88:List Int)(v98:List GEdge){m:Nat}(hm:((a0.Ops.map cGOp).length:Int)=(m:Int))(hl:m<9223372036854775807):M_b_Edges_L1 a0 v68 y88 ((((a0.Ops.map cGOp).length:Int)).toNat+1) 0 v98=Rn (M_b_Edges_L1_B a0 v68 y88) (M_b_Edges_L1_E a0 v68 y88) m 0 v98:=rn_e (L:=fun k i v98=>M_b_Edges_L1 a0 v68 y88 k i v98) hm hl (fun _ _ _=>rfl) v98
def M_b_Edges_L2_B (a0:GTask)(_:List (List Int))(_y88:List Int)(v68:Int):((List GEdge))→(((List GEdge))→Option (List GEdge))→Option (List GEdge):=fun v69 rc=>ob1 (ixv _y88 (fun y88=>M_b_Edges_L1 a0 v68 y88 ((((a0.Ops.map cGOp).length:Int)).toNat+1) 0 v69):Option (List GEdge)) (fun v86=>rc (v86))
def M_b_Edges_L2_E (_:GTask)(_:List (List Int)):((List GEdge))→Option (List GEdge):=fun v69=>grd (v69.length≤140737488355328) (some v69)
theorem M_b_Edges_L2_eq (a0:GTask)(z1:List (List Int))(v69:List GEdge)(hl:z1.length<9223372036854775807):M_b_Edges_L2 a0 z1 (((z1.map cL_cI).length:Int).toNat+1) 0 v69=Rg (M_b_Edges_L2_B a0 z1) (M_b_Edges_L2_E a0 z1) z1 0 v69:=rg_e2 (L:=fun k i v69=>M_b_Edges_L2 a0 z1 k i v69) hl (fun k n p y hy h1 h2=>by first|(simp only[M_b_Edges_L2,M_b_Edges_L2_B,lM_,decide_lt h1,sel,ix_at hy,ixv,h2];done)|(simp only[lM_]at h1 hy;(simp only[M_b_Edges_L2,M_b_Edges_L2_B,lM_,decide_lt h1,sel,ix_at hy,ixv,h2];done))) (fun k p=>by simp only[M_b_Edges_L2,M_b_Edges_L2_E,lM_,decide_ge,sel]) v69
def M_b_Distances_L1_B (a0:GTask)(_:List (List Int))(_y34:List Int)(v31:Int):((List Int))→(((List Int))→Option (List Int))→Option (List Int):=fun v32 rc=>ixv _y34 (fun y34=>ixn v32 ((v31).toNat) (fun _=>grd (v31<((v32.length:Nat):Int)) (ob1 (M_b_Holds a0.Goal y34) (fun z36=>sel z36 (ixn (v32.set ((v31).toNat) 1125899906842624) ((v31).toNat) (fun _=>rc (((v32.set ((v31).toNat) 1125899906842624).set ((v31).toNat) 0)))) (rc ((v32.set ((v31).toNat) 1125899906842624)))))))
def M_b_Distances_L1_E (_:GTask)(_:List (List Int)):((List Int))→Option (List Int):=fun v32=>some v32
theorem M_b_Distances_L1_eq (a0:GTask)(z1:List (List Int))(v32:List Int)(hl:z1.length<9223372036854775807):M_b_Distances_L1 a0 z1 (((z1.map cL_cI).length:Int).toNat+1) 0 v32=Rg (M_b_Distances_L1_B a0 z1) (M_b_Distances_L1_E a0 z1) z1 0 v32:=rg_e1 (L:=fun k i v32=>M_b_Distances_L1 a0 z1 k i v32) hl (fun _ _ _=>rfl) v32
def M_b_Distances_L2_B (a0:GTask)(_:List GEdge)(_y316:GEdge)(_:Int):((Bool)×(List Int))→(((Bool)×(List Int))→Option (Bool×(List Int)))→Option (Bool×(List Int)):=fun(v312,v314) rc=>ixv _y316 (fun y316=>ix a0.Ops y316.Op (fun y317=>ob1 (some ():Option (Unit)) (fun _=>ob1 (ixn v314 ((y316.To).toNat) (fun y324=>sel (decide (y324<1125899906842624)) (ixn v314 ((y316.To).toNat) (fun y325=>ixn v314 ((y316.From).toNat) (fun y326=>grd (0≤y316.To) (grd (y316.To<((v314.length:Nat):Int)) (grd (0≤y316.From) (grd (y316.From<((v314.length:Nat):Int)) (some (decide ((IntKind.i64.wrap (y325+y317.Cost))<y326))))))))) (grd (0≤y316.To) (grd (y316.To<((v314.length:Nat):Int)) (some false)))):Option (Bool)) (fun v322=>sel v322 (ixn v314 ((y316.To).toNat) (fun y327=>ixn v314 ((y316.From).toNat) (fun _=>grd (0≤y316.To) (grd (y316.To<((v314.length:Nat):Int)) (grd (0≤y316.From) (grd (y316.From<((v314.length:Nat):Int)) (rc (true,(v314.set ((y316.From).toNat) (IntKind.i64.wrap (y327+y317.Cost))))))))))) (rc (v312,v314))))))
def M_b_Distances_L2_E (_:GTask)(_:List GEdge):((Bool)×(List Int))→Option (Bool×(List Int)):=fun(v312,v314)=>some (v312,v314)
theorem M_b_Distances_L2_eq (a0:GTask)(z38:List GEdge)(v312:Bool)(v314:List Int)(hl:z38.length<9223372036854775807):M_b_Distances_L2 a0 z38 (((z38.map cGEdge).length:Int).toNat+1) v312 0 v314=Rg (M_b_Distances_L2_B a0 z38) (M_b_Distances_L2_E a0 z38) z38 0 (v312,v314):=rg_e1 (L:=fun k i p=>match p with|(v312,v314)=>M_b_Distances_L2 a0 z38 k v312 i v314) hl (fun _ _ ⟨_,_⟩=>rfl) (v312,v314)
end Go.Proofs.YtinnphmnhmdcgaaGreat.Am
namespace Go.Proofs.YtinnphmnhmdcgaaGreat.Am
open Go.RowKit
def rankF : List Int→List Int→Int→Int
 | k :: r,x :: t,v=>rankF r t (v*k+x)
 | _,_,v=>v
theorem flat_at (m:Nat):∀ (out:List (List Int))(i x:Nat)(s:List Int),out[i]?=some s→x<m→(out.flatMap fun s=>extF s m 0)[i*m+x]?=some (s++[(x:Int)])
 | [],i,x,s,h,_=>by simp at h
 | u :: out,i,x,s,h,hx=>by
  have hext:∀ (u:List Int) (m:Nat) (j:Int) (x:Nat),x<m→(extF u m j)[x]?=some (u++[j+(x:Int)]):=by
   intro u m
   induction m with
   | zero=>intro j x hx;omega
   | succ m ih =>
    intro j x hx
    rw[extF]
    cases x with
    | zero=>simp
    | succ x=>rw[List.getElem?_cons_succ,ih (j+1) x (by omega)];congr 3;omega
  rw[List.flatMap_cons]
  cases i with
  | zero =>
   simp only[List.getElem?_cons_zero,Option.some.injEq]at h
   subst h
   rw[Nat.zero_mul,Nat.zero_add,List.getElem?_append_left (by rw[extF_len];exact hx),hext u m 0 x hx]
   congr 3;omega
  | succ i =>
   rw[List.getElem?_cons_succ]at h
   rw[List.getElem?_append_right (by rw[extF_len,Nat.add_mul];omega),extF_len,show(i+1)*m+x-m=i*m+x from by rw[Nat.add_mul];omega]
   exact flat_at m out i x s h hx
theorem rank_at : ∀ (r:List Int)(out:List (List Int))(i:Nat)(s u:List Int),out[i]?=some s→stateF r u=true→∃ k:Nat,rankF r u i=(k:Int)∧(statesG r out)[k]?=some (s++u)
 | [],out,i,s,u,h,hu=>by
  cases u with
  | nil=>exact⟨i,rfl,by rw[statesG,List.append_nil];exact h⟩
  | cons x u=>simp[stateF]at hu
 | k :: r,out,i,s,u,h,hu=>by
  cases u with
  | nil=>simp[stateF]at hu
  | cons x u =>
   rw[stateF,bA_,decide_eq_true_iff]at hu
   obtain⟨m,rfl⟩:∃ m:Nat,k=m:=⟨k.toNat,by omega⟩
   obtain⟨y,rfl⟩:∃ y:Nat,x=y:=⟨x.toNat,by omega⟩
   have h1:=flat_at m out i y s h (by omega)
   obtain⟨q,e1,e2⟩:=rank_at r _ (i*m+y) (s++[(y:Int)]) u h1 hu.2
   refine⟨q,?_,by rw[statesG,Int.toNat_natCast,e2,List.append_assoc];rfl⟩
   rw[rankF,← e1,Int.natCast_add,Int.natCast_mul]
theorem rank_all {t:GTask}{s:List Int}(hs:stateF t.Vars s=true):∃ k:Nat,rankF t.Vars s 0=(k:Int)∧(allF t)[k]?=some s:=rank_at t.Vars [[]] 0 [] s rfl hs
theorem rank_loop (vars s:List Int)(B:Int)(hB:B≤1000000):∀ (u r:List Int)(n:Nat)(v:Int),s.drop n=u→vars.drop n=r→u.length=r.length→0≤v→stateF r u=true→(∀ k∈r,1≤k∧k≤64)→rankF r u v≤B →
  Rg (M_b_Rank_L1_B vars s) (M_b_Rank_L1_E vars s) u n v=some (rankF r u v)
 | [],r,n,v,hs,hr,hl,hv,hst,_,_=>by
  cases r with
  | nil=>rfl
  | cons k r=>simp at hl
 | x :: u,r,n,v,hs,hr,hl,hv,hst,hk,hb=>by
  cases r with
  | nil=>simp at hl
  | cons k r =>
   obtain⟨hx,hs2,-⟩:=drop_cons hs
   obtain⟨hk1,hr2,-⟩:=drop_cons hr
   rw[stateF,bA_,decide_eq_true_iff]at hst
   obtain⟨k1,k2⟩:=hk k (mS_ ..)
   rw[rankF]at hb ⊢
   have hmono:∀ (r u:List Int) (v:Int),stateF r u=true→0≤v→(∀ k∈r,1≤k∧k≤64)→v≤rankF r u v:=by
    intro r
    induction r with
    | nil=>intro u v _ _ _;cases u <;> exact Int.le_refl _
    | cons k r ih =>
     intro u v hu hv hk
     cases u with
     | nil=>simp[stateF]at hu
     | cons x u =>
      rw[stateF,bA_,decide_eq_true_iff]at hu
      have hk1:=hk k (mS_ ..)
      have hm:v*1≤v*k:=Int.mul_le_mul_of_nonneg_left hk1.1 hv
      have h2:=ih u (v*k+x) hu.2 (by omega) (fun y hy=>hk y (mC_ _ hy))
      rw[rankF];omega
   have hvk:0≤v*k:=Int.mul_nonneg hv (by omega)
   have hle:=hmono r u (v*k+x) hst.2 (by omega) (fun y hy=>hk y (mC_ _ hy))
   have w1:IntKind.i64.wrap (v*k)=v*k:=wrap_eq (by omega) (by omega)
   have w2:IntKind.i64.wrap (v*k+x)=v*k+x:=wrap_eq (by omega) (by omega)
   rw[Rg,M_b_Rank_L1_B,ix_at hk1,ixv,w1,w2]
   exact rank_loop vars s B hB u r (n+1) (v*k+x) hs2 hr2 (by simpa using hl) (by omega) hst.2 (fun y hy=>hk y (mC_ _ hy)) hb
theorem rank_eq {t:GTask}(hsm:smallF t=true){s:List Int}(hs:stateF t.Vars s=true):∃ k:Nat,M_b_Rank t.Vars s=some (k:Int)∧(allF t)[k]?=some s:=by
 obtain⟨k,e1,e2⟩:=rank_all hs
 have hlen:=(stateF_st hs).len
 have hv:=(small_good hsm).2.1
 have hk:k<(allF t).length:=(gS_.1 e2).1
 have hal:=allF_len t hsm
 refine⟨k,?_,e2⟩
 rw[M_b_Rank,M_b_Rank_L1_eq t.Vars s 0 (by omega)]
 have:=rank_loop t.Vars s 1000000 (by decide) s t.Vars 0 0 rfl rfl hlen (by decide) hs (good_dom (small_good hsm).1).dom (by rw[e1];omega)
 rw[e1]at this
 exact this
theorem st_state : ∀ {v s:List Int},s.length=v.length→(∀ i:Nat,i<v.length→0≤s.getD i 0∧s.getD i 0<v.getD i 0)→stateF v s=true
 | [],[],_,_=>rfl
 | [],_ :: _,h,_=>by simp at h
 | _ :: _,[],h,_=>by simp at h
 | k :: r,x :: s,h,hr=>by
  have h0:=hr 0 (by simp)
  simp only[List.getD_cons_zero]at h0
  rw[stateF,bA_,decide_eq_true_iff]
  refine⟨h0,st_state (by simpa using h) (fun i hi=>?_)⟩
  have:=hr (i+1) (by simpa using hi)
  simpa using this
theorem apply_rng (vars:List Int)(s:List Int):∀ (r:List GEffect)(v:List Int),v.length=vars.length→(∀ i:Nat,i<vars.length→0≤v.getD i 0∧v.getD i 0<vars.getD i 0)→(∀ e∈r,0≤e.Var∧0≤e.Val∧e.Val<vars.getD e.Var.toNat 0)→∀ i:Nat,i<vars.length→0≤(applyG s r v).getD i 0∧(applyG s r v).getD i 0<vars.getD i 0
 | [],v,_,hv,_,i,hi=>hv i hi
 | e :: r,v,hl,hv,he,i,hi=>by
  have he2:∀ e∈r,0≤e.Var∧0≤e.Val∧e.Val<vars.getD e.Var.toNat 0:=fun u hu=>he u (mC_ _ hu)
  rw[applyG]
  split
  ·obtain⟨e0,e1,e2⟩:=he e (mS_ ..)
   refine apply_rng vars s r _ (by rw[List.length_set];exact hl) (fun j hj=>?_) he2 i hi
   by_cases hej:e.Var.toNat=j
   ·subst hej
    rw[gD_,List.getElem?_set_self (by omega),Option.getD_some]
    exact⟨e1,e2⟩
   ·rw[gD_,List.getElem?_set_ne hej,← gD_]
    exact hv j hj
  ·exact apply_rng vars s r v hl hv he2 i hi
theorem next_state {t:GTask}(hgood:goodF t=true){s:List Int}(hs:stateF t.Vars s=true){o:GOp}(ho:o∈t.Ops):stateF t.Vars (nextF s o)=true:=by
 have st:=stateF_st hs
 refine st_state (by unfold nextF;rw[applyG_len];exact st.len) (fun i hi=>?_)
 exact apply_rng t.Vars s o.Effs s st.len st.rng (fun e he=>by obtain⟨h1,-,h3,h4⟩:=good_eff hgood ho he;exact⟨h1,h3,h4⟩) i hi
structure EdgP (t:GTask)(e:GEdge):Prop where
 ex:∃ (a b q:Nat) (s:List Int) (o:GOp),e.From=(a:Int)∧e.To=(b:Int)∧e.Op=(q:Int)∧(allF t)[a]?=some s∧(allF t)[b]?=some (nextF s o)∧t.Ops[q]?=some o∧holdsF s o.Pre=true
theorem edges1 {t:GTask}(hsm:smallF t=true)(i:Nat)(s:List Int)(hi:(allF t)[i]?=some s):∀ (l:List GOp)(m j:Nat)(v:List GEdge),t.Ops.drop j=l→l.length=m→v.length+m≤100000→(∀ e∈v,EdgP t e) →
  ∃ v',Rn (M_b_Edges_L1_B t i s) (M_b_Edges_L1_E t i s) m j v=some v'∧v'.length≤v.length+m∧∀ e∈v',EdgP t e
 | [],m,j,v,_,hm,_,hv=>by subst hm;exact⟨v,rfl,Nat.le_refl _,hv⟩
 | o :: os,m,j,v,hdr,hm,hlen,hv=>by
  have hgood:=(small_good hsm).1
  obtain⟨hj,hd',hlt⟩:=drop_cons hdr
  obtain⟨m,rfl⟩:∃ k,m=k+1:=⟨os.length,hm.symm⟩
  have hst:=(allF_mem t s).1 (mG_ hi)
  have hm':os.length=m:=by simpa using hm
  rw[Rn,M_b_Edges_L1_B,apply_eq t hgood s (stateF_st hst) j o hj]
  by_cases hp:holdsF s o.Pre=true
  ·obtain⟨k,e1,e2⟩:=rank_eq hsm (next_state hgood hst (mG_ hj))
   rw[if_pos hp,ob2_some,sel_tt,e1,ob1_some,grd_t (by omega)]
   obtain⟨v',h1,h2,h3⟩:=edges1 hsm i s hi os m (j+1) (v++[{ From:=(i:Int),Op:=(j:Int),To:=(k:Int) }]) hd' hm' (by simp;omega) (fun e he=>by
    rcases List.mem_append.1 he with he|he
    ·exact hv e he
    ·rw[mI_.1 he];exact⟨⟨i,k,j,s,o,rfl,rfl,rfl,hi,e2,hj,hp⟩⟩)
   exact⟨v',h1,by simp at h2;omega,h3⟩
  ·rw[if_neg hp,ob2_some,sel_ff]
   obtain⟨v',h1,h2,h3⟩:=edges1 hsm i s hi os m (j+1) v hd' hm' (by omega) hv
   exact⟨v',h1,by omega,h3⟩
theorem edges2 {t:GTask}(hsm:smallF t=true):∀ (r:List (List Int))(i:Nat)(v:List GEdge),(allF t).drop i=r→v.length+r.length*20≤100000→(∀ e∈v,EdgP t e) →
  ∃ v',Rg (M_b_Edges_L2_B t (allF t)) (M_b_Edges_L2_E t (allF t)) r i v=some v'∧v'.length≤100000∧∀ e∈v',EdgP t e
 | [],i,v,_,hl,hv=>⟨v,by rw[Rg,M_b_Edges_L2_E,grd_t (by simp at hl;omega)],by simpa using hl,hv⟩
 | s :: r,i,v,hdr,hl,hv=>by
  obtain⟨hi,hd',hlt⟩:=drop_cons hdr
  have hops:=(small_good hsm).2.2
  rw[lC_]at hl
  rw[Rg,M_b_Edges_L2_B,ixv,M_b_Edges_L1_eq t i s v (m:=t.Ops.length) (by rw[lM_]) (by omega)]
  obtain⟨v1,h1,h2,h3⟩:=edges1 hsm i s hi t.Ops t.Ops.length 0 v rfl rfl (by omega) hv
  have h1':Rn (M_b_Edges_L1_B t i s) (M_b_Edges_L1_E t i s) t.Ops.length 0 v=some v1:=h1
  rw[h1',ob1_some]
  exact edges2 hsm r (i+1) v1 hd' (by omega) h3
theorem edges_eq {t:GTask}(hsm:smallF t=true):∃ es,M_b_Edges t=some es∧es.length≤100000∧∀ e∈es,EdgP t e:=by
 have hal:=allF_len t hsm
 obtain⟨es,h1,h2,h3⟩:=edges2 hsm (allF t) 0 [] rfl (by simp;omega) (fun e he=>by cases he)
 refine⟨es,?_,h2,h3⟩
 rw[M_b_Edges,states_eq t hsm,ob1_some,M_b_Edges_L2_eq t (allF t) [] (by omega)]
 exact h1
abbrev infD : Int:=1125899906842624
theorem take_set (x:Int):∀ (l:List Int)(n:Nat),n<l.length→(l.set n x).take (n+1)=l.take n++[x]
 | [],n,h=>by simp at h
 | y :: l,0,_=>by simp
 | y :: l,n+1,h=>by
  rw[List.set_cons_succ,List.take_succ_cons,take_set x l n (by simpa using h),List.take_succ_cons,List.cons_append]
theorem sum_set (x:Int):∀ (l:List Int)(n:Nat)(y:Int),l[n]?=some y→(l.set n x).sum=l.sum-y+x
 | [],n,y,h=>by simp at h
 | z :: l,0,y,h=>by
  simp only[List.getElem?_cons_zero,Option.some.injEq]at h
  subst h
  rw[List.set_cons_zero,List.sum_cons,List.sum_cons];omega
 | z :: l,n+1,y,h=>by
  rw[List.getElem?_cons_succ]at h
  rw[List.set_cons_succ,List.sum_cons,List.sum_cons,sum_set x l n y h];omega
theorem sum_pos : ∀ (l:List Int),(∀ x∈l,0≤x)→0≤l.sum
 | [],_=>by simp
 | x :: l,h=>by
  have h0:=h x (mS_ ..)
  have:=sum_pos l (fun y hy=>h y (mC_ _ hy))
  rw[List.sum_cons];omega
theorem sum_le (B:Int):∀ (l:List Int),(∀ x∈l,x≤B)→l.sum≤B*l.length
 | [],_=>by simp
 | x :: l,h=>by
  have h0:=h x (mS_ ..)
  have:=sum_le B l (fun y hy=>h y (mC_ _ hy))
  rw[List.sum_cons,lC_,Int.natCast_add,Int.mul_add];omega
structure DInv (t:GTask)(Q:List Int→Int→Prop)(d:List Int):Prop where
 len:d.length=(allF t).length
 ok:∀ (i:Nat) (s:List Int) (x:Int),(allF t)[i]?=some s→d[i]?=some x→0≤x∧x≤infD∧(x≠infD→Q s x)
theorem DInv.all {t:GTask}{Q:List Int→Int→Prop}{d:List Int}(h:DInv t Q d):∀ x∈d,0≤x∧x≤infD:=fun x hx=>by
 obtain⟨i,hi⟩:=List.getElem?_of_mem hx
 have hlt:=(gS_.1 hi).1
 have hs:(allF t)[i]?=some ((allF t)[i]'(by rw[← h.len];exact hlt)):=gE_ _
 obtain⟨h1,h2,-⟩:=h.ok i _ x hs hi
 exact⟨h1,h2⟩
structure DQ (t:GTask)(Q:List Int→Int→Prop):Prop where
 goal:∀ s∈allF t,holdsF s t.Goal=true→Q s 0
 step:∀ s∈allF t,∀ o∈t.Ops,holdsF s o.Pre=true→∀ x:Int,0≤x→Q (nextF s o) x→Q s (x+o.Cost)
theorem dis1 {t:GTask}(hgood:goodF t=true):∀ (r:List (List Int))(n:Nat)(v:List Int),(allF t).drop n=r→v.length=(allF t).length →
  Rg (M_b_Distances_L1_B t (allF t)) (M_b_Distances_L1_E t (allF t)) r n v=some (v.take n++r.map fun s=>if holdsF s t.Goal=true then 0 else infD)
 | [],n,v,hd,hl=>by
  have hn:=congrArg List.length hd
  simp only[List.length_drop,lN_]at hn
  rw[Rg,M_b_Distances_L1_E,List.map_nil,List.append_nil,tL_ (by omega)]
 | s :: r,n,v,hd,hl=>by
  obtain⟨hs,hd',hlt⟩:=drop_cons hd
  have hv:v[n]?=some (v[n]'(by omega)):=gE_ _
  have hv2:(v.set n 1125899906842624)[n]?=some 1125899906842624:=List.getElem?_set_self (by omega)
  rw[Rg,M_b_Distances_L1_B,ixv,Int.toNat_natCast,ixn_at hv,grd_t (by omega),holds_eq t.Goal s (prop_sh (good_dom hgood).len (good_goal hgood)),ob1_some,List.map_cons]
  have hcast:((n:Int)+1)=((n+1:Nat):Int):=rfl
  by_cases hh:holdsF s t.Goal=true
  ·rw[hh,sel_tt,ixn_at hv2,List.set_set,hcast,dis1 hgood r (n+1) _ hd' (by rw[List.length_set];exact hl),take_set 0 v n (by omega),if_pos rfl,List.append_assoc];rfl
  ·rw[Bool.eq_false_iff.2 hh,sel_ff,hcast,dis1 hgood r (n+1) _ hd' (by rw[List.length_set];exact hl),take_set _ v n (by omega),if_neg (by decide),List.append_assoc];rfl
theorem dis2 {t:GTask}(hgood:goodF t=true){Q:List Int→Int→Prop}(hQ:DQ t Q)(es:List GEdge):∀ (r:List GEdge)(i:Int)(b:Bool)(d:List Int),(∀ e∈r,EdgP t e)→DInv t Q d →
  ∃ b' d',Rg (M_b_Distances_L2_B t es) (M_b_Distances_L2_E t es) r i (b,d)=some (b',d')∧DInv t Q d'∧((b'=b∧d'=d)∨(b'=true∧d'.sum<d.sum))
 | [],i,b,d,_,hd=>⟨b,d,rfl,hd,.inl ⟨rfl,rfl⟩⟩
 | e :: r,i,b,d,he,hd=>by
  have her:∀ e∈r,EdgP t e:=fun u hu=>he u (mC_ _ hu)
  obtain⟨a,bb,q,s,o,e1,e2,e3,h1,h2,h3,h4⟩:=(he e (mS_ ..)).ex
  obtain⟨F,O,T⟩:=e
  simp only at e1 e2 e3
  subst e1 e2 e3
  have ho:=mG_ h3
  have hcost:=good_cost hgood ho
  have hla:a<d.length:=by rw[hd.len];exact(gS_.1 h1).1
  have hlb:bb<d.length:=by rw[hd.len];exact(gS_.1 h2).1
  obtain⟨x,hx⟩:∃ x,d[bb]?=some x:=⟨_,gE_ hlb⟩
  obtain⟨y,hy⟩:∃ y,d[a]?=some y:=⟨_,gE_ hla⟩
  obtain⟨x0,x1,xq⟩:=hd.ok bb _ x h2 hx
  obtain⟨y0,y1,yq⟩:=hd.ok a s y h1 hy
  unfold infD at x1 y1 xq
  have hw:IntKind.i64.wrap (x+o.Cost)=x+o.Cost:=wrap_eq (by omega) (by omega)
  rw[Rg,M_b_Distances_L2_B]
  simp only[ixv,ix_at h3,ob1_some,Int.toNat_natCast,ixn_at hx,ixn_at hy,sel_dec]
  by_cases hlt:x<1125899906842624
  ·rw[if_pos hlt,grd_t (by omega),grd_t (by omega),grd_t (by omega),grd_t (by omega),ob1_some,hw]
   by_cases hr:x+o.Cost<y
   ·rw[decide_eq_true hr,sel_tt,grd_t (by omega),grd_t (by omega),grd_t (by omega),grd_t (by omega)]
    have hd1:DInv t Q (d.set a (x+o.Cost)):=by
     refine⟨by rw[List.length_set];exact hd.len,fun i s' z hs' hz=>?_⟩
     by_cases hai:a=i
     ·subst hai
      rw[List.getElem?_set_self hla]at hz
      injection hz with hz
      rw[h1]at hs'
      injection hs' with hs'
      subst hz hs'
      exact⟨by omega,by unfold infD;omega,fun _=>hQ.step s (mG_ h1) o ho h4 x x0 (xq (by omega))⟩
     ·rw[List.getElem?_set_ne hai]at hz
      exact hd.ok i s' z hs' hz
    obtain⟨b',d',g1,g2,g3⟩:=dis2 hgood hQ es r (i+1) true _ her hd1
    have hsum:=sum_set (x+o.Cost) d a y hy
    refine⟨b',d',g1,g2,.inr ?_⟩
    rcases g3 with⟨g3,g4⟩|⟨g3,g4⟩
    ·exact⟨g3,by rw[g4,hsum];omega⟩
    ·exact⟨g3,by rw[hsum]at g4;omega⟩
   ·rw[decide_eq_false hr,sel_ff]
    exact dis2 hgood hQ es r (i+1) b d her hd
  ·rw[if_neg hlt,grd_t (by omega),grd_t (by omega),ob1_some,sel_ff]
   exact dis2 hgood hQ es r (i+1) b d her hd
theorem dis3 {t:GTask}(hgood:goodF t=true){Q:List Int→Int→Prop}(hQ:DQ t Q)(es:List GEdge)(hes:∀ e∈es,EdgP t e)(hlen:es.length≤100000)(hal:(allF t).length≤512):∀ (S k:Nat)(d:List Int),DInv t Q d→d.sum≤S→S+2≤k→∃ d',M_b_Distances_L3 t es k true d=some d'∧DInv t Q d':=by
 intro S
 induction S with
 | zero =>
  intro k d hd hs hk
  obtain⟨k,rfl⟩:∃ j,k=j+2:=⟨k-2,by omega⟩
  obtain⟨b',d',g1,g2,g3⟩:=dis2 hgood hQ es es 0 false d hes hd
  have hpos:=sum_pos d' (fun x hx=>(g2.all x hx).1)
  rcases g3 with⟨rfl,rfl⟩|⟨-,g4⟩
  ·refine⟨d',?_,g2⟩
   have hl:=g2.len
   rw[M_b_Distances_L3,sel_tt,M_b_Distances_L2_eq t es false d' (by omega),g1,ob1_some]
   simp only
   rw[M_b_Distances_L3,sel_ff,grd_t (by omega)]
  ·omega
 | succ S ih =>
  intro k d hd hs hk
  obtain⟨k,rfl⟩:∃ j,k=j+2:=⟨k-2,by omega⟩
  obtain⟨b',d',g1,g2,g3⟩:=dis2 hgood hQ es es 0 false d hes hd
  rw[M_b_Distances_L3,sel_tt,M_b_Distances_L2_eq t es false d (by omega),g1,ob1_some]
  simp only
  rcases g3 with⟨rfl,rfl⟩|⟨rfl,g4⟩
  ·have hl:=g2.len
   exact⟨d',by rw[M_b_Distances_L3,sel_ff,grd_t (by omega)],g2⟩
  ·exact ih (k+1) d' g2 (by omega) (by omega)
theorem dis_eq {t:GTask}(hsm:smallF t=true){Q:List Int→Int→Prop}(hQ:DQ t Q)(g:Nat)(hg:1000000000000000000≤g)(u:List Int):∃ d,M_b_Distances g t u=some d∧DInv t Q d:=by
 have hgood:=(small_good hsm).1
 have hal:=allF_len t hsm
 obtain⟨es,h1,h2,h3⟩:=edges_eq hsm
 have hd0:DInv t Q ((allF t).map fun s=>if holdsF s t.Goal=true then 0 else infD):=by
  refine⟨lM_ _,fun i s x hs hx=>?_⟩
  rw[List.getElem?_map,hs]at hx
  simp only[Option.map_some,Option.some.injEq]at hx
  subst hx
  by_cases hh:holdsF s t.Goal=true
  ·rw[if_pos hh];exact⟨by decide,by decide,fun _=>hQ.goal s (mG_ hs) hh⟩
  ·rw[if_neg hh];exact⟨by decide,by decide,fun h=>absurd rfl h⟩
 have hsum:=sum_le infD _ (fun x hx=>(hd0.all x hx).2)
 rw[hd0.len]at hsum
 have hle:infD*((allF t).length:Int)≤infD*512:=Int.mul_le_mul_of_nonneg_left (by omega) (by decide)
 have hs2:((allF t).map fun s=>if holdsF s t.Goal=true then 0 else infD).sum≤(576460752303423488:Nat):=Int.le_trans hsum (Int.le_trans hle (by decide))
 obtain⟨d,e1,e2⟩:=dis3 hgood hQ es h3 h2 hal 576460752303423488 g _ hd0 hs2 (by omega)
 refine⟨d,?_,e2⟩
 have hrep:(List.replicate ((((allF t).map cL_cI).length:Int)).toNat (0:Int)).length=(allF t).length:=by rw[lR_,lM_,Int.toNat_natCast]
 have hd1:=dis1 hgood (allF t) 0 (List.replicate ((((allF t).map cL_cI).length:Int)).toNat 0) rfl hrep
 have hd1':Rg (M_b_Distances_L1_B t (allF t)) (M_b_Distances_L1_E t (allF t)) (allF t) 0 (List.replicate ((((allF t).map cL_cI).length:Int)).toNat 0)=_:=hd1
 have hlm:((allF t).map cL_cI).length=(allF t).length:=lM_ _
 rw[M_b_Distances,states_eq t hsm,ob1_some,grd_t (by omega),grd_t (by omega),M_b_Distances_L1_eq t (allF t) _ (by omega),hd1',List.take_zero,List.nil_append,ob1_some,h1,ob1_some]
 exact e1
theorem ext_at (u:List Int):∀ (m:Nat)(j:Int)(x:Nat)(z:List Int),(extF u m j)[x]?=some z→x<m∧z=u++[j+(x:Int)]
 | 0,j,x,z,h=>by simp[extF]at h
 | m+1,j,0,z,h=>by
  simp only[extF,List.getElem?_cons_zero,Option.some.injEq]at h
  exact⟨by omega,by rw[← h];simp⟩
 | m+1,j,x+1,z,h=>by
  rw[extF,List.getElem?_cons_succ]at h
  obtain⟨h1,h2⟩:=ext_at u m (j+1) x z h
  refine⟨by omega,?_⟩
  rw[h2,show j+1+(x:Int)=j+((x+1:Nat):Int)from by omega]
theorem flat_inv (m:Nat):∀ (out:List (List Int))(j:Nat)(z:List Int),(out.flatMap fun s=>extF s m 0)[j]?=some z→∃ (i x:Nat)(s:List Int),j=i*m+x∧x<m∧out[i]?=some s∧z=s++[(x:Int)]
 | [],j,z,h=>by simp at h
 | u :: out,j,z,h=>by
  rw[List.flatMap_cons]at h
  by_cases hj:j<(extF u m 0).length
  ·rw[List.getElem?_append_left hj]at h
   obtain⟨h1,h2⟩:=ext_at u m 0 j z h
   exact⟨0,j,u,by omega,h1,rfl,by rw[h2];congr 2;omega⟩
  ·rw[List.getElem?_append_right (by omega),extF_len]at h
   rw[extF_len]at hj
   obtain⟨i,x,s,e1,e2,e3,e4⟩:=flat_inv m out (j-m) z h
   exact⟨i+1,x,s,by rw[Nat.add_mul];omega,e2,by rw[List.getElem?_cons_succ];exact e3,e4⟩
theorem rank_inv : ∀ (r:List Int)(out:List (List Int))(k:Nat)(z:List Int),(∀ y∈r,1≤y)→(statesG r out)[k]?=some z→∃ (i:Nat)(s u:List Int),out[i]?=some s∧z=s++u∧stateF r u=true∧rankF r u i=(k:Int)
 | [],out,k,z,_,h=>⟨k,z,[],h,(List.append_nil z).symm,rfl,rfl⟩
 | y :: r,out,k,z,hy,h=>by
  rw[statesG]at h
  obtain⟨j,s,u,h1,h2,h3,h4⟩:=rank_inv r _ k z (fun x hx=>hy x (mC_ _ hx)) h
  obtain⟨i,x,s0,e1,e2,e3,e4⟩:=flat_inv y.toNat out j s h1
  have hy0:=hy y (mS_ ..)
  refine⟨i,s0,(x:Int) :: u,e3,by rw[h2,e4,List.append_assoc];rfl,?_,?_⟩
  ·rw[stateF,bA_,decide_eq_true_iff]
   exact⟨by omega,h3⟩
  ·rw[rankF,← h4,e1,Int.natCast_add,Int.natCast_mul,show((y.toNat:Nat):Int)=y from by omega]
theorem place_one {t:GTask}(hgood:goodF t=true){i j:Nat}{s:List Int}(hi:(allF t)[i]?=some s)(hj:(allF t)[j]?=some s):i=j:=by
 have key:∀ k:Nat,(allF t)[k]?=some s→rankF t.Vars s 0=(k:Int):=fun k hk=>by
  obtain⟨i0,s0,u,h1,h2,-,h4⟩:=rank_inv t.Vars [[]] k s (fun y hy=>((good_dom hgood).dom y hy).1) hk
  cases i0 with
  | zero =>
   simp only[List.getElem?_cons_zero,Option.some.injEq]at h1
   subst h1
   rw[List.nil_append]at h2
   subst h2
   exact h4
  | succ i0=>simp at h1
 have h1:=key i hi
 have h2:=key j hj
 omega
def finN (d:List Int):Nat:=(d.filter fun x=>decide (x≠infD)).length
structure DG (t:GTask)(d:List Int):Prop where
 len:d.length=(allF t).length
 ok:∀ (i:Nat) (s:List Int) (x:Int),(allF t)[i]?=some s→d[i]?=some x→0≤x∧x≤infD∧(holdsF s t.Goal=true→x=0)
 bnd:∀ x∈d,x≠infD→x≤1048576*(finN d:Int)
theorem DG.all {t:GTask}{d:List Int}(h:DG t d):∀ x∈d,0≤x∧x≤infD:=fun x hx=>by
 obtain⟨i,hi⟩:=List.getElem?_of_mem hx
 have hlt:=(gS_.1 hi).1
 have hs:(allF t)[i]?=some ((allF t)[i]'(by rw[← h.len];exact hlt)):=gE_ _
 obtain⟨h1,h2,-⟩:=h.ok i _ x hs hi
 exact⟨h1,h2⟩
structure DFix (t:GTask)(d:List Int):Prop where
 g:DG t d
 step:∀ (i k:Nat) (s:List Int) (o:GOp) (x y:Int),(allF t)[i]?=some s→o∈t.Ops→holdsF s o.Pre=true→(allF t)[k]?=some (nextF s o)→d[k]?=some x→d[i]?=some y→x<infD→y≤x+o.Cost
theorem cloneF_eq {l:List Fact}(h:l.length≤1000):M_cloneF l=some l:=grd_t (by omega)
theorem cloneI_eq {l:List Int}(h:l.length≤1000):M_cloneI l=some l:=grd_t (by omega)
theorem cop1 (o:GOp):∀ (r:List GEffect)(i:Int)(v:List GEffect),(∀ e∈r,e.When.length≤64)→v.length+r.length≤100000→Rg (M_mutex_copied_L1_B o) (M_mutex_copied_L1_E o) r i v=some (v++r)
 | [],_,v,_,_=>by simp[Rg,M_mutex_copied_L1_E]
 | e :: r,i,v,h,hl=>by
  rw[lC_]at hl
  have he:=h e (mS_ ..)
  rw[Rg,M_mutex_copied_L1_B,ixv,cloneF_eq (by omega),ob1_some,grd_t (by omega),grd_t (by omega),cop1 o r (i+1) _ (fun u hu=>h u (mC_ _ hu)) (by rw[lA_,List.length_singleton];omega),List.append_assoc]
  rfl
theorem cop2 (t:GTask)(z1 z2:List Int)(z3:List Fact)(h3:z3.length≤1000):∀ (r:List GOp)(i:Int)(v:List GOp),(∀ o∈r,o.Pre.length≤64∧o.Effs.length≤64∧∀ e∈o.Effs,e.When.length≤64)→v.length+r.length≤100000→Rg (M_mutex_copied_L2_B t z1 z2 z3) (M_mutex_copied_L2_E t z1 z2 z3) r i v=some { Vars:=z1,Init:=z2,Goal:=z3,Ops:=v++r }
 | [],_,v,_,hl=>by
  rw[lN_]at hl
  rw[Rg,M_mutex_copied_L2_E,grd_t (by omega),grd_t (by omega),List.append_nil]
 | o :: r,i,v,h,hl=>by
  rw[lC_]at hl
  obtain⟨h1,h2,h4⟩:=h o (mS_ ..)
  rw[Rg,M_mutex_copied_L2_B,ixv,cloneF_eq (by omega),ob1_some,M_mutex_copied_L1_eq o [] (by omega),cop1 o o.Effs 0 [] h4 (by rw[lN_];omega),ob1_some,List.nil_append,grd_t (by omega),grd_t (by omega),grd_t (by omega),ob1_some,cop2 t z1 z2 z3 h3 r (i+1) _ (fun u hu=>h u (mC_ _ hu)) (by rw[lA_,List.length_singleton];omega),List.append_assoc]
  rfl
theorem copied_eq {t:GTask}(hg:goodF t=true):M_mutex_copied t=some t:=by
 have ok:=good_ok hg
 have hg2:=hg
 unfold goodF at hg2
 simp only[bA_,decide_eq_true_iff]at hg2
 obtain⟨⟨g1,g2⟩,-,g3,g4,-⟩:=hg2
 have hi:t.Init.length=t.Vars.length:=Decidable.byContradiction fun h=>by rw[stateF_len (fun e=>h e.symm)]at g3;cases g3
 have hgl:=propF_len' g4
 rw[M_mutex_copied,cloneI_eq (by omega),ob1_some,cloneI_eq (by omega),ob1_some,cloneF_eq (by omega),ob1_some,M_mutex_copied_L2_eq _ _ _ _ _ (by omega),cop2 t _ _ _ (by omega) t.Ops 0 [] (fun o ho=>by
  have oo:=good_op hg ho
  have:=propF_len' oo.pre
  refine⟨by omega,oo.effs,fun e he=>?_⟩
  have:=propF_len' (oo.when e he)
  omega) (by rw[lN_];omega),List.nil_append]
theorem new1 (t:GTask):∀ (r:List Int)(i v22:Int)(v24:List Int),(∀ k∈r,1≤k∧k≤64)→0≤v22→v22+64*r.length≤100000→v24.length+r.length≤1000→Rg (M_mutex_New_L1_B t) (M_mutex_New_L1_E t) r i (v22,v24)=some (v22+sumI r,v24++offG v22 r)
 | [],i,v22,v24,_,_,_,_=>by simp[Rg,M_mutex_New_L1_E,sumI,offG]
 | k :: r,i,v22,v24,h,h0,h1,h2=>by
  rw[lC_]at h1 h2
  have hk:=h k (mS_ ..)
  rw[Rg,M_mutex_New_L1_B,ixv,grd_t (by omega),wrap_eq (by omega) (by omega),new1 t r (i+1) (v22+k) _ (fun u hu=>h u (mC_ _ hu)) (by omega) (by omega) (by rw[lA_,List.length_singleton];omega),sumI,offG,List.append_assoc,Int.add_assoc]
  rfl
theorem new2 (m:Nat)(hm:m≤512):∀ (k:Nat)(i:Int)(v:List (List Bool)),v.length+k≤1000→Rn (M_mutex_New_L2_B (m:Int)) (M_mutex_New_L2_E (m:Int)) k i v=some (v++List.replicate k (List.replicate m false))
 | 0,i,v,_=>by simp[Rn,M_mutex_New_L2_E]
 | k+1,i,v,h=>by
  rw[Rn,M_mutex_New_L2_B,grd_t (by omega),grd_t (by omega),grd_t (by omega),grd_t (by omega),new2 m hm k (i+1) _ (by rw[lA_,List.length_singleton];omega),Int.toNat_natCast,List.append_assoc,List.replicate_succ]
  rfl
def zeroR (t:GTask):List (List Bool):=List.replicate (sumI t.Vars).toNat (List.replicate (sumI t.Vars).toNat false)
theorem zero_rk {t:GTask}(hz:Sz t):RkR t (zeroR t):=by
 have:=sumI_nn hz.pos
 refine⟨by rw[zeroR,lR_];omega,fun r hr=>?_⟩
 rw[List.eq_of_mem_replicate hr,zeroR,lR_,lR_]
theorem zero_is (t:GTask)(a b:Fact):isF t (zeroR t) a b=false:=by
 unfold isF atR zeroR
 rw[gD_,gD_,List.getElem?_replicate]
 split
 ·rw[Option.getD_some,List.getElem?_replicate]
  split <;> rfl
 ·simp
theorem zero_sy (t:GTask):SyR t (zeroR t):=fun a b _ _=>by rw[zero_is,zero_is]
def stG : List Int→Int→List Fact
 | [],_=>[]
 | x :: r,i=>(i,x) :: stG r (i+1)
theorem stG_mem {f:Fact}:∀ (r:List Int)(i:Int),f∈stG r i↔i≤f.1∧f.1<i+r.length∧r.getD (f.1-i).toNat 0=f.2
 | [],i=>by simp[stG] <;> (intros;omega)
 | x :: r,i=>by
  rw[stG,List.mem_cons,stG_mem r (i+1),lC_]
  by_cases he:f.1=i
  ·rw[show(f.1-i).toNat=0 from by omega,List.getD_cons_zero]
   constructor
   ·rintro(h|h)
    ·rw[h];exact⟨by simp,by simp;omega,rfl⟩
    ·omega
   ·rintro⟨_,_,h⟩
    exact .inl (Prod.ext he h.symm)
  ·constructor
   ·rintro(h|⟨h1,h2,h3⟩)
    ·exact absurd (congrArg Prod.fst h) he
    ·rw[show(f.1-i).toNat=(f.1-(i+1)).toNat+1 from by omega,List.getD_cons_succ]
     exact⟨by omega,by omega,h3⟩
   ·rintro⟨h1,h2,h3⟩
    rw[show(f.1-i).toNat=(f.1-(i+1)).toNat+1 from by omega,List.getD_cons_succ]at h3
    exact .inr ⟨by omega,by omega,h3⟩
theorem stG_hold {s:List Int}{f:Fact}:f∈stG s 0↔hold1 s f=true:=by
 rw[stG_mem,hold1_iff,Int.sub_zero,Int.zero_add]
theorem hold_in {vars s:List Int}(hs:StP vars s){f:Fact}(h:hold1 s f=true):InV vars f:=by
 obtain⟨h1,h2,h3⟩:=hold1_iff.1 h
 have hl:=hs.len
 obtain⟨r1,r2⟩:=hs.rng f.1.toNat (by omega)
 exact⟨h1,by omega,by omega,by omega⟩
theorem drop_hold {s r:List Int}{n:Nat}(hd:s.drop n=r):∀ f∈stG r n,f∈stG s 0:=fun f hf=>by
 rw[stG_mem]at hf ⊢
 obtain⟨h1,h2,h3⟩:=hf
 have hl:r.length=s.length-n:=by rw[← hd,List.length_drop]
 refine⟨by omega,by omega,?_⟩
 rw[← h3,← hd,gD_,gD_,List.getElem?_drop]
 congr 2
 omega
section
variable {t : GTask} (hz : Sz t) (hst : StP t.Vars t.Init)
include hz hst
theorem new3 (v32:List (List Bool)){a:Fact}(ha:InV t.Vars a):∀ (r:List Int)(n:Nat)(R:List (List Bool)),t.Init.drop n=r→RkR t R→SyR t R→∃ R',Rg (M_mutex_New_L3_B t (offG 0 t.Vars) v32 a.1 a.2 t) (M_mutex_New_L3_E t (offG 0 t.Vars) v32 a.1 a.2 t) r n R=some R'∧RkR t R'∧SyR t R'∧∀ c d,InV t.Vars c→InV t.Vars d→(isF t R' c d=true↔isF t R c d=true∨(c=a∧d∈stG r n)∨(d=a∧c∈stG r n))
 | [],n,R,_,hR,hS=>⟨R,rfl,hR,hS,fun c d _ _=>by simp[stG]⟩
 | x :: r,n,R,hd,hR,hS=>by
  obtain⟨h1,h2,h3⟩:=drop_cons hd
  have hb:InV t.Vars ((n:Int),x):=hold_in hst (stG_hold.1 (drop_hold hd _ (mS_ ..)))
  obtain⟨R',e,k1,k2,k3⟩:=new3 v32 ha r (n+1) (putF t R a ((n:Int),x)) h2 (hR.put _ _) (put_sym hR hz.pos hS ha hb)
  refine⟨R',?_,k1,k2,fun c d hc hd'=>?_⟩
  ·have hset:M_set (tbl t R) a ((n:Int),x)=some (putF t R a ((n:Int),x)):=set_eq (tb_of hz hR) ha hb
   rw[Rg,M_mutex_New_L3_B,ixv]
   show ob1 (M_set (tbl t R) a ((n:Int),x)) _=_
   rw[hset,ob1_some]
   exact e
  ·rw[k3 c d hc hd',put_is hR hz.pos ha hb hc hd',stG,List.mem_cons,List.mem_cons]
   constructor
   ·rintro((h|⟨h,h'⟩|⟨h,h'⟩)|⟨h,h'⟩|⟨h,h'⟩)
    ·exact .inl h
    ·exact .inr (.inl ⟨h,.inl h'⟩)
    ·exact .inr (.inr ⟨h',.inl h⟩)
    ·exact .inr (.inl ⟨h,.inr h'⟩)
    ·exact .inr (.inr ⟨h,.inr h'⟩)
   ·rintro(h|⟨h,h'|h'⟩|⟨h,h'|h'⟩)
    ·exact .inl (.inl h)
    ·exact .inl (.inr (.inl ⟨h,h'⟩))
    ·exact .inr (.inl ⟨h,h'⟩)
    ·exact .inl (.inr (.inr ⟨h',h⟩))
    ·exact .inr (.inr ⟨h,h'⟩)
theorem new4 (v32:List (List Bool)):∀ (r:List Int)(n:Nat)(R:List (List Bool)),t.Init.drop n=r→RkR t R→SyR t R→∃ R',Rg (M_mutex_New_L4_B t (offG 0 t.Vars) v32 t) (M_mutex_New_L4_E t (offG 0 t.Vars) v32 t) r n R=some R'∧RkR t R'∧SyR t R'∧∀ c d,InV t.Vars c→InV t.Vars d→(isF t R' c d=true↔isF t R c d=true∨(c∈stG r n∧d∈stG t.Init 0)∨(d∈stG r n∧c∈stG t.Init 0))
 | [],n,R,_,hR,hS=>⟨R,rfl,hR,hS,fun c d _ _=>by simp[stG]⟩
 | x :: r,n,R,hd,hR,hS=>by
  obtain⟨h1,h2,h3⟩:=drop_cons hd
  have hl:=hst.len
  have hv:=hz.vlen
  have hb:InV t.Vars ((n:Int),x):=hold_in hst (stG_hold.1 (drop_hold hd _ (mS_ ..)))
  obtain⟨R1,e1,p1,p2,p3⟩:=new3 hz hst v32 hb t.Init 0 R rfl hR hS
  obtain⟨R',e,k1,k2,k3⟩:=new4 v32 r (n+1) R1 h2 p1 p2
  refine⟨R',?_,k1,k2,fun c d hc hd'=>?_⟩
  ·rw[Rg,M_mutex_New_L4_B,ixv,M_mutex_New_L3_eq t (offG 0 t.Vars) v32 n x t R (by omega)]
   rw[show((0:Nat):Int)=0 from rfl]at e1
   rw[e1,ob1_some]
   exact e
  ·rw[k3 c d hc hd',p3 c d hc hd',stG,List.mem_cons,List.mem_cons]
   rw[show((0:Nat):Int)=0 from rfl]
   constructor
   ·rintro((h|⟨h,h'⟩|⟨h,h'⟩)|⟨h,h'⟩|⟨h,h'⟩)
    ·exact .inl h
    ·exact .inr (.inl ⟨.inl h,h'⟩)
    ·exact .inr (.inr ⟨.inl h,h'⟩)
    ·exact .inr (.inl ⟨.inr h,h'⟩)
    ·exact .inr (.inr ⟨.inr h,h'⟩)
   ·rintro(h|⟨h|h,h'⟩|⟨h|h,h'⟩)
    ·exact .inl (.inl h)
    ·exact .inl (.inr (.inl ⟨h,h'⟩))
    ·exact .inr (.inl ⟨h,h'⟩)
    ·exact .inl (.inr (.inr ⟨h,h'⟩))
    ·exact .inr (.inr ⟨h,h'⟩)
end
theorem rowG_le (v:Int):∀ (m:Nat)(x:Int),∀ f∈rowG v m x,f.1=v:=fun m x f hf=>((rowG_mem v f m x).1 hf).1
theorem rowG_asc (v:Int):∀ (m:Nat)(x:Int),(rowG v m x).Pairwise fun a b=>a.1≤b.1∧a≠b
 | 0,_=>List.Pairwise.nil
 | m+1,x=>by
  rw[rowG,List.pairwise_cons]
  refine⟨fun f hf=>?_,rowG_asc v m (x+1)⟩
  have:=(rowG_mem v f m (x+1)).1 hf
  refine⟨Int.le_of_eq this.1.symm,fun e=>?_⟩
  have:=congrArg Prod.snd e
  dsimp only at this
  omega
theorem factsG_asc : ∀ (r:List Int)(v:Int),(factsG v r).Pairwise fun a b=>a.1≤b.1∧a≠b
 | [],_=>List.Pairwise.nil
 | k :: r,v=>by
  rw[factsG,List.pairwise_append]
  refine⟨rowG_asc v _ _,factsG_asc r (v+1),fun a ha b hb=>?_⟩
  have h1:=rowG_le v _ _ a ha
  have h2:=((factsG_mem b r (v+1)).1 hb).1
  refine⟨by omega,fun e=>?_⟩
  rw[e]at h1
  omega
theorem pairG_mem {t:GTask}{R:List (List Bool)}{p:List Fact}:∀ {l:List Fact},(l.Pairwise fun a b=>a.1≤b.1∧a≠b)→(p∈pairG t R l↔∃ a b,a∈l∧b∈l∧a.1<b.1∧p=[a,b]∧isF t R a a=true∧isF t R b b=true∧isF t R a b=false)
 | [],_=>by simp[pairG]
 | x :: r,h=>by
  obtain⟨h1,h2⟩:=List.pairwise_cons.1 h
  rw[pairG,List.mem_append,pairG_mem h2,List.mem_map]
  constructor
  ·rintro(⟨b,hb,rfl⟩|⟨a,b,ha,hb,e⟩)
   ·obtain⟨hb1,hb2⟩:=List.mem_filter.1 hb
    unfold opP at hb2
    simp only[bA_,bne_iff_ne,ne_eq,Bool.not_eq_true']at hb2
    have:=(h1 b hb1).1
    exact⟨x,b,mS_ ..,mC_ _ hb1,by omega,rfl,hb2.2.1,hb2.2.2.1,hb2.2.2.2⟩
   ·exact⟨a,b,mC_ _ ha,mC_ _ hb,e⟩
  ·rintro⟨a,b,ha,hb,hlt,e,e1,e2,e3⟩
   rcases List.mem_cons.1 hb with hb'|hb'
   ·rcases List.mem_cons.1 ha with ha'|ha'
    ·rw[ha',hb']at hlt;omega
    ·have:=(h1 a ha').1;rw[hb']at hlt;omega
   ·rcases List.mem_cons.1 ha with ha'|ha'
    ·refine .inl ⟨b,List.mem_filter.2 ⟨hb',?_⟩,by rw[e,ha']⟩
     rw[← ha']
     unfold opP
     simp only[bA_,bne_iff_ne,ne_eq,Bool.not_eq_true']
     exact⟨by omega,e1,e2,e3⟩
    ·exact .inr ⟨a,b,ha',hb',hlt,e,e1,e2,e3⟩
theorem open_mem {t:GTask}{R:List (List Bool)}{p:List Fact}:p∈openF t R↔∃ a b,SetP t a b∧p=pset a b∧isF t R a b=false∧(a=b∨(isF t R a a=true∧isF t R b b=true)):=by
 unfold openF
 rw[List.mem_append,pairG_mem (show(allL t.Vars).Pairwise _ from factsG_asc t.Vars 0)]
 unfold oneF
 rw[List.mem_map]
 constructor
 ·rintro(⟨a,ha,rfl⟩|⟨a,b,ha,hb,hlt,rfl,e1,e2,e3⟩)
  ·obtain⟨h1,h2⟩:=List.mem_filter.1 ha
   exact⟨a,a,⟨allL_mem.1 h1,allL_mem.1 h1,.inl rfl⟩,by rw[pset,if_pos rfl],by simpa using h2,.inl rfl⟩
  ·have hne:a≠b:=fun e=>by rw[e]at hlt;omega
   exact⟨a,b,⟨allL_mem.1 ha,allL_mem.1 hb,.inr hlt⟩,by rw[pset,if_neg hne],e3,.inr ⟨e1,e2⟩⟩
 ·rintro⟨a,b,hs,rfl,h,ho⟩
  by_cases e:a=b
  ·subst e
   refine .inl ⟨a,List.mem_filter.2 ⟨allL_mem.2 hs.ia,by rw[h];rfl⟩,by rw[pset,if_pos rfl]⟩
  ·obtain⟨e1,e2⟩:=ho.resolve_left e
   exact .inr ⟨a,b,allL_mem.2 hs.ia,allL_mem.2 hs.ib,hs.le.resolve_left e,by rw[pset,if_neg e],e1,e2,h⟩
def Pres (t:GTask)(Q:List (List Bool)→Prop):Prop:=∀ R a b,RkR t R→SyR t R→Q R→SetP t a b→madeF t R (pset a b)=true→Q (putF t R a b)
def pairs (t:GTask):List (Fact×Fact):=(allL t.Vars).flatMap fun a=>(allL t.Vars).map fun b=>(a,b)
theorem pairs_mem {t:GTask}{a b:Fact}:(a,b)∈pairs t↔InV t.Vars a∧InV t.Vars b:=by
 unfold pairs
 rw[List.mem_flatMap]
 constructor
 ·rintro⟨x,hx,h⟩
  obtain⟨y,hy,e⟩:=List.mem_map.1 h
  have e1:x=a:=congrArg Prod.fst e
  have e2:y=b:=congrArg Prod.snd e
  rw[← e1,← e2]
  exact⟨allL_mem.1 hx,allL_mem.1 hy⟩
 ·rintro⟨h1,h2⟩
  exact⟨a,allL_mem.2 h1,List.mem_map.2 ⟨b,allL_mem.2 h2,rfl⟩⟩
def restN (t:GTask)(R:List (List Bool)):Nat:=((pairs t).filter fun q=>!isF t R q.1 q.2).length
theorem filter_lt {α:Type}{p q:α→Bool}:∀ {l:List α},(∀ x∈l,q x=true→p x=true)→(l.filter q).length≤(l.filter p).length∧((∃ x∈l,p x=true∧q x=false)→(l.filter q).length<(l.filter p).length)
 | [],_=>⟨Nat.le_refl _,fun⟨_,h,_⟩=>nomatch h⟩
 | x :: l,h=>by
  obtain⟨i1,i2⟩:=filter_lt (p:=p) (q:=q) (l:=l) fun y hy=>h y (mC_ _ hy)
  have hx:=h x (mS_ ..)
  rw[List.filter_cons,List.filter_cons]
  cases hq:q x with
  | true =>
   rw[if_pos rfl,if_pos (hx hq),lC_,lC_]
   refine⟨by omega,fun⟨y,hy,h1,h2⟩=>?_⟩
   rcases List.mem_cons.1 hy with rfl|hy
   ·rw[hq]at h2;cases h2
   ·have:=i2 ⟨y,hy,h1,h2⟩;omega
  | false =>
   rw[if_neg (by decide)]
   cases hp:p x with
   | true =>
    rw[if_pos rfl,lC_]
    exact⟨by omega,fun _=>by omega⟩
   | false =>
    rw[if_neg (by decide)]
    refine⟨i1,fun⟨y,hy,h1,h2⟩=>?_⟩
    rcases List.mem_cons.1 hy with rfl|hy
    ·rw[hp]at h1;cases h1
    ·exact i2 ⟨y,hy,h1,h2⟩
theorem flatN_len {α β:Type}(f:α→List β)(m:Nat):∀ l:List α,(∀ a∈l,(f a).length=m)→(l.flatMap f).length=l.length*m
 | [],_=>by simp
 | a :: l,h=>by
  rw[List.flatMap_cons,lA_,flatN_len f m l fun x hx=>h x (mC_ _ hx),h a (mS_ ..),lC_,Nat.succ_mul]
  omega
theorem rest_le {t:GTask}(hz:Sz t)(R:List (List Bool)):restN t R≤262144:=by
 refine Nat.le_trans (List.length_filter_le _ _) ?_
 unfold pairs
 rw[flatN_len _ (allL t.Vars).length _ fun a _=>lM_ ..]
 have h:(allL t.Vars).length≤512:=by
  have:=factsG_len t.Vars 0 hz.pos
  have:=hz.small
  unfold allL
  omega
 exact Nat.mul_le_mul h h
theorem pairG_len {t:GTask}{R:List (List Bool)}:∀ l:List Fact,(pairG t R l).length≤l.length*l.length
 | []=>Nat.le_refl _
 | a :: r=>by
  have ih:=pairG_len (t:=t) (R:=R) r
  have:=List.length_filter_le (opP t R a) r
  rw[pairG,lA_,lM_,lC_,Nat.add_mul,Nat.mul_add]
  omega
theorem openF_len {t:GTask}(hz:Sz t)(R:List (List Bool)):(openF t R).length≤1000000:=by
 have h:(allL t.Vars).length≤512:=by
  have:=factsG_len t.Vars 0 hz.pos
  have:=hz.small
  unfold allL
  omega
 have h1:=oneF_len (t:=t) R (allL t.Vars)
 have h2:=pairG_len (t:=t) (R:=R) (allL t.Vars)
 have h3:=Nat.mul_le_mul h h
 unfold openF
 rw[lA_]
 omega
def ClosedM (t:GTask)(R:List (List Bool)):Prop:=∀ p∈openF t R,madeF t R p=false
def MonoM (t:GTask)(R R':List (List Bool)):Prop:=∀ a b,InV t.Vars a→InV t.Vars b→isF t R a b=true→isF t R' a b=true
section
variable {t : GTask} (F : Fit3 t) (ht : ShT t) (g : Nat) (hg : 70 ≤ g) {Q : List (List Bool) → Prop} (hQ : Pres t Q)
include F ht hg hQ
theorem new5 (v32:List (List Bool))(L:List (List Fact))(R0:List (List Bool)):∀ (r:List (List Fact))(n:Nat)(R:List (List Bool))(ch:Bool)(M:Cau),RkR t R→SyR t R→Q R→CauP t M→(∀ p∈r,∃ a b,SetP t a b∧p=pset a b∧isF t R0 a b=false) →
  ∃ R' ch' M',Rg (M_mutex_New_L5_B g (offG 0 t.Vars) v32 t L) (M_mutex_New_L5_E g (offG 0 t.Vars) v32 t L) r n (R,ch,M)=some (.inl (R',ch',M'))∧RkR t R'∧SyR t R'∧Q R'∧CauP t M'∧MonoM t R R'∧(ch'=false→ch=false∧R'=R∧∀ p∈r,madeF t R p=false)∧(ch'=true→ch=true∨∃ a b,SetP t a b∧isF t R0 a b=false∧isF t R' a b=true)
 | [],n,R,ch,M,hR,hS,hq,hM,_=>⟨R,ch,M,rfl,hR,hS,hq,hM,fun _ _ _ _ h=>h,fun h=>⟨h,rfl,fun _ hp=>nomatch hp⟩,fun h=>.inl h⟩
 | p :: r,n,R,ch,M,hR,hS,hq,hM,hr=>by
  obtain⟨a,b,hs,rfl,h0⟩:=hr _ (mS_ ..)
  have hr':∀ p∈r,∃ a b,SetP t a b∧p=pset a b∧isF t R0 a b=false:=fun p hp=>hr p (mC_ _ hp)
  obtain⟨M1,m1,m2⟩:=made_eq F ht hR hS g hg hs M hM
  have hstep:Rg (M_mutex_New_L5_B g (offG 0 t.Vars) v32 t L) (M_mutex_New_L5_E g (offG 0 t.Vars) v32 t L) (pset a b :: r) n (R,ch,M)=sel (madeF t R (pset a b)) (Rg (M_mutex_New_L5_B g (offG 0 t.Vars) v32 t L) (M_mutex_New_L5_E g (offG 0 t.Vars) v32 t L) r ((n+1:Nat):Int) (putF t R a b,true,M1)) (Rg (M_mutex_New_L5_B g (offG 0 t.Vars) v32 t L) (M_mutex_New_L5_E g (offG 0 t.Vars) v32 t L) r ((n+1:Nat):Int) (R,ch,M1)):=by
   have hset:M_set (tbl t R) a b=some (putF t R a b):=set_eq (tb_of F.sz hR) hs.ia hs.ib
   rw[Rg,M_mutex_New_L5_B]
   dsimp only[ixv]
   have m3:M_stratagem_mutex_Table_made g { t:=t,first:=offG 0 t.Vars,reached:=R } (pset a b) M=some (madeF t R (pset a b),Er.nil,M1):=m2
   have hset2:M_set { t:=t,first:=offG 0 t.Vars,reached:=R } a b=some (putF t R a b):=hset
   rw[m3,ob3_some,erM,pset_0,pset_1,hset2,ob1_some]
   rfl
  rw[hstep]
  cases hm:madeF t R (pset a b)with
  | true =>
   have hS':=put_sym hR F.sz.pos hS hs.ia hs.ib
   have hq':=hQ R a b hR hS hq hs hm
   obtain⟨R',ch',M',e,k1,k2,k3,k4,k5,k6,k7⟩:=new5 v32 L R0 r (n+1) (putF t R a b) true M1 (hR.put _ _) hS' hq' m1 hr'
   refine⟨R',ch',M',by rw[sel_tt];exact e,k1,k2,k3,k4,fun c d hc hd h=>k5 c d hc hd ((put_is hR F.sz.pos hs.ia hs.ib hc hd).2 (.inl h)),fun h=>absurd (k6 h).1 (by decide),fun _=>.inr ⟨a,b,hs,h0,k5 a b hs.ia hs.ib ((put_is hR F.sz.pos hs.ia hs.ib hs.ia hs.ib).2 (.inr (.inl ⟨rfl,rfl⟩)))⟩⟩
  | false =>
   obtain⟨R',ch',M',e,k1,k2,k3,k4,k5,k6,k7⟩:=new5 v32 L R0 r (n+1) R ch M1 hR hS hq m1 hr'
   refine⟨R',ch',M',by rw[sel_ff];exact e,k1,k2,k3,k4,k5,fun h=>?_,k7⟩
   obtain⟨j1,j2,j3⟩:=k6 h
   refine⟨j1,j2,fun p hp=>?_⟩
   rcases List.mem_cons.1 hp with rfl|hp
   ·exact hm
   ·exact j3 p hp
theorem new6 (v32:List (List Bool)):∀ (N k:Nat)(R:List (List Bool))(M:Cau),RkR t R→SyR t R→Q R→CauP t M→restN t R≤N→N+2≤k →
  ∃ R',M_mutex_New_L6 g (offG 0 t.Vars) v32 t k R true M=some (some (tbl t R'),Er.nil)∧RkR t R'∧SyR t R'∧Q R'∧MonoM t R R'∧ClosedM t R'
 | N,k,R,M,hR,hS,hq,hM,hn,hk=>by
  obtain⟨k,rfl⟩:∃ q,k=q+1:=⟨k-1,by omega⟩
  have hopen:M_stratagem_mutex_Table_open (tbl t R)=some (openF t R):=open_eq (tb_of F.sz hR)
  obtain⟨R1,ch,M1,e,k1,k2,k3,k4,k5,k6,k7⟩:=new5 F ht g hg hQ v32 (openF t R) R (openF t R) 0 R false M hR hS hq hM fun p hp=>by
   obtain⟨a,b,h1,h2,h3,-⟩:=open_mem.1 hp
   exact⟨a,b,h1,h2,h3⟩
  have hstep:M_mutex_New_L6 g (offG 0 t.Vars) v32 t (k+1) R true M=M_mutex_New_L6 g (offG 0 t.Vars) v32 t k R1 ch M1:=by
   have e5:=M_mutex_New_L5_eq g (offG 0 t.Vars) v32 t (openF t R) R false M (by have:=openF_len F.sz R;omega)
   have hopen2:M_stratagem_mutex_Table_open { t:=t,first:=offG 0 t.Vars,reached:=R }=some (openF t R):=hopen
   rw[show((0:Nat):Int)=0 from rfl]at e
   rw[e]at e5
   rw[M_mutex_New_L6,sel_tt,hopen2,ob1_some,e5,ob1_some,osum_inl]
  rw[hstep]
  obtain⟨k,rfl⟩:∃ q,k=q+1:=⟨k-1,by omega⟩
  cases ch with
  | false =>
   obtain⟨-,rfl,h⟩:=k6 rfl
   refine⟨R1,by rw[M_mutex_New_L6,sel_ff];rfl,k1,k2,k3,k5,h⟩
  | true =>
   obtain⟨a,b,hs,h1,h2⟩:=(k7 rfl).resolve_left (by decide)
   have hlt:restN t R1<restN t R:=by
    refine(filter_lt fun q hq hf=>?_).2 ⟨(a,b),pairs_mem.2 ⟨hs.ia,hs.ib⟩,by simp[h1],by simp[h2]⟩
    obtain⟨c,d⟩:=q
    obtain⟨hc,hd⟩:=pairs_mem.1 hq
    cases hb:isF t R c d with
    | false=>rfl
    | true=>rw[k5 c d hc hd hb]at hf;cases hf
   obtain⟨N,rfl⟩:∃ q,N=q+1:=⟨N-1,by omega⟩
   obtain⟨R',f,j1,j2,j3,j4,j5⟩:=new6 v32 N (k+1) R1 M1 k1 k2 k3 k4 (by omega) (by omega)
   exact⟨R',f,j1,j2,j3,fun c d hc hd h=>j4 c d hc hd (k5 c d hc hd h),j5⟩
end
theorem silOne_has (s:List Int)(f:Fact):∀ (m:Nat)(i:Int),hasN s (silOne f m i)≤if i≤s.getD f.1.toNat 0∧s.getD f.1.toNat 0≠f.2 then 1 else 0
 | 0,i=>by rw[silOne];exact Nat.zero_le _
 | m+1,i=>by
  have ih:=silOne_has s f m (i+1)
  unfold hasN at ih ⊢
  rw[silOne,List.filter_append,lA_]
  by_cases hi:i=f.2
  ·rw[if_neg (by simpa using hi),List.filter_nil,lN_,Nat.zero_add]
   refine Nat.le_trans ih ?_
   split
   ·rename_i h;rw[if_pos ⟨by omega,h.2⟩];exact Nat.le_refl _
   ·exact Nat.zero_le _
  ·rw[if_pos hi]
   by_cases hh:holdsF s [(f.1,i)]=true
   ·have hv:=(hold1_iff.1 (holdsF_iff.1 hh _ (mI_.2 rfl))).2.2
    dsimp only at hv
    rw[List.filter_cons,if_pos hh,List.filter_nil,List.length_singleton,if_pos (show i≤_∧_ from⟨by omega,by omega⟩)]
    rw[if_neg (by omega)]at ih
    omega
   ·rw[List.filter_cons,if_neg hh,List.filter_nil,lN_,Nat.zero_add]
    refine Nat.le_trans ih ?_
    split
    ·rename_i h;rw[if_pos ⟨by omega,h.2⟩];exact Nat.le_refl _
    ·exact Nat.zero_le _
theorem silF_has {vars s:List Int}(hs:StP vars s):∀ (w:List Fact),(∀ f∈w,0≤f.1∧f.1<vars.length)→hasN s (silF vars w)≤(w.filter fun f=>!hold1 s f).length
 | [],_=>Nat.le_refl _
 | f :: r,h=>by
  have ih:=silF_has hs r fun g hg=>h g (mC_ _ hg)
  have h1:=silOne_has s f (vars.getD f.1.toNat 0).toNat 0
  obtain⟨f0,f1⟩:=h f (mS_ ..)
  unfold silF hasN at ih ⊢
  unfold hasN at h1
  rw[List.flatMap_cons,List.filter_append,lA_,List.filter_cons]
  have hl:=hs.len
  cases hh:hold1 s f with
  | true =>
   have:=(hold1_iff.1 hh).2.2
   rw[if_neg (by omega)]at h1
   rw[Bool.not_true,if_neg (by decide)]
   omega
  | false =>
   rw[Bool.not_false,if_pos rfl,lC_]
   have:(if 0≤s.getD f.1.toNat 0∧s.getD f.1.toNat 0≠f.2 then 1 else 0)≤1:=by split <;> omega
   omega
theorem wt_two {vars s:List Int}(hs:StP vars s){f:Fact}{e:GEffect}(hw:WhenT vars e.When):wtE vars s f e≤2:=by
 unfold wtE
 split
 ·split <;> omega
 ·have:=silF_has hs e.When fun g hg=>⟨(hw.fact g hg).1,(hw.fact g hg).2.1⟩
  have h2:(e.When.filter fun f=>!hold1 s f).length≤e.When.length:=List.length_filter_le _ _
  have:=hw.two
  omega
theorem allF_nodup {t:GTask}(hg:goodF t=true):(allF t).Nodup:=by
 refine List.pairwise_iff_getElem.2 fun i j hi hj hlt e=>?_
 have h1:(allF t)[i]?=some ((allF t)[i]):=gE_ hi
 have h2:(allF t)[j]?=some ((allF t)[i]):=by rw[e];exact gE_ hj
 have:=place_one hg h1 h2
 omega
theorem state_set {vars s:List Int}(hs:stateF vars s=true){v:Nat}{y:Int}(hv:v<vars.length)(h0:0≤y)(h1:y<vars.getD v 0):stateF vars (s.set v y)=true:=by
 have st:=stateF_st hs
 refine st_state (by rw[List.length_set];exact st.len) fun i hi=>?_
 have hl:=st.len
 by_cases e:v=i
 ·subst e
  rw[gD_,List.getElem?_set_self (by omega),Option.getD_some]
  exact⟨h0,h1⟩
 ·rw[gD_,List.getElem?_set_ne e,← gD_]
  exact st.rng i hi
theorem hold_set {s:List Int}{g:Fact}{v:Nat}{y:Int}(hv:v<s.length):hold1 (s.set v y) g=true↔if g.1=(v:Int)then y=g.2 else hold1 s g=true:=by
 rw[hold1_iff,List.length_set]
 split
 ·rename_i e
  rw[e,Int.toNat_natCast,gD_,List.getElem?_set_self hv,Option.getD_some]
  constructor
  ·intro h;exact h.2.2
  ·intro h;exact⟨by omega,by omega,h⟩
 ·rename_i e
  rw[hold1_iff]
  constructor
  ·rintro⟨h1,h2,h3⟩
   rw[gD_,List.getElem?_set_ne (by omega),← gD_]at h3
   exact⟨h1,h2,h3⟩
  ·rintro⟨h1,h2,h3⟩
   refine⟨h1,h2,?_⟩
   rw[gD_,List.getElem?_set_ne (by omega),← gD_]
   exact h3
theorem set_back {s:List Int}{v:Nat}{y z:Int}(hy:s.getD v 0=y)(hv:v<s.length):(s.set v z).set v y=s:=by
 rw[List.set_set]
 refine List.ext_getElem? fun i=>?_
 by_cases e:v=i
 ·subst e
  rw[List.getElem?_set_self hv,← hy,gD_,gE_ hv]
  rfl
 ·rw[List.getElem?_set_ne e]
def cntP (t:GTask)(Q:List Int→Bool):Nat:=((allF t).filter Q).length
theorem cntP_split (t:GTask)(Q:List Int→Bool)(g:Fact):cntP t Q=cntP t (fun s=>Q s&&hold1 s g)+cntP t (fun s=>Q s && !hold1 s g):=by
 unfold cntP
 induction allF t with
 | nil=>rfl
 | cons s l ih =>
  simp only[List.filter_cons]
  cases Q s <;> cases hold1 s g <;> simp <;> omega
theorem cntP_le {t:GTask}{Q Q':List Int→Bool}(h:∀ s,Q s=true→Q' s=true):cntP t Q≤cntP t Q':=by
 unfold cntP
 exact(filter_leN h)
where
 filter_leN {Q Q':List Int→Bool} (h:∀ s,Q s=true→Q' s=true):∀ {l:List (List Int)},(l.filter Q).length≤(l.filter Q').length
  | []=>Nat.le_refl _
  | s :: l=>by
   have ih:=filter_leN h (l:=l)
   rw[List.filter_cons,List.filter_cons]
   cases hq:Q s with
   | true=>rw[if_pos rfl,if_pos (h s hq),lC_,lC_];omega
   | false=>rw[if_neg (by decide)];split <;> simp <;> omega
section
variable {t : GTask} (F : Fit3 t) {g : Fact} (hg : InV t.Vars g)
include F hg
theorem dim_at : 2≤t.Vars.getD g.1.toNat 0∧t.Vars.getD g.1.toNat 0≤4:=by
 obtain⟨h1,h2,-⟩:=hg
 rw[gD_,gE_ (by omega),Option.getD_some]
 exact F.dom _ (List.getElem_mem _)
theorem fail_le {Q:List Int→Bool}(hQ:∀ s y,g.1.toNat<s.length→Q (s.set g.1.toNat y)=Q s):4*cntP t (fun s=>Q s && !hold1 s g)≤3*cntP t Q:=by
 obtain⟨d1,d2⟩:=dim_at F hg
 obtain⟨g0,g1,g2,g3⟩:=hg
 have key:cntP t (fun s=>Q s && !hold1 s g)≤cntP t (fun s=>Q s&&hold1 s g)*3:=by
  have hsub:=nodupT_le ((allF t).filter fun s=>Q s && !hold1 s g) ((((allF t).filter fun s=>Q s&&hold1 s g)).flatMap fun s=>(([0,1,2,3]:List Int).erase g.2).map fun y=>s.set g.1.toNat y) ((allF_nodup F.good).filter _) fun s hs=>by
   obtain⟨h1,h2⟩:=List.mem_filter.1 hs
   rw[bA_,Bool.not_eq_true']at h2
   have hst:=(allF_mem t s).1 h1
   have st:=stateF_st hst
   have hl:=st.len
   have hv:g.1.toNat<s.length:=by omega
   obtain⟨r1,r2⟩:=st.rng g.1.toNat (by omega)
   have hne:s.getD g.1.toNat 0≠g.2:=fun e=>by
    rw[hold1_iff.2 ⟨g0,by omega,e⟩]at h2
    cases h2.2
   refine List.mem_flatMap.2 ⟨s.set g.1.toNat g.2,List.mem_filter.2 ⟨(allF_mem t _).2 (state_set hst (by omega) g2 g3),?_⟩,List.mem_map.2 ⟨s.getD g.1.toNat 0,?_,set_back rfl hv⟩⟩
   ·rw[hQ s g.2 hv,h2.1,(hold_set (g:=g) hv).2 (by rw[if_pos (by omega)])]
    rfl
   ·refine(List.mem_erase_of_ne hne).2 ?_
    have:s.getD g.1.toNat 0=0∨s.getD g.1.toNat 0=1∨s.getD g.1.toNat 0=2∨s.getD g.1.toNat 0=3:=by omega
    rcases this with h|h|h|h <;> rw[h] <;> decide
  refine Nat.le_trans hsub ?_
  have hm:(([0,1,2,3]:List Int).erase g.2).length=3:=by
   have:g.2=0∨g.2=1∨g.2=2∨g.2=3:=by omega
   rcases this with h|h|h|h <;> rw[h] <;> decide
  rw[flatN_len _ 3 _ fun s _=>by rw[lM_,hm]]
  exact Nat.le_refl _
 have:=cntP_split t Q g
 omega
theorem true_le : 2*cntP t (fun s=>hold1 s g)≤(allF t).length:=by
 obtain⟨d1,d2⟩:=dim_at F hg
 obtain⟨g0,g1,g2,g3⟩:=hg
 obtain⟨y,y0,y1,y2⟩:∃ y:Int,0≤y∧y<t.Vars.getD g.1.toNat 0∧y≠g.2:=by
  by_cases e:g.2=0
  ·exact⟨1,by decide,by omega,by omega⟩
  ·exact⟨0,by decide,by omega,fun h=>e h.symm⟩
 have hsub:=nodupT_le ((allF t).filter fun s=>hold1 s g) (((allF t).filter fun s=>!hold1 s g).map fun s=>s.set g.1.toNat g.2) ((allF_nodup F.good).filter _) fun s hs=>by
  obtain⟨h1,h2⟩:=List.mem_filter.1 hs
  have hst:=(allF_mem t s).1 h1
  have st:=stateF_st hst
  have hl:=st.len
  have hv:g.1.toNat<s.length:=by omega
  refine List.mem_map.2 ⟨s.set g.1.toNat y,List.mem_filter.2 ⟨(allF_mem t _).2 (state_set hst (by omega) y0 y1),?_⟩,set_back (hold1_iff.1 h2).2.2 hv⟩
  rw[Bool.not_eq_true',Bool.eq_false_iff]
  intro h
  have:=(hold_set (g:=g) hv).1 h
  rw[if_pos (by omega)]at this
  exact y2 this
 rw[lM_]at hsub
 have:=cntP_split t (fun _=>true) g
 unfold cntP at this ⊢
 simp only[Bool.true_and]at this
 rw[List.filter_eq_self.2 (fun _ _=>rfl)]at this
 omega
end
theorem WhenT.inV {vars:List Int}{w:List Fact}(h:WhenT vars w){g:Fact}(hg:g∈w):InV vars g:=by
 obtain⟨h1,h2,h3,h4,-⟩:=h.fact g hg
 exact⟨h1,h2,h3,h4⟩
theorem two_le {t:GTask}(F:Fit3 t){e:GEffect}(hw:WhenT t.Vars e.When)(hc:0<e.When.length)(f:Fact):16*cntP t (fun s=>decide (2≤wtE t.Vars s f e))≤9*(allF t).length:=by
 have hall:cntP t (fun _=>true)=(allF t).length:=by unfold cntP;rw[List.filter_eq_self.2 (fun _ _=>rfl)]
 by_cases hv:e.Val=f.2
 ·obtain⟨g,hg⟩:=List.exists_mem_of_length_pos hc
  have h1:=true_le F (hw.inV hg)
  have h2:cntP t (fun s=>decide (2≤wtE t.Vars s f e))≤cntP t fun s=>hold1 s g:=cntP_le fun s h=>by
   rw[decide_eq_true_iff]at h
   unfold wtE at h
   rw[if_pos hv]at h
   split at h
   ·rename_i hh;exact holdsF_iff.1 hh g hg
   ·omega
  omega
 ·by_cases h2:e.When.length=2
  ·obtain⟨a,b,hab⟩:=len_two h2
   have ia:=hw.inV (show a∈e.When by rw[hab];simp)
   have ib:=hw.inV (show b∈e.When by rw[hab];simp)
   have hlt:a.1<b.1:=by
    have:=((vF_iff' _).1 (propF_vF' hw.prop)).2
    rw[hab]at this
    simpa [Asc] using this
   have h3:=fail_le F ia (Q:=fun _=>true) fun _ _ _=>rfl
   have h4:=fail_le F ib (Q:=fun s=>true && !hold1 s a) fun s y hs=>by
    have:hold1 (s.set b.1.toNat y) a=hold1 s a:=by
     rw[Bool.eq_iff_iff,hold_set hs,if_neg (by have:=ib.1;omega)]
    rw[this]
   have h5:cntP t (fun s=>decide (2≤wtE t.Vars s f e))≤cntP t fun s=>(true && !hold1 s a) && !hold1 s b:=by
    have hle:∀ l:List (List Int),(∀ s∈l,stateF t.Vars s=true)→(l.filter fun s=>decide (2≤wtE t.Vars s f e)).length≤(l.filter fun s=>(true && !hold1 s a) && !hold1 s b).length:=by
     intro l
     induction l with
     | nil=>intro _;exact Nat.le_refl _
     | cons s l ih =>
      intro hl
      have ih:=ih fun x hx=>hl x (mC_ _ hx)
      have hst:=stateF_st (hl s (mS_ ..))
      rw[List.filter_cons,List.filter_cons]
      by_cases hq:2≤wtE t.Vars s f e
      ·rw[if_pos (decide_eq_true hq)]
       unfold wtE at hq
       rw[if_neg hv]at hq
       have hh:=silF_has hst e.When fun g hg=>⟨(hw.fact g hg).1,(hw.fact g hg).2.1⟩
       rw[hab]at hh hq
       have hf:¬ hold1 s a=true∧¬ hold1 s b=true:=by
        refine⟨fun ha=>?_,fun hb=>?_⟩
        ·have:([a,b].filter fun f=>!hold1 s f).length≤1:=by
          rw[List.filter_cons,ha,if_neg (by decide)]
          exact List.length_filter_le _ [b]
         omega
        ·have:([a,b].filter fun f=>!hold1 s f).length≤1:=by
          rw[List.filter_cons,List.filter_cons,hb,List.filter_nil,if_neg (show ¬ (!true)=true by decide)]
          split <;> simp
         omega
       rw[if_pos (by simp[hf.1,hf.2]),lC_,lC_]
       omega
      ·rw[if_neg (by simpa using hq)]
       split
       ·rw[lC_];omega
       ·exact ih
    exact hle _ fun s hs=>(allF_mem t s).1 hs
   omega
  ·have h1:e.When.length=1:=by have:=hw.two;omega
   have h0:cntP t (fun s=>decide (2≤wtE t.Vars s f e))=0:=by
    unfold cntP
    rw[List.length_eq_zero_iff,List.filter_eq_nil_iff]
    intro s hs
    have hst:=stateF_st ((allF_mem t s).1 hs)
    rw[decide_eq_true_iff]
    unfold wtE
    rw[if_neg hv]
    have hh:=silF_has hst e.When fun g hg=>⟨(hw.fact g hg).1,(hw.fact g hg).2.1⟩
    have:(e.When.filter fun f=>!hold1 s f).length≤e.When.length:=List.length_filter_le _ _
    omega
   omega
def NF (e:Er):Prop:=e=.nil∨e=.no 10
theorem ask_nf (t:GTask)(c:GCertificate)(p:List Fact)(d r:Int):(askC t c p d r).2.1=.no 10∨((askC t c p d r).2.1=.nil∧(askC t c p d r).1=covB t c d p):=by
 unfold askC
 split
 ·exact .inr ⟨rfl,rfl⟩
 ·exact .inl rfl
theorem stepL_nf (t:GTask)(c:GCertificate)(d:Int):∀ (l:List (List Fact))(r:Int),(∀ p∈l,covB t c d p=true)→NF (stepL t c d l r).1
 | [],r,_=>.inl rfl
 | p :: ps,r,h=>by
  have ha:=ask_nf t c p d r
  have hp:=h p (mS_ ..)
  rw[stepL]
  rcases hk:askC t c p d r with⟨b,e,r'⟩
  rw[hk]at ha
  rcases ha with ha|⟨ha,hb⟩
  ·simp only at ha
   subst ha
   cases b <;> exact .inr rfl
  ·simp only at ha hb
   subst ha
   rw[hp]at hb
   subst hb
   exact stepL_nf t c d ps r' (fun q hq=>h q (mC_ _ hq))
section
variable {t : GTask} (hf : Fit t) {c : GCertificate} (hc : CertP t.Vars c) (ha : Acc t c)
include hf hc ha
end
def sumS (S:List (List Int))(g:List Int→Nat):Nat:=(S.map g).sum
theorem sumS_cons (s:List Int)(S:List (List Int))(g:List Int→Nat):sumS (s :: S) g=g s+sumS S g:=by unfold sumS;rw[List.map_cons,List.sum_cons]
theorem sumS_le {a b:List Int→Nat}:∀ {S:List (List Int)},(∀ s∈S,a s≤b s)→sumS S a≤sumS S b
 | [],_=>Nat.le_refl _
 | s :: S,h=>by
  have h1:=h s (mS_ ..)
  have h2:=sumS_le (S:=S) fun x hx=>h x (mC_ _ hx)
  rw[sumS_cons,sumS_cons];omega
theorem sumS_add (a b:List Int→Nat):∀ S:List (List Int),sumS S (fun s=>a s+b s)=sumS S a+sumS S b
 | []=>rfl
 | s :: S=>by rw[sumS_cons,sumS_cons,sumS_cons,sumS_add a b S];omega
theorem sumS_mul (k:Nat)(a:List Int→Nat):∀ S:List (List Int),sumS S (fun s=>k*a s)=k*sumS S a
 | []=>rfl
 | s :: S=>by rw[sumS_cons,sumS_cons,sumS_mul k a S,Nat.mul_add]
theorem sumS_one : ∀ S:List (List Int),sumS S (fun _=>1)=S.length
 | []=>rfl
 | s :: S=>by rw[sumS_cons,sumS_one S,lC_];omega
theorem sumS_ind (Q:List Int→Bool):∀ S:List (List Int),sumS S (fun s=>if Q s=true then 1 else 0)=(S.filter Q).length
 | []=>rfl
 | s :: S=>by
  rw[sumS_cons,sumS_ind Q S,List.filter_cons]
  split <;> simp <;> omega
theorem sum_has (S:List (List Int)):∀ l:List (List Fact),(l.map (cntS S)).sum=sumS S fun s=>hasN s l
 | []=>by
  have:(sumS S fun s=>hasN s [])=0:=by
   have:=sumS_mul 0 (fun _=>0) S
   simp only[Nat.zero_mul]at this
   exact this
  rw[this];rfl
 | p :: l=>by
  have e:(fun s=>hasN s (p :: l))=fun s=>(if holdsF s p=true then 1 else 0)+hasN s l:=by
   funext s
   unfold hasN
   rw[List.filter_cons]
   split <;> simp <;> omega
  rw[List.map_cons,List.sum_cons,sum_has S l,e,sumS_add,sumS_ind]
  rfl
def prodW (vars s:List Int):List (Fact×GEffect)→Nat
 | []=>1
 | q :: L=>wtE vars s q.1 q.2*prodW vars s L
theorem prodW_app (vars s:List Int):∀ a b:List (Fact×GEffect),prodW vars s (a++b)=prodW vars s a*prodW vars s b
 | [],b=>by rw[List.nil_append,prodW,Nat.one_mul]
 | q :: a,b=>by rw[List.cons_append,prodW,prodW,prodW_app vars s a b,Nat.mul_assoc]
def cndL (f:Fact)(es:List GEffect):List (Fact×GEffect):=(es.filter fun e=>decide (0<e.When.length)).map fun e=>(f,e)
theorem wtL_prod (vars s:List Int)(f:Fact):∀ es,wtL vars s f es=prodW vars s (cndL f es)
 | []=>rfl
 | e :: r=>by
  have ih:=wtL_prod vars s f r
  unfold cndL at ih ⊢
  rw[wtL,List.filter_cons,ih]
  by_cases h:0<e.When.length
  ·rw[if_pos h,if_pos (decide_eq_true h),List.map_cons,prodW]
  ·rw[if_neg h,if_neg (by simpa using h),Nat.one_mul]
def cndP (o:GOp):List Fact→List (Fact×GEffect)
 | []=>[]
 | f :: p=>cndL f (o.Effs.filter fun e=>e.Var == f.1)++cndP o p
theorem wtA_prod (vars s:List Int)(o:GOp):∀ p,wtA vars s o p=prodW vars s (cndP o p)
 | []=>rfl
 | f :: p=>by rw[wtA,cndP,prodW_app,wtL_prod,wtA_prod vars s o p]
theorem cndP_mem {o:GOp}{q:Fact×GEffect}:∀ {p:List Fact},q∈cndP o p→q.2∈o.Effs∧0<q.2.When.length
 | [],h=>nomatch h
 | f :: p,h=>by
  rw[cndP]at h
  rcases List.mem_append.1 h with h|h
  ·obtain⟨e,he,rfl⟩:=List.mem_map.1 h
   obtain⟨h1,h2⟩:=List.mem_filter.1 he
   exact⟨(List.mem_filter.1 h1).1,of_decide_eq_true h2⟩
  ·exact cndP_mem h
theorem cndL_len (f:Fact)(es:List GEffect):(cndL f es).length=condN es:=lM_ _
theorem cndP_len {t:GTask}(F:Fit3 t){a b:Fact}(h:SetP t a b){o:GOp}(ho:o∈t.Ops):(cndP o (pset a b)).length≤3:=by
 have h3:=(F.tame o ho).2
 unfold pset
 split
 ·rw[cndP,cndP,List.append_nil,cndL_len]
  exact Nat.le_trans (cond_sub _ _) h3
 ·rename_i hne
  have:=h.le.resolve_left hne
  rw[cndP,cndP,cndP,List.append_nil,lA_,cndL_len,cndL_len]
  exact Nat.le_trans (cond_two (by omega) _) h3
theorem cube_two {x y:Nat}(hx:1≤x∧x≤2)(hy:1≤y∧y≤2):3*(x*y)≤x ^ 3+y ^ 3+1:=by
 have h1:x=1∨x=2:=by omega
 have h2:y=1∨y=2:=by omega
 rcases h1 with rfl|rfl <;> rcases h2 with rfl|rfl <;> decide
theorem cube_three {x y z:Nat}(hx:1≤x∧x≤2)(hy:1≤y∧y≤2)(hz:1≤z∧z≤2):3*(x*(y*z))≤x ^ 3+y ^ 3+z ^ 3:=by
 have h1:x=1∨x=2:=by omega
 have h2:y=1∨y=2:=by omega
 have h3:z=1∨z=2:=by omega
 rcases h1 with rfl|rfl <;> rcases h2 with rfl|rfl <;> rcases h3 with rfl|rfl <;> decide
theorem cube_one {x:Nat}(hx:1≤x∧x≤2):x≤x ^ 3∧(∀ b:Bool,(b=true↔2≤x)→x ^ 3=1+7*(if b=true then 1 else 0)):=by
 have h1:x=1∨x=2:=by omega
 rcases h1 with rfl|rfl
 ·exact⟨by decide,fun b hb=>by(rw[if_neg (fun h=>by have:=hb.1 h;omega)]) <;> rfl⟩
 ·exact⟨by decide,fun b hb=>by(rw[if_pos (hb.2 (by omega))]) <;> rfl⟩
section
variable {t : GTask} (F : Fit3 t)
include F
theorem cube_sum {q:Fact×GEffect}(hw:WhenT t.Vars q.2.When)(hc:0<q.2.When.length):16*sumS (allF t) (fun s=>wtE t.Vars s q.1 q.2 ^ 3)≤79*(allF t).length:=by
 have h2:=two_le F hw hc q.1
 have hle:sumS (allF t) (fun s=>wtE t.Vars s q.1 q.2 ^ 3)≤sumS (allF t) fun s=>1+7*(if(decide (2≤wtE t.Vars s q.1 q.2))=true then 1 else 0):=sumS_le fun s hs=>by
  have hst:=stateF_st ((allF_mem t s).1 hs)
  exact Nat.le_of_eq ((cube_one ⟨wtE_pos t.Vars s q.1 q.2,wt_two hst hw⟩).2 _ (by rw[decide_eq_true_iff]))
 rw[sumS_add,sumS_one,sumS_mul 7 (fun s=>if(decide (2≤wtE t.Vars s q.1 q.2))=true then 1 else 0),sumS_ind]at hle
 unfold cntP at h2
 omega
theorem prod_sum : ∀ L:List (Fact×GEffect),L.length≤3→(∀ q∈L,WhenT t.Vars q.2.When∧0<q.2.When.length)→16*sumS (allF t) (fun s=>prodW t.Vars s L)≤79*(allF t).length
 | [],_,_=>by
  have:sumS (allF t) (fun s=>prodW t.Vars s [])=(allF t).length:=sumS_one _
  omega
 | [x],_,h=>by
  obtain⟨w,c⟩:=h x (by simp)
  have h1:=cube_sum F w c
  have:sumS (allF t) (fun s=>prodW t.Vars s [x])≤sumS (allF t) fun s=>wtE t.Vars s x.1 x.2 ^ 3:=sumS_le fun s hs=>by
   have hst:=stateF_st ((allF_mem t s).1 hs)
   rw[prodW,prodW,Nat.mul_one]
   exact(cube_one ⟨wtE_pos t.Vars s x.1 x.2,wt_two hst w⟩).1
  omega
 | [x,y],_,h=>by
  obtain⟨w,c⟩:=h x (by simp)
  obtain⟨w2,c2⟩:=h y (by simp)
  have h1:=cube_sum F w c
  have h2:=cube_sum F w2 c2
  have:sumS (allF t) (fun s=>3*prodW t.Vars s [x,y])≤sumS (allF t) fun s=>(wtE t.Vars s x.1 x.2 ^ 3+wtE t.Vars s y.1 y.2 ^ 3)+1:=sumS_le fun s hs=>by
   have hst:=stateF_st ((allF_mem t s).1 hs)
   rw[prodW,prodW,prodW,Nat.mul_one]
   exact cube_two ⟨wtE_pos t.Vars s x.1 x.2,wt_two hst w⟩ ⟨wtE_pos t.Vars s y.1 y.2,wt_two hst w2⟩
  rw[sumS_mul,sumS_add,sumS_add,sumS_one]at this
  omega
 | [x,y,z],_,h=>by
  obtain⟨w,c⟩:=h x (by simp)
  obtain⟨w2,c2⟩:=h y (by simp)
  obtain⟨w3,c3⟩:=h z (by simp)
  have h1:=cube_sum F w c
  have h2:=cube_sum F w2 c2
  have h3:=cube_sum F w3 c3
  have:sumS (allF t) (fun s=>3*prodW t.Vars s [x,y,z])≤sumS (allF t) fun s=>(wtE t.Vars s x.1 x.2 ^ 3+wtE t.Vars s y.1 y.2 ^ 3)+wtE t.Vars s z.1 z.2 ^ 3:=sumS_le fun s hs=>by
   have hst:=stateF_st ((allF_mem t s).1 hs)
   rw[prodW,prodW,prodW,prodW,Nat.mul_one]
   exact cube_three ⟨wtE_pos t.Vars s x.1 x.2,wt_two hst w⟩ ⟨wtE_pos t.Vars s y.1 y.2,wt_two hst w2⟩ ⟨wtE_pos t.Vars s z.1 z.2,wt_two hst w3⟩
  rw[sumS_mul,sumS_add,sumS_add]at this
  omega
 | _ :: _ :: _ :: _ :: _,hl,_=>absurd hl (by simp)
theorem reg_sum {a b:Fact}(h:SetP t a b){o:GOp}(ho:o∈t.Ops):((regS t o (pset a b)).map (cntS (allF t))).sum≤2528:=by
 have hal:=allF_len t F.small
 have h1:=prod_sum F (cndP o (pset a b)) (cndP_len F h ho) fun q hq=>by
  obtain⟨h1,h2⟩:=cndP_mem hq
  exact⟨(F.op ho).whenT h1,h2⟩
 have h2:sumS (allF t) (fun s=>hasN s (regS t o (pset a b)))≤sumS (allF t) fun s=>prodW t.Vars s (cndP o (pset a b)):=sumS_le fun s _=>by
  rw[← wtA_prod]
  exact reg_cnt F h ho s
 rw[sum_has]
 omega
theorem ask_cost {c:GCertificate}(hc:CertP t.Vars c){p:List Fact}(hp:propF t.Vars (-1) p=true)(d:Int):(covA t.Vars p (countL c.Nogoods d)).2+1≤2*(cntS (allF t) p:Int) :=
 decA_cost2 (fun n hn=>(F.dom n hn).1) (allF t) (fun s hs=>(allF_mem t s).2 hs) _ p _ (cov_pre (good_dom F.good) hp (count_prop hc d))
theorem ask_fit {c:GCertificate}(hc:CertP t.Vars c){p:List Fact}(hp:propF t.Vars (-1) p=true)(d r:Int)(hr:2*(cntS (allF t) p:Int)≤r):∃ r',askC t c p d r=(covB t c d p,.nil,r')∧r-2*(cntS (allF t) p:Int)≤r':=by
 have hcost:=ask_cost F hc hp d
 refine⟨r-(covA t.Vars p (countL c.Nogoods d)).2,?_,by omega⟩
 rw[askC,if_pos (by omega)];rfl
theorem stepL_fit {c:GCertificate}(hc:CertP t.Vars c)(d:Int):∀ (l:List (List Fact))(r:Int),PropL t.Vars l→(∀ p∈l,covB t c d p=true)→2*((l.map (cntS (allF t))).sum:Int)≤r→∃ r',stepL t c d l r=(.nil,r')∧r-2*((l.map (cntS (allF t))).sum:Int)≤r'
 | [],r,_,_,_=>⟨r,rfl,by simp⟩
 | p :: ps,r,hl,hcov,hr=>by
  rw[List.map_cons,List.sum_cons,Int.natCast_add]at hr ⊢
  obtain⟨r1,e1,h1⟩:=ask_fit F hc (hl p (mS_ ..)) d r (by omega)
  rw[stepL,e1,hcov p (mS_ ..)]
  obtain⟨r2,e2,h2⟩:=stepL_fit hc d ps r1 (fun x hx=>hl x (mC_ _ hx)) (fun x hx=>hcov x (mC_ _ hx)) (by omega)
  exact⟨r2,e2,by omega⟩
end
def NgP (t:GTask)(c:GCertificate):Prop:=∀ n∈c.Nogoods,∃ a b,SetP t a b∧n.1=pset a b
section
variable {t : GTask} (F : Fit3 t) {c : GCertificate} (hc : CertP t.Vars c) (ha : Acc t c) (hn : NgP t c)
include F hc ha hn
theorem cov_all {n:Nogood}(hnm:n∈c.Nogoods){o:GOp}(ho:o∈t.Ops)(hsk:skipO c n o=false):∃ l,regO t.Vars o n.1=some l∧PropL t.Vars l∧(l.map (cntS (allF t))).sum≤2528∧∀ p∈l,covB t c (distO c n o) p=true:=by
 obtain⟨a,b,hs,e⟩:=hn n hnm
 obtain⟨l1,l2,-⟩:=reg_ok F hs ho
 have hr:=reg_sum F hs ho
 rw[← e]at l1 l2 hr
 refine⟨_,l1,l2,hr,fun p hp=>(covB_true F.good hc (l2 p hp) _).2 fun s hs hh=>?_⟩
 exact ha.step n hnm o ho hsk s ((allF_mem t s).2 hs) ((inF_iff F.good ho (stateF_st hs) (hc.prop n hnm) l1).1 ⟨p,hp,hh⟩)
theorem stepO_nf3 {n:Nogood}(hnm:n∈c.Nogoods){o:GOp}(ho:o∈t.Ops)(r:Int):NF (stepO t c n o r).1:=by
 unfold stepO
 split
 ·exact .inl rfl
 ·rename_i hsk
  obtain⟨l,l1,-,-,l4⟩:=cov_all F hc ha hn hnm ho (Bool.eq_false_iff.2 hsk)
  rw[l1]
  exact stepL_nf t c _ l r l4
theorem opsC_nf3 {n:Nogood}(hnm:n∈c.Nogoods)(i:Int):∀ (l:List GOp)(j r:Int),(∀ o∈l,o∈t.Ops)→(∃ r',opsC t c n i l j r=.inl r')∨∃ x,opsC t c n i l j r=.inr x∧x.2.2=.no 10
 | [],j,r,_=>.inl ⟨r,rfl⟩
 | o :: os,j,r,h=>by
  have hs:=stepO_nf3 F hc ha hn hnm (h o (mS_ ..)) r
  rw[opsC]
  rcases hk:stepO t c n o r with⟨e,r'⟩
  rw[hk]at hs
  rcases hs with hs|hs <;> (simp only at hs;subst hs)
  ·exact opsC_nf3 hnm i os (j+1) r' (fun u hu=>h u (mC_ _ hu))
  ·exact .inr ⟨_,rfl,rfl⟩
theorem nogC_nf3 : ∀ (l:List Nogood)(i r:Int),(∀ n∈l,n∈c.Nogoods)→NF (nogC t c l i r).2.2
 | [],i,r,_=>.inl rfl
 | n :: ns,i,r,h=>by
  rw[nogC]
  rcases opsC_nf3 F hc ha hn (h n (mS_ ..)) i t.Ops 0 r (fun _ h=>h)with⟨r',h1⟩|⟨x,h1,h2⟩
  ·rw[h1];exact nogC_nf3 ns (i+1) r' (fun u hu=>h u (mC_ _ hu))
  ·rw[h1];exact .inr h2
theorem stepO_fit {n:Nogood}(hnm:n∈c.Nogoods){o:GOp}(ho:o∈t.Ops)(r:Int)(hr:5056≤r):∃ r',stepO t c n o r=(.nil,r')∧r-5056≤r':=by
 unfold stepO
 split
 ·exact⟨r,rfl,by omega⟩
 ·rename_i hsk
  obtain⟨l,l1,l2,l3,l4⟩:=cov_all F hc ha hn hnm ho (Bool.eq_false_iff.2 hsk)
  rw[l1]
  obtain⟨r',h1,h2⟩:=stepL_fit F hc (distO c n o) l r l2 l4 (by omega)
  exact⟨r',h1,by omega⟩
theorem opsC_fit {n:Nogood}(hnm:n∈c.Nogoods)(i:Int):∀ (l:List GOp)(j r:Int),(∀ o∈l,o∈t.Ops)→5056*(l.length:Int)≤r→∃ r',opsC t c n i l j r=.inl r'∧r-5056*(l.length:Int)≤r'
 | [],j,r,_,_=>⟨r,rfl,by simp⟩
 | o :: os,j,r,h,hr=>by
  rw[lC_]at hr ⊢
  obtain⟨r1,e1,h1⟩:=stepO_fit F hc ha hn hnm (h o (mS_ ..)) r (by omega)
  rw[opsC,e1]
  obtain⟨r2,e2,h2⟩:=opsC_fit hnm i os (j+1) r1 (fun u hu=>h u (mC_ _ hu)) (by omega)
  exact⟨r2,e2,by omega⟩
theorem nogC_fit : ∀ (l:List Nogood)(i r:Int),(∀ n∈l,n∈c.Nogoods)→50560*(l.length:Int)≤r→nogC t c l i r=(-1,-1,.nil)
 | [],i,r,_,_=>rfl
 | n :: ns,i,r,h,hr=>by
  have ho:=F.ops
  rw[lC_]at hr
  obtain⟨r1,e1,h1⟩:=opsC_fit F hc ha hn (h n (mS_ ..)) i t.Ops 0 r (fun _ h=>h) (by omega)
  rw[nogC,e1]
  exact nogC_fit ns (i+1) r1 (fun u hu=>h u (mC_ _ hu)) (by omega)
theorem acc_ver3 : NF (verF t c 1048576)∧(c.Nogoods.length≤20→verF t c 1048576=.nil):=by
 unfold verF whereF
 rw[(good_check t).1 F.good]
 simp only
 rw[(properF_nil t.Vars c).2 hc]
 simp only
 unfold whereC
 have hi:¬ (c.Nogoods.any fun n=>holdsF t.Init n.1)=true:=fun h=>by
  obtain⟨n,hn,h2⟩:=List.any_eq_true.1 h
  rw[ha.init n hn]at h2
  cases h2
 rw[if_neg hi,show max 0 (min (1048576:Int) 1048576)=1048576 from by decide]
 split
 ·exact⟨nogC_nf3 F hc ha hn _ _ _ fun _ h=>h,fun hl=>by rw[nogC_fit F hc ha hn _ _ _ (fun _ h=>h) (by omega)]⟩
 ·rename_i hb
  have hgp:=good_goal F.good
  have hg:covB t c 0 t.Goal=true:=(covB_true F.good hc hgp 0).2 fun s hs hh=>ha.goal hb s ((allF_mem t s).2 hs) hh
  have hal:=allF_len t F.small
  have hcnt:cntS (allF t) t.Goal≤(allF t).length:=List.length_filter_le _ _
  obtain⟨r',e,h2⟩:=ask_fit F hc hgp 0 1048576 (by omega)
  rw[e,hg]
  exact⟨nogC_nf3 F hc ha hn _ _ _ fun _ h=>h,fun hl=>by show(nogC t c c.Nogoods 0 r').2.2=_;rw[nogC_fit F hc ha hn _ _ _ (fun _ h=>h) (by omega)]⟩
end
structure MxR (t:GTask)(R:List (List Bool)):Prop where
 rk:RkR t R
 sy:SyR t R
 init:∀ c d,hold1 t.Init c=true→hold1 t.Init d=true→isF t R c d=true
 closed:ClosedM t R
theorem good_init {t:GTask}(hg:goodF t=true):stateF t.Vars t.Init=true:=by
 unfold goodF at hg
 simp only[bA_]at hg
 exact hg.2.2.1
theorem good_vars {t:GTask}(hg:goodF t=true):t.Vars.length≤64∧t.Ops.length≤4096∧∀ k∈t.Vars,1≤k∧k≤64:=by
 unfold goodF at hg
 simp only[bA_,decide_eq_true_iff,List.all_eq_true]at hg
 exact⟨hg.1.1,hg.1.2,hg.2.1⟩
theorem new_first {t:GTask}(ht:ShT t)(hg:goodF t=true)(g:Nat):M_mutex_New g t=if sumI t.Vars>512 then some (none,Er.no 5)else ob1 (M_mutex_New_L4 t (offG 0 t.Vars) (zeroR t) t ((((t.Init.map cI).length:Int)).toNat+1) (zeroR t) 0) (fun v122=>M_mutex_New_L6 g (offG 0 t.Vars) (zeroR t) t g v122 true []):=by
 obtain⟨h1,h2,h3⟩:=good_vars hg
 have e1:=M_mutex_New_L1_eq t 0 [] (by omega)
 have e2:=new1 t t.Vars 0 0 [] h3 (by decide) (by omega) (by rw[lN_];omega)
 rw[Int.zero_add,List.nil_append]at e2
 rw[M_mutex_New,check_eq t ht,(good_check t).1 hg,ob1_some,erM,copied_eq hg,ob1_some,e1,e2,ob1_some]
 dsimp only
 rw[sel_dec]
 split
 ·rfl
 ·rename_i hs
  have hp:∀ k∈t.Vars,1≤k:=fun k hk=>(h3 k hk).1
  have hn:=sumI_nn hp
  have hm:sumI t.Vars=((sumI t.Vars).toNat:Int):=by omega
  have e3:=M_mutex_New_L2_eq (sumI t.Vars) [] hm (by omega)
  have e4:=new2 (sumI t.Vars).toNat (by omega) (sumI t.Vars).toNat 0 [] (by rw[lN_];omega)
  rw[← hm,List.nil_append]at e4
  have hl:(zeroR t).length≤512:=by rw[zeroR,lR_];omega
  have e5:M_mutex_New_L2 (sumI t.Vars) ((sumI t.Vars).toNat+1) 0 []=some (zeroR t):=by rw[e3];exact e4
  rw[e5,ob1_some,offG_len,grd_t (by omega),grd_t (by omega)]
theorem new_eq {t:GTask}(F:Fit3 t)(ht:ShT t)(g:Nat)(hg:1000000≤g){Q:List (List Bool)→Prop}(hQ:Pres t Q)(hQ0:∀ R,RkR t R→SyR t R→(∀ c d,InV t.Vars c→InV t.Vars d→(isF t R c d=true↔hold1 t.Init c=true∧hold1 t.Init d=true))→Q R):∃ R,M_mutex_New g t=some (some (tbl t R),Er.nil)∧MxR t R∧Q R:=by
 have hz:=F.sz
 have hst:=stateF_st (good_init F.good)
 have hl:=hst.len
 have hv:=F.vlen
 have hsm:=hz.small
 obtain⟨R1,e1,k1,k2,k3⟩:=new4 hz hst (zeroR t) t.Init 0 (zeroR t) rfl (zero_rk hz) (zero_sy t)
 rw[show((0:Nat):Int)=0 from rfl]at e1
 have hi:∀ c d,InV t.Vars c→InV t.Vars d→(isF t R1 c d=true↔hold1 t.Init c=true∧hold1 t.Init d=true):=fun c d hc hd=>by
  rw[k3 c d hc hd,zero_is,show((0:Nat):Int)=0 from rfl,stG_hold,stG_hold]
  simp only[Bool.false_eq_true,false_or]
  constructor
  ·rintro(h|⟨h1,h2⟩)
   ·exact h
   ·exact⟨h2,h1⟩
  ·exact .inl
 have hq:=hQ0 R1 k1 k2 hi
 obtain⟨R,f1,f2,f3,f4,f5,f6⟩:=new6 F ht g (by omega) hQ (zeroR t) 262144 g R1 [] k1 k2 hq (fun _ _ _ _ _ _ _ h=>by simp[getM]at h) (rest_le hz R1) (by omega)
 refine⟨R,?_,⟨f2,f3,fun c d hc hd=>?_,f6⟩,f4⟩
 ·rw[new_first ht F.good g,if_neg (by omega),M_mutex_New_L4_eq t (offG 0 t.Vars) (zeroR t) t (zeroR t) (by omega),e1,ob1_some]
  exact f1
 ·have hc':=hold_in hst hc
  have hd':=hold_in hst hd
  exact f5 c d hc' hd' ((hi c d hc' hd').2 ⟨hc,hd⟩)
def reaF (t:GTask)(R:List (List Bool))(f:Fact):Bool:=propF t.Vars (-1) [f]&&isF t R f f
section
variable {t : GTask} (hz : Sz t) {R : List (List Bool)} (hR : RkR t R)
include hz hR
theorem reached_eq (f:Fact):M_stratagem_mutex_Table_Reached (some (tbl t R)) f=some (reaF t R f):=by
 rw[M_stratagem_mutex_Table_Reached,opM,M_stratagem_mutex_Table_has,show(tbl t R).t=t from rfl,facts_eq t.Vars [f] (by show 1≤_;decide),ob1_some,ob1_some,reaF]
 cases h:propF t.Vars (-1) [f]with
 | false=>rfl
 | true =>
  have hf:=inV_iff.1 h
  rw[sel_tt,is_eq (tb_of hz hR) hf hf]
  rfl
omit hz hR in
theorem ng_loop (z:List (List Fact)):∀ (r:List (List Fact))(i:Int)(v:List Nogood),v.length+r.length≤1000000→Rg (M_stratagem_mutex_Table_Nogoods_L1_B z) (M_stratagem_mutex_Table_Nogoods_L1_E z) r i v=some (v++r.map fun p=>(p,(0:Int)))
 | [],i,v,h=>by
  rw[lN_]at h
  rw[Rg,M_stratagem_mutex_Table_Nogoods_L1_E,grd_t (by omega),List.map_nil,List.append_nil]
 | p :: r,i,v,h=>by
  rw[lC_]at h
  rw[Rg,M_stratagem_mutex_Table_Nogoods_L1_B,ixv,grd_t (by omega),ng_loop z r (i+1) _ (by rw[lA_,List.length_singleton];omega),List.append_assoc]
  rfl
def ngF (t:GTask)(R:List (List Bool)):List Nogood:=(openF t R).map fun p=>(p,(0:Int))
theorem nogoods_eq : M_stratagem_mutex_Table_Nogoods (some (tbl t R))=some (ngF t R):=by
 have hl:=openF_len hz R
 rw[M_stratagem_mutex_Table_Nogoods,opM,open_eq (tb_of hz hR),ob1_some,M_stratagem_mutex_Table_Nogoods_L1_eq _ _ (by show(openF t R).length<_;omega)]
 exact ng_loop _ _ 0 [] (by rw[lN_];show 0+(openF t R).length≤_;omega)
end
def Alive (t:GTask)(R:List (List Bool))(s:List Int):Prop:=∀ a b,hold1 s a=true→hold1 s b=true→isF t R a b=true
theorem alive_iff {t:GTask}{R:List (List Bool)}{s:List Int}:okF t R (stG s 0)=true↔Alive t R s:=by
 rw[okF_iff]
 constructor
 ·intro h a b ha hb;exact h a (stG_hold.2 ha) b (stG_hold.2 hb)
 ·intro h a ha b hb;exact h a b (stG_hold.1 ha) (stG_hold.1 hb)
theorem touch_not {o:GOp}{p:List Fact}(h:touchF o p=false){s:List Int}{f:Fact}(hf:f∈p):valF s o f.1=s.getD f.1.toNat 0:=by
 have:o.Effs.filter (fun e=>e.Var == f.1)=[]:=List.filter_eq_nil_iff.2 fun e he hv=>by
  unfold touchF at h
  rw[List.any_eq_false]at h
  refine h e he (List.any_eq_true.2 ⟨f,hf,?_⟩)
  simp only[beq_iff_eq]at hv ⊢
  exact hv.symm
 unfold valF
 rw[this]
 rfl
theorem alive_step {t:GTask}(F:Fit3 t){R:List (List Bool)}(hc:ClosedM t R){s:List Int}(hs:StP t.Vars s)(ha:Alive t R s){o:GOp}(ho:o∈t.Ops)(hp:holdsF s o.Pre=true){a b:Fact}(hab:SetP t a b)(h1:hold1 (nextF s o) a=true)(h2:hold1 (nextF s o) b=true)(h3:a=b∨(isF t R a a=true∧isF t R b b=true)):isF t R a b=true:=by
 refine Decidable.byContradiction fun hf=>?_
 have hf:isF t R a b=false:=Bool.eq_false_iff.2 hf
 have hm:=hc _ (open_mem.2 ⟨a,b,hab,rfl,hf,h3⟩)
 have hnext:holdsF (nextF s o) (pset a b)=true:=holdsF_iff.2 fun x hx=>by
  rcases pset_mem.1 hx with rfl|rfl
  ·exact h1
  ·exact h2
 have hval:=(holds_next F.good hs ho hab.prop).1 hnext
 cases ht:touchF o (pset a b)with
 | false =>
  have hk:∀ x∈pset a b,hold1 s x=true:=fun x hx=>by
   have e:=hval x hx
   rw[touch_not ht hx]at e
   have hin:InV t.Vars x:=by
    rcases pset_mem.1 hx with rfl|rfl
    ·exact hab.ia
    ·exact hab.ib
   have hl:=hs.len
   exact hold1_iff.2 ⟨hin.1,by have:=hin.2.1;omega,e⟩
  rw[ha a b (hk a (pset_mem.2 (.inl rfl))) (hk b (pset_mem.2 (.inr rfl)))]at hf
  cases hf
 | true =>
  obtain⟨r1,r2,-⟩:=reg_ok F hab ho
  obtain⟨z,hz,hzs⟩:=(some_regO F.good ho hs hab.prop r1).2 ⟨hp,hval⟩
  have hok:okF t R z=true:=okF_iff.2 fun x hx y hy=>ha x y (holdsF_iff.1 hzs x hx) (holdsF_iff.1 hzs y hy)
  have:madeF t R (pset a b)=true:=List.any_eq_true.2 ⟨o,ho,by rw[madeO,ht,Bool.true_and];exact List.any_eq_true.2 ⟨z,hz,hok⟩⟩
  rw[this]at hm
  cases hm
theorem alive_next {t:GTask}(F:Fit3 t){R:List (List Bool)}(hS:SyR t R)(hc:ClosedM t R){s:List Int}{o:GOp}(hs:StP t.Vars s)(hs':StP t.Vars (nextF s o))(ha:Alive t R s)(ho:o∈t.Ops)(hp:holdsF s o.Pre=true):Alive t R (nextF s o):=fun a b h1 h2=>by
 have ia:=hold_in hs' h1
 have ib:=hold_in hs' h2
 have one:∀ x,hold1 (nextF s o) x=true→isF t R x x=true:=fun x hx =>
  alive_step F hc hs ha ho hp ⟨hold_in hs' hx,hold_in hs' hx,.inl rfl⟩ hx hx (.inl rfl)
 rcases Int.lt_trichotomy a.1 b.1 with h|h|h
 ·exact alive_step F hc hs ha ho hp ⟨ia,ib,.inr h⟩ h1 h2 (.inr ⟨one a h1,one b h2⟩)
 ·have e1:=(hold1_iff.1 h1).2.2
  have e2:=(hold1_iff.1 h2).2.2
  rw[h]at e1
  have:a=b:=Prod.ext h (e1.symm.trans e2)
  rw[this]
  exact one b h2
 ·rw[hS a b ia ib]
  exact alive_step F hc hs ha ho hp ⟨ib,ia,.inr h⟩ h2 h1 (.inr ⟨one b h2,one a h1⟩)
def fit3F (t:GTask):Bool:=tameF t&&(decide (t.Ops.length≤10)&&decide (t.Vars.length≤6))
theorem fit3_eq (t:GTask)(ht:ShT t):M_l33_fit t=some (fit3F t):=by
 rw[M_l33_fit,tame_eq t ht,ob1_some,lM_,lM_,fit3F]
 have e1:decide ((t.Ops.length:Int)≤10)=decide (t.Ops.length≤10):=decide_eq_decide.2 (by omega)
 have e2:decide ((t.Vars.length:Int)≤6)=decide (t.Vars.length≤6):=decide_eq_decide.2 (by omega)
 rw[e1,e2]
 cases tameF t <;> cases decide (t.Ops.length≤10) <;> rfl
theorem fit3_of {t:GTask}(h:fit3F t=true):Fit3 t:=by
 unfold fit3F at h
 rw[bA_,bA_,decide_eq_true_iff,decide_eq_true_iff]at h
 obtain⟨h1,h2,h3⟩:=h
 have hs:=tame_small h1
 obtain⟨hg,hv,-⟩:=small_good hs
 unfold tameF at h1
 simp only[bA_,List.all_eq_true,decide_eq_true_iff]at h1
 have hd:=h1.2.1
 have hp:prodN t.Vars≤512:=by
  have hm:=manyF_prod 512 t.Vars 1 (fun k hk=>by have:=hd k hk;omega) (by decide) (by decide)
  rw[show((512:Nat):Int)=512 from rfl,show((1:Nat):Int)=1 from rfl,Nat.one_mul]at hm
  have h512:manyF 512 t.Vars 1≤512:=by
   have:=hs
   unfold smallF at this
   simp only[bA_,decide_eq_true_iff]at this
   exact this.2.2.2
  rw[hm]at h512
  split at h512 <;> omega
 refine⟨hg,hs,h2,h3,hd,hp,fun o ho=>?_⟩
 have:=h1.2.2 o ho
 unfold tameO twoF at this
 simp only[bA_,List.all_eq_true,decide_eq_true_iff]at this
 exact this
def tA : GTask:={ Vars:=[3],Init:=[0],Goal:=[],Ops:=[{ Name:=(⟨#[]⟩:ByteArray),Cost:=0,Pre:=[],Effs:=[{ When:=[],Var:=0,Val:=1:GEffect }]:GOp }] }
def oA : GOp:={ Name:=(⟨#[]⟩:ByteArray),Cost:=0,Pre:=[],Effs:=[{ When:=[],Var:=0,Val:=1:GEffect }] }
theorem tA_fit : Fit3 tA:=fit3_of (by rfl)
theorem tA_sh : ShT tA:=⟨by show _≤_;decide,by show _≤_;decide,by show _≤_;decide,by show _≤_;decide,fun o ho=>by
 obtain rfl:o=oA:=mI_.1 ho
 exact⟨by show _≤_;decide,by show _≤_;decide,by show _≤_;decide,fun e he=>by
  obtain rfl:=mI_.1 he
  show _≤_
  decide⟩⟩
theorem tA_not : regG [3] oA [(0,2)] [[]]=some []:=by rfl
theorem tA_reg : regS tA oA [(0,2)]=[]:=by
 have h:regO tA.Vars oA [(0,2)]=some (sortLL (minF [])):=by
  rw[regO]
  show(regG [3] oA [(0,2)] [[]]).map _=_
  rw[tA_not]
  rfl
 rw[regS,h,Option.getD_some]
 refine List.length_eq_zero_iff.1 ?_
 rw[sortLL_length]
 rfl
theorem tA_new (g:Nat)(hg:1000000≤g):∃ R,M_mutex_New g tA=some (some (tbl tA R),Er.nil)∧MxR tA R∧isF tA R (0,2) (0,2)=false:=by
 have h2:InV tA.Vars (0,2):=⟨by decide,by decide,by decide,by decide⟩
 refine new_eq tA_fit tA_sh g hg (Q:=fun R=>isF tA R (0,2) (0,2)=false) (fun R a b hR _ hq hs hm=>?_) (fun R _ _ hi=>?_)
 ·refine Bool.eq_false_iff.2 fun h=>?_
  rcases(put_is hR tA_fit.sz.pos hs.ia hs.ib h2 h2).1 h with h|⟨h,h'⟩|⟨h,h'⟩
  ·rw[hq]at h;cases h
  ·rw[← h,← h']at hm
   obtain⟨o,ho,hm⟩:=List.any_eq_true.1 hm
   obtain rfl:o=oA:=mI_.1 ho
   rw[madeO,show pset ((0:Int),(2:Int)) (0,2)=[(0,2)]from rfl,tA_reg,List.any_nil,Bool.and_false]at hm
   cases hm
  ·rw[← h,← h']at hm
   obtain⟨o,ho,hm⟩:=List.any_eq_true.1 hm
   obtain rfl:o=oA:=mI_.1 ho
   rw[madeO,show pset ((0:Int),(2:Int)) (0,2)=[(0,2)]from rfl,tA_reg,List.any_nil,Bool.and_false]at hm
   cases hm
 ·refine Bool.eq_false_iff.2 fun h=>?_
  have:=((hi _ _ h2 h2).1 h).1
  exact absurd this (by decide)
theorem awake3 (g:Nat)(hg:1000000≤g):M_l33_awake g=some true:=by
 obtain⟨R,h1,h2,h3⟩:=tA_new g hg
 have hz:=tA_fit.sz
 have hin:InV tA.Vars (0,1):=⟨by decide,by decide,by decide,by decide⟩
 have hs:StP tA.Vars tA.Init:=stateF_st (good_init tA_fit.good)
 have hal:Alive tA R tA.Init:=fun a b ha hb=>h2.init a b ha hb
 have h4:isF tA R (0,1) (0,1)=true:=alive_step tA_fit h2.closed hs hal (o:=oA) (mI_.2 rfl) (by decide) ⟨hin,hin,.inl rfl⟩ (by decide) (by decide) (.inl rfl)
 rw[M_l33_awake]
 show ob2 (M_mutex_New g tA) _=_
 rw[h1,ob2_some]
 show ob1 (M_stratagem_mutex_Table_Reached (some (tbl tA R)) (0,1)) _=_
 have e1:reaF tA R (0,1)=true:=by rw[reaF,h4];rfl
 have e2:reaF tA R (0,2)=false:=by rw[reaF,h3,Bool.and_false]
 rw[reached_eq hz h2.rk,ob1_some,e1,sel_tt,reached_eq hz h2.rk,ob1_some,e2]
 rfl
theorem law_head {t:GTask}(ht:ShT t)(g:Nat)(hg:1000000≤g){k:Unit→Option Bool}(h:Fit3 t→k ()=some true):ob1 (ob1 (M_l33_fit t) (fun z7 =>
    sel (!z7)
     (ob1 (M_l33_awake g) (fun z10 =>
       some (.inr z10)))
     (ob1 (M_l33_awake g) (fun z8 =>
       sel (!z8)
        (ob1 (M_l33_awake g) (fun z9 =>
          some (.inr z9)))
        (some (.inl ()))))):Option (Unit⊕Bool)) (osum k (fun r5=>some r5))=some true:=by
  rw[fit3_eq t ht,ob1_some,awake3 g hg,ob1_some,ob1_some]
  cases hf:fit3F t with
  | false=>rfl
  | true =>
    rw[Bool.not_true,sel_ff,sel_ff,ob1_some,osum_inl]
    exact h (fit3_of hf)
theorem rg_any {α γ:Type}{B:α→Int→Bool→(Bool→Option γ)→Option γ}{E:Bool→Option γ}{q:α→Bool}:∀ {l:List α}{i:Int}{v:Bool},(∀ y∈l,∀ i v rc,B y i v rc=rc (v||q y))→Rg B E l i v=E (v||l.any q)
 | [],i,v,_=>by rw[Rg,List.any_nil,Bool.or_false]
 | y :: r,i,v,h=>by
  rw[Rg,h y (mS_ ..),rg_any (fun z hz=>h z (mC_ _ hz)),List.any_cons,Bool.or_assoc]
end Go.Proofs.YtinnphmnhmdcgaaGreat.Am
namespace Go.Proofs.YtinnphmnhmdcgaaGreat.Am
end Go.Proofs.YtinnphmnhmdcgaaGreat.Am
namespace Go.Proofs.YtinnphmnhmdcgaaGreat.Am
open Go.RowKit
theorem dead_any {t:GTask}{R:List (List Bool)}(hS:SyR t R){s:List Int}(hs:StP t.Vars s):(ngF t R).any (fun n=>holdsF s n.1)=!okF t R (stG s 0):=by
 rw[Bool.eq_iff_iff,Bool.not_eq_true',Bool.eq_false_iff,ne_eq,alive_iff,List.any_eq_true]
 constructor
 ·rintro⟨n,hn,hh⟩ ha
  obtain⟨p,hp,rfl⟩:=List.mem_map.1 hn
  obtain⟨a,b,hab,rfl,hf,-⟩:=open_mem.1 hp
  have h:=holdsF_iff.1 hh
  rw[ha a b (h a (pset_mem.2 (.inl rfl))) (h b (pset_mem.2 (.inr rfl)))]at hf
  cases hf
 ·intro hna
  refine Classical.byContradiction fun hno=>hna fun a b ha hb=>?_
  have ia:=hold_in hs ha
  have ib:=hold_in hs hb
  have key:∀ a b,SetP t a b→hold1 s a=true→hold1 s b=true→(a=b∨(isF t R a a=true∧isF t R b b=true))→isF t R a b=true:=fun a b hab h1 h2 h3=>by
   refine Decidable.byContradiction fun hf=>hno ⟨(pset a b,0),List.mem_map.2 ⟨pset a b,open_mem.2 ⟨a,b,hab,rfl,Bool.eq_false_iff.2 hf,h3⟩,rfl⟩,?_⟩
   refine holdsF_iff.2 fun x hx=>?_
   rcases pset_mem.1 hx with rfl|rfl
   ·exact h1
   ·exact h2
  have one:∀ x,hold1 s x=true→isF t R x x=true:=fun x hx=>key x x ⟨hold_in hs hx,hold_in hs hx,.inl rfl⟩ hx hx (.inl rfl)
  rcases Int.lt_trichotomy a.1 b.1 with h|h|h
  ·exact key a b ⟨ia,ib,.inr h⟩ ha hb (.inr ⟨one a ha,one b hb⟩)
  ·have e1:=(hold1_iff.1 ha).2.2
   have e2:=(hold1_iff.1 hb).2.2
   rw[h]at e1
   have:a=b:=Prod.ext h (e1.symm.trans e2)
   rw[this]
   exact one b hb
  ·rw[hS a b ia ib]
   exact key b a ⟨ib,ia,.inr h⟩ hb ha (.inr ⟨one b hb,one a ha⟩)
end Go.Proofs.YtinnphmnhmdcgaaGreat.Am
namespace Go.Proofs.YtinnphmnhmdcgaaGreat.Am
end Go.Proofs.YtinnphmnhmdcgaaGreat.Am
namespace Go.Proofs.YtinnphmnhmdcgaaGreat.Am
open Go.RowKit
section
variable {t : GTask} (hz : Sz t) {R : List (List Bool)} (hR : RkR t R) (hS : SyR t R)
include hz hR
include hS in
include hS in
end
theorem openF_small {t:GTask}(F:Fit3 t)(R:List (List Bool)):(openF t R).length≤4096:=by
 have h:(allL t.Vars).length≤24:=by
  have:=factsG_len t.Vars 0 F.sz.pos
  have:=sumI_le (r:=t.Vars) (m:=4) fun k hk=>(F.dom k hk).2
  have:=F.vlen
  unfold allL
  omega
 have h1:=oneF_len (t:=t) R (allL t.Vars)
 have h2:=pairG_len (t:=t) (R:=R) (allL t.Vars)
 have h3:=Nat.mul_le_mul h h
 unfold openF
 rw[lA_]
 omega
theorem ng_prop {t:GTask}{R:List (List Bool)}:∀ n∈ngF t R,propF t.Vars (-1) n.1=true∧n.2=0∧1≤n.1.length∧n.1.length≤2:=fun n hn=>by
 obtain⟨p,hp,rfl⟩:=List.mem_map.1 hn
 obtain⟨a,b,hs,rfl,-⟩:=open_mem.1 hp
 refine⟨hs.prop,rfl,?_,hs.sh⟩
 show 1≤(pset a b).length
 unfold pset
 split <;> simp
theorem ng_sh {t:GTask}(F:Fit3 t)(R:List (List Bool)):ShC { Bound:=-1,Nogoods:=ngF t R }:=by
 have h:=openF_small F R
 refine⟨?_,fun n hn=>?_⟩
 ·show(ngF t R).length≤_
  rw[ngF,lM_];omega
 ·have:=(ng_prop n hn).2.2.2
  show n.1.length≤_
  omega
theorem ng_cert {t:GTask}(F:Fit3 t)(R:List (List Bool)):properF t.Vars { Bound:=-1,Nogoods:=ngF t R }=.nil:=by
 have hl:(ngF t R).length≤4096:=by rw[ngF,lM_];exact openF_small F R
 have hv:=F.vlen
 have h1:certF { Bound:=-1,Nogoods:=ngF t R }=.nil:=by
  unfold certF
  dsimp only
  rw[if_neg (by omega),if_neg (by omega),if_pos,if_pos]
  ·rw[List.all_eq_true]
   intro n hn
   have:=(ng_prop n hn).2.1
   unfold distF
   rw[decide_eq_true_iff]
   omega
  ·rw[List.all_eq_true]
   intro n hn
   obtain⟨h1,-⟩:=ng_prop n hn
   obtain⟨hv1,hr⟩:=(propF_iff t.Vars n.1 (-1)).1 h1
   unfold frmF limF
   rw[hv1,Bool.true_and,List.all_eq_true]
   intro f hf
   have:=(propF_iff t.Vars n.1 (-1)).1 h1
   have h2:=hr f hf
   have h3:=inV_at h1 f hf
   have h4:t.Vars.getD f.1.toNat 0≤4:=by
    rw[gD_]
    cases hg:t.Vars[f.1.toNat]? with
    | none=>simp
    | some n=>exact(F.dom n (mG_ hg)).2
   rw[decide_eq_true_iff]
   omega
 unfold properF
 rw[h1]
 dsimp only
 rw[if_pos]
 rw[List.all_eq_true]
 exact fun n hn=>(ng_prop n hn).1
def M_l33_contains_L1 (a0:List Fact)(y105:Fact):Nat→Bool→Int→Option (Bool)|0,_,_=>none|k122+1,v120,v121=>sel (decide (v121<((a0.map cF).length:Int))) (ix a0 v121 (fun y123=>sel v120 (M_l33_contains_L1 a0 y105 k122 true (IntKind.i64.wrap (v121+1))) (M_l33_contains_L1 a0 y105 k122 (y105.1 == y123.1&&y105.2 == y123.2) (IntKind.i64.wrap (v121+1))))) (some v120)
def M_l33_contains_L2 (a0:List Fact)(a1:List Fact):Nat→Int→Option (Bool)|0,_=>none|k83+1,v82=>sel (decide (v82<((a1.map cF).length:Int))) (ob1 (ix a1 v82 (fun y105=>ob1 (M_l33_contains_L1 a0 y105 ((((a0.map cF).length:Int)).toNat+1) false 0:Option (Bool)) (fun v114=>sel (!v114) (some (.inr false)) (some (.inl ())))):Option (Unit⊕Bool)) (osum (fun _=>M_l33_contains_L2 a0 a1 k83 (IntKind.i64.wrap (v82+1))) (fun r103=>some r103))) (some true)
def M_l33_contains (a0:List Fact)(a1:List Fact):Option (Bool):=M_l33_contains_L2 a0 a1 ((((a1.map cF).length:Int)).toNat+1) 0
set_option maxHeartbeats 16000000 in
set_option maxRecDepth 100000 in
theorem A_l33_contains (a0:List Fact)(a1:List Fact){r1:Bool}(h:M_l33_contains a0 a1=some r1):ACall cx 36 [.sl 2 (a0.map cF),.sl 2 (a1.map cF)] (.c (.bool r1)):=by
 refine aOf Tryz.func36 rfl (by decide) rfl (bT3 rfl) ?_;intro _;unfold M_l33_contains at h;refine aSR ?_;intro _;refine dr (aSq (aSR ?_));intro _;refine dr (aBk ?_);refine awp_loop (α:=Nat×Int) (fun x=>mkS 32 [(0,.sl 2 (a0.map cF)),(10,.sl 2 (a1.map cF)),(11,.c (.int .i64 ((a1.map cF).length:Int))),(12,.c (.int .i64 x.2))] []) (fun x=>M_l33_contains_L2 a0 a1 x.1 x.2=some r1) (fun x=>x.1) ((((a1.map cF).length:Int)).toNat+1,0) h ?_ ?_
 ·exact ca_0
 ·intro x1 h;intro _;obtain⟨k83,m2,h⟩:=succ_of (f:=fun n=>M_l33_contains_L2 a0 a1 n x1.2) rfl h;replace h:M_l33_contains_L2 a0 a1 (k83+1) x1.2=some r1:=h;rw[M_l33_contains_L2]at h;refine aSR ?_;intro _;refine dr (aSq (aCd ?_));intro _;refine spl h (fun c3 h=>?_) (fun c3 h=>?_)
  ·refine aSk ?_;obtain⟨o4,h,hK5⟩:=ob1_ok h;refine awp_cut (α:=Unit) (fun _=>mkS 32 [(0,.sl 2 (a0.map cF)),(10,.sl 2 (a1.map cF)),(11,.c (.int .i64 ((a1.map cF).length:Int))),(12,.c (.int .i64 x1.2))] []) (fun v=>o4=(.inl v)) ?_ ?_
   ·refine aBk (aSR ?_);intro _;obtain⟨y105,w6,q7,h⟩:=ix_ok h;refine Exists.intro (cF y105) (And.intro (map_at' w6) ?_);intro _;refine pr (dr (aSR ?_));intro _;refine dr ?_;obtain⟨o8,h,hK9⟩:=ob1_ok h;refine awp_cut (α:=Bool) (fun v114=>mkS 32 [(0,.sl 2 (a0.map cF)),(7,.c (.bool v114)),(10,.sl 2 (a1.map cF)),(11,.c (.int .i64 ((a1.map cF).length:Int))),(12,.c (.int .i64 x1.2))] []) (fun v=>o8=v) ?_ ?_
    ·refine aSR ?_;intro _;refine dr (aBk ?_);refine awp_loop (α:=Nat×Bool×Int) (fun x=>mkS 32 [(0,.sl 2 (a0.map cF)),(6,.ptr 6 0 0 0),(7,.c (.bool x.2.1)),(10,.sl 2 (a1.map cF)),(11,.c (.int .i64 ((a1.map cF).length:Int))),(12,.c (.int .i64 x1.2)),(16,.sl 2 (a0.map cF)),(17,.c (.int .i64 ((a0.map cF).length:Int))),(18,.c (.int .i64 x.2.2))] [(6,⟨39,2,true,[[.c (.int .i64 y105.1),.c (.int .i64 y105.2)]]⟩)]) (fun x=>M_l33_contains_L1 a0 y105 x.1 x.2.1 x.2.2=some o8) (fun x=>x.1) ((((a0.map cF).length:Int)).toNat+1,false,0) h ?_ ?_
     ·exact ca_0
     ·intro x10 h;intro _;obtain⟨k122,m11,h⟩:=succ_of (f:=fun n=>M_l33_contains_L1 a0 y105 n x10.2.1 x10.2.2) rfl h;replace h:M_l33_contains_L1 a0 y105 (k122+1) x10.2.1 x10.2.2=some o8:=h;rw[M_l33_contains_L1]at h;refine aSR ?_;intro _;refine dr (aSq (aCd ?_));intro _;refine spl h (fun c12 h=>?_) (fun c12 h=>?_)
      ·refine aSk (aSq (aBk (aSR ?_)));intro _;obtain⟨y123,w13,q14,h⟩:=ix_ok h;refine Exists.intro (cF y123) (And.intro (map_at' w13) ?_);intro _;refine pr (dr (aRg ?_));intro _;refine spf h (fun c15 h=>?_) (fun c15 h=>?_)
       ·intro _;refine⟨_,lf_eq2 rfl (bT3 rfl) rfl rfl (eqFact _ _ _ _) (eqFactG _ _ _ _ _ _ _) (.inl ⟨rfl,rfl⟩),?_⟩;intro _;refine dr (aRg ?_);intro _;refine dr ?_;refine⟨(k122,(y105.1 == y123.1&&y105.2 == y123.2),(IntKind.i64.wrap (x10.2.2+1))),h,ltS m11,?_⟩;exact ca_0
       ·intro _;refine dr (aRg ?_);intro _;refine dr ?_;refine⟨(k122,true,(IntKind.i64.wrap (x10.2.2+1))),h,ltS m11,?_⟩;exact ca_0
      ·refine aEx ?_;refine⟨x10.2.1,(sI_ h).symm,?_⟩;exact ca_0
    ·rintro v114 ho;have ho:=ho.symm;subst ho;intro _;replace h:=hK9;refine aSR ?_;intro _;refine dr (aCd ?_);intro _;refine spl h (fun c16 h=>?_) (fun c16 h=>?_)
     ·refine aSR ?_;intro _;refine dr (aRt ?_);have j17:=sI_ h;subst j17;replace h:=(osum_r hK5);intro _;obtain rfl:=inj1 h;exact ca_0
     ·refine aSk ?_;refine⟨(),(sI_ h).symm,?_⟩;exact ca_0
   ·rintro _ ho;have ho:=ho.symm;subst ho;intro _;replace h:=(osum_l hK5);refine aRg ?_;intro _;refine dr ?_;refine⟨(k83,(IntKind.i64.wrap (x1.2+1))),h,ltS m2,?_⟩;exact ca_0
  ·refine aEx (aSR ?_);intro _;refine dr (aRt ?_);intro _;obtain rfl:=inj1 h;exact ca_0
def M_l33_MutexCertificate_L1 (a0:GTask)(z14:List Nogood):Nat→Bool→Int→Option (Bool)|0,_,_=>none|k36+1,v34,v35=>sel (decide (v35<((z14.map cN).length:Int))) (ix z14 v35 (fun y37=>sel v34 (M_l33_MutexCertificate_L1 a0 z14 k36 true (IntKind.i64.wrap (v35+1))) (sel (decide (((y37.1.map cF).length:Int)>0)) (ob1 (M_l33_contains a0.Goal y37.1) (fun z38=>M_l33_MutexCertificate_L1 a0 z14 k36 z38 (IntKind.i64.wrap (v35+1)))) (M_l33_MutexCertificate_L1 a0 z14 k36 false (IntKind.i64.wrap (v35+1)))))) (some v34)
def M_l33_MutexCertificate (g:Nat)(a0:GTask):Option (Bool):=ob1 (ob1 (M_l33_fit a0) (fun z7=>sel (!z7) (ob1 (M_l33_awake g) (fun z10=>some (.inr z10))) (ob1 (M_l33_awake g) (fun z8=>sel (!z8) (ob1 (M_l33_awake g) (fun z9=>some (.inr z9))) (some (.inl ()))))):Option (Unit⊕Bool)) (osum (fun _=>ob2 (M_mutex_New g a0) (fun z11 z12=>erM z12 (ob1 (M_stratagem_mutex_Table_Nogoods z11) (fun z14=>ob1 (M_l33_MutexCertificate_L1 a0 z14 ((((z14.map cN).length:Int)).toNat+1) false 0:Option (Bool)) (fun v26=>sel (!v26) (some true) (ob1 (M_checker_Verify g a0 ({ Bound:=(-1),Nogoods:=z14:GCertificate }) 1048576) (fun z39=>erM z39 (ob1 (M_b_Best g a0) (fun z42=>sel (z42 == 1125899906842624) (some true) (some false))) (fun e41=>ob1 (M_b_Best g a0) (fun z43=>sel (z43 == 1125899906842624) (ob1 (M_b_Is (Er.no e41) 10) (fun z44=>sel z44 (some (decide (((z14.map cN).length:Int)>20))) (some false))) (some false)))))))) (fun _=>some false))) (fun r5=>some r5))
set_option maxHeartbeats 16000000 in
set_option maxRecDepth 100000 in
theorem A_l33_MutexCertificate (g:Nat)(a0:GTask){r1:Bool}(h:M_l33_MutexCertificate g a0=some r1):ACall cx 9 [.agg [.sl 1 (a0.Vars.map cI),.sl 1 (a0.Init.map cI),.sl 2 (a0.Goal.map cF),.sl 4 (a0.Ops.map cGOp)]] (.c (.bool r1)):=by
 refine aOf Tryz.func9 rfl (by decide) rfl (bT3 rfl) ?_;intro _;unfold M_l33_MutexCertificate at h;refine aSR ?_;intro _;refine dr ?_;obtain⟨o1,h,hK2⟩:=ob1_ok h;refine awp_cut (α:=Unit) (fun _=>mkS 70 [(1,.ptr 1 0 0 0)] [(1,⟨26,4,true,[[.sl 1 (a0.Vars.map cI),.sl 1 (a0.Init.map cI),.sl 2 (a0.Goal.map cF),.sl 4 (a0.Ops.map cGOp)]]⟩)]) (fun v=>o1=(.inl v)) ?_ ?_
 ·refine aSR ?_;intro _;obtain⟨z7,u3,h⟩:=ob1_ok h;refine cl rfl (A_l33_fit a0 u3) ?_;intro _;refine spf h (fun c4 h=>?_) (fun c4 h=>?_)
  ·intro _;obtain⟨z8,u5,h⟩:=ob1_ok h;refine cl rfl (A_l33_awake g u5) ?_;intro _;refine dr (aCd ?_);intro _;refine spl h (fun c6 h=>?_) (fun c6 h=>?_)
   ·refine aSR ?_;intro _;obtain⟨z9,u7,h⟩:=ob1_ok h;refine cl rfl (A_l33_awake g u7) ?_;intro _;refine dr (aRt ?_);have j8:=sI_ h;subst j8;replace h:=(osum_r hK2);intro _;obtain rfl:=inj1 h;exact ca_0
   ·refine aSk ?_;refine⟨(),(sI_ h).symm,?_⟩;exact ca_0
  ·intro _;refine dr (aCd ?_);intro _;refine litT (aSR ?_);intro _;obtain⟨z10,u9,h⟩:=ob1_ok h;refine cl rfl (A_l33_awake g u9) ?_;intro _;refine dr (aRt ?_);have j10:=sI_ h;subst j10;replace h:=(osum_r hK2);intro _;obtain rfl:=inj1 h;exact ca_0
 ·rintro _ ho;have ho:=ho.symm;subst ho;intro _;replace h:=(osum_l hK2);refine aSR ?_;intro _;obtain⟨z11,z12,u11,h⟩:=ob2_ok h;refine cl rfl (A_mutex_New g a0 u11) ?_;intro _;refine dr (aSq (aSq ?_));rcases z12 with _|e13
  ·replace h:=erM_nil h;refine aRg ?_;intro _;refine dr (aCd ?_);intro _;refine litF (aSk (aSR ?_));intro _;refine dr (aSR ?_);intro _;obtain⟨z14,u12,h⟩:=ob1_ok h;refine cl rfl (A_stratagem_mutex_Table_Nogoods z11 u12) ?_;intro _;refine dr ?_;obtain⟨o13,h,hK14⟩:=ob1_ok h;refine awp_cut (α:=Bool) (fun v26=>mkS 70 [(1,.ptr 1 0 0 0),(5,.c (.bool v26)),(6,.sl 2 (z14.map cN))] [(1,⟨26,4,true,[[.sl 1 (a0.Vars.map cI),.sl 1 (a0.Init.map cI),.sl 2 (a0.Goal.map cF),.sl 4 (a0.Ops.map cGOp)]]⟩)]) (fun v=>o13=v) ?_ ?_
   ·refine aSR ?_;intro _;refine dr (aBk ?_);refine awp_loop (α:=Nat×Bool×Int) (fun x=>mkS 70 [(1,.ptr 1 0 0 0),(5,.c (.bool x.2.1)),(6,.sl 2 (z14.map cN)),(27,.sl 2 (z14.map cN)),(28,.c (.int .i64 ((z14.map cN).length:Int))),(29,.c (.int .i64 x.2.2))] [(1,⟨26,4,true,[[.sl 1 (a0.Vars.map cI),.sl 1 (a0.Init.map cI),.sl 2 (a0.Goal.map cF),.sl 4 (a0.Ops.map cGOp)]]⟩)]) (fun x=>M_l33_MutexCertificate_L1 a0 z14 x.1 x.2.1 x.2.2=some o13) (fun x=>x.1) ((((z14.map cN).length:Int)).toNat+1,false,0) h ?_ ?_
    ·exact ca_0
    ·intro x15 h;intro _;obtain⟨k36,m16,h⟩:=succ_of (f:=fun n=>M_l33_MutexCertificate_L1 a0 z14 n x15.2.1 x15.2.2) rfl h;replace h:M_l33_MutexCertificate_L1 a0 z14 (k36+1) x15.2.1 x15.2.2=some o13:=h;rw[M_l33_MutexCertificate_L1]at h;refine aSR ?_;intro _;refine dr (aSq (aCd ?_));intro _;refine spl h (fun c17 h=>?_) (fun c17 h=>?_)
     ·refine aSk (aSq (aBk (aSR ?_)));intro _;obtain⟨y37,w18,q19,h⟩:=ix_ok h;refine Exists.intro (cN y37) (And.intro (map_at' w18) ?_);intro _;refine pr (dr (aRg ?_));intro _;refine spf h (fun c20 h=>?_) (fun c20 h=>?_)
      ·intro _;refine spl h (fun c21 h=>?_) (fun c21 h=>?_)
       ·intro _;obtain⟨z38,u22,h⟩:=ob1_ok h;refine cl rfl (A_l33_contains a0.Goal y37.1 u22) ?_;intro _;refine dr (aRg ?_);intro _;refine dr ?_;refine⟨(k36,z38,(IntKind.i64.wrap (x15.2.2+1))),h,ltS m16,?_⟩;exact ca_0
       ·intro _;refine dr (aRg ?_);intro _;refine dr ?_;refine⟨(k36,false,(IntKind.i64.wrap (x15.2.2+1))),h,ltS m16,?_⟩;exact ca_0
      ·intro _;refine dr (aRg ?_);intro _;refine dr ?_;refine⟨(k36,true,(IntKind.i64.wrap (x15.2.2+1))),h,ltS m16,?_⟩;exact ca_0
     ·refine aEx ?_;refine⟨x15.2.1,(sI_ h).symm,?_⟩;exact ca_0
   ·rintro v26 ho;have ho:=ho.symm;subst ho;intro _;replace h:=hK14;refine aSq (aSR ?_);intro _;refine dr (aCd ?_);intro _;refine spl h (fun c23 h=>?_) (fun c23 h=>?_)
    ·refine aSR ?_;intro _;refine dr (aRt ?_);intro _;obtain rfl:=inj1 h;exact ca_0
    ·refine aSk (aSR ?_);intro _;obtain⟨z39,u24,h⟩:=ob1_ok h;refine cl rfl (A_checker_Verify g a0 ({ Bound:=(-1),Nogoods:=z14:GCertificate }) 1048576 u24) ?_;intro _;refine dr (aSq ?_);rcases z39 with _|e41
     ·replace h:=erM_nil h;refine aRg ?_;intro _;obtain⟨z42,u25,h⟩:=ob1_ok h;refine cl rfl (A_b_Best g a0 u25) ?_;intro _;refine spl h (fun c26 h=>?_) (fun c26 h=>?_)
      ·intro _;refine litTf ?_;intro _;refine dr (aRt ?_);intro _;obtain rfl:=inj1 h;exact ca_0
      ·intro _;refine dr (aRt ?_);intro _;obtain rfl:=inj1 h;exact ca_0
     ·replace h:=erM_no h;refine aRg ?_;intro _;obtain⟨z43,u27,h⟩:=ob1_ok h;refine cl rfl (A_b_Best g a0 u27) ?_;intro _;refine spl h (fun c28 h=>?_) (fun c28 h=>?_)
      ·intro _;refine litFf ?_;intro _;obtain⟨z44,u29,h⟩:=ob1_ok h;refine cl rfl (A_b_Is (Er.no e41) 10 u29) ?_;intro _;refine spl h (fun c30 h=>?_) (fun c30 h=>?_)
       ·intro _;refine dr (aRt ?_);intro _;obtain rfl:=inj1 h;exact ca_0
       ·intro _;refine dr (aRt ?_);intro _;obtain rfl:=inj1 h;exact ca_0
      ·intro _;refine dr (aRt ?_);intro _;obtain rfl:=inj1 h;exact ca_0
  ·replace h:=erM_no h;refine aRg ?_;intro _;refine dr (aCd ?_);intro _;refine litT (aSR ?_);intro _;refine dr (aRt ?_);intro _;obtain rfl:=inj1 h;exact ca_0
end Go.Proofs.YtinnphmnhmdcgaaGreat.Am
namespace Go.Proofs.YtinnphmnhmdcgaaGreat.Am
def M_l33_contains_L1_B (_:List Fact)(y105:Fact)(_y123:Fact)(_:Int):((Bool))→(((Bool))→Option (Bool))→Option (Bool):=fun v120 rc=>ixv _y123 (fun y123=>sel v120 (rc (true)) (rc ((y105.1 == y123.1&&y105.2 == y123.2))))
def M_l33_contains_L1_E (_:List Fact)(_:Fact):((Bool))→Option (Bool):=fun v120=>some v120
theorem M_l33_contains_L1_eq (a0:List Fact)(y105:Fact)(v120:Bool)(hl:a0.length<9223372036854775807):M_l33_contains_L1 a0 y105 (((a0.map cF).length:Int).toNat+1) v120 0=Rg (M_l33_contains_L1_B a0 y105) (M_l33_contains_L1_E a0 y105) a0 0 v120:=rg_e1 (L:=fun k i v120=>M_l33_contains_L1 a0 y105 k v120 i) hl (fun _ _ _=>rfl) v120
def M_l33_contains_L2_B (a0:List Fact)(_:List Fact)(_y105:Fact)(_:Int):Unit→(Unit→Option (Bool))→Option (Bool):=fun _ rc=>ob1 (ixv _y105 (fun y105=>ob1 (M_l33_contains_L1 a0 y105 ((((a0.map cF).length:Int)).toNat+1) false 0:Option (Bool)) (fun v114=>sel (!v114) (some (.inr false)) (some (.inl ())))):Option (Unit⊕Bool)) (osum (fun _=>rc ()) (fun r103=>some r103))
def M_l33_contains_L2_E (_:List Fact)(_:List Fact):Unit→Option (Bool):=fun _=>some true
theorem M_l33_contains_L2_eq (a0:List Fact)(a1:List Fact)  (hl:a1.length<9223372036854775807):M_l33_contains_L2 a0 a1 (((a1.map cF).length:Int).toNat+1) 0=Rg (M_l33_contains_L2_B a0 a1) (M_l33_contains_L2_E a0 a1) a1 0 ():=rg_e2 (L:=fun k i _=>M_l33_contains_L2 a0 a1 k i) hl (fun k n p y hy h1 h2=>by first|(simp only[M_l33_contains_L2,M_l33_contains_L2_B,lM_,decide_lt h1,sel,ix_at hy,ixv,h2];done)|(simp only[lM_]at h1 hy;(simp only[M_l33_contains_L2,M_l33_contains_L2_B,lM_,decide_lt h1,sel,ix_at hy,ixv,h2];done))) (fun k p=>by simp only[M_l33_contains_L2,M_l33_contains_L2_E,lM_,decide_ge,sel]) ()
def M_l33_MutexCertificate_L1_B (a0:GTask)(_:List Nogood)(_y37:Nogood)(_:Int):((Bool))→(((Bool))→Option (Bool))→Option (Bool):=fun v34 rc=>ixv _y37 (fun y37=>sel v34 (rc (true)) (sel (decide (((y37.1.map cF).length:Int)>0)) (ob1 (M_l33_contains a0.Goal y37.1) (fun z38=>rc (z38))) (rc (false))))
def M_l33_MutexCertificate_L1_E (_:GTask)(_:List Nogood):((Bool))→Option (Bool):=fun v34=>some v34
theorem M_l33_MutexCertificate_L1_eq (a0:GTask)(z14:List Nogood)(v34:Bool)(hl:z14.length<9223372036854775807):M_l33_MutexCertificate_L1 a0 z14 (((z14.map cN).length:Int).toNat+1) v34 0=Rg (M_l33_MutexCertificate_L1_B a0 z14) (M_l33_MutexCertificate_L1_E a0 z14) z14 0 v34:=rg_e1 (L:=fun k i v34=>M_l33_MutexCertificate_L1 a0 z14 k v34 i) hl (fun _ _ _=>rfl) v34
end Go.Proofs.YtinnphmnhmdcgaaGreat.Am
namespace Go.Proofs.YtinnphmnhmdcgaaGreat.Am
open Go.RowKit
def conF (a b:List Fact):Bool:=b.all fun x=>a.any fun y=>decide (x=y)
theorem con_eq (a b:List Fact)(ha:Sh a)(hb:Sh b):M_l33_contains a b=some (conF a b):=by
 rw[M_l33_contains,M_l33_contains_L2_eq a b hb.lt,rg_all (p:=fun x=>a.any fun y=>decide (x=y)) (c:=some false),M_l33_contains_L2_E,conF]
 ·cases b.all fun x=>a.any fun y=>decide (x=y) <;> rfl
 ·intro x hx i rc
  have e:=M_l33_contains_L1_eq a x false ha.lt
  rw[rg_any (q:=fun y=>decide (x=y)),Bool.false_or,M_l33_contains_L1_E]at e
  ·rw[M_l33_contains_L2_B,ixv,e,ob1_some]
   cases a.any fun y=>decide (x=y) <;> rfl
  ·intro y hy i v rc
   rw[M_l33_contains_L1_B,ixv,fact_beq]
   cases v <;> rfl
theorem conF_iff {a b:List Fact}:conF a b=true↔∀ x∈b,x∈a:=by
 unfold conF
 rw[List.all_eq_true]
 constructor
 ·intro h x hx
  obtain⟨y,hy,e⟩:=List.any_eq_true.1 (h x hx)
  rw[of_decide_eq_true e]
  exact hy
 ·intro h x hx
  exact List.any_eq_true.2 ⟨x,h x hx,decide_eq_true rfl⟩
def cerF (t:GTask)(R:List (List Bool)):GCertificate:={ Bound:=-1,Nogoods:=ngF t R }
section
variable {t : GTask} (F : Fit3 t) {R : List (List Bool)} (h : MxR t R)
include F h
omit F in
theorem not_alive {s:List Int}(hs:StP t.Vars s):¬ Alive t R s↔∃ n∈ngF t R,holdsF s n.1=true:=by
 have e:=dead_any h.sy hs
 rw[← alive_iff]
 cases hk:okF t R (stG s 0)with
 | true =>
  rw[hk,Bool.not_true,List.any_eq_false]at e
  exact⟨fun h=>absurd rfl h,fun⟨n,hn,hh⟩=>absurd hh (e n hn)⟩
 | false =>
  rw[hk,Bool.not_false,List.any_eq_true]at e
  exact⟨fun _=>e,fun _=>by decide⟩
theorem cer_acc {n0:Nogood}(hn0:n0∈ngF t R)(hc:∀ x∈n0.1,x∈t.Goal):Acc t (cerF t R):=by
 have hst:=good_init F.good
 refine⟨fun n hn=>?_,fun _ s hs hh=>?_,fun n hn o ho _ s hs hi=>?_⟩
 ·rw[Bool.eq_false_iff]
  intro hh
  exact(not_alive h (stateF_st hst)).2 ⟨n,hn,hh⟩ fun a b ha hb=>h.init a b ha hb
 ·unfold claimsF
  refine List.any_eq_true.2 ⟨n0,hn0,?_⟩
  rw[(ng_prop n0 hn0).2.1,bA_]
  exact⟨by decide,holdsF_iff.2 fun x hx=>holdsF_iff.1 hh x (hc x hx)⟩
 ·have hs1:=(allF_mem t s).1 hs
  have hs':=next_state F.good hs1 ho
  unfold inF at hi
  rw[bA_]at hi
  have hna:¬ Alive t R s:=fun ha=>(not_alive h (stateF_st hs')).2 ⟨n,hn,hi.2⟩ (alive_next F h.sy h.closed (stateF_st hs1) (stateF_st hs') ha ho hi.1)
  obtain⟨m,hm,hmh⟩:=(not_alive h (stateF_st hs1)).1 hna
  refine List.any_eq_true.2 ⟨m,hm,?_⟩
  have hd:distO (cerF t R) n o=0:=by unfold distO;exact if_neg (by show ¬ (0:Int)≤-1;decide)
  rw[(ng_prop m hm).2.1,hd,hmh]
  rfl
theorem best_inf {n0:Nogood}(hn0:n0∈ngF t R)(hc:∀ x∈n0.1,x∈t.Goal)(g:Nat)(hg:1000000000000000000≤g):M_b_Best g t=some 1125899906842624:=by
 have hgood:=F.good
 have hin:=good_init hgood
 obtain⟨d,e1,e2⟩:=dis_eq F.small (Q:=fun s _=>¬ Alive t R s) ⟨fun s hs hh=>(not_alive h (stateF_st ((allF_mem t s).1 hs))).2 ⟨n0,hn0,holdsF_iff.2 fun x hx=>holdsF_iff.1 hh x (hc x hx)⟩,fun s hs o ho hp x _ hq ha=>by
  have hs1:=(allF_mem t s).1 hs
  exact hq (alive_next F h.sy h.closed (stateF_st hs1) (stateF_st (next_state hgood hs1 ho)) ha ho hp)⟩ g hg []
 obtain⟨k,r1,r2⟩:=rank_eq F.small hin
 have hk:k<d.length:=by rw[e2.len];exact(gS_.1 r2).1
 have gk:d[k]?=some (d[k]):=gE_ hk
 have hinf:d[k]=infD:=Decidable.byContradiction fun hne=>(e2.ok k t.Init _ r2 gk).2.2 hne fun a b ha hb=>h.init a b ha hb
 have hx:ix d (k:Int) (fun y3=>some y3)=some (d[k]):=ix_at gk
 rw[M_b_Best,e1,ob1_some,r1,ob1_some,hx,hinf]
end
theorem certificate_true (g:Nat)(hg:1000000000000000000≤g)(t:GTask)(ht:ShT t):M_l33_MutexCertificate g t=some true:=by
 rw[M_l33_MutexCertificate]
 refine law_head ht g (by omega) fun F=>?_
 obtain⟨R,h1,h,-⟩:=new_eq F ht g (by omega) (Q:=fun _=>True) (fun _ _ _ _ _ _ _ _=>trivial) (fun _ _ _ _=>trivial)
 have hsh:=ng_sh F R
 have hgl:=propF_len' (good_goal F.good)
 have hv:=F.vlen
 have hl:(ngF t R).length≤4096:=by rw[ngF,lM_];exact openF_small F R
 have e:=M_l33_MutexCertificate_L1_eq t (ngF t R) false (by omega)
 rw[rg_any (q:=fun n=>conF t.Goal n.1),Bool.false_or,M_l33_MutexCertificate_L1_E]at e
 ·rw[h1,ob2_some,erM,nogoods_eq F.sz h.rk,ob1_some,e,ob1_some]
  cases hs:(ngF t R).any fun n=>conF t.Goal n.1 with
  | false=>rfl
  | true =>
   obtain⟨n0,hn0,hc0⟩:=List.any_eq_true.1 hs
   have hc1:=conF_iff.1 hc0
   have hacc:=cer_acc F h hn0 hc1
   have hcp:=(properF_nil t.Vars (cerF t R)).1 (ng_cert F R)
   have hng:NgP t (cerF t R):=fun n hn=>by
    obtain⟨p,hp,rfl⟩:=List.mem_map.1 hn
    obtain⟨a,b,hab,rfl,-⟩:=open_mem.1 hp
    exact⟨a,b,hab,rfl⟩
   obtain⟨v1,v2⟩:=acc_ver3 F hcp hacc hng
   have hver:=verify_eq t ht (cerF t R) hsh 1048576 g (by omega)
   have hbest:=best_inf F h hn0 hc1 g hg
   rw[Bool.not_true,sel_ff]
   show ob1 (M_checker_Verify g t (cerF t R) 1048576) _=_
   rw[hver,ob1_some]
   rcases v1 with v1|v1
   ·rw[v1,erM,hbest]
    rfl
   ·rw[v1,erM,hbest,ob1_some]
    have h20:¬ (ngF t R).length≤20:=fun hle=>by
     have:=v2 hle
     rw[v1]at this
     cases this
    rw[show((1125899906842624:Int) == 1125899906842624)=true from by decide,sel_tt,is_no,ob1_some,show((10:Int) == 10)=true from by decide,sel_tt,lM_,decide_eq_true (by omega)]
 ·intro n hn i v rc
  obtain⟨-,-,n1,n2⟩:=ng_prop n hn
  rw[M_l33_MutexCertificate_L1_B,ixv,lM_,decide_eq_true (show(n.1.length:Int)>0 by omega),sel_tt,con_eq t.Goal n.1 (by show _≤_;omega) (by show _≤_;omega),ob1_some]
  cases v <;> rfl
end Go.Proofs.YtinnphmnhmdcgaaGreat.Am
namespace Go.Proofs.YtinnphmnhmdcgaaGreat
open Go.RowKit Go.ChangeShapes Go.WideShapes Go.Deep Go.Joins
def I64 (x:Int):Prop:=-9223372036854775808≤x∧x≤9223372036854775807
theorem I64.of {x:Int}(h:(Lit.int .i64 x).wf=true):I64 x:=by
 have:=bounds_i64 h
 exact this
section
variable {H : Type} {enc : TypeId × Value → H} {P : Program} {w : World} {base : Nat} {spare : Nat → Bool} {held : Bool}
def Sized (P:Program)(t:TypeId)(d:DataW H):Prop:=∀ n∈d.weights P t,n≤reachBytes
theorem sized_arg {ts:List TypeId}{ds:List (DataW H)}(h:(DataW.weightsEach P ts ds).all (·≤reachBytes)=true){j:Nat}{t:TypeId}{d:DataW H}(ht:ts[j]?=some t)(hd:ds[j]?=some d):Sized P t d :=
 fun n hn=>of_decide_eq_true (List.all_eq_true.1 h n (DataW.weights_mem_each ht hd n hn))
theorem sized_field {t:TypeId}{fs:Array Field}{parts:List (DataW H)}(h:Sized P t (.agg parts))(hu:P.underlying t=some (.struct fs)){j:Nat}{f:Field}{d:DataW H}(hf:fs[j]?=some f)(hd:parts[j]?=some d):Sized P f.type d :=
 fun n hn=>h n (by
  simp only[DataW.weights,hu]
  exact DataW.weights_mem_each (j:=j) (by simp[List.getElem?_map,hf]) hd n hn)
theorem weightsAll_mem {e:TypeId}:∀ {l:List (DataW H)}{d:DataW H},d∈l→∀ n∈d.weights P e,n∈DataW.weightsAll P e l
 | x :: l,d,hd,n,hn=>by
  simp only[DataW.weightsAll,List.mem_append]
  rcases List.mem_cons.1 hd with rfl|h
  ·exact Or.inl hn
  ·exact Or.inr (weightsAll_mem h n hn)
theorem sized_elem {t e:TypeId}{elems sp:List (DataW H)}(h:Sized P t (.slice elems sp))(hu:P.underlying t=some (.slice e)){d:DataW H}(hd:d∈elems):Sized P e d :=
 fun n hn=>h n (by
  simp only[DataW.weights,hu,List.mem_cons,List.mem_append]
  exact Or.inr (Or.inl (weightsAll_mem hd n hn)))
theorem sized_len {t e:TypeId}{elems sp:List (DataW H)}(h:Sized P t (.slice elems sp))(hu:P.underlying t=some (.slice e)):elems.length*P.bytesOf e≤140737488355328:=by
 have h1:=h ((elems.length+sp.length)*P.bytesOf e) (by simp[DataW.weights,hu])
 have h2:elems.length*P.bytesOf e≤(elems.length+sp.length)*P.bytesOf e:=Nat.mul_le_mul_right _ (by omega)
 have h3:reachBytes≤140737488355328:=by decide
 omega
end
theorem spot_of_cell {w:World}{p:Addr}{v:Value}(h:w.cell? p=some v):p.spot=none:=by
 unfold World.cell? at h
 split at h
 ·split at h
  ·cases h
  ·rename_i hs;simpa using hs
 ·cases h
theorem addr_of_cell {w:World}{a:Addr}{k:Nat}{v:Value}(h0:∃ u,w.cell? (a.add 0)=some u)(h:w.cell? (a.add k)=some v):a=⟨a.block,a.off,none⟩∧w.cell? ⟨a.block,a.off+k,none⟩=some v:=by
 obtain⟨u,hu⟩:=h0
 have hs:=spot_of_cell hu
 obtain⟨b,off,sp⟩:=a
 simp[Addr.add]at hs
 subst hs
 refine⟨rfl,?_⟩
 rw[← h]
 congr 1
 unfold Addr.add
 split
 ·subst k;rfl
 ·rfl
theorem list_of {α:Type}(n:Nat)(R:Nat→α→Prop)(h:∀ i,i<n→∃ x,R i x):∃ l:List α,l.length=n∧∀ k x,l[k]?=some x→R k x:=by
 induction n with
 | zero=>exact⟨[],rfl,fun k x hx=>by simp at hx⟩
 | succ n ih =>
  obtain⟨l,hl,hr⟩:=ih (fun i hi=>h i (by omega))
  obtain⟨x,hx⟩:=h n (by omega)
  refine⟨l++[x],by simp[hl],fun k y hy=>?_⟩
  by_cases hk:k<n
  ·rw[List.getElem?_append_left (by omega)]at hy
   exact hr k y hy
  ·rw[List.getElem?_append_right (by omega)]at hy
   have hk':k-l.length=0:=by
    have:=(gS_.1 hy).1
    simp at this
    omega
   rw[hk']at hy
   simp at hy
   subst hy
   obtain rfl:k=n:=by omega
   exact hx
variable {H : Type} {enc : TypeId × Value → H} {w : World} {base : Nat} {spare : Nat → Bool} {held : Bool}
end Go.Proofs.YtinnphmnhmdcgaaGreat
