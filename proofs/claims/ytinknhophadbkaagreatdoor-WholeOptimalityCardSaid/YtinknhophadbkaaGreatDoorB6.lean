/- Texts of the proof, part 6 of 7. -/
import Derived.Test.YtinknhophadbkaaGreatDoorB5
import Derived.Test.YtinknhophadbkaaGreatDoorB2
import Derived.Test.YtinknhophadbkaaGreatDoorB4
import Derived.Test.YtinknhophadbkaaGreatDoorB3
import Derived.Test.YtinknhophadbkaaGreatDoorB1
import Derived.Lib.Builder
import Derived.Lib.AppendStr
import Derived.Lib.UnsafeStr
import Derived.Laws.Externs
import Derived.Lib.SmallJoins
import Derived.Shelf.Strings.Builder1
set_option linter.unusedVariables false
set_option linter.unusedSectionVars false
set_option linter.unusedSimpArgs false
open List renaming getElem?_eq_getElem→gE_, length_map→lM_, length_append→lA_, mem_cons_of_mem→mC_, length_cons→lC_, mem_cons_self→mS_, mem_of_getElem?→mG_, getElem?_eq_some_iff→gS_, getD_eq_getElem?_getD→gD_, length_nil→lN_, take_of_length_le→tL_
open Option.some renaming inj→sI_
open Bool renaming and_eq_true→bA_
namespace Go.Proofs.YtinknhophadbkaaGreatDoor.Am
open Go.RowKit
theorem bT2 {n m:Nat}(h:Nat.ble n m=true):n≤m:=Nat.le_of_ble_eq_true h
theorem conflict_eq (p x:List Fact)(hp:Sh p)(hx:Sh x):M_p_conflict p x=some (clashP p x):=by
 rw[M_p_conflict,M_p_conflict_L1_eq p x hx.lt,rg_all (p:=fun f=>!(decide (0≤findF p f.1)&&decide (findF p f.1≠f.2))) (c:=some true)]
 ·rw[M_p_conflict_L1_E,clashP]
  have:(x.all fun f=>!(decide (0≤findF p f.1)&&decide (findF p f.1≠f.2)))=!(x.any fun f=>decide (0≤findF p f.1)&&decide (findF p f.1≠f.2)):=by rw[List.not_any_eq_all_not]
  rw[this]
  cases x.any fun f=>decide (0≤findF p f.1)&&decide (findF p f.1≠f.2) <;> rfl
 ·intro y _ i rc
  rw[M_p_conflict_L1_B,ixv,find_eq p y.1 hp,ob1_some,sel_dec]
  by_cases h:0≤findF p y.1
  ·rw[if_pos h,decide_eq_true h,Bool.true_and]
   by_cases e:findF p y.1=y.2
   ·rw[show(findF p y.1 != y.2)=false from by simp[e],sel_ff,if_pos (by simp[e])]
   ·rw[show(findF p y.1 != y.2)=true from by simp[e],sel_tt,if_neg (by simp[e])]
  ·rw[if_neg h,decide_eq_false h,Bool.false_and,Bool.not_false,if_pos rfl]
theorem dec1 (c:GCover)(hu:IntKind.i64.wrap (c.used+1)=c.used+1)(p:List Fact)(hp:Sh p)(hpv:vF (-1) p=true)(l:List (List Fact)):∀ (r:List (List Fact))(i:Int)(v:List (List Fact)),(∀ x∈r,Sh x∧vF (-1) x=true)→v.length+r.length≤1000000 →
  Rg (M_pc_decide_L1_B c p l) (M_pc_decide_L1_E c p l) r i v=some (if r.any (fun x=>subF x p)=true then .inr (true,{ vars:=c.vars,used:=c.used+1,steps:=c.steps,full:=c.full:GCover })else .inl (v++restP p r))
 | [],i,v,_,_=>by rw[Rg,M_pc_decide_L1_E];simp[restP]
 | x :: r,i,v,hr,hl=>by
  obtain⟨hx,hxv⟩:=hr x (mS_ ..)
  rw[lC_]at hl
  have hr2:∀ x∈r,Sh x∧vF (-1) x=true:=fun y hy=>hr y (mC_ _ hy)
  rw[Rg,M_pc_decide_L1_B,ixv,contains_eq p x hp hx hpv hxv,ob1_some,List.any_cons]
  cases hs:subF x p with
  | true=>rw[sel_tt,Bool.true_or,if_pos rfl,hu]
  | false =>
   rw[sel_ff,Bool.false_or,conflict_eq p x hp hx,ob1_some]
   cases hc:clashP p x with
   | true =>
    rw[Bool.not_true,sel_ff,dec1 c hu p hp hpv l r _ v hr2 (by omega)]
    simp only[restP,List.filter_cons,hc,Bool.not_true,Bool.false_eq_true,if_false]
   | false =>
    rw[Bool.not_false,sel_tt,grd_t (by omega),dec1 c hu p hp hpv l r _ (v++[x]) hr2 (by simp;omega)]
    simp only[restP,List.filter_cons,hc,Bool.not_false,if_true,List.append_assoc,List.singleton_append]
theorem dec2 (p:List Fact)(hp:Sh p)(x:List Fact):∀ (r:List Fact)(i v:Int),Rg (M_pc_decide_L2_B p x) (M_pc_decide_L2_E p x) r i v=some (lowF p r v)
 | [],i,v=>rfl
 | f :: r,i,v=>by
  rw[Rg,M_pc_decide_L2_B,ixv,sel_dec,lowF]
  by_cases h1:f.1<v
  ·rw[if_pos h1,find_eq p f.1 hp,ob1_some,sel_dec]
   by_cases h2:findF p f.1<0
   ·rw[if_pos h2,if_pos ⟨h1,h2⟩,dec2 p hp x r]
   ·rw[if_neg h2,if_neg (fun h=>h2 h.2),dec2 p hp x r]
  ·rw[if_neg h1,if_neg (fun h=>h1 h.1),dec2 p hp x r]
theorem dec3 (p:List Fact)(hp:Sh p)(l:List (List Fact))(hl:∀ x∈l,Sh x):∀ (m n:Nat)(v:Int),n+m=l.length→Rn (M_pc_decide_L3_B p l) (M_pc_decide_L3_E p l) m n v=some (lowL p (l.drop n) v)
 | 0,n,v,h=>by rw[Rn,M_pc_decide_L3_E,List.drop_eq_nil_of_le (by omega)];rfl
 | m+1,n,v,h=>by
  obtain⟨y,hy,hd⟩:=drop_at (show n<l.length by omega)
  rw[Rn,M_pc_decide_L3_B,Int.toNat_natCast,ixn_at hy,grd_t (by omega),grd_t (by omega),M_pc_decide_L2_eq p y v (hl y (mG_ hy)).lt,dec2 p hp y,ob1_some,show((n:Int)+1)=((n+1:Nat):Int)from rfl,dec3 p hp l hl m (n+1) _ (by omega),hd,lowL]
def limR (vars:List Int)(steps u:Int)(r:Bool×Int):Bool×GCover :=
 if u+r.2≤steps then(r.1,{ vars:=vars,used:=u+r.2,steps:=steps,full:=false })else(false,{ vars:=vars,used:=max u steps,steps:=steps,full:=true })
theorem kids_ge (f:Int→Bool×Int)(hf:∀ y,0≤(f y).2):∀ (m:Nat)(x c:Int),c≤(kids f m x c).2
 | 0,x,c=>Int.le_refl _
 | m+1,x,c=>by
  rw[kids]
  have:=hf x
  split
  ·have:=kids_ge f hf m (x+1) (c+(f x).2);omega
  ·show c≤c+(f x).2;omega
theorem decA_pos (vars:List Int):∀ (d:Nat)(p:List Fact)(l:List (List Fact)),1≤(decA vars d p l).2
 | 0,_,_=>Int.le_refl _
 | d+1,p,l=>by
  rw[decA]
  split
  ·exact Int.le_refl _
  ·split
   ·exact Int.le_refl _
   ·exact kids_ge _ (fun y=>by have:=decA_pos vars d (pwithF p (lowL p (restP p l) vars.length,y)) (restP p l);omega) _ _ _
theorem dec4 (vars:List Int)(steps u:Int)(p:List Fact)(hp:p.length≤64)(v y:Int)(l:List (List Fact))(rec:GCover→List Fact→List (List Fact)→Option (Bool×GCover))(f:Int→Bool×Int)(hf:∀ y,1≤(f y).2)(top:Int)
  (hrec:∀ x w:Int,0≤x→x<top→0≤w→rec { vars:=vars,used:=w,steps:=steps,full:=false } (pwithF p (v,x)) l=some (limR vars steps w (f x))) (hu:0≤u):∀ (m n:Nat) (c:Int),((n+m:Nat):Int)≤top→1≤c→u+c≤steps →
  Rn (M_pc_decide_L4_B p rec v y) (M_pc_decide_L4_E p rec v y) m n (l,vars,u+c,steps,false)=some (limR vars steps u (kids f m n c))
 | 0,n,c,_,_,hc=>by rw[Rn,M_pc_decide_L4_E,kids,limR,if_pos hc]
 | m+1,n,c,ht,h1,hc=>by
  have hfn:=hf n
  rw[Rn,M_pc_decide_L4_B,M_with,grd_t (by omega),ob1_some,grd_t (by rw[pwithF_len];omega),hrec n (u+c) (by omega) (by omega) (by omega),kids]
  by_cases hk:u+c+(f n).2≤steps
  ·rw[limR,if_pos hk,ob2_some]
   cases hb:(f n).1 with
   | false=>rw[Bool.not_false,sel_tt,if_neg (by simp),limR,if_pos (by show u+(c+(f n).2)≤steps;omega),Int.add_assoc]
   | true =>
    rw[Bool.not_true,sel_ff,if_pos rfl]
    have:=dec4 vars steps u p hp v y l rec f hf top hrec hu m (n+1) (c+(f n).2) (by omega) (by omega) (by omega)
    rw[← Int.add_assoc]at this
    exact this
  ·rw[limR,if_neg hk,ob2_some,Bool.not_false,sel_tt]
   have hge:c+(f n).2≤(if(f n).1=true then kids f m (n+1) (c+(f n).2)else(false,c+(f n).2)).2:=by
    split
    ·exact kids_ge f (fun y=>by have:=hf y;omega) m _ _
    ·exact Int.le_refl _
   rw[limR,if_neg (by omega),show max (u+c) steps=max u steps from by omega]
theorem decide_eq (vars:List Int)(hv:vars.length≤64)(hd:∀ n∈vars,n≤64)(steps:Int)(hst:steps≤9223372036854775806):∀ (d:Nat)(p:List Fact)(l:List (List Fact)),DecP vars d p l→l.length≤100000→∀ (g:Nat)(u:Int),d≤g→0≤u →
  M_pc_decide g { vars:=vars,used:=u,steps:=steps,full:=false } p l=some (limR vars steps u (decA vars d p l))
 | 0,p,l,h,_,_,_,_,_=>h.zero.elim
 | d+1,p,l,h,hl,g,u,hg,hu=>by
  obtain⟨g,rfl⟩:∃ k,g=k+1:=⟨g-1,by omega⟩
  have hpl:=prop_len hv h.prop
  have hps:=prop_sh hv h.prop
  rw[M_pc_decide]
  simp only
  rw[sel_dec]
  by_cases hus:u≥steps
  ·have:=decA_pos vars (d+1) p l
   rw[if_pos hus,limR,if_neg (by omega),show max u steps=u from by omega]
  ·have hw:IntKind.i64.wrap (u+1)=u+1:=wrap_eq (by omega) (by omega)
   have hall:∀ x∈l,Sh x∧vF (-1) x=true:=fun x hx=>⟨prop_sh hv (h.all x hx),propF_vF' (h.all x hx)⟩
   rw[if_neg hus,M_pc_decide_L1_eq _ p l [] (by omega),dec1 _ hw p hps (propF_vF' h.prop) l l 0 [] hall (by simp;omega),ob1_some,decA]
   by_cases hc:l.any (fun x=>subF x p)=true
   ·rw[if_pos hc,if_pos hc,osum_inr,limR,if_pos (by show u+1≤steps;omega)]
   ·have hrl:(restP p l).length≤l.length:=List.length_filter_le _ _
    have e3:Rn (M_pc_decide_L3_B p (restP p l)) (M_pc_decide_L3_E p (restP p l)) (restP p l).length 0 (vars.length:Int)=some (lowL p (restP p l) vars.length):=dec3 p hps (restP p l) (fun x hx=>(hall x (List.mem_filter.1 hx).1).1) _ 0 _ (Nat.zero_add _)
    rw[if_neg hc,if_neg hc,osum_inl,List.nil_append,M_pc_decide_L3_eq p (restP p l) _ rfl (by omega),lM_,e3,ob1_some]
    by_cases hlo:lowL p (restP p l) vars.length=vars.length
    ·rw[if_pos hlo,hlo,beq_self_eq_true,sel_tt,hw,limR,if_pos (by show u+1≤steps;omega)]
    ·obtain⟨h1,h2,h3⟩:=h.low hlo
     have hmem:vars.getD (lowL p (restP p l) vars.length).toNat 0∈vars:=by
      rw[gD_,gE_ (by omega),Option.getD_some]
      exact List.getElem_mem _
     have hdo:=h.dom _ hmem
     have hd2:=hd _ hmem
     rw[if_neg hlo,show(lowL p (restP p l) vars.length == (vars.length:Int))=false from by simp[hlo],sel_ff,ix_getD (d:=0) h1 h2,grd_t (by omega),M_pc_decide_L4_eq p _ _ _ _ _ _ _ _ (m:=(vars.getD (lowL p (restP p l) vars.length).toNat 0).toNat) (by omega) (by omega),hw]
     exact dec4 vars steps u p hpl _ _ (restP p l) _ (fun x=>decA vars d (pwithF p (lowL p (restP p l) vars.length,x)) (restP p l)) (fun y=>decA_pos vars d _ _) (vars.getD (lowL p (restP p l) vars.length).toNat 0)
      (fun x w x0 x1 w0=>decide_eq vars hv hd steps hst d _ _ (h.kid hlo x0 x1) (by omega) g w (by omega) w0) hu _ 0 1 (by omega) (by omega) (by omega)
def covA (vars:List Int)(p:List Fact)(l:List (List Fact)):Bool×Int:=decA vars (vars.length+1) p l
structure DomP (vars:List Int):Prop where
 len:vars.length≤64
 dom:∀ n∈vars,1≤n∧n≤64
theorem good_dom {t:GTask}(h:goodF t=true):DomP t.Vars:=by
 unfold goodF at h
 simp only[bA_,decide_eq_true_iff,List.all_eq_true]at h
 exact⟨h.1.1,h.2.1⟩
theorem cov_pre {vars:List Int}(h:DomP vars){p:List Fact}(hp:propF vars (-1) p=true){l:List (List Fact)}(hl:PropL vars l):DecP vars (vars.length+1) p l:=⟨fun n hn=>(h.dom n hn).1,hp,hl,by omega⟩
theorem covA_true {vars:List Int}(h:DomP vars){p:List Fact}(hp:propF vars (-1) p=true){l:List (List Fact)}(hl:PropL vars l):(covA vars p l).1=true↔∀ s,stateF vars s=true→holdsF s p=true→some1 s l:=decA_true _ p l (cov_pre h hp hl)
def covR (r:Bool×Int)(steps:Int):Bool×Int×Er:=if r.2≤steps then(r.1,r.2,.nil)else(false,0,.no 10)
theorem covered_eq {vars:List Int}(h:DomP vars){p:List Fact}(hp:propF vars (-1) p=true){l:List (List Fact)}(hl:PropL vars l)(hlen:l.length≤100000)(steps:Int)(hst:steps≤9223372036854775806)(g:Nat)(hg:65≤g):M_p_Covered g vars p l steps=some (covR (covA vars p l) steps):=by
 have hv:=h.len
 rw[M_p_Covered,facts_eq vars p (prop_sh hv hp),hp,ob1_some,Bool.not_true,sel_ff,containsFunc_eq (p:=fun x=>!propF vars (-1) x) (show _≤_ by omega) (fun y hy=>by
  rw[M_p_Covered_1,facts_eq vars y (prop_sh hv (hl y hy)),ob1_some])]
 have hany:(l.any fun x=>!propF vars (-1) x)=false:=by
  rw[Bool.eq_false_iff]
  intro hh
  obtain⟨x,hx,e⟩:=List.any_eq_true.1 hh
  rw[hl x hx]at e
  cases e
 rw[hany,ob1_some,sel_ff,ob1_some,osum_inl,decide_eq vars hv (fun n hn=>(h.dom n hn).2) steps hst _ p l (cov_pre h hp hl) hlen g 0 (by omega) (Int.le_refl _)]
 show ob2 (some (limR vars steps 0 (covA vars p l))) _=_
 unfold limR covR
 rw[Int.zero_add]
 split <;> rfl
end Go.Proofs.YtinknhophadbkaaGreatDoor.Am
namespace Go.Proofs.YtinknhophadbkaaGreatDoor.Am
set_option maxHeartbeats 16000000
set_option maxRecDepth 100000
open Go.RowKit
structure GChecker where
 t:GTask
 c:GCertificate
 steps:Int
 deriving DecidableEq
def cGChecker (x:GChecker):List AV:=[.sl 1 (x.t.Vars.map cI),.sl 1 (x.t.Init.map cI),.sl 2 (x.t.Goal.map cF),.sl 4 (x.t.Ops.map cGOp),.c (.int .i64 x.c.Bound),.sl 2 (x.c.Nogoods.map cN),.c (.int .i64 x.steps)]
theorem fr_cGChecker (x:GChecker):∀ y∈cGChecker x,Fr y:=FrC_cons (.sl (frl_cI _)) (FrC_cons (.sl (frl_cI _)) (FrC_cons (.sl (frl_cF _)) (FrC_cons (.sl (frl_cGOp _)) (FrC_cons (.c _) (FrC_cons (.sl (frl_cN _)) (FrC_cons (.c _) (FrC_nil)))))))
theorem frl_cGChecker (l:List GChecker):FrL (l.map cGChecker):=FrL_map (fun x _=>fr_cGChecker x)
instance {l:List GChecker}:FrI (l.map cGChecker):=⟨frl_cGChecker l⟩
theorem zg_XDChk {P:Prop}(h:P:=by repeat (first|exact True.intro|exact gb_nil rfl rfl|exact gb_take rfl ⟨rfl,rfl,rfl⟩ List.map_take FrI.h|refine gb_some ⟨rfl,rfl,rfl⟩ ?_|refine And.intro ?_ ?_|refine gw_ren rfl rfl rfl rfl rfl ?_|exact gw_oren rfl rfl rfl rfl rfl|exact gw_opren rfl rfl rfl rfl rfl|exact gw_onil rfl rfl|exact gw_mren rfl rfl rfl rfl|refine gw_pren rfl rfl rfl rfl rfl|exact gw_thaw rfl rfl rfl|refine gw_tup ?_|refine gw_ifc ?_|exact GWL.nil|exact gwll_nil|exact gw_c|exact GW.sl|exact GW.nil|exact gwll_same rfl FrI.h|refine GWL.cons ?_ ?_|refine gwll_cons ?_ ?_|(refine gw_own3 rfl rfl rfl FrI.h ?_ ?_ ?_)|exact GW.fr FrV.h|exact GW.fr (by assumption)|refine gw_agg ?_|refine gw_clo ?_|refine gw_ptr rfl rfl rfl ?_|(refine gw_own rfl rfl rfl ?_ FrI.h ?_ ?_)|assumption|omega|rfl|(rw[lM_,← lA_];assumption)|(refine gwll_same ?_ FrI.h;(simp[cGTask,cI,cF,cGOp,cGEffect,cGCertificate,cN,cGChecker,cL_cF] <;> fail))|(rw[List.map_set];refine gwll_set (by first|rfl|omega|simp) ?_ ?_)|refine gwll_set (by first|rfl|omega|simp) ?_ ?_|(rw[List.map_replicate];refine gwll_rep ?_)|refine gwll_rep ?_|(rw[List.map_append];refine gwll_append ?_ ?_)|refine gwll_append ?_ ?_|(simp[cGTask,cI,cF,cGOp,cGEffect,cGCertificate,cN,cGChecker,cL_cF,take_len_map] <;> fail)|(rw[List.drop_zero,tL_] <;> first|rfl|(simp[cGTask,cI,cF,cGOp,cGEffect,cGCertificate,cN,cGChecker,cL_cF] <;> fail))|(simp;omega)|(simp only[lM_,lA_,List.drop_zero,lC_,lN_,Nat.zero_add,Nat.add_zero]at *;omega))):P:=h
theorem zn_XDChk {P:Prop}(h:P:=by repeat (first|exact True.intro|rfl|exact bT2 rfl|exact gb_nil rfl rfl|exact gb_take rfl ⟨rfl,rfl,rfl⟩ List.map_take FrI.h|refine gb_some ⟨rfl,rfl,rfl⟩ ?_|refine And.intro ?_ ?_|refine gw_ren rfl rfl rfl rfl rfl ?_|exact gw_oren rfl rfl rfl rfl rfl|exact gw_opren rfl rfl rfl rfl rfl|exact gw_onil rfl rfl|exact gw_mren rfl rfl rfl rfl|refine gw_pren rfl rfl rfl rfl rfl|exact gw_thaw rfl rfl rfl|refine gw_tup ?_|refine gw_ifc ?_|exact GWL.nil|exact gwll_nil|exact gw_c|exact GW.sl|exact GW.nil|exact gwll_same rfl FrI.h|refine GWL.cons ?_ ?_|refine gwll_cons ?_ ?_|(refine gw_own3 rfl rfl rfl FrI.h ?_ ?_ ?_)|exact GW.fr FrV.h|exact GW.fr (by assumption)|refine gw_agg ?_|refine gw_clo ?_|refine gw_ptr rfl rfl rfl ?_|(refine gw_own rfl rfl rfl ?_ FrI.h ?_ ?_)|assumption|omega|rfl|(rw[lM_,← lA_];assumption)|(refine gwll_same ?_ FrI.h;(simp[cGTask,cI,cF,cGOp,cGEffect,cGCertificate,cN,cGChecker,cL_cF] <;> fail))|(rw[List.map_set];refine gwll_set (by first|rfl|omega|simp) ?_ ?_)|refine gwll_set (by first|rfl|omega|simp) ?_ ?_|(rw[List.map_replicate];refine gwll_rep ?_)|refine gwll_rep ?_|(rw[List.map_append];refine gwll_append ?_ ?_)|refine gwll_append ?_ ?_|(simp[cGTask,cI,cF,cGOp,cGEffect,cGCertificate,cN,cGChecker,cL_cF,take_len_map] <;> fail)|(rw[List.drop_zero,tL_] <;> first|rfl|(simp[cGTask,cI,cF,cGOp,cGEffect,cGCertificate,cN,cGChecker,cL_cF] <;> fail))|(simp;omega)|(simp only[lM_,lA_,List.drop_zero,lC_,lN_,Nat.zero_add,Nat.add_zero]at *;omega))):P:=h
theorem ci_XDChk {p K:Prop}(k:K)(h:p:=by first|rfl|exact⟨rfl,rfl⟩|exact BW.fr FrV.h|(refine BW.fr ?_;assumption)|(refine⟨rfl,?_⟩;(simp[cGTask,cI,cF,cGOp,cGEffect,cGCertificate,cN,cGChecker,cL_cF,take_len_map];done))|(refine RowK.same ?_ FrI.h;first|rfl|(simp[cGTask,cI,cF,cGOp,cGEffect,cGCertificate,cN,cGChecker,cL_cF,take_len_map];done))|(refine row_part1 ?_;(repeat (first|exact BWL.nil|exact bwll_nil|exact bw_c|exact BW.sl|exact BW.nil|exact bwll_same rfl FrI.h|refine BWL.cons ?_ ?_|refine bwll_cons ?_ ?_|(refine bw_own3 rfl rfl rfl FrI.h ?_ ?_ ?_)|exact BW.fr FrV.h|exact BW.fr (by assumption)|refine bw_agg ?_|refine bw_clo ?_|refine bw_ptr rfl rfl rfl ?_|(refine bw_own rfl rfl rfl ?_ FrI.h ?_ ?_)|assumption|omega|rfl|(rw[lM_,← lA_];assumption)|(refine bwll_same ?_ FrI.h;(simp[cGTask,cI,cF,cGOp,cGEffect,cGCertificate,cN,cGChecker,cL_cF] <;> fail))|(rw[List.map_set];refine bwll_set (by first|rfl|omega|simp) ?_ ?_)|refine bwll_set (by first|rfl|omega|simp) ?_ ?_|(rw[List.map_replicate];refine bwll_rep ?_)|refine bwll_rep ?_|(rw[List.map_append];refine bwll_append ?_ ?_)|refine bwll_append ?_ ?_|(simp[cGTask,cI,cF,cGOp,cGEffect,cGCertificate,cN,cGChecker,cL_cF,take_len_map] <;> fail)|(rw[List.drop_zero,tL_] <;> first|rfl|(simp[cGTask,cI,cF,cGOp,cGEffect,cGCertificate,cN,cGChecker,cL_cF] <;> fail))|(simp;omega)|(simp only[lM_,lA_,List.drop_zero,lC_,lN_,Nat.zero_add,Nat.add_zero]at *;omega)));done)|((repeat (first|exact BWL.nil|exact bwll_nil|exact bw_c|exact BW.sl|exact BW.nil|exact bwll_same rfl FrI.h|refine BWL.cons ?_ ?_|refine bwll_cons ?_ ?_|(refine bw_own3 rfl rfl rfl FrI.h ?_ ?_ ?_)|exact BW.fr FrV.h|exact BW.fr (by assumption)|refine bw_agg ?_|refine bw_clo ?_|refine bw_ptr rfl rfl rfl ?_|(refine bw_own rfl rfl rfl ?_ FrI.h ?_ ?_)|assumption|omega|rfl|(rw[lM_,← lA_];assumption)|(refine bwll_same ?_ FrI.h;(simp[cGTask,cI,cF,cGOp,cGEffect,cGCertificate,cN,cGChecker,cL_cF] <;> fail))|(rw[List.map_set];refine bwll_set (by first|rfl|omega|simp) ?_ ?_)|refine bwll_set (by first|rfl|omega|simp) ?_ ?_|(rw[List.map_replicate];refine bwll_rep ?_)|refine bwll_rep ?_|(rw[List.map_append];refine bwll_append ?_ ?_)|refine bwll_append ?_ ?_|(simp[cGTask,cI,cF,cGOp,cGEffect,cGCertificate,cN,cGChecker,cL_cF,take_len_map] <;> fail)|(rw[List.drop_zero,tL_] <;> first|rfl|(simp[cGTask,cI,cF,cGOp,cGEffect,cGCertificate,cN,cGChecker,cL_cF] <;> fail))|(simp;omega)|(simp only[lM_,lA_,List.drop_zero,lC_,lN_,Nat.zero_add,Nat.add_zero]at *;omega)));done)|(simp[cGTask,cI,cF,cGOp,cGEffect,cGCertificate,cN,cGChecker,cL_cF,take_len_map];done)):p∧K:=⟨h,k⟩
theorem ca_XDChk {P:Prop}(h:P:=by repeat (first|exact True.intro|refine ci_XDChk ?_)):P:=h
theorem pr_XDChk {p K:Prop}(k:K)(h:p:=by first|assumption|exact Int.natCast_nonneg _|exact Nat.le_refl _|exact Nat.zero_le _|omega|(simp;done)|(simp;omega)):p∧K:=⟨h,k⟩
theorem pl_XDChk {p K:Prop}(k:K)(h:p:=by first|rfl|exact lM_ _|(simp;done)|(simp;omega)):p∧K:=⟨h,k⟩
theorem pe_XDChk {p K:Prop}(k:K)(h:p:=by first|omega|(simp;omega)|(simp only[lM_,lC_,lN_,lA_];omega)|(simp only[lM_,List.drop_zero,lC_,lN_,Nat.zero_add,Nat.add_zero]at *;omega)):p∧K:=⟨h,k⟩
theorem dr_XDChk {b:Bool}{p K:Prop}(k:K)(h:b=true→p:=by intro h;first|(cases h;done)|exact⟨by kernel_rfl,by kernel_rfl⟩):(b=true→p)∧K:=⟨h,k⟩
theorem cl_XDChk {C:Cx}{n:Nat}{o:Oper}{τ:Nat→AV}{η:Nat→Ent}{f:FuncId}{os:Array Operand}{ats:Array TypeId}{r:AV}{args:List AV}{K:Foot→Prop}(ho:o.op=.call ⟨.value (.func f),os,ats⟩)(hc:ACall C f args r)(k:K ⟨r,[],[]⟩)
  (hd:InB n o.dst:=by exact bT2 rfl) (hargs:os.toList.map (evA τ)=args:=by first|rfl|(simp[cGTask,cI,cF,cGOp,cGEffect,cGCertificate,cN,cGChecker,cL_cF];done)|(repeat (first|exact rfl|refine cons_eq ?_ ?_|exact sl_dt rfl))) (hfr:frs args:=by repeat (first|exact trivial|exact fr1_eA _|exact fr0_eA _|exact fr1_fr (by assumption)|exact FrV.h|exact fr1_fr FrV.h|refine And.intro ?_ ?_)) (hr:fr1 r:=by repeat (first|exact trivial|exact fr1_eA _|exact fr0_eA _|exact fr1_fr (by assumption)|exact FrV.h|exact fr1_fr FrV.h|refine And.intro ?_ ?_)):∃ f:Foot,LF C n o τ η f∧K f:=⟨_,lf_call ho hd hargs hc hfr hr,k⟩
theorem clg_XDChk {C:Cx}{n:Nat}{o:Oper}{τ:Nat→AV}{η:Nat→Ent}{f:FuncId}{os:Array Operand}{ats:Array TypeId}{r:AV}{xs ys:List AV}{bs bs':List (Nat×Blk)}{ks:List Nat}{K:Foot→Prop}(ρ:List (Nat×Nat))(fz:List Nat)(go nb:List (Nat×Ent))(r':AV)(ho:o.op=.call ⟨.value (.func f),os,ats⟩)(hargs:os.toList.map (evA τ)=xs)
  (hc:ACallG C f ys bs ks r bs') (k:K ⟨r',go++nb,[]⟩) (hd:InB n o.dst:=by exact bT2 rfl) (hok:okC ρ fz bs ks bs' (idsE go)=true:=by rfl) (hgo:allUs η go:=by repeat (first|exact trivial|refine And.intro rfl ?_)) (hgl:ltUs n go:=by repeat (first|exact trivial|refine And.intro (bT2 rfl) ?_))
  (hw:GWL η (fE bs) (lk ρ) (fun i=>inB fz i=true) (fun i=>inB (keys bs) i=true) xs ys:=by exact zg_XDChk) (hb:GBL η (fE bs) (lk ρ) (fun i=>inB fz i=true) (fun i=>inB (keys bs) i=true) bs:=by exact zg_XDChk)
  (hr:GW (fE bs') (updAll η (go++nb)) (lk (backN ρ bs')) (fun _=>False) (fun i=>inB (idsE nb) i=true) r r':=by exact zg_XDChk)
  (hnb:nbOk n η (updAll η (go++nb)) ρ ks (fE bs') (lk (backN ρ bs')) (fun i=>inB (idsE nb) i=true) bs' nb:=by exact zn_XDChk):∃ f:Foot,LF C n o τ η f∧K f:=⟨_,lf_callG ρ fz go nb ho hd hargs hc hok hgo hgl hw hb hr hnb,k⟩
theorem clk_XDChk {C:Cx}{n:Nat}{o:Oper}{τ:Nat→AV}{η:Nat→Ent}{f:FuncId}{os:Array Operand}{ats:Array TypeId}{r:AV}{xs ys:List AV}{bs bs':List (Nat×Blk)}{ks:List Nat}{K:Foot→Prop}(ρ:List (Nat×Nat))(nb:List (Nat×Ent))(r':AV)(ho:o.op=.call ⟨.value (.func f),os,ats⟩)(hargs:os.toList.map (evA τ)=xs)
  (hc:ACallG C f ys bs ks r bs') (k:K ⟨r',[],nb.map (·.1)⟩) (hd:InB n o.dst:=by exact bT2 rfl) (hok:okC ρ [] bs ks bs' (idsE [])=true:=by rfl)
  (hw:GWL η (fE bs) (lk ρ) (fun i=>inB [] i=true) (fun i=>inB (keys bs) i=true) xs ys:=by exact zg_XDChk) (hb:GBL η (fE bs) (lk ρ) (fun i=>inB [] i=true) (fun i=>inB (keys bs) i=true) bs:=by exact zg_XDChk)
  (hr:GW (fE bs') (updAll η ([]++nb)) (lk (backN ρ bs')) (fun _=>False) (fun i=>inB (idsE nb) i=true) r r':=by exact zg_XDChk)
  (hnb:nbOk n η (updAll η ([]++nb)) ρ ks (fE bs') (lk (backN ρ bs')) (fun i=>inB (idsE nb) i=true) bs' nb:=by exact zn_XDChk) (hs:sameUs η nb:=by repeat (first|exact True.intro|refine And.intro rfl ?_)):∃ f:Foot,LF C n o τ η f∧K f:=⟨_,lf_callK (lf_callG ρ [] [] nb ho hd hargs hc hok True.intro True.intro hw hb hr hnb) hs,k⟩
def M_ce_formed_L1 (a0:List Fact):Nat→Int→Option (Bool)|0,_=>none|k6+1,v5=>sel (decide (v5<((a0.map cF).length:Int))) (ix a0 v5 (fun y7=>sel (decide (y7.1<0)) (some false) (sel (decide (y7.1≥64)) (some false) (sel (decide (y7.2<0)) (some false) (sel (decide (y7.2≥64)) (some false) (sel (decide (v5>0)) (ix a0 (IntKind.i64.wrap (v5-1)) (fun y8=>sel (decide (y8.1≥y7.1)) (some false) (M_ce_formed_L1 a0 k6 (IntKind.i64.wrap (v5+1))))) (M_ce_formed_L1 a0 k6 (IntKind.i64.wrap (v5+1))))))))) (some true)
def M_ce_formed (a0:List Fact):Option (Bool):=M_ce_formed_L1 a0 ((((a0.map cF).length:Int)).toNat+1) 0
theorem A_ce_formed (a0:List Fact){r1:Bool}(h:M_ce_formed a0=some r1):ACall cx 43 [.sl 2 (a0.map cF)] (.c (.bool r1)):=by
 refine aOf Tryz.func43 rfl (by decide) rfl (bT2 rfl) ?_;intro _;unfold M_ce_formed at h;refine aSR ?_;intro _;refine dr_XDChk ?_;refine aSq (aSR ?_);intro _;refine dr_XDChk ?_;refine aBk ?_;refine awp_loop (α:=Nat×Int) (fun x=>mkS 46 [(0,.sl 2 (a0.map cF)),(5,.sl 2 (a0.map cF)),(6,.c (.int .i64 ((a0.map cF).length:Int))),(7,.c (.int .i64 x.2))] []) (fun x=>M_ce_formed_L1 a0 x.1 x.2=some r1) (fun x=>x.1) ((((a0.map cF).length:Int)).toNat+1,0) h ?_ ?_
 ·exact ca_XDChk
 ·intro x1 h;intro _;obtain⟨k6,m2,h⟩:=succ_of (f:=fun n=>M_ce_formed_L1 a0 n x1.2) rfl h;replace h:M_ce_formed_L1 a0 (k6+1) x1.2=some r1:=h;rw[M_ce_formed_L1]at h;refine aSR ?_;intro _;refine dr_XDChk ?_;refine aSq (aCd ?_);intro _;refine spl h (fun c3 h=>?_) (fun c3 h=>?_)
  ·refine aSk (aSq (aBk (aSR ?_)));intro _;obtain⟨y7,w4,q5,h⟩:=ix_ok h;refine Exists.intro (cF y7) (And.intro (map_at' w4) ?_);intro _;refine pr_XDChk ?_;refine dr_XDChk ?_;refine aSR ?_;intro _;refine spf h (fun c6 h=>?_) (fun c6 h=>?_)
   ·intro _;refine spf h (fun c7 h=>?_) (fun c7 h=>?_)
    ·intro _;refine spf h (fun c8 h=>?_) (fun c8 h=>?_)
     ·intro _;refine spf h (fun c9 h=>?_) (fun c9 h=>?_)
      ·intro _;refine spl h (fun c10 h=>?_) (fun c10 h=>?_)
       ·intro _;obtain⟨y8,w11,q12,h⟩:=ix_ok h;refine Exists.intro (cF y8) (And.intro (map_at' w11) ?_);intro _;refine pr_XDChk ?_;refine dr_XDChk ?_;refine aCd ?_;intro _;refine spl h (fun c13 h=>?_) (fun c13 h=>?_)
        ·refine aSR ?_;intro _;refine dr_XDChk ?_;refine aRt ?_;intro _;obtain rfl:=inj1 h;exact ca_XDChk
        ·refine aSk (aRg ?_);intro _;refine dr_XDChk ?_;refine⟨(k6,(IntKind.i64.wrap (x1.2+1))),h,ltS m2,?_⟩;exact ca_XDChk
       ·intro _;refine dr_XDChk ?_;refine aCd ?_;intro _;refine litF (aSk (aRg ?_));intro _;refine dr_XDChk ?_;refine⟨(k6,(IntKind.i64.wrap (x1.2+1))),h,ltS m2,?_⟩;exact ca_XDChk
      ·intro _;refine dr_XDChk ?_;refine aCd ?_;intro _;refine litT (aSR ?_);intro _;refine dr_XDChk ?_;refine aRt ?_;intro _;obtain rfl:=inj1 h;exact ca_XDChk
     ·intro _;refine dr_XDChk ?_;refine aCd ?_;intro _;refine litT (aSR ?_);intro _;refine dr_XDChk ?_;refine aRt ?_;intro _;obtain rfl:=inj1 h;exact ca_XDChk
    ·intro _;refine dr_XDChk ?_;refine aCd ?_;intro _;refine litT (aSR ?_);intro _;refine dr_XDChk ?_;refine aRt ?_;intro _;obtain rfl:=inj1 h;exact ca_XDChk
   ·intro _;refine dr_XDChk ?_;refine aCd ?_;intro _;refine litT (aSR ?_);intro _;refine dr_XDChk ?_;refine aRt ?_;intro _;obtain rfl:=inj1 h;exact ca_XDChk
  ·refine aEx (aSR ?_);intro _;refine dr_XDChk ?_;refine aRt ?_;intro _;obtain rfl:=inj1 h;exact ca_XDChk
def M_ce_Check_L1 (a0:GCertificate):Nat→Int→Option (Unit⊕Er)|0,_=>none|k20+1,v19=>sel (decide (v19<((a0.Nogoods.map cN).length:Int))) (ix a0.Nogoods v19 (fun y21=>ob1 (M_ce_formed y21.1) (fun z22=>sel (!z22) (some (.inr (Er.no 2))) (M_ce_Check_L1 a0 k20 (IntKind.i64.wrap (v19+1)))))) (some (.inl ()))
def M_ce_Check_L2 (a0:GCertificate):Nat→Int→Option (Er)|0,_=>none|k27+1,v26=>sel (decide (v26<((a0.Nogoods.map cN).length:Int))) (ix a0.Nogoods v26 (fun y28=>sel (decide (y28.2<0)) (some (Er.no 1)) (sel (decide (a0.Bound≥0)) (sel (decide (y28.2≥a0.Bound)) (some (Er.no 1)) (sel (decide (a0.Bound<0)) (sel (y28.2 != 0) (some (Er.no 1)) (M_ce_Check_L2 a0 k27 (IntKind.i64.wrap (v26+1)))) (M_ce_Check_L2 a0 k27 (IntKind.i64.wrap (v26+1))))) (sel (decide (a0.Bound<0)) (sel (y28.2 != 0) (some (Er.no 1)) (M_ce_Check_L2 a0 k27 (IntKind.i64.wrap (v26+1)))) (M_ce_Check_L2 a0 k27 (IntKind.i64.wrap (v26+1))))))) (some Er.nil)
def M_ce_Check (a0:GCertificate):Option (Er):=ob1 (sel (decide (a0.Bound<(-1))) (some (.inr (Er.no 1))) (sel (decide (a0.Bound>1099511627776)) (some (.inr (Er.no 1))) (some (.inl ()))):Option (Unit⊕Er)) (osum (fun _=>sel (decide (((a0.Nogoods.map cN).length:Int)>4096)) (some (Er.no 5)) (ob1 (M_ce_Check_L1 a0 ((((a0.Nogoods.map cN).length:Int)).toNat+1) 0:Option (Unit⊕Er)) (osum (fun _=>M_ce_Check_L2 a0 ((((a0.Nogoods.map cN).length:Int)).toNat+1) 0) (fun r12=>some r12)))) (fun r1=>some r1))
theorem A_ce_Check (a0:GCertificate){r1:Er}(h:M_ce_Check a0=some r1):ACall cx 18 [.agg [.c (.int .i64 a0.Bound),.sl 2 (a0.Nogoods.map cN)]] (eA r1):=by
 refine aOf Tryz.func18 rfl (by decide) rfl (bT2 rfl) ?_;intro _;unfold M_ce_Check at h;refine aSR ?_;intro _;refine dr_XDChk ?_;obtain⟨o1,h,hK2⟩:=ob1_ok h;refine awp_cut (α:=Unit) (fun _=>mkS 68 [(1,.ptr 1 0 0 0)] [(1,⟨35,2,true,[[.c (.int .i64 a0.Bound),.sl 2 (a0.Nogoods.map cN)]]⟩)]) (fun v=>o1=(.inl v)) ?_ ?_
 ·refine aSR ?_;intro _;refine spf h (fun c3 h=>?_) (fun c3 h=>?_)
  ·intro _;refine dr_XDChk ?_;refine aCd ?_;intro _;refine spl h (fun c4 h=>?_) (fun c4 h=>?_)
   ·refine aSR ?_;intro _;refine dr_XDChk ?_;refine aRt ?_;have j5:=sI_ h;subst j5;replace h:=(osum_r hK2);intro _;obtain rfl:=inj1 h;exact ca_XDChk
   ·refine aSk ?_;refine⟨(),(sI_ h).symm,?_⟩;exact ca_XDChk
  ·intro _;refine dr_XDChk ?_;refine aCd ?_;intro _;refine litT (aSR ?_);intro _;refine dr_XDChk ?_;refine aRt ?_;have j6:=sI_ h;subst j6;replace h:=(osum_r hK2);intro _;obtain rfl:=inj1 h;exact ca_XDChk
 ·rintro _ ho;have ho:=ho.symm;subst ho;intro _;replace h:=(osum_l hK2);refine aSq (aSR ?_);intro _;refine dr_XDChk ?_;refine aCd ?_;intro _;refine spl h (fun c7 h=>?_) (fun c7 h=>?_)
  ·refine aSR ?_;intro _;refine dr_XDChk ?_;refine aRt ?_;intro _;obtain rfl:=inj1 h;exact ca_XDChk
  ·refine aSk ?_;obtain⟨o8,h,hK9⟩:=ob1_ok h;refine awp_cut (α:=Unit) (fun _=>mkS 68 [(1,.ptr 1 0 0 0)] [(1,⟨35,2,true,[[.c (.int .i64 a0.Bound),.sl 2 (a0.Nogoods.map cN)]]⟩)]) (fun v=>o8=(.inl v)) ?_ ?_
   ·refine aSR ?_;intro _;refine dr_XDChk ?_;refine aBk ?_;refine awp_loop (α:=Nat×Int) (fun x=>mkS 68 [(1,.ptr 1 0 0 0),(22,.sl 2 (a0.Nogoods.map cN)),(23,.c (.int .i64 ((a0.Nogoods.map cN).length:Int))),(24,.c (.int .i64 x.2))] [(1,⟨35,2,true,[[.c (.int .i64 a0.Bound),.sl 2 (a0.Nogoods.map cN)]]⟩)]) (fun x=>M_ce_Check_L1 a0 x.1 x.2=some o8) (fun x=>x.1) ((((a0.Nogoods.map cN).length:Int)).toNat+1,0) h ?_ ?_
    ·exact ca_XDChk
    ·intro x10 h;intro _;obtain⟨k20,m11,h⟩:=succ_of (f:=fun n=>M_ce_Check_L1 a0 n x10.2) rfl h;replace h:M_ce_Check_L1 a0 (k20+1) x10.2=some o8:=h;rw[M_ce_Check_L1]at h;refine aSR ?_;intro _;refine dr_XDChk ?_;refine aSq (aCd ?_);intro _;refine spl h (fun c12 h=>?_) (fun c12 h=>?_)
     ·refine aSk (aSq (aBk (aSR ?_)));intro _;obtain⟨y21,w13,q14,h⟩:=ix_ok h;refine Exists.intro (cN y21) (And.intro (map_at' w13) ?_);intro _;refine pr_XDChk ?_;refine dr_XDChk ?_;refine aSR ?_;intro _;obtain⟨z22,u15,h⟩:=ob1_ok h;refine cl_XDChk rfl (A_ce_formed y21.1 u15) ?_;intro _;refine dr_XDChk ?_;refine aCd ?_;intro _;refine spl h (fun c16 h=>?_) (fun c16 h=>?_)
      ·refine aSR ?_;intro _;refine dr_XDChk ?_;refine aRt ?_;have j17:=sI_ h;subst j17;replace h:=(osum_r hK9);intro _;obtain rfl:=inj1 h;exact ca_XDChk
      ·refine aSk (aRg ?_);intro _;refine dr_XDChk ?_;refine⟨(k20,(IntKind.i64.wrap (x10.2+1))),h,ltS m11,?_⟩;exact ca_XDChk
     ·refine aEx ?_;refine⟨(),(sI_ h).symm,?_⟩;exact ca_XDChk
   ·rintro _ ho;have ho:=ho.symm;subst ho;intro _;replace h:=(osum_l hK9);refine aSq (aSR ?_);intro _;refine dr_XDChk ?_;refine aBk ?_;refine awp_loop (α:=Nat×Int) (fun x=>mkS 68 [(1,.ptr 1 0 0 0),(35,.sl 2 (a0.Nogoods.map cN)),(36,.c (.int .i64 ((a0.Nogoods.map cN).length:Int))),(37,.c (.int .i64 x.2))] [(1,⟨35,2,true,[[.c (.int .i64 a0.Bound),.sl 2 (a0.Nogoods.map cN)]]⟩)]) (fun x=>M_ce_Check_L2 a0 x.1 x.2=some r1) (fun x=>x.1) ((((a0.Nogoods.map cN).length:Int)).toNat+1,0) h ?_ ?_
    ·exact ca_XDChk
    ·intro x18 h;intro _;obtain⟨k27,m19,h⟩:=succ_of (f:=fun n=>M_ce_Check_L2 a0 n x18.2) rfl h;replace h:M_ce_Check_L2 a0 (k27+1) x18.2=some r1:=h;rw[M_ce_Check_L2]at h;refine aSR ?_;intro _;refine dr_XDChk ?_;refine aSq (aCd ?_);intro _;refine spl h (fun c20 h=>?_) (fun c20 h=>?_)
     ·refine aSk (aSq (aBk (aSR ?_)));intro _;obtain⟨y28,w21,q22,h⟩:=ix_ok h;refine Exists.intro (cN y28) (And.intro (map_at' w21) ?_);intro _;refine pr_XDChk ?_;refine dr_XDChk ?_;refine aSR ?_;intro _;refine spf h (fun c23 h=>?_) (fun c23 h=>?_)
      ·intro _;refine spl h (fun c24 h=>?_) (fun c24 h=>?_)
       ·intro _;refine spf h (fun c25 h=>?_) (fun c25 h=>?_)
        ·intro _;refine spl h (fun c26 h=>?_) (fun c26 h=>?_)
         ·intro _;refine dr_XDChk ?_;refine aCd ?_;intro _;refine spl h (fun c27 h=>?_) (fun c27 h=>?_)
          ·refine aSR ?_;intro _;refine dr_XDChk ?_;refine aRt ?_;intro _;obtain rfl:=inj1 h;exact ca_XDChk
          ·refine aSk (aRg ?_);intro _;refine dr_XDChk ?_;refine⟨(k27,(IntKind.i64.wrap (x18.2+1))),h,ltS m19,?_⟩;exact ca_XDChk
         ·intro _;refine dr_XDChk ?_;refine aCd ?_;intro _;refine litF (aSk (aRg ?_));intro _;refine dr_XDChk ?_;refine⟨(k27,(IntKind.i64.wrap (x18.2+1))),h,ltS m19,?_⟩;exact ca_XDChk
        ·intro _;refine dr_XDChk ?_;refine aCd ?_;intro _;refine litT (aSR ?_);intro _;refine dr_XDChk ?_;refine aRt ?_;intro _;obtain rfl:=inj1 h;exact ca_XDChk
       ·intro _;refine spl h (fun c28 h=>?_) (fun c28 h=>?_)
        ·intro _;refine dr_XDChk ?_;refine aCd ?_;intro _;refine spl h (fun c29 h=>?_) (fun c29 h=>?_)
         ·refine aSR ?_;intro _;refine dr_XDChk ?_;refine aRt ?_;intro _;obtain rfl:=inj1 h;exact ca_XDChk
         ·refine aSk (aRg ?_);intro _;refine dr_XDChk ?_;refine⟨(k27,(IntKind.i64.wrap (x18.2+1))),h,ltS m19,?_⟩;exact ca_XDChk
        ·intro _;refine dr_XDChk ?_;refine aCd ?_;intro _;refine litF (aSk (aRg ?_));intro _;refine dr_XDChk ?_;refine⟨(k27,(IntKind.i64.wrap (x18.2+1))),h,ltS m19,?_⟩;exact ca_XDChk
      ·intro _;refine dr_XDChk ?_;refine aCd ?_;intro _;refine litT (aSR ?_);intro _;refine dr_XDChk ?_;refine aRt ?_;intro _;obtain rfl:=inj1 h;exact ca_XDChk
     ·refine aEx (aSR ?_);intro _;refine dr_XDChk ?_;refine aRt ?_;intro _;obtain rfl:=inj1 h;exact ca_XDChk
def M_ce_Proper_L1 (a0:List Int)(a1:GCertificate):Nat→Int→Option (Er)|0,_=>none|k9+1,v8=>sel (decide (v8<((a1.Nogoods.map cN).length:Int))) (ix a1.Nogoods v8 (fun y10=>ob1 (M_task_Facts a0 y10.1) (fun z11=>sel (!z11) (some (Er.no 2)) (M_ce_Proper_L1 a0 a1 k9 (IntKind.i64.wrap (v8+1)))))) (some Er.nil)
def M_ce_Proper (a0:List Int)(a1:GCertificate):Option (Er):=ob1 (M_ce_Check a1) (fun z1=>erM z1 (M_ce_Proper_L1 a0 a1 ((((a1.Nogoods.map cN).length:Int)).toNat+1) 0) (fun e2=>some (Er.no e2)))
theorem A_ce_Proper (a0:List Int)(a1:GCertificate){r1:Er}(h:M_ce_Proper a0 a1=some r1):ACall cx 44 [.sl 1 (a0.map cI),.agg [.c (.int .i64 a1.Bound),.sl 2 (a1.Nogoods.map cN)]] (eA r1):=by
 refine aOf Tryz.func44 rfl (by decide) rfl (bT2 rfl) ?_;intro _;unfold M_ce_Proper at h;refine aSR ?_;intro _;refine dr_XDChk ?_;refine aSq (aSR ?_);intro _;obtain⟨z1,u1,h⟩:=ob1_ok h;refine cl_XDChk rfl (A_ce_Check a1 u1) ?_;intro _;refine dr_XDChk ?_;refine aSq ?_;rcases z1 with _|e2
 ·replace h:=erM_nil h;refine aRg ?_;intro _;refine dr_XDChk ?_;refine aCd ?_;intro _;refine litF (aSk (aSq (aSR ?_)));intro _;refine dr_XDChk ?_;refine aBk ?_;refine awp_loop (α:=Nat×Int) (fun x=>mkS 27 [(0,.sl 1 (a0.map cI)),(14,.sl 2 (a1.Nogoods.map cN)),(15,.c (.int .i64 ((a1.Nogoods.map cN).length:Int))),(16,.c (.int .i64 x.2))] []) (fun x=>M_ce_Proper_L1 a0 a1 x.1 x.2=some r1) (fun x=>x.1) ((((a1.Nogoods.map cN).length:Int)).toNat+1,0) h ?_ ?_
  ·exact ca_XDChk
  ·intro x2 h;intro _;obtain⟨k9,m3,h⟩:=succ_of (f:=fun n=>M_ce_Proper_L1 a0 a1 n x2.2) rfl h;replace h:M_ce_Proper_L1 a0 a1 (k9+1) x2.2=some r1:=h;rw[M_ce_Proper_L1]at h;refine aSR ?_;intro _;refine dr_XDChk ?_;refine aSq (aCd ?_);intro _;refine spl h (fun c4 h=>?_) (fun c4 h=>?_)
   ·refine aSk (aSq (aBk (aSR ?_)));intro _;obtain⟨y10,w5,q6,h⟩:=ix_ok h;refine Exists.intro (cN y10) (And.intro (map_at' w5) ?_);intro _;refine pr_XDChk ?_;refine dr_XDChk ?_;refine aSR ?_;intro _;obtain⟨z11,u7,h⟩:=ob1_ok h;refine cl_XDChk rfl (A_task_Facts a0 y10.1 u7) ?_;intro _;refine dr_XDChk ?_;refine aCd ?_;intro _;refine spl h (fun c8 h=>?_) (fun c8 h=>?_)
    ·refine aSR ?_;intro _;refine dr_XDChk ?_;refine aRt ?_;intro _;obtain rfl:=inj1 h;exact ca_XDChk
    ·refine aSk (aRg ?_);intro _;refine dr_XDChk ?_;refine⟨(k9,(IntKind.i64.wrap (x2.2+1))),h,ltS m3,?_⟩;exact ca_XDChk
   ·refine aEx (aSR ?_);intro _;refine dr_XDChk ?_;refine aRt ?_;intro _;obtain rfl:=inj1 h;exact ca_XDChk
 ·replace h:=erM_no h;refine aRg ?_;intro _;refine dr_XDChk ?_;refine aCd ?_;intro _;refine litT (aSR ?_);intro _;refine dr_XDChk ?_;refine aRt ?_;intro _;obtain rfl:=inj1 h;exact ca_XDChk
def M_ck_counting_L1 (a0:GChecker)(a1:Int):Nat→Int→(List (List Fact))→Option (List (List Fact))|0,_,_=>none|k7+1,v5,v6=>sel (decide (v5<((a0.c.Nogoods.map cN).length:Int))) (ix a0.c.Nogoods v5 (fun y8=>sel (decide (y8.2≤a1)) (grd ((v6.length+1)*24≤140737488355328) (M_ck_counting_L1 a0 a1 k7 (IntKind.i64.wrap (v5+1)) (v6++[y8.1]))) (M_ck_counting_L1 a0 a1 k7 (IntKind.i64.wrap (v5+1)) v6))) (grd (v6.length≤140737488355328) (some v6))
def M_ck_counting (a0:GChecker)(a1:Int):Option (List (List Fact)):=M_ck_counting_L1 a0 a1 ((((a0.c.Nogoods.map cN).length:Int)).toNat+1) 0 []
theorem A_ck_counting (a0:GChecker)(a1:Int){r1:List (List Fact)}(h:M_ck_counting a0 a1=some r1):ACallG cx 74 [.ptr 29 0 0 0,.c (.int .i64 a1)] [(29,⟨106,7,true,[[.sl 1 (a0.t.Vars.map cI),.sl 1 (a0.t.Init.map cI),.sl 2 (a0.t.Goal.map cF),.sl 4 (a0.t.Ops.map cGOp),.c (.int .i64 a0.c.Bound),.sl 2 (a0.c.Nogoods.map cN),.c (.int .i64 a0.steps)]]⟩)] [29] (.sl 1 (r1.map cL_cF)) [(29,⟨106,7,true,[[.sl 1 (a0.t.Vars.map cI),.sl 1 (a0.t.Init.map cI),.sl 2 (a0.t.Goal.map cF),.sl 4 (a0.t.Ops.map cGOp),.c (.int .i64 a0.c.Bound),.sl 2 (a0.c.Nogoods.map cN),.c (.int .i64 a0.steps)]]⟩)]:=by
 refine acallg_of 31 Tryz.func74 rfl (by decide) rfl (bT2 rfl) rfl rfl ?_;intro _;unfold M_ck_counting at h;refine aSR ?_;intro _;refine dr_XDChk ?_;refine aSR ?_;intro _;refine dr_XDChk ?_;refine aSq (aSR ?_);intro _;refine dr_XDChk ?_;refine aBk ?_;refine awp_loop (α:=Nat×Int×(List (List Fact))) (fun x=>mkG 29 31 [(1,.c (.int .i64 a1)),(5,.own 26 0 0 x.2.2.length),(12,.sl 2 (a0.c.Nogoods.map cN)),(13,.c (.int .i64 ((a0.c.Nogoods.map cN).length:Int))),(14,.c (.int .i64 x.2.1))] [(26,⟨23,1,false,x.2.2.map cL_cF⟩),(29,⟨106,7,true,[[.sl 1 (a0.t.Vars.map cI),.sl 1 (a0.t.Init.map cI),.sl 2 (a0.t.Goal.map cF),.sl 4 (a0.t.Ops.map cGOp),.c (.int .i64 a0.c.Bound),.sl 2 (a0.c.Nogoods.map cN),.c (.int .i64 a0.steps)]]⟩)]) (fun x=>M_ck_counting_L1 a0 a1 x.1 x.2.1 x.2.2=some r1) (fun x=>x.1) ((((a0.c.Nogoods.map cN).length:Int)).toNat+1,0,[]) h ?_ ?_
 ·exact ca_XDChk
 ·intro x1 h;intro _;obtain⟨k7,m2,h⟩:=succ_of (f:=fun n=>M_ck_counting_L1 a0 a1 n x1.2.1 x1.2.2) rfl h;replace h:M_ck_counting_L1 a0 a1 (k7+1) x1.2.1 x1.2.2=some r1:=h;rw[M_ck_counting_L1]at h;refine aSR ?_;intro _;refine dr_XDChk ?_;refine aSq (aCd ?_);intro _;refine spl h (fun c3 h=>?_) (fun c3 h=>?_)
  ·refine aSk (aSq (aBk (aSR ?_)));intro _;obtain⟨y8,w4,q5,h⟩:=ix_ok h;refine Exists.intro (cN y8) (And.intro (map_at' w4) ?_);intro _;refine pr_XDChk ?_;refine dr_XDChk ?_;refine aSR ?_;intro _;refine dr_XDChk ?_;refine aCd ?_;intro _;refine spl h (fun c6 h=>?_) (fun c6 h=>?_)
   ·refine aRg ?_;intro _;obtain⟨q7,h⟩:=grd_ok h;refine pl_XDChk ?_;refine pl_XDChk ?_;refine And.intro (by first|with_reducible assumption|(show(x1.2.2.length+1)*24≤140737488355328;with_reducible assumption)|omega|(simp;omega)) ?_;refine pe_XDChk ?_;refine dr_XDChk ?_;refine aRg ?_;intro _;refine dr_XDChk ?_;refine⟨(k7,(IntKind.i64.wrap (x1.2.1+1)),(x1.2.2++[y8.1])),h,ltS m2,?_⟩;exact ca_XDChk
   ·refine aSk (aRg ?_);intro _;refine dr_XDChk ?_;refine⟨(k7,(IntKind.i64.wrap (x1.2.1+1)),x1.2.2),h,ltS m2,?_⟩;exact ca_XDChk
  ·refine aEx (aSR ?_);intro _;refine dr_XDChk ?_;refine aRt ?_;obtain⟨q8,h⟩:=grd_ok h;intro _;obtain rfl:=inj1 h;all_goals (refine Exists.intro [] (And.intro rfl (And.intro ?_ ?_)));all_goals (exact zg_XDChk)
def M_ck_covered (g:Nat)(a0:GChecker)(a1:List Fact)(a2:Int):Option (Bool×Er×GChecker):=ob1 (M_ck_counting a0 a2) (fun z1=>ob3 (M_p_Covered g a0.t.Vars a1 z1 a0.steps) (fun z2 z3 z4=>erM z4 (some (z2,Er.nil,{ t:=a0.t,c:=a0.c,steps:=(IntKind.i64.wrap (a0.steps-z3)):GChecker })) (fun e5=>some (false,(Er.no e5),a0))))
theorem A_ck_covered (g:Nat)(a0:GChecker)(a1:List Fact)(a2:Int){r1:Bool}{r2:Er}{r3:GChecker}(h:M_ck_covered g a0 a1 a2=some (r1,r2,r3)):ACallG cx 45 [.ptr 41 0 0 0,.sl 2 (a1.map cF),.c (.int .i64 a2)] [(41,⟨106,7,true,[[.sl 1 (a0.t.Vars.map cI),.sl 1 (a0.t.Init.map cI),.sl 2 (a0.t.Goal.map cF),.sl 4 (a0.t.Ops.map cGOp),.c (.int .i64 a0.c.Bound),.sl 2 (a0.c.Nogoods.map cN),.c (.int .i64 a0.steps)]]⟩)] [41] (.tup [.c (.bool r1),eA r2]) [(41,⟨106,7,true,[[.sl 1 (r3.t.Vars.map cI),.sl 1 (r3.t.Init.map cI),.sl 2 (r3.t.Goal.map cF),.sl 4 (r3.t.Ops.map cGOp),.c (.int .i64 r3.c.Bound),.sl 2 (r3.c.Nogoods.map cN),.c (.int .i64 r3.steps)]]⟩)]:=by
 refine acallg_of 44 Tryz.func45 rfl (by decide) rfl (bT2 rfl) rfl rfl ?_;intro _;unfold M_ck_covered at h;refine aSR ?_;intro _;refine dr_XDChk ?_;refine aSR ?_;intro _;obtain⟨z1,u1,h⟩:=ob1_ok h;refine clk_XDChk [(29,41)] [(41,⟨0,some ⟨106,7,true,[[.sl 1 (a0.t.Vars.map cI),.sl 1 (a0.t.Init.map cI),.sl 2 (a0.t.Goal.map cF),.sl 4 (a0.t.Ops.map cGOp),.c (.int .i64 a0.c.Bound),.sl 2 (a0.c.Nogoods.map cN),.c (.int .i64 a0.steps)]]⟩⟩)] (.sl 1 (z1.map cL_cF)) rfl rfl (A_ck_counting a0 a2 u1) ?_;intro _;obtain⟨z2,z3,z4,u2,h⟩:=ob3_ok h;refine cl_XDChk rfl (A_p_Covered g a0.t.Vars a1 z1 a0.steps u2) ?_;intro _;refine dr_XDChk ?_;refine aSq (aSq ?_);rcases z4 with _|e5
 ·replace h:=erM_nil h;refine aRg ?_;intro _;refine dr_XDChk ?_;refine aCd ?_;intro _;refine litF (aSk (aSR ?_));intro _;refine dr_XDChk ?_;refine aSR ?_;intro _;refine dr_XDChk ?_;refine aRt ?_;intro _;obtain⟨rfl,rfl,rfl⟩:=inj3 h;all_goals (refine Exists.intro [] (And.intro rfl (And.intro ?_ ?_)));all_goals (exact zg_XDChk)
 ·replace h:=erM_no h;refine aRg ?_;intro _;refine dr_XDChk ?_;refine aCd ?_;intro _;refine litT (aSR ?_);intro _;refine dr_XDChk ?_;refine aRt ?_;intro _;obtain⟨rfl,rfl,rfl⟩:=inj3 h;all_goals (refine Exists.intro [] (And.intro rfl (And.intro ?_ ?_)));all_goals (exact zg_XDChk)
def M_ck_step_L1 (g:Nat)(v2:Int)(z7:List (List Fact)):Nat→Int→(List Int)→(List Int)→(List Fact)→(List GOp)→Int→(List Nogood)→Int→Option (Er×GChecker)|0,_,_,_,_,_,_,_,_=>none|k36+1,v28,v29,v30,v31,v32,v33,v34,v35=>sel (decide (v28<((z7.map cL_cF).length:Int))) (ix z7 v28 (fun y37=>ob3 (M_ck_covered g ({ t:={ Vars:=v29,Init:=v30,Goal:=v31,Ops:=v32:GTask },c:={ Bound:=v33,Nogoods:=v34:GCertificate },steps:=v35:GChecker }) y37 v2) (fun z38 z39 c40=>erM z39 (sel (!z38) (some ((Er.no 19),c40)) (M_ck_step_L1 g v2 z7 k36 (IntKind.i64.wrap (v28+1)) c40.t.Vars c40.t.Init c40.t.Goal c40.t.Ops c40.c.Bound c40.c.Nogoods c40.steps)) (fun e41=>some ((Er.no e41),c40))))) (some (Er.nil,{ t:={ Vars:=v29,Init:=v30,Goal:=v31,Ops:=v32:GTask },c:={ Bound:=v33,Nogoods:=v34:GCertificate },steps:=v35:GChecker }))
def M_ck_step (g:Nat)(a0:GChecker)(a1:Nogood)(a2:Int):Option (Er×GChecker):=ob1 (sel (decide (a0.c.Bound≥0)) (ix a0.t.Ops a2 (fun y6=>sel (decide ((IntKind.i64.wrap (a1.2+y6.Cost))≥a0.c.Bound)) (some (.inr (Er.nil,a0))) (some (.inl (IntKind.i64.wrap (a1.2+y6.Cost)))))) (some (.inl 0)):Option (Int⊕(Er×GChecker))) (osum (fun v2=>ob2 (M_g_Regress g a0.t a2 a1.1) (fun z7 z8=>erM z8 (M_ck_step_L1 g v2 z7 ((((z7.map cL_cF).length:Int)).toNat+1) 0 a0.t.Vars a0.t.Init a0.t.Goal a0.t.Ops a0.c.Bound a0.c.Nogoods a0.steps) (fun e9=>some ((Er.no e9),a0)))) (fun(r3,r4)=>some (r3,r4)))
theorem A_ck_step (g:Nat)(a0:GChecker)(a1:Nogood)(a2:Int){r1:Er}{r2:GChecker}(h:M_ck_step g a0 a1 a2=some (r1,r2)):ACallG cx 46 [.ptr 73 0 0 0,.agg [.sl 2 (a1.1.map cF),.c (.int .i64 a1.2)],.c (.int .i64 a2)] [(73,⟨106,7,true,[[.sl 1 (a0.t.Vars.map cI),.sl 1 (a0.t.Init.map cI),.sl 2 (a0.t.Goal.map cF),.sl 4 (a0.t.Ops.map cGOp),.c (.int .i64 a0.c.Bound),.sl 2 (a0.c.Nogoods.map cN),.c (.int .i64 a0.steps)]]⟩)] [73] (eA r1) [(73,⟨106,7,true,[[.sl 1 (r2.t.Vars.map cI),.sl 1 (r2.t.Init.map cI),.sl 2 (r2.t.Goal.map cF),.sl 4 (r2.t.Ops.map cGOp),.c (.int .i64 r2.c.Bound),.sl 2 (r2.c.Nogoods.map cN),.c (.int .i64 r2.steps)]]⟩)]:=by
 refine acallg_of 76 Tryz.func46 rfl (by decide) rfl (bT2 rfl) rfl rfl ?_;intro _;unfold M_ck_step at h;refine aSR ?_;intro _;refine dr_XDChk ?_;refine aSR ?_;intro _;refine dr_XDChk ?_;obtain⟨o1,h,hK2⟩:=ob1_ok h;refine awp_cut (α:=Int) (fun v2=>mkG 73 76 [(0,.ptr 73 0 0 0),(2,.c (.int .i64 a2)),(4,.ptr 4 0 0 0),(7,.c (.int .i64 v2))] [(4,⟨61,2,true,[[.sl 2 (a1.1.map cF),.c (.int .i64 a1.2)]]⟩),(73,⟨106,7,true,[[.sl 1 (a0.t.Vars.map cI),.sl 1 (a0.t.Init.map cI),.sl 2 (a0.t.Goal.map cF),.sl 4 (a0.t.Ops.map cGOp),.c (.int .i64 a0.c.Bound),.sl 2 (a0.c.Nogoods.map cN),.c (.int .i64 a0.steps)]]⟩)]) (fun v=>o1=(.inl v)) ?_ ?_
 ·refine aSR ?_;intro _;refine dr_XDChk ?_;refine aCd ?_;intro _;refine spl h (fun c3 h=>?_) (fun c3 h=>?_)
  ·refine aSR ?_;intro _;obtain⟨y6,w4,q5,h⟩:=ix_ok h;refine Exists.intro (cGOp y6) (And.intro (map_at' w4) ?_);intro _;refine pr_XDChk ?_;refine dr_XDChk ?_;refine aSR ?_;intro _;refine dr_XDChk ?_;refine aCd ?_;intro _;refine spl h (fun c6 h=>?_) (fun c6 h=>?_)
   ·refine aSR ?_;intro _;refine dr_XDChk ?_;refine aRt ?_;have j7:=sI_ h;subst j7;replace h:=(osum_r hK2);intro _;obtain⟨rfl,rfl⟩:=inj2 h;all_goals (refine Exists.intro [] (And.intro rfl (And.intro ?_ ?_)));all_goals (exact zg_XDChk)
   ·refine aSk ?_;refine⟨(IntKind.i64.wrap (a1.2+y6.Cost)),(sI_ h).symm,?_⟩;exact ca_XDChk
  ·refine aSk ?_;refine⟨0,(sI_ h).symm,?_⟩;exact ca_XDChk
 ·rintro v2 ho;have ho:=ho.symm;subst ho;intro _;replace h:=(osum_l hK2);refine aSR ?_;intro _;obtain⟨z7,z8,u8,h⟩:=ob2_ok h;refine cl_XDChk rfl (A_g_Regress g a0.t a2 a1.1 u8) ?_;intro _;refine dr_XDChk ?_;refine aSq (aSq ?_);rcases z8 with _|e9
  ·replace h:=erM_nil h;refine aRg ?_;intro _;refine dr_XDChk ?_;refine aCd ?_;intro _;refine litF (aSk (aSq (aSR ?_)));intro _;refine dr_XDChk ?_;refine aBk ?_;refine awp_loop (α:=Nat×Int×(List Int)×(List Int)×(List Fact)×(List GOp)×Int×(List Nogood)×Int) (fun x=>mkG 73 76 [(0,.ptr 73 0 0 0),(7,.c (.int .i64 v2)),(53,.sl 1 (z7.map cL_cF)),(54,.c (.int .i64 ((z7.map cL_cF).length:Int))),(55,.c (.int .i64 x.2.1))] [(73,⟨106,7,true,[[.sl 1 (x.2.2.1.map cI),.sl 1 (x.2.2.2.1.map cI),.sl 2 (x.2.2.2.2.1.map cF),.sl 4 (x.2.2.2.2.2.1.map cGOp),.c (.int .i64 x.2.2.2.2.2.2.1),.sl 2 (x.2.2.2.2.2.2.2.1.map cN),.c (.int .i64 x.2.2.2.2.2.2.2.2)]]⟩)]) (fun x=>M_ck_step_L1 g v2 z7 x.1 x.2.1 x.2.2.1 x.2.2.2.1 x.2.2.2.2.1 x.2.2.2.2.2.1 x.2.2.2.2.2.2.1 x.2.2.2.2.2.2.2.1 x.2.2.2.2.2.2.2.2=some (r1,r2)) (fun x=>x.1) ((((z7.map cL_cF).length:Int)).toNat+1,0,a0.t.Vars,a0.t.Init,a0.t.Goal,a0.t.Ops,a0.c.Bound,a0.c.Nogoods,a0.steps) h ?_ ?_
   ·exact ca_XDChk
   ·intro x9 h;intro _;obtain⟨k36,m10,h⟩:=succ_of (f:=fun n=>M_ck_step_L1 g v2 z7 n x9.2.1 x9.2.2.1 x9.2.2.2.1 x9.2.2.2.2.1 x9.2.2.2.2.2.1 x9.2.2.2.2.2.2.1 x9.2.2.2.2.2.2.2.1 x9.2.2.2.2.2.2.2.2) rfl h;replace h:M_ck_step_L1 g v2 z7 (k36+1) x9.2.1 x9.2.2.1 x9.2.2.2.1 x9.2.2.2.2.1 x9.2.2.2.2.2.1 x9.2.2.2.2.2.2.1 x9.2.2.2.2.2.2.2.1 x9.2.2.2.2.2.2.2.2=some (r1,r2):=h;rw[M_ck_step_L1]at h;refine aSR ?_;intro _;refine dr_XDChk ?_;refine aSq (aCd ?_);intro _;refine spl h (fun c11 h=>?_) (fun c11 h=>?_)
    ·refine aSk (aSq (aBk (aSR ?_)));intro _;obtain⟨y37,w12,q13,h⟩:=ix_ok h;refine Exists.intro (cL_cF y37) (And.intro (map_at' w12) ?_);intro _;refine pr_XDChk ?_;refine dr_XDChk ?_;refine aSR ?_;intro _;obtain⟨z38,z39,c40,u14,h⟩:=ob3_ok h;refine clg_XDChk [(41,73)] [] [] [(73,⟨0,some ⟨106,7,true,[[.sl 1 (c40.t.Vars.map cI),.sl 1 (c40.t.Init.map cI),.sl 2 (c40.t.Goal.map cF),.sl 4 (c40.t.Ops.map cGOp),.c (.int .i64 c40.c.Bound),.sl 2 (c40.c.Nogoods.map cN),.c (.int .i64 c40.steps)]]⟩⟩)] (.tup [.c (.bool z38),eA z39]) rfl rfl (A_ck_covered g ({ t:={ Vars:=x9.2.2.1,Init:=x9.2.2.2.1,Goal:=x9.2.2.2.2.1,Ops:=x9.2.2.2.2.2.1:GTask },c:={ Bound:=x9.2.2.2.2.2.2.1,Nogoods:=x9.2.2.2.2.2.2.2.1:GCertificate },steps:=x9.2.2.2.2.2.2.2.2:GChecker }) y37 v2 u14) ?_;intro _;refine dr_XDChk ?_;refine aSq (aSq ?_);rcases z39 with _|e41
     ·replace h:=erM_nil h;refine aRg ?_;intro _;refine dr_XDChk ?_;refine aCd ?_;intro _;refine litF (aSk (aSR ?_));intro _;refine dr_XDChk ?_;refine aCd ?_;intro _;refine spl h (fun c15 h=>?_) (fun c15 h=>?_)
      ·refine aSR ?_;intro _;refine dr_XDChk ?_;refine aRt ?_;intro _;obtain⟨rfl,rfl⟩:=inj2 h;all_goals (refine Exists.intro [] (And.intro rfl (And.intro ?_ ?_)));all_goals (exact zg_XDChk)
      ·refine aSk (aRg ?_);intro _;refine dr_XDChk ?_;refine⟨(k36,(IntKind.i64.wrap (x9.2.1+1)),c40.t.Vars,c40.t.Init,c40.t.Goal,c40.t.Ops,c40.c.Bound,c40.c.Nogoods,c40.steps),h,ltS m10,?_⟩;exact ca_XDChk
     ·replace h:=erM_no h;refine aRg ?_;intro _;refine dr_XDChk ?_;refine aCd ?_;intro _;refine litT (aSR ?_);intro _;refine dr_XDChk ?_;refine aRt ?_;intro _;obtain⟨rfl,rfl⟩:=inj2 h;all_goals (refine Exists.intro [] (And.intro rfl (And.intro ?_ ?_)));all_goals (exact zg_XDChk)
    ·refine aEx (aSR ?_);intro _;refine dr_XDChk ?_;refine aRt ?_;intro _;obtain⟨rfl,rfl⟩:=inj2 h;all_goals (refine Exists.intro [] (And.intro rfl (And.intro ?_ ?_)));all_goals (exact zg_XDChk)
  ·replace h:=erM_no h;refine aRg ?_;intro _;refine dr_XDChk ?_;refine aCd ?_;intro _;refine litT (aSR ?_);intro _;refine dr_XDChk ?_;refine aRt ?_;intro _;obtain⟨rfl,rfl⟩:=inj2 h;all_goals (refine Exists.intro [] (And.intro rfl (And.intro ?_ ?_)));all_goals (exact zg_XDChk)
def M_checker_Where_L1 (a0:GTask)(a1:GCertificate):Nat→Int→Option (Unit⊕(Int×Int×Er))|0,_=>none|k24+1,v23=>sel (decide (v23<((a1.Nogoods.map cN).length:Int))) (ix a1.Nogoods v23 (fun y25=>ob1 (M_task_Holds y25.1 a0.Init) (fun z26=>sel z26 (some (.inr ((-1),(-1),(Er.no 20)))) (M_checker_Where_L1 a0 a1 k24 (IntKind.i64.wrap (v23+1)))))) (some (.inl ()))
def M_checker_Where_L2 (a0:GTask)(g:Nat)(v184:Int)(y231:Nogood):Nat→Int→(List Int)→(List Int)→(List Fact)→(List GOp)→Int→(List Nogood)→Int→Option (((List Int)×(List Int)×(List Fact)×(List GOp)×Int×(List Nogood)×Int)⊕(Int×Int×Er))|0,_,_,_,_,_,_,_,_=>none|k254+1,v246,v247,v248,v249,v250,v251,v252,v253=>sel (decide (v246<((a0.Ops.map cGOp).length:Int))) (ob2 (M_ck_step g ({ t:={ Vars:=v247,Init:=v248,Goal:=v249,Ops:=v250:GTask },c:={ Bound:=v251,Nogoods:=v252:GCertificate },steps:=v253:GChecker }) y231 v246) (fun z255 c256=>erM z255 (M_checker_Where_L2 a0 g v184 y231 k254 (IntKind.i64.wrap (v246+1)) c256.t.Vars c256.t.Init c256.t.Goal c256.t.Ops c256.c.Bound c256.c.Nogoods c256.steps) (fun e257=>some (.inr (v184,v246,(Er.no e257)))))) (some (.inl (v247,v248,v249,v250,v251,v252,v253)))
def M_checker_Where_L3 (a0:GTask)(a1:GCertificate)(g:Nat):Nat→Int→(List Int)→(List Int)→(List Fact)→(List GOp)→Int→(List Nogood)→Int→Option (Int×Int×Er)|0,_,_,_,_,_,_,_,_=>none|k192+1,v184,v185,v186,v187,v188,v189,v190,v191=>sel (decide (v184<((a1.Nogoods.map cN).length:Int))) (ob1 (ix a1.Nogoods v184 (fun y231=>M_checker_Where_L2 a0 g v184 y231 ((((a0.Ops.map cGOp).length:Int)).toNat+1) 0 v185 v186 v187 v188 v189 v190 v191):Option (((List Int)×(List Int)×(List Fact)×(List GOp)×Int×(List Nogood)×Int)⊕(Int×Int×Er))) (osum (fun(v220,v221,v222,v223,v224,v225,v226)=>M_checker_Where_L3 a0 a1 g k192 (IntKind.i64.wrap (v184+1)) v220 v221 v222 v223 v224 v225 v226) (fun(r227,r228,r229)=>some (r227,r228,r229)))) (some ((-1),(-1),Er.nil))
def M_checker_Where (g:Nat)(a0:GTask)(a1:GCertificate)(a2:Int):Option (Int×Int×Er):=ob1 (M_task_Check a0) (fun z1=>erM z1 (ob1 (M_ce_Proper a0.Vars a1) (fun z3=>erM z3 (ob1 (M_checker_Where_L1 a0 a1 ((((a1.Nogoods.map cN).length:Int)).toNat+1) 0:Option (Unit⊕(Int×Int×Er))) (osum (fun _=>ob1 (sel (a1.Bound != 0) (ob3 (M_ck_covered g ({ t:=a0,c:=a1,steps:=(max 0 (min a2 1048576)):GChecker }) a0.Goal 0) (fun z42 z43 c44=>erM z43 (sel (!z42) (some (.inr ((-1),(-1),(Er.no 13)))) (some (.inl (c44.t.Vars,c44.t.Init,c44.t.Goal,c44.t.Ops,c44.c.Bound,c44.c.Nogoods,c44.steps)))) (fun e45=>some (.inr ((-1),(-1),(Er.no e45)))))) (some (.inl (a0.Vars,a0.Init,a0.Goal,a0.Ops,a1.Bound,a1.Nogoods,(max 0 (min a2 1048576))))):Option (((List Int)×(List Int)×(List Fact)×(List GOp)×Int×(List Nogood)×Int)⊕(Int×Int×Er))) (osum (fun(v31,v32,v33,v34,v35,v36,v37)=>M_checker_Where_L3 a0 a1 g ((((a1.Nogoods.map cN).length:Int)).toNat+1) 0 v31 v32 v33 v34 v35 v36 v37) (fun(r38,r39,r40)=>some (r38,r39,r40)))) (fun(r14,r15,r16)=>some (r14,r15,r16)))) (fun e4=>some ((-1),(-1),(Er.no e4))))) (fun e2=>some ((-1),(-1),(Er.no e2))))
theorem A_checker_Where (g:Nat)(a0:GTask)(a1:GCertificate)(a2:Int){r1:Int}{r2:Int}{r3:Er}(h:M_checker_Where g a0 a1 a2=some (r1,r2,r3)):ACall cx 19 [.agg [.sl 1 (a0.Vars.map cI),.sl 1 (a0.Init.map cI),.sl 2 (a0.Goal.map cF),.sl 4 (a0.Ops.map cGOp)],.agg [.c (.int .i64 a1.Bound),.sl 2 (a1.Nogoods.map cN)],.c (.int .i64 a2)] (.tup [.c (.int .i64 r1),.c (.int .i64 r2),eA r3]):=by
 refine aOf Tryz.func19 rfl (by decide) rfl (bT2 rfl) ?_;intro _;unfold M_checker_Where at h;refine aSR ?_;intro _;refine dr_XDChk ?_;refine aSq (aSR ?_);intro _;obtain⟨z1,u1,h⟩:=ob1_ok h;refine cl_XDChk rfl (A_task_Check a0 u1) ?_;intro _;refine dr_XDChk ?_;refine aSq ?_;rcases z1 with _|e2
 ·replace h:=erM_nil h;refine aRg ?_;intro _;refine dr_XDChk ?_;refine aCd ?_;intro _;refine litF (aSk (aSq (aSR ?_)));intro _;obtain⟨z3,u2,h⟩:=ob1_ok h;refine cl_XDChk rfl (A_ce_Proper a0.Vars a1 u2) ?_;intro _;refine dr_XDChk ?_;refine aSq ?_;rcases z3 with _|e4
  ·replace h:=erM_nil h;refine aRg ?_;intro _;refine dr_XDChk ?_;refine aCd ?_;intro _;refine litF (aSk ?_);obtain⟨o3,h,hK4⟩:=ob1_ok h;refine awp_cut (α:=Unit) (fun _=>mkS 94 [(2,.c (.int .i64 a2)),(3,.ptr 3 0 0 0),(4,.ptr 4 0 0 0)] [(3,⟨26,4,true,[[.sl 1 (a0.Vars.map cI),.sl 1 (a0.Init.map cI),.sl 2 (a0.Goal.map cF),.sl 4 (a0.Ops.map cGOp)]]⟩),(4,⟨35,2,true,[[.c (.int .i64 a1.Bound),.sl 2 (a1.Nogoods.map cN)]]⟩)]) (fun v=>o3=(.inl v)) ?_ ?_
   ·refine aSR ?_;intro _;refine dr_XDChk ?_;refine aBk ?_;refine awp_loop (α:=Nat×Int) (fun x=>mkS 94 [(2,.c (.int .i64 a2)),(3,.ptr 3 0 0 0),(4,.ptr 4 0 0 0),(33,.sl 2 (a1.Nogoods.map cN)),(34,.c (.int .i64 ((a1.Nogoods.map cN).length:Int))),(35,.c (.int .i64 x.2))] [(3,⟨26,4,true,[[.sl 1 (a0.Vars.map cI),.sl 1 (a0.Init.map cI),.sl 2 (a0.Goal.map cF),.sl 4 (a0.Ops.map cGOp)]]⟩),(4,⟨35,2,true,[[.c (.int .i64 a1.Bound),.sl 2 (a1.Nogoods.map cN)]]⟩)]) (fun x=>M_checker_Where_L1 a0 a1 x.1 x.2=some o3) (fun x=>x.1) ((((a1.Nogoods.map cN).length:Int)).toNat+1,0) h ?_ ?_
    ·exact ca_XDChk
    ·intro x5 h;intro _;obtain⟨k24,m6,h⟩:=succ_of (f:=fun n=>M_checker_Where_L1 a0 a1 n x5.2) rfl h;replace h:M_checker_Where_L1 a0 a1 (k24+1) x5.2=some o3:=h;rw[M_checker_Where_L1]at h;refine aSR ?_;intro _;refine dr_XDChk ?_;refine aSq (aCd ?_);intro _;refine spl h (fun c7 h=>?_) (fun c7 h=>?_)
     ·refine aSk (aSq (aBk (aSR ?_)));intro _;obtain⟨y25,w8,q9,h⟩:=ix_ok h;refine Exists.intro (cN y25) (And.intro (map_at' w8) ?_);intro _;refine pr_XDChk ?_;refine dr_XDChk ?_;refine aSR ?_;intro _;obtain⟨z26,u10,h⟩:=ob1_ok h;refine cl_XDChk rfl (A_task_Holds y25.1 a0.Init u10) ?_;intro _;refine dr_XDChk ?_;refine aCd ?_;intro _;refine spl h (fun c11 h=>?_) (fun c11 h=>?_)
      ·refine aSR ?_;intro _;refine dr_XDChk ?_;refine aRt ?_;have j12:=sI_ h;subst j12;replace h:=(osum_r hK4);intro _;obtain⟨rfl,rfl,rfl⟩:=inj3 h;exact ca_XDChk
      ·refine aSk (aRg ?_);intro _;refine dr_XDChk ?_;refine⟨(k24,(IntKind.i64.wrap (x5.2+1))),h,ltS m6,?_⟩;exact ca_XDChk
     ·refine aEx ?_;refine⟨(),(sI_ h).symm,?_⟩;exact ca_XDChk
   ·rintro _ ho;have ho:=ho.symm;subst ho;intro _;replace h:=(osum_l hK4);refine aSR ?_;intro _;refine⟨_,lf_min rfl (bT2 rfl) rfl rfl,?_⟩;intro _;refine⟨_,lf_max rfl (bT2 rfl) rfl rfl,?_⟩;intro _;refine dr_XDChk ?_;obtain⟨o13,h,hK14⟩:=ob1_ok h;refine awp_cut (α:=(List Int)×(List Int)×(List Fact)×(List GOp)×Int×(List Nogood)×Int) (fun(v31,v32,v33,v34,v35,v36,v37)=>mkS 94 [(3,.ptr 3 0 0 0),(4,.ptr 4 0 0 0),(13,.ptr 52 0 0 0)] [(3,⟨26,4,true,[[.sl 1 (a0.Vars.map cI),.sl 1 (a0.Init.map cI),.sl 2 (a0.Goal.map cF),.sl 4 (a0.Ops.map cGOp)]]⟩),(4,⟨35,2,true,[[.c (.int .i64 a1.Bound),.sl 2 (a1.Nogoods.map cN)]]⟩),(52,⟨106,7,true,[[.sl 1 (v31.map cI),.sl 1 (v32.map cI),.sl 2 (v33.map cF),.sl 4 (v34.map cGOp),.c (.int .i64 v35),.sl 2 (v36.map cN),.c (.int .i64 v37)]]⟩)]) (fun v=>o13=(.inl v)) ?_ ?_
    ·refine aSR ?_;intro _;refine dr_XDChk ?_;refine aCd ?_;intro _;refine spl h (fun c15 h=>?_) (fun c15 h=>?_)
     ·refine aSR ?_;intro _;obtain⟨z42,z43,c44,u16,h⟩:=ob3_ok h;refine clg_XDChk [(41,52)] [] [] [(52,⟨1,some ⟨106,7,true,[[.sl 1 (c44.t.Vars.map cI),.sl 1 (c44.t.Init.map cI),.sl 2 (c44.t.Goal.map cF),.sl 4 (c44.t.Ops.map cGOp),.c (.int .i64 c44.c.Bound),.sl 2 (c44.c.Nogoods.map cN),.c (.int .i64 c44.steps)]]⟩⟩)] (.tup [.c (.bool z42),eA z43]) rfl rfl (A_ck_covered g ({ t:=a0,c:=a1,steps:=(max 0 (min a2 1048576)):GChecker }) a0.Goal 0 u16) ?_;intro _;refine dr_XDChk ?_;refine aSq (aSq ?_);rcases z43 with _|e45
      ·replace h:=erM_nil h;refine aRg ?_;intro _;refine dr_XDChk ?_;refine aCd ?_;intro _;refine litF (aSk (aSR ?_));intro _;refine dr_XDChk ?_;refine aCd ?_;intro _;refine spl h (fun c17 h=>?_) (fun c17 h=>?_)
       ·refine aSR ?_;intro _;refine dr_XDChk ?_;refine aRt ?_;have j18:=sI_ h;subst j18;replace h:=(osum_r hK14);intro _;obtain⟨rfl,rfl,rfl⟩:=inj3 h;exact ca_XDChk
       ·refine aSk ?_;refine⟨(c44.t.Vars,c44.t.Init,c44.t.Goal,c44.t.Ops,c44.c.Bound,c44.c.Nogoods,c44.steps),(sI_ h).symm,?_⟩;exact ca_XDChk
      ·replace h:=erM_no h;refine aRg ?_;intro _;refine dr_XDChk ?_;refine aCd ?_;intro _;refine litT (aSR ?_);intro _;refine dr_XDChk ?_;refine aRt ?_;have j19:=sI_ h;subst j19;replace h:=(osum_r hK14);intro _;obtain⟨rfl,rfl,rfl⟩:=inj3 h;exact ca_XDChk
     ·refine aSk ?_;refine⟨(a0.Vars,a0.Init,a0.Goal,a0.Ops,a1.Bound,a1.Nogoods,(max 0 (min a2 1048576))),(sI_ h).symm,?_⟩;exact ca_XDChk
    ·rintro⟨v31,v32,v33,v34,v35,v36,v37⟩ ho;have ho:=ho.symm;subst ho;intro _;replace h:=(osum_l hK14);refine aSq (aSR ?_);intro _;refine dr_XDChk ?_;refine aBk ?_;refine awp_loop (α:=Nat×Int×(List Int)×(List Int)×(List Fact)×(List GOp)×Int×(List Nogood)×Int) (fun x=>mkS 94 [(3,.ptr 3 0 0 0),(13,.ptr 52 0 0 0),(70,.sl 2 (a1.Nogoods.map cN)),(71,.c (.int .i64 ((a1.Nogoods.map cN).length:Int))),(72,.c (.int .i64 x.2.1))] [(3,⟨26,4,true,[[.sl 1 (a0.Vars.map cI),.sl 1 (a0.Init.map cI),.sl 2 (a0.Goal.map cF),.sl 4 (a0.Ops.map cGOp)]]⟩),(52,⟨106,7,true,[[.sl 1 (x.2.2.1.map cI),.sl 1 (x.2.2.2.1.map cI),.sl 2 (x.2.2.2.2.1.map cF),.sl 4 (x.2.2.2.2.2.1.map cGOp),.c (.int .i64 x.2.2.2.2.2.2.1),.sl 2 (x.2.2.2.2.2.2.2.1.map cN),.c (.int .i64 x.2.2.2.2.2.2.2.2)]]⟩)]) (fun x=>M_checker_Where_L3 a0 a1 g x.1 x.2.1 x.2.2.1 x.2.2.2.1 x.2.2.2.2.1 x.2.2.2.2.2.1 x.2.2.2.2.2.2.1 x.2.2.2.2.2.2.2.1 x.2.2.2.2.2.2.2.2=some (r1,r2,r3)) (fun x=>x.1) ((((a1.Nogoods.map cN).length:Int)).toNat+1,0,v31,v32,v33,v34,v35,v36,v37) h ?_ ?_
     ·exact ca_XDChk
     ·intro x20 h;intro _;obtain⟨k192,m21,h⟩:=succ_of (f:=fun n=>M_checker_Where_L3 a0 a1 g n x20.2.1 x20.2.2.1 x20.2.2.2.1 x20.2.2.2.2.1 x20.2.2.2.2.2.1 x20.2.2.2.2.2.2.1 x20.2.2.2.2.2.2.2.1 x20.2.2.2.2.2.2.2.2) rfl h;replace h:M_checker_Where_L3 a0 a1 g (k192+1) x20.2.1 x20.2.2.1 x20.2.2.2.1 x20.2.2.2.2.1 x20.2.2.2.2.2.1 x20.2.2.2.2.2.2.1 x20.2.2.2.2.2.2.2.1 x20.2.2.2.2.2.2.2.2=some (r1,r2,r3):=h;rw[M_checker_Where_L3]at h;refine aSR ?_;intro _;refine dr_XDChk ?_;refine aSq (aCd ?_);intro _;refine spl h (fun c22 h=>?_) (fun c22 h=>?_)
      ·refine aSk ?_;obtain⟨o23,h,hK24⟩:=ob1_ok h;refine awp_cut (α:=(List Int)×(List Int)×(List Fact)×(List GOp)×Int×(List Nogood)×Int) (fun(v220,v221,v222,v223,v224,v225,v226)=>mkS 94 [(3,.ptr 3 0 0 0),(13,.ptr 52 0 0 0),(70,.sl 2 (a1.Nogoods.map cN)),(71,.c (.int .i64 ((a1.Nogoods.map cN).length:Int))),(72,.c (.int .i64 x20.2.1))] [(3,⟨26,4,true,[[.sl 1 (a0.Vars.map cI),.sl 1 (a0.Init.map cI),.sl 2 (a0.Goal.map cF),.sl 4 (a0.Ops.map cGOp)]]⟩),(52,⟨106,7,true,[[.sl 1 (v220.map cI),.sl 1 (v221.map cI),.sl 2 (v222.map cF),.sl 4 (v223.map cGOp),.c (.int .i64 v224),.sl 2 (v225.map cN),.c (.int .i64 v226)]]⟩)]) (fun v=>o23=(.inl v)) ?_ ?_
       ·refine aBk (aSR ?_);intro _;obtain⟨y231,w25,q26,h⟩:=ix_ok h;refine Exists.intro (cN y231) (And.intro (map_at' w25) ?_);intro _;refine pr_XDChk ?_;refine dr_XDChk ?_;refine aSR ?_;intro _;refine dr_XDChk ?_;refine aBk ?_;refine awp_loop (α:=Nat×Int×(List Int)×(List Int)×(List Fact)×(List GOp)×Int×(List Nogood)×Int) (fun x=>mkS 94 [(3,.ptr 3 0 0 0),(13,.ptr 52 0 0 0),(16,.c (.int .i64 x20.2.1)),(17,.ptr 17 0 0 0),(70,.sl 2 (a1.Nogoods.map cN)),(71,.c (.int .i64 ((a1.Nogoods.map cN).length:Int))),(72,.c (.int .i64 x20.2.1)),(79,.c (.int .i64 ((a0.Ops.map cGOp).length:Int))),(80,.c (.int .i64 x.2.1))] [(3,⟨26,4,true,[[.sl 1 (a0.Vars.map cI),.sl 1 (a0.Init.map cI),.sl 2 (a0.Goal.map cF),.sl 4 (a0.Ops.map cGOp)]]⟩),(17,⟨61,2,true,[[.sl 2 (y231.1.map cF),.c (.int .i64 y231.2)]]⟩),(52,⟨106,7,true,[[.sl 1 (x.2.2.1.map cI),.sl 1 (x.2.2.2.1.map cI),.sl 2 (x.2.2.2.2.1.map cF),.sl 4 (x.2.2.2.2.2.1.map cGOp),.c (.int .i64 x.2.2.2.2.2.2.1),.sl 2 (x.2.2.2.2.2.2.2.1.map cN),.c (.int .i64 x.2.2.2.2.2.2.2.2)]]⟩)]) (fun x=>M_checker_Where_L2 a0 g x20.2.1 y231 x.1 x.2.1 x.2.2.1 x.2.2.2.1 x.2.2.2.2.1 x.2.2.2.2.2.1 x.2.2.2.2.2.2.1 x.2.2.2.2.2.2.2.1 x.2.2.2.2.2.2.2.2=some o23) (fun x=>x.1) ((((a0.Ops.map cGOp).length:Int)).toNat+1,0,x20.2.2.1,x20.2.2.2.1,x20.2.2.2.2.1,x20.2.2.2.2.2.1,x20.2.2.2.2.2.2.1,x20.2.2.2.2.2.2.2.1,x20.2.2.2.2.2.2.2.2) h ?_ ?_
        ·exact ca_XDChk
        ·intro x27 h;intro _;obtain⟨k254,m28,h⟩:=succ_of (f:=fun n=>M_checker_Where_L2 a0 g x20.2.1 y231 n x27.2.1 x27.2.2.1 x27.2.2.2.1 x27.2.2.2.2.1 x27.2.2.2.2.2.1 x27.2.2.2.2.2.2.1 x27.2.2.2.2.2.2.2.1 x27.2.2.2.2.2.2.2.2) rfl h;replace h:M_checker_Where_L2 a0 g x20.2.1 y231 (k254+1) x27.2.1 x27.2.2.1 x27.2.2.2.1 x27.2.2.2.2.1 x27.2.2.2.2.2.1 x27.2.2.2.2.2.2.1 x27.2.2.2.2.2.2.2.1 x27.2.2.2.2.2.2.2.2=some o23:=h;rw[M_checker_Where_L2]at h;refine aSR ?_;intro _;refine dr_XDChk ?_;refine aSq (aCd ?_);intro _;refine spl h (fun c29 h=>?_) (fun c29 h=>?_)
         ·refine aSk (aSq (aBk (aSR ?_)));intro _;refine dr_XDChk ?_;refine aSR ?_;intro _;obtain⟨z255,c256,u30,h⟩:=ob2_ok h;refine clg_XDChk [(73,52)] [] [] [(52,⟨0,some ⟨106,7,true,[[.sl 1 (c256.t.Vars.map cI),.sl 1 (c256.t.Init.map cI),.sl 2 (c256.t.Goal.map cF),.sl 4 (c256.t.Ops.map cGOp),.c (.int .i64 c256.c.Bound),.sl 2 (c256.c.Nogoods.map cN),.c (.int .i64 c256.steps)]]⟩⟩)] (eA z255) rfl rfl (A_ck_step g ({ t:={ Vars:=x27.2.2.1,Init:=x27.2.2.2.1,Goal:=x27.2.2.2.2.1,Ops:=x27.2.2.2.2.2.1:GTask },c:={ Bound:=x27.2.2.2.2.2.2.1,Nogoods:=x27.2.2.2.2.2.2.2.1:GCertificate },steps:=x27.2.2.2.2.2.2.2.2:GChecker }) y231 x27.2.1 u30) ?_;intro _;refine dr_XDChk ?_;refine aSq ?_;rcases z255 with _|e257
          ·replace h:=erM_nil h;refine aRg ?_;intro _;refine dr_XDChk ?_;refine aCd ?_;intro _;refine litF (aSk (aRg ?_));intro _;refine dr_XDChk ?_;refine⟨(k254,(IntKind.i64.wrap (x27.2.1+1)),c256.t.Vars,c256.t.Init,c256.t.Goal,c256.t.Ops,c256.c.Bound,c256.c.Nogoods,c256.steps),h,ltS m28,?_⟩;exact ca_XDChk
          ·replace h:=erM_no h;refine aRg ?_;intro _;refine dr_XDChk ?_;refine aCd ?_;intro _;refine litT (aSR ?_);intro _;refine dr_XDChk ?_;refine aRt ?_;have j31:=sI_ h;subst j31;replace h:=(osum_r hK24);intro _;obtain⟨rfl,rfl,rfl⟩:=inj3 h;exact ca_XDChk
         ·refine aEx ?_;refine⟨(x27.2.2.1,x27.2.2.2.1,x27.2.2.2.2.1,x27.2.2.2.2.2.1,x27.2.2.2.2.2.2.1,x27.2.2.2.2.2.2.2.1,x27.2.2.2.2.2.2.2.2),(sI_ h).symm,?_⟩;exact ca_XDChk
       ·rintro⟨v220,v221,v222,v223,v224,v225,v226⟩ ho;have ho:=ho.symm;subst ho;intro _;replace h:=(osum_l hK24);refine aRg ?_;intro _;refine dr_XDChk ?_;refine⟨(k192,(IntKind.i64.wrap (x20.2.1+1)),v220,v221,v222,v223,v224,v225,v226),h,ltS m21,?_⟩;exact ca_XDChk
      ·refine aEx (aSR ?_);intro _;refine dr_XDChk ?_;refine aRt ?_;intro _;obtain⟨rfl,rfl,rfl⟩:=inj3 h;exact ca_XDChk
  ·replace h:=erM_no h;refine aRg ?_;intro _;refine dr_XDChk ?_;refine aCd ?_;intro _;refine litT (aSR ?_);intro _;refine dr_XDChk ?_;refine aRt ?_;intro _;obtain⟨rfl,rfl,rfl⟩:=inj3 h;exact ca_XDChk
 ·replace h:=erM_no h;refine aRg ?_;intro _;refine dr_XDChk ?_;refine aCd ?_;intro _;refine litT (aSR ?_);intro _;refine dr_XDChk ?_;refine aRt ?_;intro _;obtain⟨rfl,rfl,rfl⟩:=inj3 h;exact ca_XDChk
def M_checker_Verify (g:Nat)(a0:GTask)(a1:GCertificate)(a2:Int):Option (Er):=ob3 (M_checker_Where g a0 a1 a2) (fun _ _ z3=>some z3)
theorem A_checker_Verify (g:Nat)(a0:GTask)(a1:GCertificate)(a2:Int){r1:Er}(h:M_checker_Verify g a0 a1 a2=some r1):ACall cx 8 [.agg [.sl 1 (a0.Vars.map cI),.sl 1 (a0.Init.map cI),.sl 2 (a0.Goal.map cF),.sl 4 (a0.Ops.map cGOp)],.agg [.c (.int .i64 a1.Bound),.sl 2 (a1.Nogoods.map cN)],.c (.int .i64 a2)] (eA r1):=by
 refine aOf Tryz.func8 rfl (by decide) rfl (bT2 rfl) ?_;intro _;unfold M_checker_Verify at h;refine aSR ?_;intro _;refine dr_XDChk ?_;refine aSR ?_;intro _;obtain⟨z1,z2,z3,u1,h⟩:=ob3_ok h;refine cl_XDChk rfl (A_checker_Where g a0 a1 a2 u1) ?_;intro _;refine dr_XDChk ?_;refine aSR ?_;intro _;refine dr_XDChk ?_;refine aRt ?_;intro _;obtain rfl:=inj1 h;all_goals (cases z3);all_goals exact ca_XDChk
def M_ce_formed_L1_B (a0:List Fact)(_y7:Fact)(v5:Int):Unit→(Unit→Option (Bool))→Option (Bool):=fun _ rc=>ixv _y7 (fun y7=>sel (decide (y7.1<0)) (some false) (sel (decide (y7.1≥64)) (some false) (sel (decide (y7.2<0)) (some false) (sel (decide (y7.2≥64)) (some false) (sel (decide (v5>0)) (ix a0 (IntKind.i64.wrap (v5-1)) (fun y8=>sel (decide (y8.1≥y7.1)) (some false) (rc ()))) (rc ()))))))
def M_ce_formed_L1_E (_:List Fact):Unit→Option (Bool):=fun _=>some true
theorem M_ce_formed_L1_eq (a0:List Fact)  (hl:a0.length<9223372036854775807):M_ce_formed_L1 a0 (((a0.map cF).length:Int).toNat+1) 0=Rg (M_ce_formed_L1_B a0) (M_ce_formed_L1_E a0) a0 0 ():=rg_e1 (L:=fun k i _=>M_ce_formed_L1 a0 k i) hl (fun _ _ _=>rfl) ()
def M_ce_Check_L1_B (_:GCertificate)(_y21:Nogood)(_:Int):Unit→(Unit→Option (Unit⊕Er))→Option (Unit⊕Er):=fun _ rc=>ixv _y21 (fun y21=>ob1 (M_ce_formed y21.1) (fun z22=>sel (!z22) (some (.inr (Er.no 2))) (rc ())))
def M_ce_Check_L1_E (_:GCertificate):Unit→Option (Unit⊕Er):=fun _=>some (.inl ())
theorem M_ce_Check_L1_eq (a0:GCertificate)  (hl:a0.Nogoods.length<9223372036854775807):M_ce_Check_L1 a0 (((a0.Nogoods.map cN).length:Int).toNat+1) 0=Rg (M_ce_Check_L1_B a0) (M_ce_Check_L1_E a0) a0.Nogoods 0 ():=rg_e1 (L:=fun k i _=>M_ce_Check_L1 a0 k i) hl (fun _ _ _=>rfl) ()
def M_ce_Check_L2_B (a0:GCertificate)(_y28:Nogood)(_:Int):Unit→(Unit→Option (Er))→Option (Er):=fun _ rc=>ixv _y28 (fun y28=>sel (decide (y28.2<0)) (some (Er.no 1)) (sel (decide (a0.Bound≥0)) (sel (decide (y28.2≥a0.Bound)) (some (Er.no 1)) (sel (decide (a0.Bound<0)) (sel (y28.2 != 0) (some (Er.no 1)) (rc ())) (rc ()))) (sel (decide (a0.Bound<0)) (sel (y28.2 != 0) (some (Er.no 1)) (rc ())) (rc ()))))
def M_ce_Check_L2_E (_:GCertificate):Unit→Option (Er):=fun _=>some Er.nil
theorem M_ce_Check_L2_eq (a0:GCertificate)  (hl:a0.Nogoods.length<9223372036854775807):M_ce_Check_L2 a0 (((a0.Nogoods.map cN).length:Int).toNat+1) 0=Rg (M_ce_Check_L2_B a0) (M_ce_Check_L2_E a0) a0.Nogoods 0 ():=rg_e1 (L:=fun k i _=>M_ce_Check_L2 a0 k i) hl (fun _ _ _=>rfl) ()
def M_ce_Proper_L1_B (a0:List Int)(_:GCertificate)(_y10:Nogood)(_:Int):Unit→(Unit→Option (Er))→Option (Er):=fun _ rc=>ixv _y10 (fun y10=>ob1 (M_task_Facts a0 y10.1) (fun z11=>sel (!z11) (some (Er.no 2)) (rc ())))
def M_ce_Proper_L1_E (_:List Int)(_:GCertificate):Unit→Option (Er):=fun _=>some Er.nil
theorem M_ce_Proper_L1_eq (a0:List Int)(a1:GCertificate)  (hl:a1.Nogoods.length<9223372036854775807):M_ce_Proper_L1 a0 a1 (((a1.Nogoods.map cN).length:Int).toNat+1) 0=Rg (M_ce_Proper_L1_B a0 a1) (M_ce_Proper_L1_E a0 a1) a1.Nogoods 0 ():=rg_e1 (L:=fun k i _=>M_ce_Proper_L1 a0 a1 k i) hl (fun _ _ _=>rfl) ()
def M_ck_counting_L1_B (_:GChecker)(a1:Int)(_y8:Nogood)(_:Int):((List (List Fact)))→(((List (List Fact)))→Option (List (List Fact)))→Option (List (List Fact)):=fun v6 rc=>ixv _y8 (fun y8=>sel (decide (y8.2≤a1)) (grd ((v6.length+1)*24≤140737488355328) (rc ((v6++[y8.1])))) (rc (v6)))
def M_ck_counting_L1_E (_:GChecker)(_:Int):((List (List Fact)))→Option (List (List Fact)):=fun v6=>grd (v6.length≤140737488355328) (some v6)
theorem M_ck_counting_L1_eq (a0:GChecker)(a1:Int)(v6:List (List Fact))(hl:a0.c.Nogoods.length<9223372036854775807):M_ck_counting_L1 a0 a1 (((a0.c.Nogoods.map cN).length:Int).toNat+1) 0 v6=Rg (M_ck_counting_L1_B a0 a1) (M_ck_counting_L1_E a0 a1) a0.c.Nogoods 0 v6:=rg_e1 (L:=fun k i v6=>M_ck_counting_L1 a0 a1 k i v6) hl (fun _ _ _=>rfl) v6
def M_ck_step_L1_B (g:Nat)(v2:Int)(_:List (List Fact))(_y37:List Fact)(_:Int):((List Int)×(List Int)×(List Fact)×(List GOp)×(Int)×(List Nogood)×(Int))→(((List Int)×(List Int)×(List Fact)×(List GOp)×(Int)×(List Nogood)×(Int))→Option (Er×GChecker))→Option (Er×GChecker):=fun(v29,v30,v31,v32,v33,v34,v35) rc=>ixv _y37 (fun y37=>ob3 (M_ck_covered g ({ t:={ Vars:=v29,Init:=v30,Goal:=v31,Ops:=v32:GTask },c:={ Bound:=v33,Nogoods:=v34:GCertificate },steps:=v35:GChecker }) y37 v2) (fun z38 z39 c40=>erM z39 (sel (!z38) (some ((Er.no 19),c40)) (rc (c40.t.Vars,c40.t.Init,c40.t.Goal,c40.t.Ops,c40.c.Bound,c40.c.Nogoods,c40.steps))) (fun e41=>some ((Er.no e41),c40))))
def M_ck_step_L1_E (_:Nat)(_:Int)(_:List (List Fact)):((List Int)×(List Int)×(List Fact)×(List GOp)×(Int)×(List Nogood)×(Int))→Option (Er×GChecker):=fun(v29,v30,v31,v32,v33,v34,v35)=>some (Er.nil,{ t:={ Vars:=v29,Init:=v30,Goal:=v31,Ops:=v32:GTask },c:={ Bound:=v33,Nogoods:=v34:GCertificate },steps:=v35:GChecker })
theorem M_ck_step_L1_eq (g:Nat)(v2:Int)(z7:List (List Fact))(v29:List Int)(v30:List Int)(v31:List Fact)(v32:List GOp)(v33:Int)(v34:List Nogood)(v35:Int)(hl:z7.length<9223372036854775807):M_ck_step_L1 g v2 z7 (((z7.map cL_cF).length:Int).toNat+1) 0 v29 v30 v31 v32 v33 v34 v35=Rg (M_ck_step_L1_B g v2 z7) (M_ck_step_L1_E g v2 z7) z7 0 (v29,v30,v31,v32,v33,v34,v35):=rg_e1 (L:=fun k i p=>match p with|(v29,v30,v31,v32,v33,v34,v35)=>M_ck_step_L1 g v2 z7 k i v29 v30 v31 v32 v33 v34 v35) hl (fun _ _ ⟨_,_,_,_,_,_,_⟩=>rfl) (v29,v30,v31,v32,v33,v34,v35)
def M_checker_Where_L1_B (a0:GTask)(_:GCertificate)(_y25:Nogood)(_:Int):Unit→(Unit→Option (Unit⊕(Int×Int×Er)))→Option (Unit⊕(Int×Int×Er)):=fun _ rc=>ixv _y25 (fun y25=>ob1 (M_task_Holds y25.1 a0.Init) (fun z26=>sel z26 (some (.inr ((-1),(-1),(Er.no 20)))) (rc ())))
def M_checker_Where_L1_E (_:GTask)(_:GCertificate):Unit→Option (Unit⊕(Int×Int×Er)):=fun _=>some (.inl ())
theorem M_checker_Where_L1_eq (a0:GTask)(a1:GCertificate)  (hl:a1.Nogoods.length<9223372036854775807):M_checker_Where_L1 a0 a1 (((a1.Nogoods.map cN).length:Int).toNat+1) 0=Rg (M_checker_Where_L1_B a0 a1) (M_checker_Where_L1_E a0 a1) a1.Nogoods 0 ():=rg_e1 (L:=fun k i _=>M_checker_Where_L1 a0 a1 k i) hl (fun _ _ _=>rfl) ()
def M_checker_Where_L2_B (_:GTask)(g:Nat)(v184:Int)(y231:Nogood)(v246:Int):((List Int)×(List Int)×(List Fact)×(List GOp)×(Int)×(List Nogood)×(Int))→(((List Int)×(List Int)×(List Fact)×(List GOp)×(Int)×(List Nogood)×(Int))→Option (((List Int)×(List Int)×(List Fact)×(List GOp)×Int×(List Nogood)×Int)⊕(Int×Int×Er)))→Option (((List Int)×(List Int)×(List Fact)×(List GOp)×Int×(List Nogood)×Int)⊕(Int×Int×Er)):=fun(v247,v248,v249,v250,v251,v252,v253) rc=>ob2 (M_ck_step g ({ t:={ Vars:=v247,Init:=v248,Goal:=v249,Ops:=v250:GTask },c:={ Bound:=v251,Nogoods:=v252:GCertificate },steps:=v253:GChecker }) y231 v246) (fun z255 c256=>erM z255 (rc (c256.t.Vars,c256.t.Init,c256.t.Goal,c256.t.Ops,c256.c.Bound,c256.c.Nogoods,c256.steps)) (fun e257=>some (.inr (v184,v246,(Er.no e257)))))
def M_checker_Where_L2_E (_:GTask)(_:Nat)(_:Int)(_:Nogood):((List Int)×(List Int)×(List Fact)×(List GOp)×(Int)×(List Nogood)×(Int))→Option (((List Int)×(List Int)×(List Fact)×(List GOp)×Int×(List Nogood)×Int)⊕(Int×Int×Er)):=fun(v247,v248,v249,v250,v251,v252,v253)=>some (.inl (v247,v248,v249,v250,v251,v252,v253))
theorem M_checker_Where_L2_eq (a0:GTask)(g:Nat)(v184:Int)(y231:Nogood)(v247:List Int)(v248:List Int)(v249:List Fact)(v250:List GOp)(v251:Int)(v252:List Nogood)(v253:Int){m:Nat}(hm:((a0.Ops.map cGOp).length:Int)=(m:Int))(hl:m<9223372036854775807):M_checker_Where_L2 a0 g v184 y231 ((((a0.Ops.map cGOp).length:Int)).toNat+1) 0 v247 v248 v249 v250 v251 v252 v253=Rn (M_checker_Where_L2_B a0 g v184 y231) (M_checker_Where_L2_E a0 g v184 y231) m 0 (v247,v248,v249,v250,v251,v252,v253):=rn_e (L:=fun k i p=>match p with|(v247,v248,v249,v250,v251,v252,v253)=>M_checker_Where_L2 a0 g v184 y231 k i v247 v248 v249 v250 v251 v252 v253) hm hl (fun _ _ ⟨_,_,_,_,_,_,_⟩=>rfl) (v247,v248,v249,v250,v251,v252,v253)
def M_checker_Where_L3_B (a0:GTask)(_:GCertificate)(g:Nat)(_y231:Nogood)(v184:Int):((List Int)×(List Int)×(List Fact)×(List GOp)×(Int)×(List Nogood)×(Int))→(((List Int)×(List Int)×(List Fact)×(List GOp)×(Int)×(List Nogood)×(Int))→Option (Int×Int×Er))→Option (Int×Int×Er):=fun(v185,v186,v187,v188,v189,v190,v191) rc=>ob1 (ixv _y231 (fun y231=>M_checker_Where_L2 a0 g v184 y231 ((((a0.Ops.map cGOp).length:Int)).toNat+1) 0 v185 v186 v187 v188 v189 v190 v191):Option (((List Int)×(List Int)×(List Fact)×(List GOp)×Int×(List Nogood)×Int)⊕(Int×Int×Er))) (osum (fun(v220,v221,v222,v223,v224,v225,v226)=>rc (v220,v221,v222,v223,v224,v225,v226)) (fun(r227,r228,r229)=>some (r227,r228,r229)))
def M_checker_Where_L3_E (_:GTask)(_:GCertificate)(_:Nat):((List Int)×(List Int)×(List Fact)×(List GOp)×(Int)×(List Nogood)×(Int))→Option (Int×Int×Er):=fun(_,_,_,_,_,_,_)=>some ((-1),(-1),Er.nil)
theorem M_checker_Where_L3_eq (a0:GTask)(a1:GCertificate)(g:Nat)(v185:List Int)(v186:List Int)(v187:List Fact)(v188:List GOp)(v189:Int)(v190:List Nogood)(v191:Int)(hl:a1.Nogoods.length<9223372036854775807):M_checker_Where_L3 a0 a1 g (((a1.Nogoods.map cN).length:Int).toNat+1) 0 v185 v186 v187 v188 v189 v190 v191=Rg (M_checker_Where_L3_B a0 a1 g) (M_checker_Where_L3_E a0 a1 g) a1.Nogoods 0 (v185,v186,v187,v188,v189,v190,v191):=rg_e2 (L:=fun k i p=>match p with|(v185,v186,v187,v188,v189,v190,v191)=>M_checker_Where_L3 a0 a1 g k i v185 v186 v187 v188 v189 v190 v191) hl (fun k n p y hy h1 h2=>by first|(simp only[M_checker_Where_L3,M_checker_Where_L3_B,lM_,decide_lt h1,sel,ix_at hy,ixv,h2];done)|(simp only[lM_]at h1 hy;(simp only[M_checker_Where_L3,M_checker_Where_L3_B,lM_,decide_lt h1,sel,ix_at hy,ixv,h2];done))) (fun k p=>by simp only[M_checker_Where_L3,M_checker_Where_L3_E,lM_,decide_ge,sel]) (v185,v186,v187,v188,v189,v190,v191)
end Go.Proofs.YtinknhophadbkaaGreatDoor.Am
namespace Go.Proofs.YtinknhophadbkaaGreatDoor.Am
open Go.RowKit
theorem tholds_eq (l:List Fact)(s:List Int)(hl:Sh l):M_task_Holds l s=some (holdsF s l):=by
 rw[M_task_Holds,M_task_Holds_L1_eq l s hl.lt,rg_all (p:=hold1 s) (c:=some false)]
 ·rw[M_task_Holds_L1_E,holdsF];cases l.all (hold1 s) <;> rfl
 ·intro x _ i rc
  rw[M_task_Holds_L1_B,ixv,sel_dec,sel_dec,lM_,hold1]
  by_cases h0:x.1<0
  ·rw[if_pos h0,decide_eq_false (by omega),Bool.false_and,if_neg (by decide)]
  ·rw[if_neg h0,decide_eq_true (p:=0≤x.1) (by omega),Bool.true_and]
   by_cases h1:x.1<s.length
   ·rw[if_neg (by omega),decide_eq_true h1,Bool.true_and,ix_getD (d:=0) (by omega) h1,bne]
    cases s.getD x.1.toNat 0 == x.2 <;> rfl
   ·rw[if_pos (by omega),decide_eq_false h1,Bool.false_and,if_neg (by decide)]
def limF (l:List Fact):Bool:=l.all fun x=>decide (x.1<64∧x.2<64)
def frmF (l:List Fact):Bool:=vF (-1) l&&limF l
theorem formed_loop (l:List Fact)(hs:Sh l):∀ (r:List Fact)(n:Nat)(last:Int),l.drop n=r→n≤l.length→-1≤last→(n=0→last=-1)→(∀ m,n=m+1→∃ x,l[m]?=some x∧x.1=last)→Rg (M_ce_formed_L1_B l) (M_ce_formed_L1_E l) r n ()=some (vF last r&&limF r)
 | [],_,_,_,_,_,_,_=>rfl
 | y :: r,n,last,hd,hn,hl,h0,hp=>by
  rw[Rg,vF,limF,List.all_cons]
  obtain⟨hy,hd',hlt⟩:=drop_cons hd
  have hih:0≤y.1→Rg (M_ce_formed_L1_B l) (M_ce_formed_L1_E l) r ((n:Int)+1) ()=some (vF y.1 r&&limF r):=fun h=>formed_loop l hs r (n+1) y.1 hd' hlt (by omega) (by omega) (fun m hm=>⟨y,by rw[show m=n by omega];exact hy,rfl⟩)
  simp only[M_ce_formed_L1_B,ixv,sel_dec]
  by_cases h1:y.1<0
  ·rw[if_pos h1,decide_eq_false (p:=last<y.1∧0≤y.2) (by omega)];rfl
  ·rw[if_neg h1]
   by_cases h2:y.1≥64
   ·rw[if_pos h2,decide_eq_false (p:=y.1<64∧y.2<64) (by omega),Bool.false_and,Bool.and_false]
   ·rw[if_neg h2]
    by_cases h3:y.2<0
    ·rw[if_pos h3,decide_eq_false (p:=last<y.1∧0≤y.2) (by omega)];rfl
    ·rw[if_neg h3]
     by_cases h4:y.2≥64
     ·rw[if_pos h4,decide_eq_false (p:=y.1<64∧y.2<64) (by omega),Bool.false_and,Bool.and_false]
     ·rw[if_neg h4,decide_eq_true (p:=y.1<64∧y.2<64) (by omega),Bool.true_and]
      cases n with
      | zero =>
       have:=h0 rfl
       rw[if_neg (by omega),decide_eq_true (p:=last<y.1∧0≤y.2) (by omega)]
       exact hih (by omega)
      | succ m =>
       obtain⟨x,hx,hxl⟩:=hp m rfl
       rw[if_pos (by omega),w64 (by omega) (by have:=hs;unfold Sh at this;omega),show(((m+1:Nat):Int)-1)=(m:Int)by omega,ix_at hx]
       by_cases h5:x.1≥y.1
       ·rw[if_pos h5,decide_eq_false (p:=last<y.1∧0≤y.2) (by omega)];rfl
       ·rw[if_neg h5,decide_eq_true (p:=last<y.1∧0≤y.2) (by omega)]
        exact hih (by omega)
theorem formed_eq (l:List Fact)(hl:Sh l):M_ce_formed l=some (frmF l):=by
 rw[M_ce_formed,M_ce_formed_L1_eq _ hl.lt]
 exact formed_loop l hl l 0 (-1) rfl (Nat.zero_le _) (by omega) (fun _=>rfl) (fun m hm=>by omega)
structure ShC (c:GCertificate):Prop where
 list:Sh c.Nogoods
 each:∀ n∈c.Nogoods,Sh n.1
def distF (b:Int)(n:Nogood):Bool:=decide (0≤n.2∧(0≤b→n.2<b)∧(b<0→n.2=0))
def certF (c:GCertificate):Er :=
 if c.Bound < -1∨c.Bound>1099511627776 then .no 1
 else if c.Nogoods.length>4096 then .no 5
 else if(c.Nogoods.all fun n=>frmF n.1)=true then(if(c.Nogoods.all (distF c.Bound))=true then .nil else .no 1)
 else .no 2
theorem ccheck_eq (c:GCertificate)(hc:ShC c):M_ce_Check c=some (certF c):=by
 rw[M_ce_Check,certF,sel_dec,sel_dec]
 by_cases h1:c.Bound < -1
 ·rw[if_pos h1,if_pos (Or.inl h1)];rfl
 ·rw[if_neg h1]
  by_cases h2:c.Bound>1099511627776
  ·rw[if_pos h2,if_pos (Or.inr h2)];rfl
  ·rw[if_neg h2,if_neg (by omega),ob1_some,osum_inl,sel_dec,lM_]
   by_cases h3:c.Nogoods.length>4096
   ·rw[if_pos (by omega),if_pos h3]
   ·have e1:=M_ce_Check_L1_eq c (by omega)
    have e2:=M_ce_Check_L2_eq c (by omega)
    rw[lM_]at e1 e2
    rw[if_neg (by omega),if_neg h3,e1,rg_all (p:=fun n:Nogood=>frmF n.1) (c:=some (.inr (Er.no 2)))]
    ·cases ha:c.Nogoods.all fun n=>frmF n.1 with
     | false=>rw[if_neg (by decide),ob1_some,osum_inr,if_neg (by decide)]
     | true =>
      rw[if_pos rfl,if_pos rfl,M_ce_Check_L1_E,ob1_some,osum_inl,e2,rg_all (p:=distF c.Bound) (c:=some (Er.no 1)),M_ce_Check_L2_E]
      ·split <;> rfl
      ·intro n _ i rc
       rw[M_ce_Check_L2_B,ixv,distF]
       simp only[sel_dec]
       by_cases q1:n.2<0
       ·rw[if_pos q1,decide_eq_false (by omega)];rfl
       ·rw[if_neg q1]
        by_cases q2:c.Bound≥0
        ·rw[if_pos q2]
         by_cases q3:n.2≥c.Bound
         ·rw[if_pos q3,decide_eq_false (by omega)];rfl
         ·rw[if_neg q3,if_neg (by omega),decide_eq_true (by omega)];rfl
        ·rw[if_neg q2,if_pos (by omega)]
         by_cases q4:n.2=0
         ·rw[show(n.2 != 0)=false from by simp[q4],sel_ff,decide_eq_true (by omega)];rfl
         ·rw[show(n.2 != 0)=true from by simp[q4],sel_tt,decide_eq_false (by omega)];rfl
    ·intro n hn i rc
     rw[M_ce_Check_L1_B,ixv,formed_eq n.1 (hc.each n hn),ob1_some]
     cases frmF n.1 <;> rfl
def properF (vars:List Int)(c:GCertificate):Er :=
 match certF c with
 | .nil=>if(c.Nogoods.all fun n=>propF vars (-1) n.1)=true then .nil else .no 2
 | .no e=>.no e
theorem cproper_eq (vars:List Int)(c:GCertificate)(hc:ShC c):M_ce_Proper vars c=some (properF vars c):=by
 have e1:=M_ce_Proper_L1_eq vars c hc.list.lt
 rw[M_ce_Proper,ccheck_eq c hc,ob1_some,properF,e1]
 cases certF c with
 | no e=>rfl
 | nil =>
  show Rg _ _ _ _ _=_
  rw[rg_all (p:=fun n:Nogood=>propF vars (-1) n.1) (c:=some (Er.no 2)),M_ce_Proper_L1_E]
  ·simp only;split <;> rfl
  ·intro n hn i rc
   rw[M_ce_Proper_L1_B,ixv,facts_eq vars n.1 (hc.each n hn),ob1_some]
   cases propF vars (-1) n.1 <;> rfl
structure CertP (vars:List Int)(c:GCertificate):Prop where
 b0:-1≤c.Bound
 b1:c.Bound≤1099511627776
 len:c.Nogoods.length≤4096
 prop:∀ n∈c.Nogoods,propF vars (-1) n.1=true
 frm:∀ n∈c.Nogoods,frmF n.1=true
 d0:∀ n∈c.Nogoods,0≤n.2
 d1:∀ n∈c.Nogoods,0≤c.Bound→n.2<c.Bound
 d2:∀ n∈c.Nogoods,c.Bound<0→n.2=0
theorem certF_nil (c:GCertificate):certF c=.nil↔-1≤c.Bound∧c.Bound≤1099511627776∧c.Nogoods.length≤4096∧(∀ n∈c.Nogoods,frmF n.1=true)∧∀ n∈c.Nogoods,distF c.Bound n=true:=by
 unfold certF
 split
 ·exact⟨(nofun),fun h=>by omega⟩
 ·split
  ·exact⟨(nofun),fun h=>by omega⟩
  ·split
   ·rename_i h
    rw[List.all_eq_true]at h
    split
    ·rename_i h2
     rw[List.all_eq_true]at h2
     exact⟨fun _=>⟨by omega,by omega,by omega,h,h2⟩,fun _=>rfl⟩
    ·rename_i h2
     rw[List.all_eq_true]at h2
     exact⟨(nofun),fun hh=>absurd hh.2.2.2.2 h2⟩
   ·rename_i h
    rw[List.all_eq_true]at h
    exact⟨(nofun),fun hh=>absurd hh.2.2.2.1 h⟩
theorem properF_nil (vars:List Int)(c:GCertificate):properF vars c=.nil↔CertP vars c:=by
 unfold properF
 constructor
 ·intro h
  cases hc:certF c with
  | no e=>rw[hc]at h;cases h
  | nil =>
   rw[hc]at h
   simp only at h
   split at h
   ·rename_i ha
    rw[List.all_eq_true]at ha
    obtain⟨h1,h2,h3,h4,h5⟩:=(certF_nil c).1 hc
    have hd:∀ n∈c.Nogoods,0≤n.2∧(0≤c.Bound→n.2<c.Bound)∧(c.Bound<0→n.2=0):=fun n hn=>of_decide_eq_true (h5 n hn)
    exact⟨h1,h2,h3,ha,h4,fun n hn=>(hd n hn).1,fun n hn=>(hd n hn).2.1,fun n hn=>(hd n hn).2.2⟩
   ·cases h
 ·intro h
  rw[(certF_nil c).2 ⟨h.b0,h.b1,h.len,h.frm,fun n hn=>decide_eq_true ⟨h.d0 n hn,h.d1 n hn,h.d2 n hn⟩⟩]
  simp only
  rw[if_pos (List.all_eq_true.2 h.prop)]
def countL (ns:List Nogood)(d:Int):List (List Fact):=(ns.filter fun n=>decide (n.2≤d)).map (·.1)
theorem count_loop (x:GChecker)(d:Int):∀ (r:List Nogood)(i:Int)(v:List (List Fact)),v.length+r.length≤1000000 →
  Rg (M_ck_counting_L1_B x d) (M_ck_counting_L1_E x d) r i v=some (v++countL r d)
 | [],i,v,h=>by rw[Rg,M_ck_counting_L1_E,grd_t (by simp at h;omega)];simp[countL]
 | n :: r,i,v,h=>by
  rw[lC_]at h
  rw[Rg,M_ck_counting_L1_B,ixv,sel_dec]
  by_cases hd:n.2≤d
  ·rw[if_pos hd,grd_t (by omega),count_loop x d r _ _ (by simp;omega)]
   simp[countL,hd]
  ·rw[if_neg hd,count_loop x d r _ _ (by omega)]
   simp[countL,hd]
theorem counting_eq (x:GChecker)(d:Int)(h:x.c.Nogoods.length≤4096):M_ck_counting x d=some (countL x.c.Nogoods d):=by
 rw[M_ck_counting,M_ck_counting_L1_eq x d [] (by omega),count_loop x d _ _ _ (by simp;omega),List.nil_append]
theorem count_prop {vars:List Int}{c:GCertificate}(h:CertP vars c)(d:Int):PropL vars (countL c.Nogoods d):=fun x hx=>by
 obtain⟨n,hn,rfl⟩:=List.mem_map.1 hx
 exact h.prop n (List.mem_filter.1 hn).1
theorem count_len {vars:List Int}{c:GCertificate}(h:CertP vars c)(d:Int):(countL c.Nogoods d).length≤4096:=by
 unfold countL
 rw[lM_]
 exact Nat.le_trans (List.length_filter_le _ _) h.len
def askC (t:GTask)(c:GCertificate)(p:List Fact)(d r:Int):Bool×Er×Int :=
 if(covA t.Vars p (countL c.Nogoods d)).2≤r then((covA t.Vars p (countL c.Nogoods d)).1,.nil,r-(covA t.Vars p (countL c.Nogoods d)).2)else(false,.no 10,r)
theorem covA_pos (vars:List Int)(p:List Fact)(l:List (List Fact)):1≤(covA vars p l).2:=decA_pos _ _ _ _
theorem askC_r {t:GTask}{c:GCertificate}{p:List Fact}{d r:Int}(h:0≤r∧r≤1048576):0≤(askC t c p d r).2.2∧(askC t c p d r).2.2≤1048576:=by
 have:=covA_pos t.Vars p (countL c.Nogoods d)
 unfold askC
 split
 ·show 0≤r-_∧r-_≤_;omega
 ·exact h
theorem ask_eq {t:GTask}{c:GCertificate}(hd:DomP t.Vars)(hc:CertP t.Vars c)(g:Nat)(hg:70≤g)(p:List Fact)(hp:propF t.Vars (-1) p=true)(d r:Int)(hr:0≤r∧r≤1048576) :
  M_ck_covered g { t:=t,c:=c,steps:=r } p d=some ((askC t c p d r).1,(askC t c p d r).2.1,{ t:=t,c:=c,steps:=(askC t c p d r).2.2 }):=by
 have hl:=count_len hc d
 rw[M_ck_covered,counting_eq _ d hc.len,ob1_some]
 show ob3 (M_p_Covered g t.Vars p (countL c.Nogoods d) r) _=_
 rw[covered_eq hd hp (count_prop hc d) (by omega) r (by omega) g (by omega),covR,askC]
 have hpos:=covA_pos t.Vars p (countL c.Nogoods d)
 by_cases h:(covA t.Vars p (countL c.Nogoods d)).2≤r
 ·rw[if_pos h,if_pos h,ob3_some]
  show some (_,_,_)=some (_,_,_)
  rw[wrap_eq (by show _≤r-_;omega) (by show r-_≤_;omega)]
 ·rw[if_neg h,if_neg h,ob3_some];rfl
def stepL (t:GTask)(c:GCertificate)(d:Int):List (List Fact)→Int→Er×Int
 | [],r=>(.nil,r)
 | p :: ps,r=>match askC t c p d r with
  | (true,.nil,r')=>stepL t c d ps r'
  | (false,.nil,r')=>(.no 19,r')
  | (_,.no e,r')=>(.no e,r')
theorem stepL_r (t:GTask)(c:GCertificate)(d:Int):∀ (l:List (List Fact))(r:Int),0≤r∧r≤1048576→0≤(stepL t c d l r).2∧(stepL t c d l r).2≤1048576
 | [],r,h=>h
 | p :: ps,r,h=>by
  have ha:=askC_r (t:=t) (c:=c) (p:=p) (d:=d) h
  rw[stepL]
  rcases hq:askC t c p d r with⟨b,e,r'⟩
  rw[hq]at ha
  cases e with
  | no e=>cases b <;> exact ha
  | nil =>
   cases b with
   | false=>exact ha
   | true=>exact stepL_r t c d ps r' ha
theorem step_loop {t:GTask}{c:GCertificate}(hd:DomP t.Vars)(hc:CertP t.Vars c)(g:Nat)(hg:70≤g)(d:Int)(z:List (List Fact)):∀ (l:List (List Fact))(i r:Int),PropL t.Vars l→0≤r∧r≤1048576 →
  Rg (M_ck_step_L1_B g d z) (M_ck_step_L1_E g d z) l i (t.Vars,t.Init,t.Goal,t.Ops,c.Bound,c.Nogoods,r)=some ((stepL t c d l r).1,{ t:=t,c:=c,steps:=(stepL t c d l r).2 })
 | [],i,r,_,_=>rfl
 | p :: ps,i,r,hl,hr=>by
  rw[Rg,M_ck_step_L1_B]
  show ixv p (fun y37=>ob3 (M_ck_covered g { t:=t,c:=c,steps:=r } y37 d) _)=_
  rw[ixv,ask_eq hd hc g hg p (hl p (mS_ ..)) d r hr,ob3_some,stepL]
  have ha:=askC_r (t:=t) (c:=c) (p:=p) (d:=d) hr
  rcases hq:askC t c p d r with⟨b,e,r'⟩
  rw[hq]at ha
  cases e with
  | no e=>cases b <;> rfl
  | nil =>
   cases b with
   | false=>rfl
   | true=>exact step_loop hd hc g hg d z ps _ r' (fun x hx=>hl x (mC_ _ hx)) ha
def distO (c:GCertificate)(n:Nogood)(o:GOp):Int:=if 0≤c.Bound then n.2+o.Cost else 0
def skipO (c:GCertificate)(n:Nogood)(o:GOp):Bool:=decide (0≤c.Bound∧c.Bound≤n.2+o.Cost)
def stepO (t:GTask)(c:GCertificate)(n:Nogood)(o:GOp)(r:Int):Er×Int :=
 if skipO c n o=true then(.nil,r)
 else match regO t.Vars o n.1 with
  | none=>(.no 5,r)
  | some l=>stepL t c (distO c n o) l r
theorem stepO_r (t:GTask)(c:GCertificate)(n:Nogood)(o:GOp)(r:Int)(h:0≤r∧r≤1048576):0≤(stepO t c n o r).2∧(stepO t c n o r).2≤1048576:=by
 unfold stepO
 split
 ·exact h
 ·split
  ·exact h
  ·exact stepL_r _ _ _ _ _ h
theorem regO_len {t:GTask}(hgood:goodF t=true){p:List Fact}(hpf:propF t.Vars (-1) p=true){o:GOp}(ho:o∈t.Ops){l:List (List Fact)}(h:regO t.Vars o p=some l):PropL t.Vars l∧l.length≤1024:=by
 unfold regO at h
 cases hr:regG t.Vars o p [o.Pre]with
 | none=>rw[hr]at h;cases h
 | some m =>
  rw[hr,Option.map_some]at h
  obtain rfl:=sI_ h
  obtain⟨l1,-,l3⟩:=pre_prop hgood hpf ho hr
  refine⟨fun x hx=>l1 x (List.mem_filter.1 ((sortLL_mem x _).1 hx)).1,?_⟩
  rw[sortLL_length]
  exact Nat.le_trans (List.length_filter_le _ _) l3
theorem good_cost {t:GTask}(h:goodF t=true){o:GOp}(ho:o∈t.Ops):0≤o.Cost∧o.Cost≤1048576:=by
 unfold goodF at h
 simp only[bA_,List.all_eq_true]at h
 have:=h.2.2.2.2 o ho
 unfold opF at this
 simp only[bA_,decide_eq_true_iff]at this
 exact⟨this.1.1,this.1.2.1⟩
theorem step_eq {t:GTask}(ht:ShT t)(hgood:goodF t=true){c:GCertificate}(hc:CertP t.Vars c)(g:Nat)(hg:70≤g)(n:Nogood)(hn:n∈c.Nogoods)(j:Nat)(o:GOp)(hj:t.Ops[j]?=some o)(r:Int)(hr:0≤r∧r≤1048576) :
    M_ck_step g { t:=t,c:=c,steps:=r } n j=some ((stepO t c n o r).1,{ t:=t,c:=c,steps:=(stepO t c n o r).2 }):=by
  have hd:=good_dom hgood
  have ho:=mG_ hj
  have hcost:=good_cost hgood ho
  have hn0:=hc.d0 n hn
  have hn1:=hc.d1 n hn
  have hb1:=hc.b1
  have hw:0≤c.Bound→IntKind.i64.wrap (n.2+o.Cost)=n.2+o.Cost:=fun h=>wrap_eq (by omega) (by have:=hn1 h;omega)
  have hreg:∀ v:Int,v=distO c n o→skipO c n o=false→ob2 (M_g_Regress g t (j:Int) n.1) (fun z7 z8 =>
      erM z8 (M_ck_step_L1 g v z7 ((((z7.map cL_cF).length:Int)).toNat+1) 0 t.Vars t.Init t.Goal t.Ops c.Bound c.Nogoods r)
       (fun e9=>some ((Er.no e9),({ t:=t,c:=c,steps:=r }:GChecker))))=some ((stepO t c n o r).1,{ t:=t,c:=c,steps:=(stepO t c n o r).2 }):=by
    intro v hv hs
    rw[regress_eq t ht hgood n.1 (hc.prop n hn) g hg (j:Int) o (by omega) (by rw[Int.toNat_natCast];exact hj),ob2_res,stepO,hs,if_neg (by decide)]
    cases hro:regO t.Vars o n.1 with
    | none=>rfl
    | some l =>
      obtain⟨l1,l2⟩:=regO_len hgood (hc.prop n hn) ho hro
      simp only
      rw[M_ck_step_L1_eq g v l _ _ _ _ _ _ _ (by omega),step_loop hd hc g hg v l l 0 r l1 hr,hv]
  rw[M_ck_step]
  simp only[sel_dec,ge_iff_le]
  by_cases h:0≤c.Bound
  · rw[if_pos h,ix_at hj,hw h]
    by_cases h2:c.Bound≤n.2+o.Cost
    · have hs:skipO c n o=true:=decide_eq_true ⟨h,h2⟩
      rw[if_pos h2,ob1_some,osum_inr,stepO,hs,if_pos rfl]
    · rw[if_neg h2,ob1_some,osum_inl]
      exact hreg _ (by rw[distO,if_pos h]) (decide_eq_false (by omega))
  · rw[if_neg h,ob1_some,osum_inl]
    exact hreg _ (by rw[distO,if_neg h]) (decide_eq_false (by omega))
def opsC (t:GTask)(c:GCertificate)(n:Nogood)(i:Int):List GOp→Int→Int→Int⊕(Int×Int×Er)
 | [],_,r=>.inl r
 | o :: os,j,r=>match stepO t c n o r with
  | (.nil,r')=>opsC t c n i os (j+1) r'
  | (.no e,_)=>.inr (i,j,.no e)
def nogC (t:GTask)(c:GCertificate):List Nogood→Int→Int→Int×Int×Er
 | [],_,_=>(-1,-1,.nil)
 | n :: ns,i,r=>match opsC t c n i t.Ops 0 r with
  | .inl r'=>nogC t c ns (i+1) r'
  | .inr x=>x
theorem opsC_r (t:GTask)(c:GCertificate)(n:Nogood)(i:Int):∀ (l:List GOp)(j r:Int),0≤r∧r≤1048576→∀ r',opsC t c n i l j r=.inl r'→0≤r'∧r'≤1048576
 | [],j,r,h,r',e=>by rw[opsC]at e;injection e with e;omega
 | o :: os,j,r,h,r',e=>by
  have hs:=stepO_r t c n o r h
  rw[opsC]at e
  rcases hq:stepO t c n o r with⟨x,y⟩
  rw[hq]at e hs
  cases x with
  | no x=>cases e
  | nil=>exact opsC_r t c n i os (j+1) y hs r' e
theorem ops_loop {t:GTask}(ht:ShT t)(hgood:goodF t=true){c:GCertificate}(hc:CertP t.Vars c)(g:Nat)(hg:70≤g)(n:Nogood)(hn:n∈c.Nogoods)(i:Int):∀ (l:List GOp)(m j:Nat)(r:Int),t.Ops.drop j=l→l.length=m→0≤r∧r≤1048576 →
  Rn (M_checker_Where_L2_B t g i n) (M_checker_Where_L2_E t g i n) m j (t.Vars,t.Init,t.Goal,t.Ops,c.Bound,c.Nogoods,r)=some (match opsC t c n i l j r with | .inl r'=>.inl (t.Vars,t.Init,t.Goal,t.Ops,c.Bound,c.Nogoods,r') | .inr x=>.inr x)
 | [],m,j,r,_,hm,_=>by subst hm;rfl
 | o :: os,m,j,r,hdr,hm,hr=>by
  obtain⟨hj,hd',hlt⟩:=drop_cons hdr
  obtain⟨m,rfl⟩:∃ k,m=k+1:=⟨os.length,hm.symm⟩
  rw[Rn,M_checker_Where_L2_B]
  show ob2 (M_ck_step g { t:=t,c:=c,steps:=r } n (j:Int)) _=_
  have hs:=stepO_r t c n o r hr
  rw[step_eq ht hgood hc g hg n hn j o hj r hr,ob2_some,opsC]
  rcases hq:stepO t c n o r with⟨x,y⟩
  rw[hq]at hs
  cases x with
  | no x=>rfl
  | nil=>exact ops_loop ht hgood hc g hg n hn i os m (j+1) y hd' (by simpa using hm) hs
theorem nog_loop {t:GTask}(ht:ShT t)(hgood:goodF t=true){c:GCertificate}(hc:CertP t.Vars c)(g:Nat)(hg:70≤g):∀ (l:List Nogood)(i r:Int),(∀ n∈l,n∈c.Nogoods)→0≤r∧r≤1048576 →
  Rg (M_checker_Where_L3_B t c g) (M_checker_Where_L3_E t c g) l i (t.Vars,t.Init,t.Goal,t.Ops,c.Bound,c.Nogoods,r)=some (nogC t c l i r)
 | [],i,r,_,_=>rfl
 | n :: ns,i,r,hl,hr=>by
  have hops:t.Ops.length≤4096:=by
   unfold goodF at hgood
   simp only[bA_,decide_eq_true_iff]at hgood
   exact hgood.1.2
  rw[Rg,M_checker_Where_L3_B]
  show ob1 (ixv n (fun y231=>M_checker_Where_L2 t g i y231 ((((t.Ops.map cGOp).length:Int)).toNat+1) 0 t.Vars t.Init t.Goal t.Ops c.Bound c.Nogoods r)) _=_
  rw[ixv,M_checker_Where_L2_eq t g i n _ _ _ _ _ _ _ (m:=t.Ops.length) (by rw[lM_]) (by omega)]
  have e:=ops_loop ht hgood hc g hg n (hl n (mS_ ..)) i t.Ops t.Ops.length 0 r rfl rfl hr
  have e':Rn (M_checker_Where_L2_B t g i n) (M_checker_Where_L2_E t g i n) t.Ops.length 0 (t.Vars,t.Init,t.Goal,t.Ops,c.Bound,c.Nogoods,r)=_:=e
  rw[e',ob1_some,nogC]
  have hr2:=opsC_r t c n i t.Ops 0 r hr
  show osum _ _ (match opsC t c n i t.Ops 0 r with | .inl r'=>_ | .inr x=>_)=_
  cases ho:opsC t c n i t.Ops 0 r with
  | inl r'=>exact nog_loop ht hgood hc g hg ns _ r' (fun x hx=>hl x (mC_ _ hx)) (hr2 r' ho)
  | inr x=>rfl
def whereC (t:GTask)(c:GCertificate)(r:Int):Int×Int×Er :=
 if c.Nogoods.any (fun n=>holdsF t.Init n.1)=true then(-1,-1,.no 20)
 else if c.Bound=0 then nogC t c c.Nogoods 0 r
 else match askC t c t.Goal 0 r with
  | (true,.nil,r')=>nogC t c c.Nogoods 0 r'
  | (false,.nil,_)=>(-1,-1,.no 13)
  | (_,.no e,_)=>(-1,-1,.no e)
def whereF (t:GTask)(c:GCertificate)(steps:Int):Int×Int×Er :=
 match checkF t with
 | .no e=>(-1,-1,.no e)
 | .nil=>match properF t.Vars c with
  | .no e=>(-1,-1,.no e)
  | .nil=>whereC t c (max 0 (min steps 1048576))
theorem where_eq (t:GTask)(ht:ShT t)(c:GCertificate)(hc:ShC c)(steps:Int)(g:Nat)(hg:70≤g):M_checker_Where g t c steps=some (whereF t c steps):=by
 rw[M_checker_Where,check_eq t ht,ob1_some,whereF]
 cases hck:checkF t with
 | no e=>rfl
 | nil =>
  have hgood:=(good_check t).2 hck
  show ob1 (M_ce_Proper t.Vars c) _=_
  rw[cproper_eq t.Vars c hc,ob1_some]
  cases hpr:properF t.Vars c with
  | no e=>rfl
  | nil =>
   have hcp:=(properF_nil t.Vars c).1 hpr
   have hd:=good_dom hgood
   have e1:=M_checker_Where_L1_eq t c hc.list.lt
   have hr:0≤max 0 (min steps 1048576)∧max 0 (min steps 1048576)≤1048576:=by omega
   have hgoal:propF t.Vars (-1) t.Goal=true:=by
    unfold goodF at hgood
    simp only[bA_]at hgood
    exact hgood.2.2.2.1
   show ob1 (M_checker_Where_L1 t c _ 0) _=_
   rw[e1,rg_all (p:=fun n:Nogood=>!holdsF t.Init n.1) (c:=some (.inr ((-1),(-1),(Er.no 20)))),whereC]
   ·have hna:(c.Nogoods.all fun n=>!holdsF t.Init n.1)=!(c.Nogoods.any fun n=>holdsF t.Init n.1):=by rw[List.not_any_eq_all_not]
    rw[hna]
    cases ha:c.Nogoods.any fun n=>holdsF t.Init n.1 with
    | true=>rfl
    | false =>
     rw[Bool.not_false,if_pos rfl,M_checker_Where_L1_E,ob1_some,osum_inl,if_neg (by decide)]
     have hnog:∀ r:Int,0≤r∧r≤1048576→M_checker_Where_L3 t c g ((((c.Nogoods.map cN).length:Int)).toNat+1) 0 t.Vars t.Init t.Goal t.Ops c.Bound c.Nogoods r=some (nogC t c c.Nogoods 0 r):=fun r hr=>by
      rw[M_checker_Where_L3_eq t c g _ _ _ _ _ _ _ hc.list.lt,nog_loop ht hgood hcp g hg c.Nogoods 0 r (fun _ h=>h) hr]
     by_cases hb:c.Bound=0
     ·rw[if_pos hb,show(c.Bound != 0)=false from by simp[hb],sel_ff,ob1_some,osum_inl]
      exact hnog _ hr
     ·rw[if_neg hb,show(c.Bound != 0)=true from by simp[hb],sel_tt,ask_eq hd hcp g hg t.Goal hgoal 0 _ hr,ob3_some]
      have ha:=askC_r (t:=t) (c:=c) (p:=t.Goal) (d:=0) hr
      rcases hq:askC t c t.Goal 0 (max 0 (min steps 1048576))with⟨b,e,r'⟩
      rw[hq]at ha
      cases e with
      | no e=>cases b <;> rfl
      | nil =>
       cases b with
       | false=>rfl
       | true=>exact hnog r' ha
   ·intro n hn i rc
    rw[M_checker_Where_L1_B,ixv,tholds_eq n.1 t.Init (hc.each n hn),ob1_some]
    cases holdsF t.Init n.1 <;> rfl
def verF (t:GTask)(c:GCertificate)(steps:Int):Er:=(whereF t c steps).2.2
theorem verify_eq (t:GTask)(ht:ShT t)(c:GCertificate)(hc:ShC c)(steps:Int)(g:Nat)(hg:70≤g):M_checker_Verify g t c steps=some (verF t c steps):=by
 rw[M_checker_Verify,where_eq t ht c hc steps g hg]
 rfl
def claimsF (ns:List Nogood)(s:List Int)(d:Int):Bool:=ns.any fun n=>decide (n.2≤d)&&holdsF s n.1
theorem some_count {s:List Int}{ns:List Nogood}{d:Int}:some1 s (countL ns d)↔claimsF ns s d=true:=by
 unfold some1 countL claimsF
 rw[List.any_eq_true]
 constructor
 ·rintro⟨z,hz,h⟩
  obtain⟨n,hn,rfl⟩:=List.mem_map.1 hz
  obtain⟨h1,h2⟩:=List.mem_filter.1 hn
  exact⟨n,h1,by rw[h2,h];rfl⟩
 ·rintro⟨n,hn,h⟩
  rw[bA_]at h
  exact⟨n.1,List.mem_map.2 ⟨n,List.mem_filter.2 ⟨hn,h.1⟩,rfl⟩,h.2⟩
def covB (t:GTask)(c:GCertificate)(d:Int)(p:List Fact):Bool:=(covA t.Vars p (countL c.Nogoods d)).1
theorem covB_true {t:GTask}(hgood:goodF t=true){c:GCertificate}(hc:CertP t.Vars c){p:List Fact}(hp:propF t.Vars (-1) p=true)(d:Int):covB t c d p=true↔∀ s,stateF t.Vars s=true→holdsF s p=true→claimsF c.Nogoods s d=true:=by
 rw[covB,covA_true (good_dom hgood) hp (count_prop hc d)]
 exact forall_congr' fun s=>by rw[some_count]
def inF (o:GOp)(p:List Fact)(s:List Int):Bool:=holdsF s o.Pre&&holdsF (nextF s o) p
theorem inF_iff {t:GTask}(hgood:goodF t=true){o:GOp}(ho:o∈t.Ops){s:List Int}(hs:StP t.Vars s){p:List Fact}(hp:propF t.Vars (-1) p=true){l:List (List Fact)}(h:regO t.Vars o p=some l):some1 s l↔inF o p s=true:=by
 rw[some_regO hgood ho hs hp h,inF,bA_,holds_next hgood hs ho hp]
structure Acc (t:GTask)(c:GCertificate):Prop where
 init:∀ n∈c.Nogoods,holdsF t.Init n.1=false
 goal:c.Bound≠0→∀ s∈allF t,holdsF s t.Goal=true→claimsF c.Nogoods s 0=true
 step:∀ n∈c.Nogoods,∀ o∈t.Ops,skipO c n o=false→∀ s∈allF t,inF o n.1 s=true→claimsF c.Nogoods s (distO c n o)=true
theorem good_goal {t:GTask}(h:goodF t=true):propF t.Vars (-1) t.Goal=true:=by
 unfold goodF at h
 simp only[bA_]at h
 exact h.2.2.2.1
theorem ask_nil {t:GTask}{c:GCertificate}{p:List Fact}{d r:Int}(h:(askC t c p d r).2.1=.nil):(askC t c p d r).1=covB t c d p:=by
 unfold askC at h ⊢
 split at h
 ·rename_i h1;rw[if_pos h1];rfl
 ·cases h
theorem stepL_nil (t:GTask)(c:GCertificate)(d:Int):∀ (l:List (List Fact))(r:Int),(stepL t c d l r).1=.nil→∀ p∈l,covB t c d p=true
 | [],r,_,p,hp=>by cases hp
 | p :: ps,r,h,q,hq=>by
  have ha:=ask_nil (t:=t) (c:=c) (p:=p) (d:=d) (r:=r)
  rw[stepL]at h
  rcases hk:askC t c p d r with⟨b,e,r'⟩
  rw[hk]at ha h
  cases e with
  | no e=>cases b <;> cases h
  | nil =>
   cases b with
   | false=>cases h
   | true =>
    rcases List.mem_cons.1 hq with rfl|hq
    ·exact(ha rfl).symm
    ·exact stepL_nil t c d ps r' h q hq
theorem opsC_inl (t:GTask)(c:GCertificate)(n:Nogood)(i:Int):∀ (l:List GOp)(j r r':Int),opsC t c n i l j r=.inl r'→∀ o∈l,∃ x,(stepO t c n o x).1=.nil
 | [],j,r,r',_,o,ho=>by cases ho
 | o :: os,j,r,r',h,u,hu=>by
  rw[opsC]at h
  rcases hk:stepO t c n o r with⟨e,y⟩
  rw[hk]at h
  cases e with
  | no e=>cases h
  | nil =>
   rcases List.mem_cons.1 hu with rfl|hu
   ·exact⟨r,by rw[hk]⟩
   ·exact opsC_inl t c n i os (j+1) y r' h u hu
theorem nogC_nil (t:GTask)(c:GCertificate):∀ (l:List Nogood)(i r:Int),(nogC t c l i r).2.2=.nil→∀ n∈l,∀ o∈t.Ops,∃ x,(stepO t c n o x).1=.nil
 | [],i,r,_,n,hn=>by cases hn
 | n :: ns,i,r,h,u,hu=>by
  rw[nogC]at h
  cases hk:opsC t c n i t.Ops 0 r with
  | inl r' =>
   rw[hk]at h
   rcases List.mem_cons.1 hu with rfl|hu
   ·exact opsC_inl t c u i t.Ops 0 r r' hk
   ·exact nogC_nil t c ns (i+1) r' h u hu
  | inr x =>
   exfalso
   have key:∀ (l:List GOp) (j r:Int) (x:Int×Int×Er),opsC t c n i l j r=.inr x→x.2.2≠.nil:=by
    intro l
    induction l with
    | nil=>intro j r x e;cases e
    | cons o os ih =>
     intro j r x e
     rw[opsC]at e
     rcases hs:stepO t c n o r with⟨e1,y⟩
     rw[hs]at e
     cases e1 with
     | no z=>injection e with e;subst e;exact fun h=>by cases h
     | nil=>exact ih (j+1) y x e
   rw[hk]at h
   exact key _ _ _ _ hk h
theorem step_acc {t:GTask}(hgood:goodF t=true){c:GCertificate}(hc:CertP t.Vars c)(h:∀ n∈c.Nogoods,∀ o∈t.Ops,∃ x,(stepO t c n o x).1=.nil):∀ n∈c.Nogoods,∀ o∈t.Ops,skipO c n o=false→∀ s∈allF t,inF o n.1 s=true→claimsF c.Nogoods s (distO c n o)=true:=by
 intro n hn o ho hsk s hs hi
 obtain⟨x,hx⟩:=h n hn o ho
 rw[stepO,hsk,if_neg (by decide)]at hx
 cases hro:regO t.Vars o n.1 with
 | none=>rw[hro]at hx;cases hx
 | some l =>
  rw[hro]at hx
  have hst:=(allF_mem t s).1 hs
  obtain⟨z,hz,hh⟩:=(inF_iff hgood ho (stateF_st hst) (hc.prop n hn) hro).2 hi
  exact(covB_true hgood hc ((regO_len hgood (hc.prop n hn) ho hro).1 z hz) _).1 (stepL_nil t c _ l x hx z hz) s hst hh
theorem ver_acc {t:GTask}{c:GCertificate}{steps:Int}(h:verF t c steps=.nil):goodF t=true∧CertP t.Vars c∧Acc t c:=by
 unfold verF whereF at h
 cases hck:checkF t with
 | no e=>rw[hck]at h;cases h
 | nil =>
  have hgood:=(good_check t).2 hck
  rw[hck]at h
  simp only at h
  cases hp:properF t.Vars c with
  | no e=>rw[hp]at h;cases h
  | nil =>
   have hc:=(properF_nil t.Vars c).1 hp
   rw[hp]at h
   simp only at h
   refine⟨hgood,hc,?_⟩
   unfold whereC at h
   cases hi:c.Nogoods.any fun n=>holdsF t.Init n.1 with
   | true=>rw[hi,if_pos rfl]at h;cases h
   | false =>
    rw[hi,if_neg (by decide)]at h
    have hin:∀ n∈c.Nogoods,holdsF t.Init n.1=false:=fun n hn=>by
     rw[Bool.eq_false_iff]
     intro h2
     rw[List.any_eq_true.2 ⟨n,hn,h2⟩]at hi
     cases hi
    by_cases hb:c.Bound=0
    ·rw[if_pos hb]at h
     exact⟨hin,fun h2=>absurd hb h2,step_acc hgood hc (nogC_nil t c _ _ _ h)⟩
    ·rw[if_neg hb]at h
     have ha:=ask_nil (t:=t) (c:=c) (p:=t.Goal) (d:=0) (r:=max 0 (min steps 1048576))
     rcases hk:askC t c t.Goal 0 (max 0 (min steps 1048576))with⟨b,e,r'⟩
     rw[hk]at ha h
     cases e with
     | no e=>cases b <;> cases h
     | nil =>
      cases b with
      | false=>cases h
      | true=>exact⟨hin,fun _ s hs hh=>(covB_true hgood hc (good_goal hgood) 0).1 (ha rfl).symm s ((allF_mem t s).1 hs) hh,step_acc hgood hc (nogC_nil t c _ _ _ h)⟩
end Go.Proofs.YtinknhophadbkaaGreatDoor.Am
namespace Go.Proofs.YtinknhophadbkaaGreatDoor.Am
set_option maxHeartbeats 16000000
set_option maxRecDepth 100000
open Go.RowKit
structure GEdge where
 From:Int
 Op:Int
 To:Int
 deriving DecidableEq
def cGEdge (x:GEdge):List AV:=[.c (.int .i64 x.From),.c (.int .i64 x.Op),.c (.int .i64 x.To)]
theorem fr_cGEdge (x:GEdge):∀ y∈cGEdge x,Fr y:=FrC_cons (.c _) (FrC_cons (.c _) (FrC_cons (.c _) (FrC_nil)))
theorem frl_cGEdge (l:List GEdge):FrL (l.map cGEdge):=FrL_map (fun x _=>fr_cGEdge x)
instance {l:List GEdge}:FrI (l.map cGEdge):=⟨frl_cGEdge l⟩
theorem ci_XDDis {p K:Prop}(k:K)(h:p:=by first|rfl|exact⟨rfl,rfl⟩|exact BW.fr FrV.h|(refine BW.fr ?_;assumption)|(refine⟨rfl,?_⟩;(simp[cGTask,cI,cF,cGOp,cGEffect,cL_cI,cGEdge,take_len_map];done))|(refine RowK.same ?_ FrI.h;first|rfl|(simp[cGTask,cI,cF,cGOp,cGEffect,cL_cI,cGEdge,take_len_map];done))|(refine row_part1 ?_;(repeat (first|exact BWL.nil|exact bwll_nil|exact bw_c|exact BW.sl|exact BW.nil|exact bwll_same rfl FrI.h|refine BWL.cons ?_ ?_|refine bwll_cons ?_ ?_|(refine bw_own3 rfl rfl rfl FrI.h ?_ ?_ ?_)|exact BW.fr FrV.h|exact BW.fr (by assumption)|refine bw_agg ?_|refine bw_clo ?_|refine bw_ptr rfl rfl rfl ?_|(refine bw_own rfl rfl rfl ?_ FrI.h ?_ ?_)|assumption|omega|rfl|(rw[lM_,← lA_];assumption)|(refine bwll_same ?_ FrI.h;(simp[cGTask,cI,cF,cGOp,cGEffect,cL_cI,cGEdge] <;> fail))|(rw[List.map_set];refine bwll_set (by first|rfl|omega|simp) ?_ ?_)|refine bwll_set (by first|rfl|omega|simp) ?_ ?_|(rw[List.map_replicate];refine bwll_rep ?_)|refine bwll_rep ?_|(rw[List.map_append];refine bwll_append ?_ ?_)|refine bwll_append ?_ ?_|(simp[cGTask,cI,cF,cGOp,cGEffect,cL_cI,cGEdge,take_len_map] <;> fail)|(rw[List.drop_zero,tL_] <;> first|rfl|(simp[cGTask,cI,cF,cGOp,cGEffect,cL_cI,cGEdge] <;> fail))|(simp;omega)|(simp only[lM_,lA_,List.drop_zero,lC_,lN_,Nat.zero_add,Nat.add_zero]at *;omega)));done)|((repeat (first|exact BWL.nil|exact bwll_nil|exact bw_c|exact BW.sl|exact BW.nil|exact bwll_same rfl FrI.h|refine BWL.cons ?_ ?_|refine bwll_cons ?_ ?_|(refine bw_own3 rfl rfl rfl FrI.h ?_ ?_ ?_)|exact BW.fr FrV.h|exact BW.fr (by assumption)|refine bw_agg ?_|refine bw_clo ?_|refine bw_ptr rfl rfl rfl ?_|(refine bw_own rfl rfl rfl ?_ FrI.h ?_ ?_)|assumption|omega|rfl|(rw[lM_,← lA_];assumption)|(refine bwll_same ?_ FrI.h;(simp[cGTask,cI,cF,cGOp,cGEffect,cL_cI,cGEdge] <;> fail))|(rw[List.map_set];refine bwll_set (by first|rfl|omega|simp) ?_ ?_)|refine bwll_set (by first|rfl|omega|simp) ?_ ?_|(rw[List.map_replicate];refine bwll_rep ?_)|refine bwll_rep ?_|(rw[List.map_append];refine bwll_append ?_ ?_)|refine bwll_append ?_ ?_|(simp[cGTask,cI,cF,cGOp,cGEffect,cL_cI,cGEdge,take_len_map] <;> fail)|(rw[List.drop_zero,tL_] <;> first|rfl|(simp[cGTask,cI,cF,cGOp,cGEffect,cL_cI,cGEdge] <;> fail))|(simp;omega)|(simp only[lM_,lA_,List.drop_zero,lC_,lN_,Nat.zero_add,Nat.add_zero]at *;omega)));done)|(simp[cGTask,cI,cF,cGOp,cGEffect,cL_cI,cGEdge,take_len_map];done)):p∧K:=⟨h,k⟩
theorem ca_XDDis {P:Prop}(h:P:=by repeat (first|exact True.intro|refine ci_XDDis ?_)):P:=h
theorem pr_XDDis {p K:Prop}(k:K)(h:p:=by first|assumption|exact Int.natCast_nonneg _|exact Nat.le_refl _|exact Nat.zero_le _|omega|(simp;done)|(simp;omega)):p∧K:=⟨h,k⟩
theorem pl_XDDis {p K:Prop}(k:K)(h:p:=by first|rfl|exact lM_ _|(simp;done)|(simp;omega)):p∧K:=⟨h,k⟩
theorem pe_XDDis {p K:Prop}(k:K)(h:p:=by first|omega|(simp;omega)|(simp only[lM_,lC_,lN_,lA_];omega)|(simp only[lM_,List.drop_zero,lC_,lN_,Nat.zero_add,Nat.add_zero]at *;omega)):p∧K:=⟨h,k⟩
theorem dr_XDDis {b:Bool}{p K:Prop}(k:K)(h:b=true→p:=by intro h;first|(cases h;done)|exact⟨by kernel_rfl,by kernel_rfl⟩):(b=true→p)∧K:=⟨h,k⟩
theorem cl_XDDis {C:Cx}{n:Nat}{o:Oper}{τ:Nat→AV}{η:Nat→Ent}{f:FuncId}{os:Array Operand}{ats:Array TypeId}{r:AV}{args:List AV}{K:Foot→Prop}(ho:o.op=.call ⟨.value (.func f),os,ats⟩)(hc:ACall C f args r)(k:K ⟨r,[],[]⟩)
  (hd:InB n o.dst:=by exact bT2 rfl) (hargs:os.toList.map (evA τ)=args:=by first|rfl|(simp[cGTask,cI,cF,cGOp,cGEffect,cL_cI,cGEdge];done)|(repeat (first|exact rfl|refine cons_eq ?_ ?_|exact sl_dt rfl))) (hfr:frs args:=by repeat (first|exact trivial|exact fr1_eA _|exact fr0_eA _|exact fr1_fr (by assumption)|exact FrV.h|exact fr1_fr FrV.h|refine And.intro ?_ ?_)) (hr:fr1 r:=by repeat (first|exact trivial|exact fr1_eA _|exact fr0_eA _|exact fr1_fr (by assumption)|exact FrV.h|exact fr1_fr FrV.h|refine And.intro ?_ ?_)):∃ f:Foot,LF C n o τ η f∧K f:=⟨_,lf_call ho hd hargs hc hfr hr,k⟩
def M_b_Rank_L1 (a0:List Int)(a1:List Int):Nat→Int→Int→Option (Int)|0,_,_=>none|k9+1,v7,v8=>sel (decide (v8<((a1.map cI).length:Int))) (ix a0 v8 (fun y10=>ix a1 v8 (fun y11=>M_b_Rank_L1 a0 a1 k9 (IntKind.i64.wrap ((IntKind.i64.wrap (v7*y10))+y11)) (IntKind.i64.wrap (v8+1))))) (some v7)
def M_b_Rank (a0:List Int)(a1:List Int):Option (Int):=M_b_Rank_L1 a0 a1 ((((a1.map cI).length:Int)).toNat+1) 0 0
theorem A_b_Rank (a0:List Int)(a1:List Int){r1:Int}(h:M_b_Rank a0 a1=some r1):ACall cx 21 [.sl 1 (a0.map cI),.sl 1 (a1.map cI)] (.c (.int .i64 r1)):=by
 refine aOf Tryz.func21 rfl (by decide) rfl (bT2 rfl) ?_;intro _;unfold M_b_Rank at h;refine aSR ?_;intro _;refine dr_XDDis ?_;refine aSR ?_;intro _;refine dr_XDDis ?_;refine aSq (aSR ?_);intro _;refine dr_XDDis ?_;refine aBk ?_;refine awp_loop (α:=Nat×Int×Int) (fun x=>mkS 25 [(0,.sl 1 (a0.map cI)),(1,.sl 1 (a1.map cI)),(5,.c (.int .i64 x.2.1)),(8,.c (.int .i64 ((a1.map cI).length:Int))),(9,.c (.int .i64 x.2.2))] []) (fun x=>M_b_Rank_L1 a0 a1 x.1 x.2.1 x.2.2=some r1) (fun x=>x.1) ((((a1.map cI).length:Int)).toNat+1,0,0) h ?_ ?_
 ·exact ca_XDDis
 ·intro x1 h;intro _;obtain⟨k9,m2,h⟩:=succ_of (f:=fun n=>M_b_Rank_L1 a0 a1 n x1.2.1 x1.2.2) rfl h;replace h:M_b_Rank_L1 a0 a1 (k9+1) x1.2.1 x1.2.2=some r1:=h;rw[M_b_Rank_L1]at h;refine aSR ?_;intro _;refine dr_XDDis ?_;refine aSq (aCd ?_);intro _;refine spl h (fun c3 h=>?_) (fun c3 h=>?_)
  ·refine aSk (aSq (aBk (aSR ?_)));intro _;refine dr_XDDis ?_;refine aRg ?_;intro _;obtain⟨y10,w4,q5,h⟩:=ix_ok h;refine Exists.intro (cI y10) (And.intro (map_at' w4) ?_);intro _;obtain⟨y11,w6,q7,h⟩:=ix_ok h;refine Exists.intro (cI y11) (And.intro (map_at' w6) ?_);intro _;refine pr_XDDis ?_;refine pr_XDDis ?_;refine dr_XDDis ?_;refine aRg ?_;intro _;refine dr_XDDis ?_;refine⟨(k9,(IntKind.i64.wrap ((IntKind.i64.wrap (x1.2.1*y10))+y11)),(IntKind.i64.wrap (x1.2.2+1))),h,ltS m2,?_⟩;exact ca_XDDis
  ·refine aEx (aSR ?_);intro _;refine dr_XDDis ?_;refine aRt ?_;intro _;obtain rfl:=inj1 h;exact ca_XDDis
def M_b_Edges_L1 (a0:GTask)(v68:Int)(y88:List Int):Nat→Int→(List GEdge)→Option (List GEdge)|0,_,_=>none|k99+1,v97,v98=>sel (decide (v97<((a0.Ops.map cGOp).length:Int))) (ob2 (M_b_Apply a0 y88 v97) (fun z100 z101=>sel z101 (ob1 (M_b_Rank a0.Vars z100) (fun z102=>grd ((v98.length+1)*24≤140737488355328) (M_b_Edges_L1 a0 v68 y88 k99 (IntKind.i64.wrap (v97+1)) (v98++[{ From:=v68,Op:=v97,To:=z102:GEdge }])))) (M_b_Edges_L1 a0 v68 y88 k99 (IntKind.i64.wrap (v97+1)) v98))) (some v98)
def M_b_Edges_L2 (a0:GTask)(z1:List (List Int)):Nat→Int→(List GEdge)→Option (List GEdge)|0,_,_=>none|k70+1,v68,v69=>sel (decide (v68<((z1.map cL_cI).length:Int))) (ob1 (ix z1 v68 (fun y88=>M_b_Edges_L1 a0 v68 y88 ((((a0.Ops.map cGOp).length:Int)).toNat+1) 0 v69):Option (List GEdge)) (fun v86=>M_b_Edges_L2 a0 z1 k70 (IntKind.i64.wrap (v68+1)) v86)) (grd (v69.length≤140737488355328) (some v69))
def M_b_Edges (a0:GTask):Option (List GEdge):=ob1 (M_b_States a0.Vars) (fun z1=>M_b_Edges_L2 a0 z1 ((((z1.map cL_cI).length:Int)).toNat+1) 0 [])
theorem A_b_Edges (a0:GTask){r1:List GEdge}(h:M_b_Edges a0=some r1):ACall cx 49 [.agg [.sl 1 (a0.Vars.map cI),.sl 1 (a0.Init.map cI),.sl 2 (a0.Goal.map cF),.sl 4 (a0.Ops.map cGOp)]] (.sl 3 (r1.map cGEdge)):=by
 refine aOf Tryz.func49 rfl (by decide) rfl (bT2 rfl) ?_;intro _;unfold M_b_Edges at h;refine aSR ?_;intro _;refine dr_XDDis ?_;refine aSR ?_;intro _;refine dr_XDDis ?_;refine aSq (aSR ?_);intro _;obtain⟨z1,u1,h⟩:=ob1_ok h;refine cl_XDDis rfl (A_b_States a0.Vars u1) ?_;intro _;refine dr_XDDis ?_;refine aBk ?_;refine awp_loop (α:=Nat×Int×(List GEdge)) (fun x=>mkS 45 [(1,.ptr 1 0 0 0),(3,.own 41 0 0 x.2.2.length),(11,.sl 1 (z1.map cL_cI)),(12,.c (.int .i64 ((z1.map cL_cI).length:Int))),(13,.c (.int .i64 x.2.1))] [(1,⟨26,4,true,[[.sl 1 (a0.Vars.map cI),.sl 1 (a0.Init.map cI),.sl 2 (a0.Goal.map cF),.sl 4 (a0.Ops.map cGOp)]]⟩),(41,⟨115,3,false,x.2.2.map cGEdge⟩)]) (fun x=>M_b_Edges_L2 a0 z1 x.1 x.2.1 x.2.2=some r1) (fun x=>x.1) ((((z1.map cL_cI).length:Int)).toNat+1,0,[]) h ?_ ?_
 ·exact ca_XDDis
 ·intro x2 h;intro _;obtain⟨k70,m3,h⟩:=succ_of (f:=fun n=>M_b_Edges_L2 a0 z1 n x2.2.1 x2.2.2) rfl h;replace h:M_b_Edges_L2 a0 z1 (k70+1) x2.2.1 x2.2.2=some r1:=h;rw[M_b_Edges_L2]at h;refine aSR ?_;intro _;refine dr_XDDis ?_;refine aSq (aCd ?_);intro _;refine spl h (fun c4 h=>?_) (fun c4 h=>?_)
  ·refine aSk ?_;obtain⟨o5,h,hK6⟩:=ob1_ok h;refine awp_cut (α:=List GEdge) (fun v86=>mkS 45 [(1,.ptr 1 0 0 0),(3,.own 41 0 0 v86.length),(11,.sl 1 (z1.map cL_cI)),(12,.c (.int .i64 ((z1.map cL_cI).length:Int))),(13,.c (.int .i64 x2.2.1))] [(1,⟨26,4,true,[[.sl 1 (a0.Vars.map cI),.sl 1 (a0.Init.map cI),.sl 2 (a0.Goal.map cF),.sl 4 (a0.Ops.map cGOp)]]⟩),(41,⟨115,3,false,v86.map cGEdge⟩)]) (fun v=>o5=v) ?_ ?_
   ·refine aBk (aSR ?_);intro _;obtain⟨y88,w7,q8,h⟩:=ix_ok h;refine Exists.intro (cL_cI y88) (And.intro (map_at' w7) ?_);intro _;refine pr_XDDis ?_;refine dr_XDDis ?_;refine aSR ?_;intro _;refine dr_XDDis ?_;refine aBk ?_;refine awp_loop (α:=Nat×Int×(List GEdge)) (fun x=>mkS 45 [(1,.ptr 1 0 0 0),(3,.own 41 0 0 x.2.2.length),(4,.c (.int .i64 x2.2.1)),(5,.sl 1 (y88.map cI)),(11,.sl 1 (z1.map cL_cI)),(12,.c (.int .i64 ((z1.map cL_cI).length:Int))),(13,.c (.int .i64 x2.2.1)),(20,.c (.int .i64 ((a0.Ops.map cGOp).length:Int))),(21,.c (.int .i64 x.2.1))] [(1,⟨26,4,true,[[.sl 1 (a0.Vars.map cI),.sl 1 (a0.Init.map cI),.sl 2 (a0.Goal.map cF),.sl 4 (a0.Ops.map cGOp)]]⟩),(41,⟨115,3,false,x.2.2.map cGEdge⟩)]) (fun x=>M_b_Edges_L1 a0 x2.2.1 y88 x.1 x.2.1 x.2.2=some o5) (fun x=>x.1) ((((a0.Ops.map cGOp).length:Int)).toNat+1,0,x2.2.2) h ?_ ?_
    ·exact ca_XDDis
    ·intro x9 h;intro _;obtain⟨k99,m10,h⟩:=succ_of (f:=fun n=>M_b_Edges_L1 a0 x2.2.1 y88 n x9.2.1 x9.2.2) rfl h;replace h:M_b_Edges_L1 a0 x2.2.1 y88 (k99+1) x9.2.1 x9.2.2=some o5:=h;rw[M_b_Edges_L1]at h;refine aSR ?_;intro _;refine dr_XDDis ?_;refine aSq (aCd ?_);intro _;refine spl h (fun c11 h=>?_) (fun c11 h=>?_)
     ·refine aSk (aSq (aBk (aSR ?_)));intro _;refine dr_XDDis ?_;refine aSR ?_;intro _;obtain⟨z100,z101,u12,h⟩:=ob2_ok h;refine cl_XDDis rfl (A_b_Apply a0 y88 x9.2.1 u12) ?_;intro _;refine dr_XDDis ?_;refine aSR ?_;intro _;refine dr_XDDis ?_;refine aCd ?_;intro _;refine spl h (fun c13 h=>?_) (fun c13 h=>?_)
      ·refine aRg ?_;intro _;obtain⟨z102,u14,h⟩:=ob1_ok h;refine cl_XDDis rfl (A_b_Rank a0.Vars z100 u14) ?_;intro _;obtain⟨q15,h⟩:=grd_ok h;refine pl_XDDis ?_;refine pl_XDDis ?_;refine And.intro (by first|with_reducible assumption|(show(x9.2.2.length+1)*24≤140737488355328;with_reducible assumption)|omega|(simp;omega)) ?_;refine pe_XDDis ?_;refine dr_XDDis ?_;refine aRg ?_;intro _;refine dr_XDDis ?_;refine⟨(k99,(IntKind.i64.wrap (x9.2.1+1)),(x9.2.2++[{ From:=x2.2.1,Op:=x9.2.1,To:=z102:GEdge }])),h,ltS m10,?_⟩;exact ca_XDDis
      ·refine aSk (aRg ?_);intro _;refine dr_XDDis ?_;refine⟨(k99,(IntKind.i64.wrap (x9.2.1+1)),x9.2.2),h,ltS m10,?_⟩;exact ca_XDDis
     ·refine aEx ?_;refine⟨x9.2.2,(sI_ h).symm,?_⟩;exact ca_XDDis
   ·rintro v86 ho;have ho:=ho.symm;subst ho;intro _;replace h:=hK6;refine aRg ?_;intro _;refine dr_XDDis ?_;refine⟨(k70,(IntKind.i64.wrap (x2.2.1+1)),v86),h,ltS m3,?_⟩;exact ca_XDDis
  ·refine aEx (aSR ?_);intro _;refine dr_XDDis ?_;refine aRt ?_;obtain⟨q16,h⟩:=grd_ok h;intro _;obtain rfl:=inj1 h;exact ca_XDDis
def M_b_Distances_L1 (a0:GTask)(z1:List (List Int)):Nat→Int→(List Int)→Option (List Int)|0,_,_=>none|k33+1,v31,v32=>sel (decide (v31<((z1.map cL_cI).length:Int))) (ix z1 v31 (fun y34=>ixn v32 ((v31).toNat) (fun _=>grd (v31<((v32.length:Nat):Int)) (ob1 (M_b_Holds a0.Goal y34) (fun z36=>sel z36 (ixn (v32.set ((v31).toNat) 1125899906842624) ((v31).toNat) (fun _=>M_b_Distances_L1 a0 z1 k33 (IntKind.i64.wrap (v31+1)) ((v32.set ((v31).toNat) 1125899906842624).set ((v31).toNat) 0))) (M_b_Distances_L1 a0 z1 k33 (IntKind.i64.wrap (v31+1)) (v32.set ((v31).toNat) 1125899906842624))))))) (some v32)
def M_b_Distances_L2 (a0:GTask)(z38:List GEdge):Nat→Bool→Int→(List Int)→Option (Bool×(List Int))|0,_,_,_=>none|k315+1,v312,v313,v314=>sel (decide (v313<((z38.map cGEdge).length:Int))) (ix z38 v313 (fun y316=>ix a0.Ops y316.Op (fun y317=>ob1 (some ():Option (Unit)) (fun _=>ob1 (ixn v314 ((y316.To).toNat) (fun y324=>sel (decide (y324<1125899906842624)) (ixn v314 ((y316.To).toNat) (fun y325=>ixn v314 ((y316.From).toNat) (fun y326=>grd (0≤y316.To) (grd (y316.To<((v314.length:Nat):Int)) (grd (0≤y316.From) (grd (y316.From<((v314.length:Nat):Int)) (some (decide ((IntKind.i64.wrap (y325+y317.Cost))<y326))))))))) (grd (0≤y316.To) (grd (y316.To<((v314.length:Nat):Int)) (some false)))):Option (Bool)) (fun v322=>sel v322 (ixn v314 ((y316.To).toNat) (fun y327=>ixn v314 ((y316.From).toNat) (fun _=>grd (0≤y316.To) (grd (y316.To<((v314.length:Nat):Int)) (grd (0≤y316.From) (grd (y316.From<((v314.length:Nat):Int)) (M_b_Distances_L2 a0 z38 k315 true (IntKind.i64.wrap (v313+1)) (v314.set ((y316.From).toNat) (IntKind.i64.wrap (y327+y317.Cost)))))))))) (M_b_Distances_L2 a0 z38 k315 v312 (IntKind.i64.wrap (v313+1)) v314)))))) (some (v312,v314))
def M_b_Distances_L3 (a0:GTask)(z38:List GEdge):Nat→Bool→(List Int)→Option (List Int)|0,_,_=>none|k233+1,v231,v232=>sel v231 (ob1 (M_b_Distances_L2 a0 z38 ((((z38.map cGEdge).length:Int)).toNat+1) false 0 v232:Option (Bool×(List Int))) (fun(v280,v281)=>M_b_Distances_L3 a0 z38 k233 v280 v281)) (grd (v232.length≤140737488355328) (some v232))
def M_b_Distances (g:Nat)(a0:GTask)(_:List Int):Option (List Int):=ob1 (M_b_States a0.Vars) (fun z1=>grd (0≤((z1.map cL_cI).length:Int)) (grd (((z1.map cL_cI).length:Int)*8≤281474976710656) (ob1 (M_b_Distances_L1 a0 z1 ((((z1.map cL_cI).length:Int)).toNat+1) 0 (List.replicate ((z1.map cL_cI).length:Int).toNat 0):Option (List Int)) (fun v19=>ob1 (M_b_Edges a0) (fun z38=>M_b_Distances_L3 a0 z38 g true v19)))))
theorem A_b_Distances (g:Nat)(a0:GTask)(a1:List Int){r1:List Int}(h:M_b_Distances g a0 a1=some r1):ACall cx 20 [.agg [.sl 1 (a0.Vars.map cI),.sl 1 (a0.Init.map cI),.sl 2 (a0.Goal.map cF),.sl 4 (a0.Ops.map cGOp)],.c (.slice none 0 0)] (.sl 1 (r1.map cI)):=by
 refine aOf Tryz.func20 rfl (by decide) rfl (bT2 rfl) ?_;intro _;unfold M_b_Distances at h;refine aSR ?_;intro _;refine dr_XDDis ?_;refine aSR ?_;intro _;obtain⟨z1,u1,h⟩:=ob1_ok h;refine cl_XDDis rfl (A_b_States a0.Vars u1) ?_;intro _;refine dr_XDDis ?_;refine aSR ?_;intro _;obtain⟨q2,h⟩:=grd_ok h;obtain⟨q3,h⟩:=grd_ok h;refine⟨_,lf_make rfl rfl (bT2 rfl) (tyTab_ok 22 _ rfl) rfl (tyTab_ok 3 _ rfl) rfl rfl rfl (by first|assumption|omega) (by first|assumption|(show _*(8:Int)≤_;omega)|omega) (by omega) rfl (by simp only[Value.cells];simp[Value.oneCell']) (by decide),?_⟩;intro _;refine dr_XDDis ?_;obtain⟨o4,h,hK5⟩:=ob1_ok h;refine awp_cut (α:=List Int) (fun v19=>mkS 95 [(1,.c (.slice none 0 0)),(2,.ptr 2 0 0 0),(6,.own 19 0 0 v19.length)] [(2,⟨26,4,true,[[.sl 1 (a0.Vars.map cI),.sl 1 (a0.Init.map cI),.sl 2 (a0.Goal.map cF),.sl 4 (a0.Ops.map cGOp)]]⟩),(19,⟨3,1,false,v19.map cI⟩)]) (fun v=>o4=v) ?_ ?_
 ·refine aSR ?_;intro _;refine dr_XDDis ?_;refine aBk ?_;refine awp_loop (α:=Nat×Int×(List Int)) (fun x=>mkS 95 [(1,.c (.slice none 0 0)),(2,.ptr 2 0 0 0),(6,.own 19 0 0 x.2.2.length),(20,.sl 1 (z1.map cL_cI)),(21,.c (.int .i64 ((z1.map cL_cI).length:Int))),(22,.c (.int .i64 x.2.1))] [(2,⟨26,4,true,[[.sl 1 (a0.Vars.map cI),.sl 1 (a0.Init.map cI),.sl 2 (a0.Goal.map cF),.sl 4 (a0.Ops.map cGOp)]]⟩),(19,⟨3,1,false,x.2.2.map cI⟩)]) (fun x=>M_b_Distances_L1 a0 z1 x.1 x.2.1 x.2.2=some o4) (fun x=>x.1) ((((z1.map cL_cI).length:Int)).toNat+1,0,(List.replicate ((z1.map cL_cI).length:Int).toNat 0)) h ?_ ?_
  ·exact ca_XDDis
  ·intro x6 h;intro _;obtain⟨k33,m7,h⟩:=succ_of (f:=fun n=>M_b_Distances_L1 a0 z1 n x6.2.1 x6.2.2) rfl h;replace h:M_b_Distances_L1 a0 z1 (k33+1) x6.2.1 x6.2.2=some o4:=h;rw[M_b_Distances_L1]at h;refine aSR ?_;intro _;refine dr_XDDis ?_;refine aSq (aCd ?_);intro _;refine spl h (fun c8 h=>?_) (fun c8 h=>?_)
   ·refine aSk (aSq (aBk (aSR ?_)));intro _;obtain⟨y34,w9,q10,h⟩:=ix_ok h;refine Exists.intro (cL_cI y34) (And.intro (map_at' w9) ?_);intro _;refine pr_XDDis ?_;refine dr_XDDis ?_;refine aSR ?_;intro _;obtain⟨y35,w11,h⟩:=ixn_ok h;refine Exists.intro (cI y35) (And.intro (by first|exact map_at' w11|(have w:=map_at' (f:=cI) w11;simpa [cI,Value.cells] using w)) ?_);intro _;obtain⟨q12,h⟩:=grd_ok h;refine pr_XDDis ?_;refine pr_XDDis ?_;refine dr_XDDis ?_;refine aSR ?_;intro _;obtain⟨z36,u13,h⟩:=ob1_ok h;refine cl_XDDis rfl (A_b_Holds a0.Goal y34 u13) ?_;intro _;refine dr_XDDis ?_;refine aCd ?_;intro _;refine spl h (fun c14 h=>?_) (fun c14 h=>?_)
    ·refine aRg ?_;intro _;obtain⟨y37,w15,h⟩:=ixn_ok h;refine Exists.intro (cI y37) (And.intro (by first|exact map_at' w15|(have w:=map_at' (f:=cI) w15;simpa [cI,Value.cells] using w)) ?_);intro _;refine pr_XDDis ?_;refine pr_XDDis ?_;refine dr_XDDis ?_;refine aRg ?_;intro _;refine dr_XDDis ?_;refine⟨(k33,(IntKind.i64.wrap (x6.2.1+1)),((x6.2.2.set ((x6.2.1).toNat) 1125899906842624).set ((x6.2.1).toNat) 0)),h,ltS m7,?_⟩;exact ca_XDDis
    ·refine aSk (aRg ?_);intro _;refine dr_XDDis ?_;refine⟨(k33,(IntKind.i64.wrap (x6.2.1+1)),(x6.2.2.set ((x6.2.1).toNat) 1125899906842624)),h,ltS m7,?_⟩;exact ca_XDDis
   ·refine aEx ?_;refine⟨x6.2.2,(sI_ h).symm,?_⟩;exact ca_XDDis
 ·rintro v19 ho;have ho:=ho.symm;subst ho;intro _;replace h:=hK5;refine aSR ?_;intro _;obtain⟨z38,u16,h⟩:=ob1_ok h;refine cl_XDDis rfl (A_b_Edges a0 u16) ?_;intro _;refine dr_XDDis ?_;refine aSq (aSR ?_);intro _;refine dr_XDDis ?_;refine aBk ?_;refine awp_loop (α:=Nat×Bool×(List Int)) (fun x=>mkS 95 [(1,.c (.slice none 0 0)),(2,.ptr 2 0 0 0),(6,.own 19 0 0 x.2.2.length),(9,.sl 3 (z38.map cGEdge)),(10,.c (.bool x.2.1))] [(2,⟨26,4,true,[[.sl 1 (a0.Vars.map cI),.sl 1 (a0.Init.map cI),.sl 2 (a0.Goal.map cF),.sl 4 (a0.Ops.map cGOp)]]⟩),(19,⟨3,1,false,x.2.2.map cI⟩)]) (fun x=>M_b_Distances_L3 a0 z38 x.1 x.2.1 x.2.2=some r1) (fun x=>x.1) (g,true,v19) h ?_ ?_
  ·exact ca_XDDis
  ·intro x17 h;intro _;obtain⟨k233,m18,h⟩:=succ_of (f:=fun n=>M_b_Distances_L3 a0 z38 n x17.2.1 x17.2.2) rfl h;replace h:M_b_Distances_L3 a0 z38 (k233+1) x17.2.1 x17.2.2=some r1:=h;rw[M_b_Distances_L3]at h;refine aSq (aSR ?_);intro _;refine dr_XDDis ?_;refine aCd ?_;intro _;refine spl h (fun c19 h=>?_) (fun c19 h=>?_)
   ·refine aSk (aBk (aSR ?_));intro _;refine dr_XDDis ?_;refine aSR ?_;intro _;refine dr_XDDis ?_;obtain⟨o20,h,hK21⟩:=ob1_ok h;refine awp_cutT (α:=Bool×(List Int)) (fun(v280,v281)=>mkS 95 [(1,.c (.slice none 0 0)),(2,.ptr 2 0 0 0),(6,.own 19 0 0 v281.length),(9,.sl 3 (z38.map cGEdge)),(10,.c (.bool v280))] [(2,⟨26,4,true,[[.sl 1 (a0.Vars.map cI),.sl 1 (a0.Init.map cI),.sl 2 (a0.Goal.map cF),.sl 4 (a0.Ops.map cGOp)]]⟩),(19,⟨3,1,false,v281.map cI⟩)]) (fun v=>o20=v) ?_ ?_
    ·refine aBk ?_;refine awp_loop (α:=Nat×Bool×Int×(List Int)) (fun x=>mkS 95 [(1,.c (.slice none 0 0)),(2,.ptr 2 0 0 0),(6,.own 19 0 0 x.2.2.2.length),(9,.sl 3 (z38.map cGEdge)),(10,.c (.bool x.2.1)),(41,.sl 3 (z38.map cGEdge)),(42,.c (.int .i64 ((z38.map cGEdge).length:Int))),(43,.c (.int .i64 x.2.2.1))] [(2,⟨26,4,true,[[.sl 1 (a0.Vars.map cI),.sl 1 (a0.Init.map cI),.sl 2 (a0.Goal.map cF),.sl 4 (a0.Ops.map cGOp)]]⟩),(19,⟨3,1,false,x.2.2.2.map cI⟩)]) (fun x=>M_b_Distances_L2 a0 z38 x.1 x.2.1 x.2.2.1 x.2.2.2=some o20) (fun x=>x.1) ((((z38.map cGEdge).length:Int)).toNat+1,false,0,x17.2.2) h ?_ ?_
     ·exact ca_XDDis
     ·intro x22 h;intro _;obtain⟨k315,m23,h⟩:=succ_of (f:=fun n=>M_b_Distances_L2 a0 z38 n x22.2.1 x22.2.2.1 x22.2.2.2) rfl h;replace h:M_b_Distances_L2 a0 z38 (k315+1) x22.2.1 x22.2.2.1 x22.2.2.2=some o20:=h;rw[M_b_Distances_L2]at h;refine aSR ?_;intro _;refine dr_XDDis ?_;refine aSq (aCd ?_);intro _;refine spl h (fun c24 h=>?_) (fun c24 h=>?_)
      ·refine aSk (aSq (aBk (aSR ?_)));intro _;obtain⟨y316,w25,q26,h⟩:=ix_ok h;refine Exists.intro (cGEdge y316) (And.intro (map_at' w25) ?_);intro _;refine pr_XDDis ?_;refine dr_XDDis ?_;refine aSR ?_;intro _;obtain⟨y317,w27,q28,h⟩:=ix_ok h;refine Exists.intro (cGOp y317) (And.intro (map_at' w27) ?_);intro _;refine pr_XDDis ?_;refine dr_XDDis ?_;obtain⟨o29,h,hK30⟩:=ob1_ok h;refine awp_cut (α:=Unit) (fun _=>mkS 95 [(1,.c (.slice none 0 0)),(2,.ptr 2 0 0 0),(6,.own 19 0 0 x22.2.2.2.length),(9,.sl 3 (z38.map cGEdge)),(10,.c (.bool x22.2.1)),(12,.ptr 12 0 0 0),(13,.c (.int .i64 y317.Cost)),(41,.sl 3 (z38.map cGEdge)),(42,.c (.int .i64 ((z38.map cGEdge).length:Int))),(43,.c (.int .i64 x22.2.2.1))] [(2,⟨26,4,true,[[.sl 1 (a0.Vars.map cI),.sl 1 (a0.Init.map cI),.sl 2 (a0.Goal.map cF),.sl 4 (a0.Ops.map cGOp)]]⟩),(12,⟨115,3,true,[[.c (.int .i64 y316.From),.c (.int .i64 y316.Op),.c (.int .i64 y316.To)]]⟩),(19,⟨3,1,false,x22.2.2.2.map cI⟩)]) (fun v=>o29=v) ?_ ?_
       ·refine aSR ?_;intro _;refine⟨_,lf_nilneq rfl (bT2 rfl) rfl rfl (tyTab_ok 22 _ rfl) rfl,?_⟩;intro _;refine dr_XDDis ?_;refine aCd ?_;intro _;refine litF (aSk ?_);refine⟨(),(sI_ h).symm,?_⟩;exact ca_XDDis
       ·rintro _ ho;have ho:=ho.symm;subst ho;intro _;replace h:=hK30;obtain⟨o31,h,hK32⟩:=ob1_ok h;refine awp_cut (α:=Bool) (fun v322=>mkS 95 [(1,.c (.slice none 0 0)),(2,.ptr 2 0 0 0),(6,.own 19 0 0 x22.2.2.2.length),(9,.sl 3 (z38.map cGEdge)),(10,.c (.bool x22.2.1)),(12,.ptr 12 0 0 0),(13,.c (.int .i64 y317.Cost)),(41,.sl 3 (z38.map cGEdge)),(42,.c (.int .i64 ((z38.map cGEdge).length:Int))),(43,.c (.int .i64 x22.2.2.1)),(81,.c (.bool v322))] [(2,⟨26,4,true,[[.sl 1 (a0.Vars.map cI),.sl 1 (a0.Init.map cI),.sl 2 (a0.Goal.map cF),.sl 4 (a0.Ops.map cGOp)]]⟩),(12,⟨115,3,true,[[.c (.int .i64 y316.From),.c (.int .i64 y316.Op),.c (.int .i64 y316.To)]]⟩),(19,⟨3,1,false,x22.2.2.2.map cI⟩)]) (fun v=>o31=v) ?_ ?_
        ·refine aRg ?_;intro _;obtain⟨y324,w33,h⟩:=ixn_ok h;refine Exists.intro (cI y324) (And.intro (by first|exact map_at' w33|(have w:=map_at' (f:=cI) w33;simpa [cI,Value.cells] using w)) ?_);intro _;refine spl h (fun c34 h=>?_) (fun c34 h=>?_)
         ·intro _;obtain⟨y325,w35,h⟩:=ixn_ok h;refine Exists.intro (cI y325) (And.intro (by first|exact map_at' w35|(have w:=map_at' (f:=cI) w35;simpa [cI,Value.cells] using w)) ?_);intro _;obtain⟨y326,w36,h⟩:=ixn_ok h;refine Exists.intro (cI y326) (And.intro (by first|exact map_at' w36|(have w:=map_at' (f:=cI) w36;simpa [cI,Value.cells] using w)) ?_);intro _;obtain⟨q37,h⟩:=grd_ok h;obtain⟨q38,h⟩:=grd_ok h;obtain⟨q39,h⟩:=grd_ok h;obtain⟨q40,h⟩:=grd_ok h;refine pr_XDDis ?_;refine pr_XDDis ?_;refine pr_XDDis ?_;refine pr_XDDis ?_;refine pr_XDDis ?_;refine pr_XDDis ?_;refine dr_XDDis ?_;refine⟨(decide ((IntKind.i64.wrap (y325+y317.Cost))<y326)),(sI_ h).symm,?_⟩;exact ca_XDDis
         ·intro _;obtain⟨q41,h⟩:=grd_ok h;obtain⟨q42,h⟩:=grd_ok h;refine pr_XDDis ?_;refine pr_XDDis ?_;refine dr_XDDis ?_;refine⟨false,(sI_ h).symm,?_⟩;exact ca_XDDis
        ·rintro v322 ho;have ho:=ho.symm;subst ho;intro _;replace h:=hK32;refine aCd ?_;intro _;refine spl h (fun c43 h=>?_) (fun c43 h=>?_)
         ·refine aSR ?_;intro _;obtain⟨y327,w44,h⟩:=ixn_ok h;refine Exists.intro (cI y327) (And.intro (by first|exact map_at' w44|(have w:=map_at' (f:=cI) w44;simpa [cI,Value.cells] using w)) ?_);intro _;obtain⟨y328,w45,h⟩:=ixn_ok h;refine Exists.intro (cI y328) (And.intro (by first|exact map_at' w45|(have w:=map_at' (f:=cI) w45;simpa [cI,Value.cells] using w)) ?_);intro _;obtain⟨q46,h⟩:=grd_ok h;obtain⟨q47,h⟩:=grd_ok h;obtain⟨q48,h⟩:=grd_ok h;obtain⟨q49,h⟩:=grd_ok h;refine pr_XDDis ?_;refine pr_XDDis ?_;refine pr_XDDis ?_;refine pr_XDDis ?_;refine dr_XDDis ?_;refine aRg ?_;intro _;refine dr_XDDis ?_;refine aRg ?_;intro _;refine dr_XDDis ?_;refine⟨(k315,true,(IntKind.i64.wrap (x22.2.2.1+1)),(x22.2.2.2.set ((y316.From).toNat) (IntKind.i64.wrap (y327+y317.Cost)))),h,ltS m23,?_⟩;exact ca_XDDis
         ·refine aSk (aRg ?_);intro _;refine dr_XDDis ?_;refine⟨(k315,x22.2.1,(IntKind.i64.wrap (x22.2.2.1+1)),x22.2.2.2),h,ltS m23,?_⟩;exact ca_XDDis
      ·refine aEx ?_;refine⟨(x22.2.1,x22.2.2.2),(sI_ h).symm,?_⟩;exact ca_XDDis
    ·rintro⟨v280,v281⟩ ho;have ho:=ho.symm;subst ho;intro _;replace h:=hK21;refine⟨(k233,v280,v281),h,ltS m18,?_⟩;exact ca_XDDis
   ·refine aEx (aSR ?_);intro _;refine dr_XDDis ?_;refine aRt ?_;obtain⟨q50,h⟩:=grd_ok h;intro _;obtain rfl:=inj1 h;exact ca_XDDis
def M_b_Rank_L1_B (a0:List Int)(_:List Int)(_y11:Int)(v8:Int):((Int))→(((Int))→Option (Int))→Option (Int):=fun v7 rc=>ix a0 v8 (fun y10=>ixv _y11 (fun y11=>rc ((IntKind.i64.wrap ((IntKind.i64.wrap (v7*y10))+y11)))))
def M_b_Rank_L1_E (_:List Int)(_:List Int):((Int))→Option (Int):=fun v7=>some v7
theorem M_b_Rank_L1_eq (a0:List Int)(a1:List Int)(v7:Int)(hl:a1.length<9223372036854775807):M_b_Rank_L1 a0 a1 (((a1.map cI).length:Int).toNat+1) v7 0=Rg (M_b_Rank_L1_B a0 a1) (M_b_Rank_L1_E a0 a1) a1 0 v7:=rg_e2 (L:=fun k i v7=>M_b_Rank_L1 a0 a1 k v7 i) hl (fun k n p y hy h1 h2=>by first|(simp only[M_b_Rank_L1,M_b_Rank_L1_B,lM_,decide_lt h1,sel,ix_at hy,ixv,h2];done)|(simp only[lM_]at h1 hy;(simp only[M_b_Rank_L1,M_b_Rank_L1_B,lM_,decide_lt h1,sel,ix_at hy,ixv,h2];done))) (fun k p=>by simp only[M_b_Rank_L1,M_b_Rank_L1_E,lM_,decide_ge,sel]) v7
def M_b_Edges_L1_B (a0:GTask)(v68:Int)(y88:List Int)(v97:Int):((List GEdge))→(((List GEdge))→Option (List GEdge))→Option (List GEdge):=fun v98 rc=>ob2 (M_b_Apply a0 y88 v97) (fun z100 z101=>sel z101 (ob1 (M_b_Rank a0.Vars z100) (fun z102=>grd ((v98.length+1)*24≤140737488355328) (rc ((v98++[{ From:=v68,Op:=v97,To:=z102:GEdge }]))))) (rc (v98)))
def M_b_Edges_L1_E (_:GTask)(_:Int)(_:List Int):((List GEdge))→Option (List GEdge):=fun v98=>some v98
theorem M_b_Edges_L1_eq (a0:GTask)(v68:Int)(y88:List Int)(v98:List GEdge){m:Nat}(hm:((a0.Ops.map cGOp).length:Int)=(m:Int))(hl:m<9223372036854775807):M_b_Edges_L1 a0 v68 y88 ((((a0.Ops.map cGOp).length:Int)).toNat+1) 0 v98=Rn (M_b_Edges_L1_B a0 v68 y88) (M_b_Edges_L1_E a0 v68 y88) m 0 v98:=rn_e (L:=fun k i v98=>M_b_Edges_L1 a0 v68 y88 k i v98) hm hl (fun _ _ _=>rfl) v98
def M_b_Edges_L2_B (a0:GTask)(_:List (List Int))(_y88:List Int)(v68:Int):((List GEdge))→(((List GEdge))→Option (List GEdge))→Option (List GEdge):=fun v69 rc=>ob1 (ixv _y88 (fun y88=>M_b_Edges_L1 a0 v68 y88 ((((a0.Ops.map cGOp).length:Int)).toNat+1) 0 v69):Option (List GEdge)) (fun v86=>rc (v86))
def M_b_Edges_L2_E (_:GTask)(_:List (List Int)):((List GEdge))→Option (List GEdge):=fun v69=>grd (v69.length≤140737488355328) (some v69)
theorem M_b_Edges_L2_eq (a0:GTask)(z1:List (List Int))(v69:List GEdge)(hl:z1.length<9223372036854775807):M_b_Edges_L2 a0 z1 (((z1.map cL_cI).length:Int).toNat+1) 0 v69=Rg (M_b_Edges_L2_B a0 z1) (M_b_Edges_L2_E a0 z1) z1 0 v69:=rg_e2 (L:=fun k i v69=>M_b_Edges_L2 a0 z1 k i v69) hl (fun k n p y hy h1 h2=>by first|(simp only[M_b_Edges_L2,M_b_Edges_L2_B,lM_,decide_lt h1,sel,ix_at hy,ixv,h2];done)|(simp only[lM_]at h1 hy;(simp only[M_b_Edges_L2,M_b_Edges_L2_B,lM_,decide_lt h1,sel,ix_at hy,ixv,h2];done))) (fun k p=>by simp only[M_b_Edges_L2,M_b_Edges_L2_E,lM_,decide_ge,sel]) v69
def M_b_Distances_L1_B (a0:GTask)(_:List (List Int))(_y34:List Int)(v31:Int):((List Int))→(((List Int))→Option (List Int))→Option (List Int):=fun v32 rc=>ixv _y34 (fun y34=>ixn v32 ((v31).toNat) (fun _=>grd (v31<((v32.length:Nat):Int)) (ob1 (M_b_Holds a0.Goal y34) (fun z36=>sel z36 (ixn (v32.set ((v31).toNat) 1125899906842624) ((v31).toNat) (fun _=>rc (((v32.set ((v31).toNat) 1125899906842624).set ((v31).toNat) 0)))) (rc ((v32.set ((v31).toNat) 1125899906842624)))))))
def M_b_Distances_L1_E (_:GTask)(_:List (List Int)):((List Int))→Option (List Int):=fun v32=>some v32
theorem M_b_Distances_L1_eq (a0:GTask)(z1:List (List Int))(v32:List Int)(hl:z1.length<9223372036854775807):M_b_Distances_L1 a0 z1 (((z1.map cL_cI).length:Int).toNat+1) 0 v32=Rg (M_b_Distances_L1_B a0 z1) (M_b_Distances_L1_E a0 z1) z1 0 v32:=rg_e1 (L:=fun k i v32=>M_b_Distances_L1 a0 z1 k i v32) hl (fun _ _ _=>rfl) v32
def M_b_Distances_L2_B (a0:GTask)(_:List GEdge)(_y316:GEdge)(_:Int):((Bool)×(List Int))→(((Bool)×(List Int))→Option (Bool×(List Int)))→Option (Bool×(List Int)):=fun(v312,v314) rc=>ixv _y316 (fun y316=>ix a0.Ops y316.Op (fun y317=>ob1 (some ():Option (Unit)) (fun _=>ob1 (ixn v314 ((y316.To).toNat) (fun y324=>sel (decide (y324<1125899906842624)) (ixn v314 ((y316.To).toNat) (fun y325=>ixn v314 ((y316.From).toNat) (fun y326=>grd (0≤y316.To) (grd (y316.To<((v314.length:Nat):Int)) (grd (0≤y316.From) (grd (y316.From<((v314.length:Nat):Int)) (some (decide ((IntKind.i64.wrap (y325+y317.Cost))<y326))))))))) (grd (0≤y316.To) (grd (y316.To<((v314.length:Nat):Int)) (some false)))):Option (Bool)) (fun v322=>sel v322 (ixn v314 ((y316.To).toNat) (fun y327=>ixn v314 ((y316.From).toNat) (fun _=>grd (0≤y316.To) (grd (y316.To<((v314.length:Nat):Int)) (grd (0≤y316.From) (grd (y316.From<((v314.length:Nat):Int)) (rc (true,(v314.set ((y316.From).toNat) (IntKind.i64.wrap (y327+y317.Cost))))))))))) (rc (v312,v314))))))
def M_b_Distances_L2_E (_:GTask)(_:List GEdge):((Bool)×(List Int))→Option (Bool×(List Int)):=fun(v312,v314)=>some (v312,v314)
theorem M_b_Distances_L2_eq (a0:GTask)(z38:List GEdge)(v312:Bool)(v314:List Int)(hl:z38.length<9223372036854775807):M_b_Distances_L2 a0 z38 (((z38.map cGEdge).length:Int).toNat+1) v312 0 v314=Rg (M_b_Distances_L2_B a0 z38) (M_b_Distances_L2_E a0 z38) z38 0 (v312,v314):=rg_e1 (L:=fun k i p=>match p with|(v312,v314)=>M_b_Distances_L2 a0 z38 k v312 i v314) hl (fun _ _ ⟨_,_⟩=>rfl) (v312,v314)
end Go.Proofs.YtinknhophadbkaaGreatDoor.Am
namespace Go.Proofs.YtinknhophadbkaaGreatDoor.Am
open Go.RowKit
def rankF : List Int→List Int→Int→Int
 | k :: r,x :: t,v=>rankF r t (v*k+x)
 | _,_,v=>v
theorem flat_at (m:Nat):∀ (out:List (List Int))(i x:Nat)(s:List Int),out[i]?=some s→x<m→(out.flatMap fun s=>extF s m 0)[i*m+x]?=some (s++[(x:Int)])
 | [],i,x,s,h,_=>by simp at h
 | u :: out,i,x,s,h,hx=>by
  have hext:∀ (u:List Int) (m:Nat) (j:Int) (x:Nat),x<m→(extF u m j)[x]?=some (u++[j+(x:Int)]):=by
   intro u m
   induction m with
   | zero=>intro j x hx;omega
   | succ m ih =>
    intro j x hx
    rw[extF]
    cases x with
    | zero=>simp
    | succ x=>rw[List.getElem?_cons_succ,ih (j+1) x (by omega)];congr 3;omega
  rw[List.flatMap_cons]
  cases i with
  | zero =>
   simp only[List.getElem?_cons_zero,Option.some.injEq]at h
   subst h
   rw[Nat.zero_mul,Nat.zero_add,List.getElem?_append_left (by rw[extF_len];exact hx),hext u m 0 x hx]
   congr 3;omega
  | succ i =>
   rw[List.getElem?_cons_succ]at h
   rw[List.getElem?_append_right (by rw[extF_len,Nat.add_mul];omega),extF_len,show(i+1)*m+x-m=i*m+x from by rw[Nat.add_mul];omega]
   exact flat_at m out i x s h hx
theorem rank_at : ∀ (r:List Int)(out:List (List Int))(i:Nat)(s u:List Int),out[i]?=some s→stateF r u=true→∃ k:Nat,rankF r u i=(k:Int)∧(statesG r out)[k]?=some (s++u)
 | [],out,i,s,u,h,hu=>by
  cases u with
  | nil=>exact⟨i,rfl,by rw[statesG,List.append_nil];exact h⟩
  | cons x u=>simp[stateF]at hu
 | k :: r,out,i,s,u,h,hu=>by
  cases u with
  | nil=>simp[stateF]at hu
  | cons x u =>
   rw[stateF,bA_,decide_eq_true_iff]at hu
   obtain⟨m,rfl⟩:∃ m:Nat,k=m:=⟨k.toNat,by omega⟩
   obtain⟨y,rfl⟩:∃ y:Nat,x=y:=⟨x.toNat,by omega⟩
   have h1:=flat_at m out i y s h (by omega)
   obtain⟨q,e1,e2⟩:=rank_at r _ (i*m+y) (s++[(y:Int)]) u h1 hu.2
   refine⟨q,?_,by rw[statesG,Int.toNat_natCast,e2,List.append_assoc];rfl⟩
   rw[rankF,← e1,Int.natCast_add,Int.natCast_mul]
theorem rank_all {t:GTask}{s:List Int}(hs:stateF t.Vars s=true):∃ k:Nat,rankF t.Vars s 0=(k:Int)∧(allF t)[k]?=some s:=rank_at t.Vars [[]] 0 [] s rfl hs
theorem rank_loop (vars s:List Int)(B:Int)(hB:B≤1000000):∀ (u r:List Int)(n:Nat)(v:Int),s.drop n=u→vars.drop n=r→u.length=r.length→0≤v→stateF r u=true→(∀ k∈r,1≤k∧k≤64)→rankF r u v≤B →
  Rg (M_b_Rank_L1_B vars s) (M_b_Rank_L1_E vars s) u n v=some (rankF r u v)
 | [],r,n,v,hs,hr,hl,hv,hst,_,_=>by
  cases r with
  | nil=>rfl
  | cons k r=>simp at hl
 | x :: u,r,n,v,hs,hr,hl,hv,hst,hk,hb=>by
  cases r with
  | nil=>simp at hl
  | cons k r =>
   obtain⟨hx,hs2,-⟩:=drop_cons hs
   obtain⟨hk1,hr2,-⟩:=drop_cons hr
   rw[stateF,bA_,decide_eq_true_iff]at hst
   obtain⟨k1,k2⟩:=hk k (mS_ ..)
   rw[rankF]at hb ⊢
   have hmono:∀ (r u:List Int) (v:Int),stateF r u=true→0≤v→(∀ k∈r,1≤k∧k≤64)→v≤rankF r u v:=by
    intro r
    induction r with
    | nil=>intro u v _ _ _;cases u <;> exact Int.le_refl _
    | cons k r ih =>
     intro u v hu hv hk
     cases u with
     | nil=>simp[stateF]at hu
     | cons x u =>
      rw[stateF,bA_,decide_eq_true_iff]at hu
      have hk1:=hk k (mS_ ..)
      have hm:v*1≤v*k:=Int.mul_le_mul_of_nonneg_left hk1.1 hv
      have h2:=ih u (v*k+x) hu.2 (by omega) (fun y hy=>hk y (mC_ _ hy))
      rw[rankF];omega
   have hvk:0≤v*k:=Int.mul_nonneg hv (by omega)
   have hle:=hmono r u (v*k+x) hst.2 (by omega) (fun y hy=>hk y (mC_ _ hy))
   have w1:IntKind.i64.wrap (v*k)=v*k:=wrap_eq (by omega) (by omega)
   have w2:IntKind.i64.wrap (v*k+x)=v*k+x:=wrap_eq (by omega) (by omega)
   rw[Rg,M_b_Rank_L1_B,ix_at hk1,ixv,w1,w2]
   exact rank_loop vars s B hB u r (n+1) (v*k+x) hs2 hr2 (by simpa using hl) (by omega) hst.2 (fun y hy=>hk y (mC_ _ hy)) hb
theorem rank_eq {t:GTask}(hsm:smallF t=true){s:List Int}(hs:stateF t.Vars s=true):∃ k:Nat,M_b_Rank t.Vars s=some (k:Int)∧(allF t)[k]?=some s:=by
 obtain⟨k,e1,e2⟩:=rank_all hs
 have hlen:=(stateF_st hs).len
 have hv:=(small_good hsm).2.1
 have hk:k<(allF t).length:=(gS_.1 e2).1
 have hal:=allF_len t hsm
 refine⟨k,?_,e2⟩
 rw[M_b_Rank,M_b_Rank_L1_eq t.Vars s 0 (by omega)]
 have:=rank_loop t.Vars s 1000000 (by decide) s t.Vars 0 0 rfl rfl hlen (by decide) hs (good_dom (small_good hsm).1).dom (by rw[e1];omega)
 rw[e1]at this
 exact this
theorem st_state : ∀ {v s:List Int},s.length=v.length→(∀ i:Nat,i<v.length→0≤s.getD i 0∧s.getD i 0<v.getD i 0)→stateF v s=true
 | [],[],_,_=>rfl
 | [],_ :: _,h,_=>by simp at h
 | _ :: _,[],h,_=>by simp at h
 | k :: r,x :: s,h,hr=>by
  have h0:=hr 0 (by simp)
  simp only[List.getD_cons_zero]at h0
  rw[stateF,bA_,decide_eq_true_iff]
  refine⟨h0,st_state (by simpa using h) (fun i hi=>?_)⟩
  have:=hr (i+1) (by simpa using hi)
  simpa using this
theorem apply_rng (vars:List Int)(s:List Int):∀ (r:List GEffect)(v:List Int),v.length=vars.length→(∀ i:Nat,i<vars.length→0≤v.getD i 0∧v.getD i 0<vars.getD i 0)→(∀ e∈r,0≤e.Var∧0≤e.Val∧e.Val<vars.getD e.Var.toNat 0)→∀ i:Nat,i<vars.length→0≤(applyG s r v).getD i 0∧(applyG s r v).getD i 0<vars.getD i 0
 | [],v,_,hv,_,i,hi=>hv i hi
 | e :: r,v,hl,hv,he,i,hi=>by
  have he2:∀ e∈r,0≤e.Var∧0≤e.Val∧e.Val<vars.getD e.Var.toNat 0:=fun u hu=>he u (mC_ _ hu)
  rw[applyG]
  split
  ·obtain⟨e0,e1,e2⟩:=he e (mS_ ..)
   refine apply_rng vars s r _ (by rw[List.length_set];exact hl) (fun j hj=>?_) he2 i hi
   by_cases hej:e.Var.toNat=j
   ·subst hej
    rw[gD_,List.getElem?_set_self (by omega),Option.getD_some]
    exact⟨e1,e2⟩
   ·rw[gD_,List.getElem?_set_ne hej,← gD_]
    exact hv j hj
  ·exact apply_rng vars s r v hl hv he2 i hi
theorem next_state {t:GTask}(hgood:goodF t=true){s:List Int}(hs:stateF t.Vars s=true){o:GOp}(ho:o∈t.Ops):stateF t.Vars (nextF s o)=true:=by
 have st:=stateF_st hs
 refine st_state (by unfold nextF;rw[applyG_len];exact st.len) (fun i hi=>?_)
 exact apply_rng t.Vars s o.Effs s st.len st.rng (fun e he=>by obtain⟨h1,-,h3,h4⟩:=good_eff hgood ho he;exact⟨h1,h3,h4⟩) i hi
structure EdgP (t:GTask)(e:GEdge):Prop where
 ex:∃ (a b q:Nat) (s:List Int) (o:GOp),e.From=(a:Int)∧e.To=(b:Int)∧e.Op=(q:Int)∧(allF t)[a]?=some s∧(allF t)[b]?=some (nextF s o)∧t.Ops[q]?=some o∧holdsF s o.Pre=true
theorem edges1 {t:GTask}(hsm:smallF t=true)(i:Nat)(s:List Int)(hi:(allF t)[i]?=some s):∀ (l:List GOp)(m j:Nat)(v:List GEdge),t.Ops.drop j=l→l.length=m→v.length+m≤100000→(∀ e∈v,EdgP t e) →
  ∃ v',Rn (M_b_Edges_L1_B t i s) (M_b_Edges_L1_E t i s) m j v=some v'∧v'.length≤v.length+m∧∀ e∈v',EdgP t e
 | [],m,j,v,_,hm,_,hv=>by subst hm;exact⟨v,rfl,Nat.le_refl _,hv⟩
 | o :: os,m,j,v,hdr,hm,hlen,hv=>by
  have hgood:=(small_good hsm).1
  obtain⟨hj,hd',hlt⟩:=drop_cons hdr
  obtain⟨m,rfl⟩:∃ k,m=k+1:=⟨os.length,hm.symm⟩
  have hst:=(allF_mem t s).1 (mG_ hi)
  have hm':os.length=m:=by simpa using hm
  rw[Rn,M_b_Edges_L1_B,apply_eq t hgood s (stateF_st hst) j o hj]
  by_cases hp:holdsF s o.Pre=true
  ·obtain⟨k,e1,e2⟩:=rank_eq hsm (next_state hgood hst (mG_ hj))
   rw[if_pos hp,ob2_some,sel_tt,e1,ob1_some,grd_t (by omega)]
   obtain⟨v',h1,h2,h3⟩:=edges1 hsm i s hi os m (j+1) (v++[{ From:=(i:Int),Op:=(j:Int),To:=(k:Int) }]) hd' hm' (by simp;omega) (fun e he=>by
    rcases List.mem_append.1 he with he|he
    ·exact hv e he
    ·rw[List.mem_singleton.1 he];exact⟨⟨i,k,j,s,o,rfl,rfl,rfl,hi,e2,hj,hp⟩⟩)
   exact⟨v',h1,by simp at h2;omega,h3⟩
  ·rw[if_neg hp,ob2_some,sel_ff]
   obtain⟨v',h1,h2,h3⟩:=edges1 hsm i s hi os m (j+1) v hd' hm' (by omega) hv
   exact⟨v',h1,by omega,h3⟩
theorem edges2 {t:GTask}(hsm:smallF t=true):∀ (r:List (List Int))(i:Nat)(v:List GEdge),(allF t).drop i=r→v.length+r.length*20≤100000→(∀ e∈v,EdgP t e) →
  ∃ v',Rg (M_b_Edges_L2_B t (allF t)) (M_b_Edges_L2_E t (allF t)) r i v=some v'∧v'.length≤100000∧∀ e∈v',EdgP t e
 | [],i,v,_,hl,hv=>⟨v,by rw[Rg,M_b_Edges_L2_E,grd_t (by simp at hl;omega)],by simpa using hl,hv⟩
 | s :: r,i,v,hdr,hl,hv=>by
  obtain⟨hi,hd',hlt⟩:=drop_cons hdr
  have hops:=(small_good hsm).2.2
  rw[lC_]at hl
  rw[Rg,M_b_Edges_L2_B,ixv,M_b_Edges_L1_eq t i s v (m:=t.Ops.length) (by rw[lM_]) (by omega)]
  obtain⟨v1,h1,h2,h3⟩:=edges1 hsm i s hi t.Ops t.Ops.length 0 v rfl rfl (by omega) hv
  have h1':Rn (M_b_Edges_L1_B t i s) (M_b_Edges_L1_E t i s) t.Ops.length 0 v=some v1:=h1
  rw[h1',ob1_some]
  exact edges2 hsm r (i+1) v1 hd' (by omega) h3
theorem edges_eq {t:GTask}(hsm:smallF t=true):∃ es,M_b_Edges t=some es∧es.length≤100000∧∀ e∈es,EdgP t e:=by
 have hal:=allF_len t hsm
 obtain⟨es,h1,h2,h3⟩:=edges2 hsm (allF t) 0 [] rfl (by simp;omega) (fun e he=>by cases he)
 refine⟨es,?_,h2,h3⟩
 rw[M_b_Edges,states_eq t hsm,ob1_some,M_b_Edges_L2_eq t (allF t) [] (by omega)]
 exact h1
abbrev infD : Int:=1125899906842624
theorem take_set (x:Int):∀ (l:List Int)(n:Nat),n<l.length→(l.set n x).take (n+1)=l.take n++[x]
 | [],n,h=>by simp at h
 | y :: l,0,_=>by simp
 | y :: l,n+1,h=>by
  rw[List.set_cons_succ,List.take_succ_cons,take_set x l n (by simpa using h),List.take_succ_cons,List.cons_append]
theorem sum_set (x:Int):∀ (l:List Int)(n:Nat)(y:Int),l[n]?=some y→(l.set n x).sum=l.sum-y+x
 | [],n,y,h=>by simp at h
 | z :: l,0,y,h=>by
  simp only[List.getElem?_cons_zero,Option.some.injEq]at h
  subst h
  rw[List.set_cons_zero,List.sum_cons,List.sum_cons];omega
 | z :: l,n+1,y,h=>by
  rw[List.getElem?_cons_succ]at h
  rw[List.set_cons_succ,List.sum_cons,List.sum_cons,sum_set x l n y h];omega
theorem sum_pos : ∀ (l:List Int),(∀ x∈l,0≤x)→0≤l.sum
 | [],_=>by simp
 | x :: l,h=>by
  have h0:=h x (mS_ ..)
  have:=sum_pos l (fun y hy=>h y (mC_ _ hy))
  rw[List.sum_cons];omega
theorem sum_le (B:Int):∀ (l:List Int),(∀ x∈l,x≤B)→l.sum≤B*l.length
 | [],_=>by simp
 | x :: l,h=>by
  have h0:=h x (mS_ ..)
  have:=sum_le B l (fun y hy=>h y (mC_ _ hy))
  rw[List.sum_cons,lC_,Int.natCast_add,Int.mul_add];omega
structure DInv (t:GTask)(Q:List Int→Int→Prop)(d:List Int):Prop where
 len:d.length=(allF t).length
 ok:∀ (i:Nat) (s:List Int) (x:Int),(allF t)[i]?=some s→d[i]?=some x→0≤x∧x≤infD∧(x≠infD→Q s x)
theorem DInv.all {t:GTask}{Q:List Int→Int→Prop}{d:List Int}(h:DInv t Q d):∀ x∈d,0≤x∧x≤infD:=fun x hx=>by
 obtain⟨i,hi⟩:=List.getElem?_of_mem hx
 have hlt:=(gS_.1 hi).1
 have hs:(allF t)[i]?=some ((allF t)[i]'(by rw[← h.len];exact hlt)):=gE_ _
 obtain⟨h1,h2,-⟩:=h.ok i _ x hs hi
 exact⟨h1,h2⟩
structure DQ (t:GTask)(Q:List Int→Int→Prop):Prop where
 goal:∀ s∈allF t,holdsF s t.Goal=true→Q s 0
 step:∀ s∈allF t,∀ o∈t.Ops,holdsF s o.Pre=true→∀ x:Int,0≤x→Q (nextF s o) x→Q s (x+o.Cost)
theorem dis1 {t:GTask}(hgood:goodF t=true):∀ (r:List (List Int))(n:Nat)(v:List Int),(allF t).drop n=r→v.length=(allF t).length →
  Rg (M_b_Distances_L1_B t (allF t)) (M_b_Distances_L1_E t (allF t)) r n v=some (v.take n++r.map fun s=>if holdsF s t.Goal=true then 0 else infD)
 | [],n,v,hd,hl=>by
  have hn:=congrArg List.length hd
  simp only[List.length_drop,lN_]at hn
  rw[Rg,M_b_Distances_L1_E,List.map_nil,List.append_nil,tL_ (by omega)]
 | s :: r,n,v,hd,hl=>by
  obtain⟨hs,hd',hlt⟩:=drop_cons hd
  have hv:v[n]?=some (v[n]'(by omega)):=gE_ _
  have hv2:(v.set n 1125899906842624)[n]?=some 1125899906842624:=List.getElem?_set_self (by omega)
  rw[Rg,M_b_Distances_L1_B,ixv,Int.toNat_natCast,ixn_at hv,grd_t (by omega),holds_eq t.Goal s (prop_sh (good_dom hgood).len (good_goal hgood)),ob1_some,List.map_cons]
  have hcast:((n:Int)+1)=((n+1:Nat):Int):=rfl
  by_cases hh:holdsF s t.Goal=true
  ·rw[hh,sel_tt,ixn_at hv2,List.set_set,hcast,dis1 hgood r (n+1) _ hd' (by rw[List.length_set];exact hl),take_set 0 v n (by omega),if_pos rfl,List.append_assoc];rfl
  ·rw[Bool.eq_false_iff.2 hh,sel_ff,hcast,dis1 hgood r (n+1) _ hd' (by rw[List.length_set];exact hl),take_set _ v n (by omega),if_neg (by decide),List.append_assoc];rfl
theorem dis2 {t:GTask}(hgood:goodF t=true){Q:List Int→Int→Prop}(hQ:DQ t Q)(es:List GEdge):∀ (r:List GEdge)(i:Int)(b:Bool)(d:List Int),(∀ e∈r,EdgP t e)→DInv t Q d →
  ∃ b' d',Rg (M_b_Distances_L2_B t es) (M_b_Distances_L2_E t es) r i (b,d)=some (b',d')∧DInv t Q d'∧((b'=b∧d'=d)∨(b'=true∧d'.sum<d.sum))
 | [],i,b,d,_,hd=>⟨b,d,rfl,hd,.inl ⟨rfl,rfl⟩⟩
 | e :: r,i,b,d,he,hd=>by
  have her:∀ e∈r,EdgP t e:=fun u hu=>he u (mC_ _ hu)
  obtain⟨a,bb,q,s,o,e1,e2,e3,h1,h2,h3,h4⟩:=(he e (mS_ ..)).ex
  obtain⟨F,O,T⟩:=e
  simp only at e1 e2 e3
  subst e1 e2 e3
  have ho:=mG_ h3
  have hcost:=good_cost hgood ho
  have hla:a<d.length:=by rw[hd.len];exact(gS_.1 h1).1
  have hlb:bb<d.length:=by rw[hd.len];exact(gS_.1 h2).1
  obtain⟨x,hx⟩:∃ x,d[bb]?=some x:=⟨_,gE_ hlb⟩
  obtain⟨y,hy⟩:∃ y,d[a]?=some y:=⟨_,gE_ hla⟩
  obtain⟨x0,x1,xq⟩:=hd.ok bb _ x h2 hx
  obtain⟨y0,y1,yq⟩:=hd.ok a s y h1 hy
  unfold infD at x1 y1 xq
  have hw:IntKind.i64.wrap (x+o.Cost)=x+o.Cost:=wrap_eq (by omega) (by omega)
  rw[Rg,M_b_Distances_L2_B]
  simp only[ixv,ix_at h3,ob1_some,Int.toNat_natCast,ixn_at hx,ixn_at hy,sel_dec]
  by_cases hlt:x<1125899906842624
  ·rw[if_pos hlt,grd_t (by omega),grd_t (by omega),grd_t (by omega),grd_t (by omega),ob1_some,hw]
   by_cases hr:x+o.Cost<y
   ·rw[decide_eq_true hr,sel_tt,grd_t (by omega),grd_t (by omega),grd_t (by omega),grd_t (by omega)]
    have hd1:DInv t Q (d.set a (x+o.Cost)):=by
     refine⟨by rw[List.length_set];exact hd.len,fun i s' z hs' hz=>?_⟩
     by_cases hai:a=i
     ·subst hai
      rw[List.getElem?_set_self hla]at hz
      injection hz with hz
      rw[h1]at hs'
      injection hs' with hs'
      subst hz hs'
      exact⟨by omega,by unfold infD;omega,fun _=>hQ.step s (mG_ h1) o ho h4 x x0 (xq (by omega))⟩
     ·rw[List.getElem?_set_ne hai]at hz
      exact hd.ok i s' z hs' hz
    obtain⟨b',d',g1,g2,g3⟩:=dis2 hgood hQ es r (i+1) true _ her hd1
    have hsum:=sum_set (x+o.Cost) d a y hy
    refine⟨b',d',g1,g2,.inr ?_⟩
    rcases g3 with⟨g3,g4⟩|⟨g3,g4⟩
    ·exact⟨g3,by rw[g4,hsum];omega⟩
    ·exact⟨g3,by rw[hsum]at g4;omega⟩
   ·rw[decide_eq_false hr,sel_ff]
    exact dis2 hgood hQ es r (i+1) b d her hd
  ·rw[if_neg hlt,grd_t (by omega),grd_t (by omega),ob1_some,sel_ff]
   exact dis2 hgood hQ es r (i+1) b d her hd
theorem dis3 {t:GTask}(hgood:goodF t=true){Q:List Int→Int→Prop}(hQ:DQ t Q)(es:List GEdge)(hes:∀ e∈es,EdgP t e)(hlen:es.length≤100000)(hal:(allF t).length≤512):∀ (S k:Nat)(d:List Int),DInv t Q d→d.sum≤S→S+2≤k→∃ d',M_b_Distances_L3 t es k true d=some d'∧DInv t Q d':=by
 intro S
 induction S with
 | zero =>
  intro k d hd hs hk
  obtain⟨k,rfl⟩:∃ j,k=j+2:=⟨k-2,by omega⟩
  obtain⟨b',d',g1,g2,g3⟩:=dis2 hgood hQ es es 0 false d hes hd
  have hpos:=sum_pos d' (fun x hx=>(g2.all x hx).1)
  rcases g3 with⟨rfl,rfl⟩|⟨-,g4⟩
  ·refine⟨d',?_,g2⟩
   have hl:=g2.len
   rw[M_b_Distances_L3,sel_tt,M_b_Distances_L2_eq t es false d' (by omega),g1,ob1_some]
   simp only
   rw[M_b_Distances_L3,sel_ff,grd_t (by omega)]
  ·omega
 | succ S ih =>
  intro k d hd hs hk
  obtain⟨k,rfl⟩:∃ j,k=j+2:=⟨k-2,by omega⟩
  obtain⟨b',d',g1,g2,g3⟩:=dis2 hgood hQ es es 0 false d hes hd
  rw[M_b_Distances_L3,sel_tt,M_b_Distances_L2_eq t es false d (by omega),g1,ob1_some]
  simp only
  rcases g3 with⟨rfl,rfl⟩|⟨rfl,g4⟩
  ·have hl:=g2.len
   exact⟨d',by rw[M_b_Distances_L3,sel_ff,grd_t (by omega)],g2⟩
  ·exact ih (k+1) d' g2 (by omega) (by omega)
theorem dis_eq {t:GTask}(hsm:smallF t=true){Q:List Int→Int→Prop}(hQ:DQ t Q)(g:Nat)(hg:1000000000000000000≤g)(u:List Int):∃ d,M_b_Distances g t u=some d∧DInv t Q d:=by
 have hgood:=(small_good hsm).1
 have hal:=allF_len t hsm
 obtain⟨es,h1,h2,h3⟩:=edges_eq hsm
 have hd0:DInv t Q ((allF t).map fun s=>if holdsF s t.Goal=true then 0 else infD):=by
  refine⟨lM_ _,fun i s x hs hx=>?_⟩
  rw[List.getElem?_map,hs]at hx
  simp only[Option.map_some,Option.some.injEq]at hx
  subst hx
  by_cases hh:holdsF s t.Goal=true
  ·rw[if_pos hh];exact⟨by decide,by decide,fun _=>hQ.goal s (mG_ hs) hh⟩
  ·rw[if_neg hh];exact⟨by decide,by decide,fun h=>absurd rfl h⟩
 have hsum:=sum_le infD _ (fun x hx=>(hd0.all x hx).2)
 rw[hd0.len]at hsum
 have hle:infD*((allF t).length:Int)≤infD*512:=Int.mul_le_mul_of_nonneg_left (by omega) (by decide)
 have hs2:((allF t).map fun s=>if holdsF s t.Goal=true then 0 else infD).sum≤(576460752303423488:Nat):=Int.le_trans hsum (Int.le_trans hle (by decide))
 obtain⟨d,e1,e2⟩:=dis3 hgood hQ es h3 h2 hal 576460752303423488 g _ hd0 hs2 (by omega)
 refine⟨d,?_,e2⟩
 have hrep:(List.replicate ((((allF t).map cL_cI).length:Int)).toNat (0:Int)).length=(allF t).length:=by rw[List.length_replicate,lM_,Int.toNat_natCast]
 have hd1:=dis1 hgood (allF t) 0 (List.replicate ((((allF t).map cL_cI).length:Int)).toNat 0) rfl hrep
 have hd1':Rg (M_b_Distances_L1_B t (allF t)) (M_b_Distances_L1_E t (allF t)) (allF t) 0 (List.replicate ((((allF t).map cL_cI).length:Int)).toNat 0)=_:=hd1
 have hlm:((allF t).map cL_cI).length=(allF t).length:=lM_ _
 rw[M_b_Distances,states_eq t hsm,ob1_some,grd_t (by omega),grd_t (by omega),M_b_Distances_L1_eq t (allF t) _ (by omega),hd1',List.take_zero,List.nil_append,ob1_some,h1,ob1_some]
 exact e1
def condN (es:List GEffect):Nat:=(es.filter fun e=>decide (0<e.When.length)).length
theorem condN_le (es:List GEffect):condN es≤es.length:=List.length_filter_le _ _
theorem condN_cons (e:GEffect)(es:List GEffect):condN (e :: es)=(if 0<e.When.length then 1 else 0)+condN es:=by
 unfold condN
 rw[List.filter_cons]
 by_cases h:0<e.When.length
 ·rw[if_pos (decide_eq_true h),if_pos h,lC_];omega
 ·rw[if_neg (by simpa using h),if_neg h];omega
def twoF (es:List GEffect):Bool:=es.all fun e=>decide (e.When.length≤2)
theorem tame2 (o:GOp):∀ (r:List GEffect)(i:Int)(v:Nat),v+r.length≤1000000→Rg (M_b_Tame_L2_B o) (M_b_Tame_L2_E o) r i v=some (if twoF r=true then .inl ((v+condN r:Nat):Int)else .inr false)
 | [],i,v,_=>rfl
 | e :: r,i,v,h=>by
  rw[lC_]at h
  rw[Rg,M_b_Tame_L2_B,ixv,sel_dec,sel_dec,lM_,twoF,List.all_cons,condN_cons]
  by_cases h1:e.When.length>2
  ·rw[if_pos (by omega),decide_eq_false (by omega),Bool.false_and,if_neg (by decide)]
  ·rw[if_neg (by omega),decide_eq_true (p:=e.When.length≤2) (by omega),Bool.true_and]
   by_cases h2:0<e.When.length
   ·rw[if_pos (by omega),if_pos h2,wrap_eq (by omega) (by omega),show((v:Int)+1)=((v+1:Nat):Int)from rfl,tame2 o r _ (v+1) (by omega),Nat.add_assoc];rfl
   ·rw[if_neg (by omega),if_neg h2,tame2 o r _ v (by omega),Nat.zero_add];rfl
def tameO (o:GOp):Bool:=twoF o.Effs&&decide (condN o.Effs≤3)
def tameF (t:GTask):Bool:=smallF t&&(t.Vars.all (fun n=>decide (2≤n∧n≤4))&&t.Ops.all tameO)
theorem tame_eq (t:GTask)(ht:ShT t):M_b_Tame t=some (tameF t):=by
 rw[M_b_Tame,small_eq t ht,ob1_some,tameF]
 cases hs:smallF t with
 | false=>rfl
 | true =>
  obtain⟨hgood,hv,ho⟩:=small_good hs
  have e1:=M_b_Tame_L1_eq t (by omega)
  have e3:=M_b_Tame_L3_eq t (by omega)
  rw[Bool.not_true,sel_ff,e1,rg_all (p:=fun n:Int=>decide (2≤n∧n≤4)) (c:=some (.inr false))]
  ·cases t.Vars.all fun n=>decide (2≤n∧n≤4)with
   | false=>rfl
   | true =>
    rw[if_pos rfl,M_b_Tame_L1_E,ob1_some,osum_inl,e3,rg_all (p:=tameO) (c:=some false),M_b_Tame_L3_E]
    ·cases t.Ops.all tameO <;> rfl
    ·intro o hom i rc
     have hl:=(good_op hgood hom).effs
     have e2:=M_b_Tame_L2_eq o 0 (show o.Effs.length<_ by omega)
     have e2':Rg (M_b_Tame_L2_B o) (M_b_Tame_L2_E o) o.Effs 0 0=_:=tame2 o o.Effs 0 0 (by omega)
     have hc:=condN_le o.Effs
     rw[M_b_Tame_L3_B,ixv,e2,e2',Nat.zero_add,ob1_some,tameO]
     cases twoF o.Effs with
     | false=>rfl
     | true =>
      rw[if_pos rfl,osum_inl,sel_dec,Bool.true_and]
      by_cases h3:condN o.Effs≤3
      ·rw[if_neg (by omega),if_pos (decide_eq_true h3)];rfl
      ·rw[if_pos (by omega),if_neg (by simpa using h3)];rfl
  ·intro n _ i rc
   rw[M_b_Tame_L1_B,ixv,sel_dec,sel_dec]
   by_cases h1:n<2
   ·rw[if_pos h1,if_neg (by rw[decide_eq_true_iff];omega)]
   ·rw[if_neg h1]
    by_cases h2:n>4
    ·rw[if_pos h2,if_neg (by rw[decide_eq_true_iff];omega)]
    ·rw[if_neg h2,if_pos (by rw[decide_eq_true_iff];omega)]
theorem tame_small {t:GTask}(h:tameF t=true):smallF t=true:=by
 unfold tameF at h
 rw[bA_]at h
 exact h.1
def M_strings_Split (s sep:ByteArray):Option (List ByteArray):=grd (s.size<4294967281) (grd (1≤sep.size) (some (Lib.splitB sep 0 (Lib.countB s sep) s)))
theorem splitB_all (sep:ByteArray)(h1:1≤sep.size):∀ (n:Nat)(s:ByteArray),s.size≤n→(Lib.splitB sep 0 (Lib.countB s sep) s).length=Lib.countB s sep+1
 | 0,s,hn=>by
  rcases Lib.indexB_cases s sep with hix|⟨i,_,hroom⟩
  ·rw[Lib.countB_miss s sep hix];rfl
  ·omega
 | n+1,s,hn=>by
  rcases Lib.indexB_cases s sep with hix|⟨i,hi,hroom⟩
  ·rw[Lib.countB_miss s sep hix];rfl
  ·rw[Lib.countB_hit s sep i h1 hi,Nat.add_comm 1,Lib.splitB_hit _ _ _ _ _ hi]
   have hsz:(s.extract (i+sep.size) s.size).size≤n:=by rw[ByteArray.size_extract];omega
   simp[splitB_all sep h1 n _ hsz]
theorem A_strings_Split (s sep:ByteArray){r:List ByteArray}(h:M_strings_Split s sep=some r):ACall cx 15 [.c (.string s),.c (.string sep)] (.sl 1 (r.map cS)):=by
 obtain⟨h1,h⟩:=grd_ok h
 obtain⟨h2,h⟩:=grd_ok h
 obtain rfl:=sI_ h
 refine acall_gl Tryz.func15 rfl (by decide) (fun w O cargs ht hO hs hr=>?_)
 obtain⟨a,b,rfl⟩:=args2 hs
 obtain rfl:=rv_c (hr 0 _ a rfl rfl)
 obtain rfl:=rv_c (hr 1 _ b rfl rfl)
 obtain⟨m,hm⟩:=ht.2
 refine(Tryz.strings_Split s sep m w h1 hm h2).mono ?_
 rintro e w' ⟨rfl,rfl⟩
 obtain⟨l,hl⟩:∃ l,Lib.splitB sep 0 (Lib.countB s sep) s=l:=⟨_,rfl⟩
 have hlen:l.length=Lib.countB s sep+1:=by rw[← hl];exact splitB_all sep h2 s.size s (Nat.le_refl _)
 have hcs:Lib.countB s sep+1≤140737488355328:=by have:=Lib.countB_le sep h2 s.size s (Nat.le_refl _);omega
 rw[hl]
 refine⟨_,rfl,?_,(Below.refl _ _).trans ⟨rfl,rfl,rfl,by show w.heap.size≤(w.heap.push _).size;simp,fun b hb=>?_⟩⟩
 ·have:=RV.sl (w:=w.alloc (.cells (l.map Value.string).toArray 9)) (vs:=nov) (m:=mO O) (sz:=1) (l:=l.map cS) (A:=some ⟨w.heap.size,0,none⟩) (cap:=Lib.countB s sep+1) (b:=w.heap.size) (off:=0) (f:=fun k _=>.string (l.getD k ⟨#[]⟩))
   (fun _=>⟨rfl,fun ho=>by have:=hO _ (owned_nov.1 ho);omega,by show w.heap.size<(w.heap.push _).size;simp⟩) (by simp[hlen]) (by simp[hlen];omega)
   (fun k e he=>by obtain⟨x,_,rfl⟩:=get_map he;rfl)
   (fun k j e x he hx=>by
    obtain⟨y,hy,rfl⟩:=get_map he
    cases j with
    | zero =>
     have hb:=heap_alloc_new w (.cells (l.map Value.string).toArray 9)
     refine⟨?_,rfl⟩
     simp only[World.cell?,hb]
     simp[hy,gD_]
    | succ j=>simp[cS]at hx)
   (fun k j e x he hx=>by
    obtain⟨y,hy,rfl⟩:=get_map he
    cases j with
    | zero =>
     simp[cS]at hx
     subst hx
     simp only[gD_,hy,Option.getD_some]
     exact .c _
    | succ j=>simp[cS]at hx) (frl_cS l)
  simp only[lM_,hlen]at this
  exact this
 ·show(w.heap.push _)[b]?=w.heap[b]?
  rw[Array.getElem?_push,if_neg (by omega)]
def cutB (s sep:ByteArray):ByteArray×ByteArray×Bool:=(⟨(Lib.cut s.data.toList sep.data.toList).1.toArray⟩,⟨(Lib.cut s.data.toList sep.data.toList).2.1.toArray⟩,(Lib.cut s.data.toList sep.data.toList).2.2)
def M_strings_Cut (s sep:ByteArray):Option (ByteArray×ByteArray×Bool):=grd (s.size<4294967281) (some (cutB s sep))
theorem A_strings_Cut (s sep:ByteArray){r1 r2:ByteArray}{r3:Bool}(h:M_strings_Cut s sep=some (r1,r2,r3)):ACall cx 42 [.c (.string s),.c (.string sep)] (.tup [.c (.string r1),.c (.string r2),.c (.bool r3)]):=by
 obtain⟨h1,h⟩:=grd_ok h
 obtain⟨rfl,rfl,rfl⟩:=inj3 h
 refine acall_gl Tryz.func42 rfl (by decide) (fun w O cargs ht hO hs hr=>?_)
 obtain⟨a,b,rfl⟩:=args2 hs
 obtain rfl:=rv_c (hr 0 _ a rfl rfl)
 obtain rfl:=rv_c (hr 1 _ b rfl rfl)
 obtain⟨m,hm⟩:=ht.2
 refine(Tryz.strings_Cut s sep m w h1 hm).mono ?_
 rintro e w' ⟨rfl,n,rfl⟩
 refine⟨_,rfl,.tup rfl (fun j x u hx hu=>?_),below_drewN (Below.refl _ _) n⟩
 match j,hx,hu with
 | 0,hx,hu=>simp at hx hu;subst hx hu;exact .c _
 | 1,hx,hu=>simp at hx hu;subst hx hu;exact .c _
 | 2,hx,hu=>simp at hx hu;subst hx hu;exact .c _
 | j+3,hx,hu=>simp at hx
def M_strings_CutPrefix (s p:ByteArray):Option (ByteArray×Bool):=some (⟨(Lib.trimPrefix s.data.toList p.data.toList).toArray⟩,Lib.hasPrefix s.data.toList p.data.toList)
theorem A_strings_CutPrefix (s p:ByteArray){r1:ByteArray}{r2:Bool}(h:M_strings_CutPrefix s p=some (r1,r2)):ACall cx 40 [.c (.string s),.c (.string p)] (.tup [.c (.string r1),.c (.bool r2)]):=by
 obtain⟨rfl,rfl⟩:=inj2 h
 refine acall_gl Tryz.func40 rfl (by decide) (fun w O cargs ht hO hs hr=>?_)
 obtain⟨a,b,rfl⟩:=args2 hs
 obtain rfl:=rv_c (hr 0 _ a rfl rfl)
 obtain rfl:=rv_c (hr 1 _ b rfl rfl)
 refine(Tryz.strings_CutPrefix s p w).mono ?_
 rintro e w' ⟨rfl,rfl⟩
 refine⟨_,rfl,.tup rfl (fun j x u hx hu=>?_),Below.refl _ _⟩
 match j,hx,hu with
 | 0,hx,hu=>simp at hx hu;subst hx hu;exact .c _
 | 1,hx,hu=>simp at hx hu;subst hx hu;exact .c _
 | j+2,hx,hu=>simp at hx
end Go.Proofs.YtinknhophadbkaaGreatDoor.Am
namespace Go.Proofs.YtinknhophadbkaaGreatDoor.Am
set_option maxHeartbeats 16000000
set_option maxRecDepth 100000
open Go.RowKit
theorem zb_XDPrs {P:Prop}(h:P:=by repeat (first|exact BWL.nil|exact bwll_nil|exact bw_c|exact BW.sl|exact BW.nil|exact bwll_same rfl FrI.h|refine BWL.cons ?_ ?_|refine bwll_cons ?_ ?_|(refine bw_own3 rfl rfl rfl FrI.h ?_ ?_ ?_)|exact BW.fr FrV.h|exact BW.fr (by assumption)|refine bw_agg ?_|refine bw_clo ?_|refine bw_ptr rfl rfl rfl ?_|(refine bw_own rfl rfl rfl ?_ FrI.h ?_ ?_)|assumption|omega|rfl|(rw[lM_,← lA_];assumption)|(refine bwll_same ?_ FrI.h;(simp[cGCertificate,cN,cF,cS,c_u8] <;> fail))|(rw[List.map_set];refine bwll_set (by first|rfl|omega|simp) ?_ ?_)|refine bwll_set (by first|rfl|omega|simp) ?_ ?_|(rw[List.map_replicate];refine bwll_rep ?_)|refine bwll_rep ?_|(rw[List.map_append];refine bwll_append ?_ ?_)|refine bwll_append ?_ ?_|(simp[cGCertificate,cN,cF,cS,c_u8,take_len_map] <;> fail)|(rw[List.drop_zero,tL_] <;> first|rfl|(simp[cGCertificate,cN,cF,cS,c_u8] <;> fail))|(simp;omega)|(simp only[lM_,lA_,List.drop_zero,lC_,lN_,Nat.zero_add,Nat.add_zero]at *;omega))):P:=h
theorem ci_XDPrs {p K:Prop}(k:K)(h:p:=by first|rfl|exact⟨rfl,rfl⟩|exact BW.fr FrV.h|(refine BW.fr ?_;assumption)|(refine⟨rfl,?_⟩;(simp[cGCertificate,cN,cF,cS,c_u8,take_len_map];done))|(refine RowK.same ?_ FrI.h;first|rfl|(simp[cGCertificate,cN,cF,cS,c_u8,take_len_map];done))|(refine row_part1 ?_;(exact zb_XDPrs);done)|((exact zb_XDPrs);done)|(simp[cGCertificate,cN,cF,cS,c_u8,take_len_map];done)):p∧K:=⟨h,k⟩
theorem ca_XDPrs {P:Prop}(h:P:=by repeat (first|exact True.intro|refine ci_XDPrs ?_)):P:=h
theorem pr_XDPrs {p K:Prop}(k:K)(h:p:=by first|assumption|exact Int.natCast_nonneg _|exact Nat.le_refl _|exact Nat.zero_le _|omega|(simp;done)|(simp;omega)):p∧K:=⟨h,k⟩
theorem pl_XDPrs {p K:Prop}(k:K)(h:p:=by first|rfl|exact lM_ _|(simp;done)|(simp;omega)):p∧K:=⟨h,k⟩
theorem pe_XDPrs {p K:Prop}(k:K)(h:p:=by first|omega|(simp;omega)|(simp only[lM_,lC_,lN_,lA_];omega)|(simp only[lM_,List.drop_zero,lC_,lN_,Nat.zero_add,Nat.add_zero]at *;omega)):p∧K:=⟨h,k⟩
theorem dr_XDPrs {b:Bool}{p K:Prop}(k:K)(h:b=true→p:=by intro h;first|(cases h;done)|exact⟨by kernel_rfl,by kernel_rfl⟩):(b=true→p)∧K:=⟨h,k⟩
theorem cl_XDPrs {C:Cx}{n:Nat}{o:Oper}{τ:Nat→AV}{η:Nat→Ent}{f:FuncId}{os:Array Operand}{ats:Array TypeId}{r:AV}{args:List AV}{K:Foot→Prop}(ho:o.op=.call ⟨.value (.func f),os,ats⟩)(hc:ACall C f args r)(k:K ⟨r,[],[]⟩)
  (hd:InB n o.dst:=by exact bT2 rfl) (hargs:os.toList.map (evA τ)=args:=by first|rfl|(simp[cGCertificate,cN,cF,cS,c_u8];done)|(repeat (first|exact rfl|refine cons_eq ?_ ?_|exact sl_dt rfl))) (hfr:frs args:=by repeat (first|exact trivial|exact fr1_eA _|exact fr0_eA _|exact fr1_fr (by assumption)|exact FrV.h|exact fr1_fr FrV.h|refine And.intro ?_ ?_)) (hr:fr1 r:=by repeat (first|exact trivial|exact fr1_eA _|exact fr0_eA _|exact fr1_fr (by assumption)|exact FrV.h|exact fr1_fr FrV.h|refine And.intro ?_ ?_)):∃ f:Foot,LF C n o τ η f∧K f:=⟨_,lf_call ho hd hargs hc hfr hr,k⟩
theorem clb_XDPrs {C:Cx}{n:Nat}{o:Oper}{τ:Nat→AV}{η:Nat→Ent}{f:FuncId}{os:Array Operand}{ats:Array TypeId}{r:AV}{xs ys:List AV}{K:Foot→Prop}(bs:List Nat)(ho:o.op=.call ⟨.value (.func f),os,ats⟩)(hargs:os.toList.map (evA τ)=xs)(hc:ACall C f ys r)(k:K ⟨r,[],bs⟩)
  (hd:InB n o.dst:=by exact bT2 rfl) (hb:BWL η (dropB η bs) xs ys:=by exact zb_XDPrs) (hr:scal r:=by repeat (first|exact trivial|exact scal0_eA _|exact scal_eA _|refine And.intro ?_ ?_)):∃ f:Foot,LF C n o τ η f∧K f:=⟨_,lf_callB bs ho hd hargs hb hc hr,k⟩
def M_ce_number_L1 (a0:ByteArray):Nat→Int→Int→Option (Int×Bool)|0,_,_=>none|k10+1,v8,v9=>sel (decide (v9<(((bys a0).map c_u8).length:Int))) (ix (bys a0) v9 (fun y11=>sel (decide (y11<48)) (some (0,false)) (sel (decide (y11>57)) (some (0,false)) (M_ce_number_L1 a0 k10 (IntKind.i64.wrap ((IntKind.i64.wrap (10*v8))+(IntKind.i64.wrap (IntKind.u8.wrap (y11-48))))) (IntKind.i64.wrap (v9+1)))))) (some (v8,true))
def M_ce_number (a0:ByteArray):Option (Int×Bool):=ob1 (sel (decide ((a0.size:Int)<1)) (some (.inr (0,false))) (sel (decide ((a0.size:Int)>13)) (some (.inr (0,false))) (sel (decide ((a0.size:Int)>1)) (grd (0<(a0.size:Int)) (sel ((byt a0 0) == 48) (some (.inr (0,false))) (some (.inl ())))) (some (.inl ())))):Option (Unit⊕(Int×Bool))) (osum (fun _=>grd (a0.size≤140737488355328) (M_ce_number_L1 a0 (((((bys a0).map c_u8).length:Int)).toNat+1) 0 0)) (fun(r1,r2)=>some (r1,r2)))
theorem A_ce_number (a0:ByteArray){r1:Int}{r2:Bool}(h:M_ce_number a0=some (r1,r2)):ACall cx 41 [.c (.string a0)] (.tup [.c (.int .i64 r1),.c (.bool r2)]):=by
 refine aOf Tryz.func41 rfl (by decide) rfl (bT2 rfl) ?_;intro _;unfold M_ce_number at h;refine aSR ?_;intro _;refine dr_XDPrs ?_;obtain⟨o1,h,hK2⟩:=ob1_ok h;refine awp_cut (α:=Unit) (fun _=>mkS 46 [(0,.c (.string a0))] []) (fun v=>o1=(.inl v)) ?_ ?_
 ·refine aSR ?_;intro _;refine spf h (fun c3 h=>?_) (fun c3 h=>?_)
  ·intro _;refine spf h (fun c4 h=>?_) (fun c4 h=>?_)
   ·intro _;refine spl h (fun c5 h=>?_) (fun c5 h=>?_)
    ·intro _;obtain⟨q6,h⟩:=grd_ok h;refine pr_XDPrs ?_;refine pr_XDPrs ?_;refine dr_XDPrs ?_;refine aCd ?_;intro _;refine spl h (fun c7 h=>?_) (fun c7 h=>?_)
     ·refine aSR ?_;intro _;refine dr_XDPrs ?_;refine aRt ?_;have j8:=sI_ h;subst j8;replace h:=(osum_r hK2);intro _;obtain⟨rfl,rfl⟩:=inj2 h;exact ca_XDPrs
     ·refine aSk ?_;refine⟨(),(sI_ h).symm,?_⟩;exact ca_XDPrs
    ·intro _;refine dr_XDPrs ?_;refine aCd ?_;intro _;refine litF (aSk ?_);refine⟨(),(sI_ h).symm,?_⟩;exact ca_XDPrs
   ·intro _;refine dr_XDPrs ?_;refine aCd ?_;intro _;refine litT (aSR ?_);intro _;refine dr_XDPrs ?_;refine aRt ?_;have j9:=sI_ h;subst j9;replace h:=(osum_r hK2);intro _;obtain⟨rfl,rfl⟩:=inj2 h;exact ca_XDPrs
  ·intro _;refine dr_XDPrs ?_;refine aCd ?_;intro _;refine litT (aSR ?_);intro _;refine dr_XDPrs ?_;refine aRt ?_;have j10:=sI_ h;subst j10;replace h:=(osum_r hK2);intro _;obtain⟨rfl,rfl⟩:=inj2 h;exact ca_XDPrs
 ·rintro _ ho;have ho:=ho.symm;subst ho;intro _;replace h:=(osum_l hK2);refine aSR ?_;intro _;refine dr_XDPrs ?_;refine aSq (aSR ?_);intro _;obtain⟨q11,h⟩:=grd_ok h;refine⟨_,lf_bys rfl (bT2 rfl) rfl (tyTab_ok 9 _ rfl) rfl (tyTab_ok 87 _ rfl) rfl Tryz.underlying5 (by first|assumption|omega),?_⟩;intro _;refine dr_XDPrs ?_;refine aBk ?_;refine awp_loop (α:=Nat×Int×Int) (fun x=>mkS 46 [(4,.c (.int .i64 x.2.1)),(26,.sl 1 ((bys a0).map c_u8)),(27,.c (.int .i64 (((bys a0).map c_u8).length:Int))),(28,.c (.int .i64 x.2.2))] []) (fun x=>M_ce_number_L1 a0 x.1 x.2.1 x.2.2=some (r1,r2)) (fun x=>x.1) (((((bys a0).map c_u8).length:Int)).toNat+1,0,0) h ?_ ?_
  ·exact ca_XDPrs
  ·intro x12 h;intro _;obtain⟨k10,m13,h⟩:=succ_of (f:=fun n=>M_ce_number_L1 a0 n x12.2.1 x12.2.2) rfl h;replace h:M_ce_number_L1 a0 (k10+1) x12.2.1 x12.2.2=some (r1,r2):=h;rw[M_ce_number_L1]at h;refine aSR ?_;intro _;refine dr_XDPrs ?_;refine aSq (aCd ?_);intro _;refine spl h (fun c14 h=>?_) (fun c14 h=>?_)
   ·refine aSk (aSq (aBk (aSR ?_)));intro _;obtain⟨y11,w15,q16,h⟩:=ix_ok h;refine Exists.intro (c_u8 y11) (And.intro (map_at' w15) ?_);intro _;refine pr_XDPrs ?_;refine dr_XDPrs ?_;refine aSq (aSR ?_);intro _;refine spf h (fun c17 h=>?_) (fun c17 h=>?_)
    ·intro _;refine dr_XDPrs ?_;refine aCd ?_;intro _;refine spl h (fun c18 h=>?_) (fun c18 h=>?_)
     ·refine aSR ?_;intro _;refine dr_XDPrs ?_;refine aRt ?_;intro _;obtain⟨rfl,rfl⟩:=inj2 h;exact ca_XDPrs
     ·refine aSk (aRg ?_);intro _;refine dr_XDPrs ?_;refine aRg ?_;intro _;refine dr_XDPrs ?_;refine⟨(k10,(IntKind.i64.wrap ((IntKind.i64.wrap (10*x12.2.1))+(IntKind.i64.wrap (IntKind.u8.wrap (y11-48))))),(IntKind.i64.wrap (x12.2.2+1))),h,ltS m13,?_⟩;exact ca_XDPrs
    ·intro _;refine dr_XDPrs ?_;refine aCd ?_;intro _;refine litT (aSR ?_);intro _;refine dr_XDPrs ?_;refine aRt ?_;intro _;obtain⟨rfl,rfl⟩:=inj2 h;exact ca_XDPrs
   ·refine aEx (aSR ?_);intro _;refine dr_XDPrs ?_;refine aRt ?_;intro _;obtain⟨rfl,rfl⟩:=inj2 h;exact ca_XDPrs
def M_ce_head (a0:ByteArray):Option (Int×Bool):=sel (a0.toList == (⟨#[117,110,115,111,108,118,97,98,108,101]⟩:ByteArray).toList) (some ((-1),true)) (ob2 (M_strings_CutPrefix a0 (⟨#[108,111,119,101,114,32]⟩:ByteArray)) (fun z1 z2=>sel (!z2) (some (0,false)) (ob2 (M_ce_number z1) (fun z3 z4=>some (z3,z4)))))
theorem A_ce_head (a0:ByteArray){r1:Int}{r2:Bool}(h:M_ce_head a0=some (r1,r2)):ACall cx 16 [.c (.string a0)] (.tup [.c (.int .i64 r1),.c (.bool r2)]):=by
 refine aOf Tryz.func16 rfl (by decide) rfl (bT2 rfl) ?_;intro _;unfold M_ce_head at h;refine aSR ?_;intro _;refine dr_XDPrs ?_;refine aSq (aSR ?_);intro _;refine dr_XDPrs ?_;refine aCd ?_;intro _;refine spl h (fun c1 h=>?_) (fun c1 h=>?_)
 ·refine aSR ?_;intro _;refine dr_XDPrs ?_;refine aRt ?_;intro _;obtain⟨rfl,rfl⟩:=inj2 h;exact ca_XDPrs
 ·refine aSk (aSR ?_);intro _;obtain⟨z1,z2,u2,h⟩:=ob2_ok h;refine cl_XDPrs rfl (A_strings_CutPrefix a0 (⟨#[108,111,119,101,114,32]⟩:ByteArray) u2) ?_;intro _;refine dr_XDPrs ?_;refine aSq (aSR ?_);intro _;refine dr_XDPrs ?_;refine aCd ?_;intro _;refine spl h (fun c3 h=>?_) (fun c3 h=>?_)
  ·refine aSR ?_;intro _;refine dr_XDPrs ?_;refine aRt ?_;intro _;obtain⟨rfl,rfl⟩:=inj2 h;exact ca_XDPrs
  ·refine aSk (aSR ?_);intro _;obtain⟨z3,z4,u4,h⟩:=ob2_ok h;refine cl_XDPrs rfl (A_ce_number z1 u4) ?_;intro _;refine dr_XDPrs ?_;refine aRt ?_;intro _;obtain⟨rfl,rfl⟩:=inj2 h;exact ca_XDPrs
def M_ce_nogood_L1 (z6:Int)(z11:List ByteArray):Nat→Int→(List Fact)→Option (Nogood×Bool)|0,_,_=>none|k32+1,v30,v31=>sel (decide (v30<((z11.map cS).length:Int))) (ix z11 v30 (fun y33=>ob3 (M_strings_Cut y33 (⟨#[61]⟩:ByteArray)) (fun z34 z35 z36=>ob2 (M_ce_number z34) (fun z37 z38=>ob2 (M_ce_number z35) (fun z39 z40=>sel (!z36) (some (([],0),false)) (sel (!z38) (some (([],0),false)) (sel (!z40) (some (([],0),false)) (grd ((v31.length+1)*16≤140737488355328) (M_ce_nogood_L1 z6 z11 k32 (IntKind.i64.wrap (v30+1)) (v31++[(z37,z39)])))))))))) (grd (v31.length≤140737488355328) (some ((v31,z6),true)))
def M_ce_nogood (a0:ByteArray):Option (Nogood×Bool):=ob2 (M_strings_CutPrefix a0 (⟨#[110,111,103,111,111,100,32]⟩:ByteArray)) (fun z1 z2=>ob3 (M_strings_Cut z1 (⟨#[58]⟩:ByteArray)) (fun z3 z4 z5=>ob2 (M_ce_number z3) (fun z6 z7=>ob1 (sel (!z2) (some (.inr (([],0),false))) (sel (!z5) (some (.inr (([],0),false))) (sel (!z7) (some (.inr (([],0),false))) (some (.inl ())))):Option (Unit⊕(Nogood×Bool))) (osum (fun _=>sel (z4.toList == (⟨#[]⟩:ByteArray).toList) (some (([],z6),true)) (grd (0<(z4.size:Int)) (sel ((byt z4 0) != 32) (some (([],0),false)) (ob1 (M_strings_Split (z4.extract 1 z4.size) (⟨#[32]⟩:ByteArray)) (fun z11=>grd (1≤z4.size) (M_ce_nogood_L1 z6 z11 ((((z11.map cS).length:Int)).toNat+1) 0 [])))))) (fun(r8,r9)=>some (r8,r9))))))
theorem A_ce_nogood (a0:ByteArray){r1:Nogood}{r2:Bool}(h:M_ce_nogood a0=some (r1,r2)):ACall cx 17 [.c (.string a0)] (.tup [.agg [.sl 2 (r1.1.map cF),.c (.int .i64 r1.2)],.c (.bool r2)]):=by
 refine aOf Tryz.func17 rfl (by decide) rfl (bT2 rfl) ?_;intro _;unfold M_ce_nogood at h;refine aSR ?_;intro _;refine dr_XDPrs ?_;refine aSR ?_;intro _;obtain⟨z1,z2,u1,h⟩:=ob2_ok h;refine cl_XDPrs rfl (A_strings_CutPrefix a0 (⟨#[110,111,103,111,111,100,32]⟩:ByteArray) u1) ?_;intro _;refine dr_XDPrs ?_;refine aSR ?_;intro _;obtain⟨z3,z4,z5,u2,h⟩:=ob3_ok h;refine cl_XDPrs rfl (A_strings_Cut z1 (⟨#[58]⟩:ByteArray) u2) ?_;intro _;refine dr_XDPrs ?_;refine aSR ?_;intro _;obtain⟨z6,z7,u3,h⟩:=ob2_ok h;refine cl_XDPrs rfl (A_ce_number z3 u3) ?_;intro _;refine dr_XDPrs ?_;obtain⟨o4,h,hK5⟩:=ob1_ok h;refine awp_cut (α:=Unit) (fun _=>mkS 102 [(2,.ptr 2 0 0 0),(7,.c (.string z4)),(9,.c (.int .i64 z6))] [(2,⟨61,2,true,[[.c (.slice none 0 0),.c (.int .i64 0)]]⟩)]) (fun v=>o4=(.inl v)) ?_ ?_
 ·refine aSR ?_;intro _;refine spf h (fun c6 h=>?_) (fun c6 h=>?_)
  ·intro _;refine spf h (fun c7 h=>?_) (fun c7 h=>?_)
   ·intro _;refine dr_XDPrs ?_;refine aCd ?_;intro _;refine spl h (fun c8 h=>?_) (fun c8 h=>?_)
    ·refine aSR ?_;intro _;refine dr_XDPrs ?_;refine aRt ?_;have j9:=sI_ h;subst j9;replace h:=(osum_r hK5);intro _;obtain⟨rfl,rfl⟩:=inj2 h;exact ca_XDPrs
    ·refine aSk ?_;refine⟨(),(sI_ h).symm,?_⟩;exact ca_XDPrs
   ·intro _;refine dr_XDPrs ?_;refine aCd ?_;intro _;refine litT (aSR ?_);intro _;refine dr_XDPrs ?_;refine aRt ?_;have j10:=sI_ h;subst j10;replace h:=(osum_r hK5);intro _;obtain⟨rfl,rfl⟩:=inj2 h;exact ca_XDPrs
  ·intro _;refine dr_XDPrs ?_;refine aCd ?_;intro _;refine litT (aSR ?_);intro _;refine dr_XDPrs ?_;refine aRt ?_;have j11:=sI_ h;subst j11;replace h:=(osum_r hK5);intro _;obtain⟨rfl,rfl⟩:=inj2 h;exact ca_XDPrs
 ·rintro _ ho;have ho:=ho.symm;subst ho;intro _;replace h:=(osum_l hK5);refine aSR ?_;intro _;refine dr_XDPrs ?_;refine aSq (aSR ?_);intro _;refine dr_XDPrs ?_;refine aCd ?_;intro _;refine spl h (fun c12 h=>?_) (fun c12 h=>?_)
  ·refine aSR ?_;intro _;refine dr_XDPrs ?_;refine aRt ?_;intro _;obtain⟨rfl,rfl⟩:=inj2 h;exact ca_XDPrs
  ·refine aSk (aSq (aSR ?_));intro _;obtain⟨q13,h⟩:=grd_ok h;refine pr_XDPrs ?_;refine pr_XDPrs ?_;refine dr_XDPrs ?_;refine aCd ?_;intro _;refine spl h (fun c14 h=>?_) (fun c14 h=>?_)
   ·refine aSR ?_;intro _;refine dr_XDPrs ?_;refine aRt ?_;intro _;obtain⟨rfl,rfl⟩:=inj2 h;exact ca_XDPrs
   ·refine aSk (aSq (aSR ?_));intro _;obtain⟨z11,u15,h⟩:=ob1_ok h;refine cl_XDPrs rfl (A_strings_Split (z4.extract 1 z4.size) (⟨#[32]⟩:ByteArray) u15) ?_;intro _;obtain⟨q16,h⟩:=grd_ok h;refine pr_XDPrs ?_;refine pr_XDPrs ?_;refine pr_XDPrs ?_;refine dr_XDPrs ?_;refine aBk ?_;refine awp_loop (α:=Nat×Int×(List Fact)) (fun x=>mkS 102 [(2,.ptr 2 0 0 0),(11,.ptr 11 0 0 0),(59,.sl 1 (z11.map cS)),(60,.c (.int .i64 ((z11.map cS).length:Int))),(61,.c (.int .i64 x.2.1))] [(2,⟨61,2,true,[[.c (.slice none 0 0),.c (.int .i64 0)]]⟩),(11,⟨61,2,true,[[.own 98 0 0 x.2.2.length,.c (.int .i64 z6)]]⟩),(98,⟨47,2,false,x.2.2.map cF⟩)]) (fun x=>M_ce_nogood_L1 z6 z11 x.1 x.2.1 x.2.2=some (r1,r2)) (fun x=>x.1) ((((z11.map cS).length:Int)).toNat+1,0,[]) h ?_ ?_
    ·exact ca_XDPrs
    ·intro x17 h;intro _;obtain⟨k32,m18,h⟩:=succ_of (f:=fun n=>M_ce_nogood_L1 z6 z11 n x17.2.1 x17.2.2) rfl h;replace h:M_ce_nogood_L1 z6 z11 (k32+1) x17.2.1 x17.2.2=some (r1,r2):=h;rw[M_ce_nogood_L1]at h;refine aSR ?_;intro _;refine dr_XDPrs ?_;refine aSq (aCd ?_);intro _;refine spl h (fun c19 h=>?_) (fun c19 h=>?_)
     ·refine aSk (aSq (aBk (aSR ?_)));intro _;obtain⟨y33,w20,q21,h⟩:=ix_ok h;refine Exists.intro (cS y33) (And.intro (map_at' w20) ?_);intro _;refine pr_XDPrs ?_;refine dr_XDPrs ?_;refine aSR ?_;intro _;obtain⟨z34,z35,z36,u22,h⟩:=ob3_ok h;refine cl_XDPrs rfl (A_strings_Cut y33 (⟨#[61]⟩:ByteArray) u22) ?_;intro _;refine dr_XDPrs ?_;refine aSR ?_;intro _;obtain⟨z37,z38,u23,h⟩:=ob2_ok h;refine cl_XDPrs rfl (A_ce_number z34 u23) ?_;intro _;refine dr_XDPrs ?_;refine aSR ?_;intro _;obtain⟨z39,z40,u24,h⟩:=ob2_ok h;refine cl_XDPrs rfl (A_ce_number z35 u24) ?_;intro _;refine dr_XDPrs ?_;refine aSq (aSR ?_);intro _;refine spf h (fun c25 h=>?_) (fun c25 h=>?_)
      ·intro _;refine spf h (fun c26 h=>?_) (fun c26 h=>?_)
       ·intro _;refine dr_XDPrs ?_;refine aCd ?_;intro _;refine spl h (fun c27 h=>?_) (fun c27 h=>?_)
        ·refine aSR ?_;intro _;refine dr_XDPrs ?_;refine aRt ?_;intro _;obtain⟨rfl,rfl⟩:=inj2 h;exact ca_XDPrs
        ·refine aSk (aRg ?_);intro _;obtain⟨q28,h⟩:=grd_ok h;refine pl_XDPrs ?_;refine pl_XDPrs ?_;refine And.intro (by first|with_reducible assumption|(show(x17.2.2.length+1)*16≤140737488355328;with_reducible assumption)|omega|(simp;omega)) ?_;refine pe_XDPrs ?_;refine dr_XDPrs ?_;refine aRg ?_;intro _;refine dr_XDPrs ?_;refine⟨(k32,(IntKind.i64.wrap (x17.2.1+1)),(x17.2.2++[(z37,z39)])),h,ltS m18,?_⟩;exact ca_XDPrs
       ·intro _;refine dr_XDPrs ?_;refine aCd ?_;intro _;refine litT (aSR ?_);intro _;refine dr_XDPrs ?_;refine aRt ?_;intro _;obtain⟨rfl,rfl⟩:=inj2 h;exact ca_XDPrs
      ·intro _;refine dr_XDPrs ?_;refine aCd ?_;intro _;refine litT (aSR ?_);intro _;refine dr_XDPrs ?_;refine aRt ?_;intro _;obtain⟨rfl,rfl⟩:=inj2 h;exact ca_XDPrs
     ·refine aEx (aSR ?_);intro _;refine dr_XDPrs ?_;refine aRt ?_;obtain⟨q29,h⟩:=grd_ok h;intro _;obtain⟨rfl,rfl⟩:=inj2 h;exact ca_XDPrs
def M_ce_Parse_L1 (z1:List ByteArray):Nat→Int→Int→(List Nogood)→Option ((Int×(List Nogood))⊕(GCertificate×Int×Er))|0,_,_,_=>none|k113+1,v110,v111,v112=>sel (decide (v110<((z1.map cS).length:Int))) (ix z1 v110 (fun y114=>ob1 (sel (!(decide (v110<(IntKind.i64.wrap (((z1.map cS).length:Int)-1))))) (sel (y114.toList == (⟨#[]⟩:ByteArray).toList) (sel (decide (v110>0)) (some (.inr ())) (some (.inl ()))) (some (.inl ()))) (some (.inl ())):Option (Unit⊕Unit)) (osum (fun _=>ob1 (sel (v110 == 0) (ob2 (M_ce_head y114) (fun z124 z125=>some (z125,z124,v112))) (ob2 (M_ce_nogood y114) (fun z126 z127=>grd ((v112.length+1)*32≤140737488355328) (some (z127,v111,(v112++[z126]))))):Option (Bool×Int×(List Nogood))) (fun(v120,v121,v122)=>sel (!v120) (some (.inr ({ Bound:=0,Nogoods:=[]:GCertificate },(IntKind.i64.wrap (v110+1)),(Er.no 2)))) (sel (!(decide (v110<(IntKind.i64.wrap (((z1.map cS).length:Int)-1))))) (some (.inr ({ Bound:=0,Nogoods:=[]:GCertificate },(IntKind.i64.wrap (v110+1)),(Er.no 2)))) (M_ce_Parse_L1 z1 k113 (IntKind.i64.wrap (v110+1)) v121 v122)))) (fun _=>some (.inl (v111,v112)))))) (some (.inl (v111,v112)))
def M_ce_Parse (a0:ByteArray):Option (GCertificate×Int×Er):=sel (decide ((a0.size:Int)>65536)) (some ({ Bound:=0,Nogoods:=[]:GCertificate },0,(Er.no 5))) (ob1 (M_strings_Split a0 (⟨#[10]⟩:ByteArray)) (fun z1=>ob1 (M_ce_Parse_L1 z1 ((((z1.map cS).length:Int)).toNat+1) 0 0 []:Option ((Int×(List Nogood))⊕(GCertificate×Int×Er))) (osum (fun(v62,v63)=>grd (v63.length≤140737488355328) (ob1 (M_ce_Check ({ Bound:=v62,Nogoods:=v63:GCertificate })) (fun z128=>erM z128 (some ({ Bound:=v62,Nogoods:=v63:GCertificate },0,Er.nil)) (fun e129=>some ({ Bound:=0,Nogoods:=[]:GCertificate },0,(Er.no e129)))))) (fun(r64,r65,r66)=>some (r64,r65,r66)))))
theorem A_ce_Parse (a0:ByteArray){r1:GCertificate}{r2:Int}{r3:Er}(h:M_ce_Parse a0=some (r1,r2,r3)):ACall cx 7 [.c (.string a0)] (.tup [.agg [.c (.int .i64 r1.Bound),.sl 2 (r1.Nogoods.map cN)],.c (.int .i64 r2),eA r3]):=by
 refine aOf Tryz.func7 rfl (by decide) rfl (bT2 rfl) ?_;intro _;unfold M_ce_Parse at h;refine aSR ?_;intro _;refine dr_XDPrs ?_;refine aSq (aSR ?_);intro _;refine dr_XDPrs ?_;refine aCd ?_;intro _;refine spl h (fun c1 h=>?_) (fun c1 h=>?_)
 ·refine aSR ?_;intro _;refine dr_XDPrs ?_;refine aRt ?_;intro _;obtain⟨rfl,rfl,rfl⟩:=inj3 h;exact ca_XDPrs
 ·refine aSk (aSR ?_);intro _;refine dr_XDPrs ?_;refine aSR ?_;intro _;obtain⟨z1,u2,h⟩:=ob1_ok h;refine cl_XDPrs rfl (A_strings_Split a0 (⟨#[10]⟩:ByteArray) u2) ?_;intro _;refine dr_XDPrs ?_;obtain⟨o3,h,hK4⟩:=ob1_ok h;refine awp_cut (α:=Int×(List Nogood)) (fun(v62,v63)=>mkS 79 [(2,.ptr 2 0 0 0),(5,.ptr 5 0 0 0)] [(2,⟨35,2,true,[[.c (.int .i64 0),.c (.slice none 0 0)]]⟩),(5,⟨35,2,true,[[.c (.int .i64 v62),.own 59 0 0 v63.length]]⟩),(59,⟨61,2,false,v63.map cN⟩)]) (fun v=>o3=(.inl v)) ?_ ?_
  ·refine aSR ?_;intro _;refine dr_XDPrs ?_;refine aBk ?_;refine awp_loop (α:=Nat×Int×Int×(List Nogood)) (fun x=>mkS 79 [(2,.ptr 2 0 0 0),(5,.ptr 5 0 0 0),(6,.sl 1 (z1.map cS)),(20,.sl 1 (z1.map cS)),(21,.c (.int .i64 ((z1.map cS).length:Int))),(22,.c (.int .i64 x.2.1))] [(2,⟨35,2,true,[[.c (.int .i64 0),.c (.slice none 0 0)]]⟩),(5,⟨35,2,true,[[.c (.int .i64 x.2.2.1),.own 59 0 0 x.2.2.2.length]]⟩),(59,⟨61,2,false,x.2.2.2.map cN⟩)]) (fun x=>M_ce_Parse_L1 z1 x.1 x.2.1 x.2.2.1 x.2.2.2=some o3) (fun x=>x.1) ((((z1.map cS).length:Int)).toNat+1,0,0,[]) h ?_ ?_
   ·exact ca_XDPrs
   ·intro x5 h;intro _;obtain⟨k113,m6,h⟩:=succ_of (f:=fun n=>M_ce_Parse_L1 z1 n x5.2.1 x5.2.2.1 x5.2.2.2) rfl h;replace h:M_ce_Parse_L1 z1 (k113+1) x5.2.1 x5.2.2.1 x5.2.2.2=some o3:=h;rw[M_ce_Parse_L1]at h;refine aSR ?_;intro _;refine dr_XDPrs ?_;refine aSq (aCd ?_);intro _;refine spl h (fun c7 h=>?_) (fun c7 h=>?_)
    ·refine aSk (aSq (aBk (aSR ?_)));intro _;obtain⟨y114,w8,q9,h⟩:=ix_ok h;refine Exists.intro (cS y114) (And.intro (map_at' w8) ?_);intro _;refine pr_XDPrs ?_;refine dr_XDPrs ?_;refine aSR ?_;intro _;refine dr_XDPrs ?_;obtain⟨o10,h,hK11⟩:=ob1_ok h;refine awp_cut (α:=Unit) (fun _=>mkS 79 [(2,.ptr 2 0 0 0),(5,.ptr 5 0 0 0),(6,.sl 1 (z1.map cS)),(7,.c (.int .i64 x5.2.1)),(8,.c (.string y114)),(9,.c (.bool (decide (x5.2.1<(IntKind.i64.wrap (((z1.map cS).length:Int)-1)))))),(20,.sl 1 (z1.map cS)),(21,.c (.int .i64 ((z1.map cS).length:Int))),(22,.c (.int .i64 x5.2.1))] [(2,⟨35,2,true,[[.c (.int .i64 0),.c (.slice none 0 0)]]⟩),(5,⟨35,2,true,[[.c (.int .i64 x5.2.2.1),.own 59 0 0 x5.2.2.2.length]]⟩),(59,⟨61,2,false,x5.2.2.2.map cN⟩)]) (fun v=>o10=(.inl v)) ?_ ?_
     ·refine aSR ?_;intro _;refine spl h (fun c12 h=>?_) (fun c12 h=>?_)
      ·intro _;refine spl h (fun c13 h=>?_) (fun c13 h=>?_)
       ·intro _;refine dr_XDPrs ?_;refine aCd ?_;intro _;refine spl h (fun c14 h=>?_) (fun c14 h=>?_)
        ·refine aEx ?_;have j15:=sI_ h;subst j15;replace h:=(osum_r hK11);refine⟨(x5.2.2.1,x5.2.2.2),(sI_ h).symm,?_⟩;exact ca_XDPrs
        ·refine aSk ?_;refine⟨(),(sI_ h).symm,?_⟩;exact ca_XDPrs
       ·intro _;refine dr_XDPrs ?_;refine aCd ?_;intro _;refine litF (aSk ?_);refine⟨(),(sI_ h).symm,?_⟩;exact ca_XDPrs
      ·intro _;refine dr_XDPrs ?_;refine aCd ?_;intro _;refine litF (aSk ?_);refine⟨(),(sI_ h).symm,?_⟩;exact ca_XDPrs
     ·rintro _ ho;have ho:=ho.symm;subst ho;intro _;replace h:=(osum_l hK11);obtain⟨o16,h,hK17⟩:=ob1_ok h;refine awp_cut (α:=Bool×Int×(List Nogood)) (fun(v120,v121,v122)=>mkS 79 [(2,.ptr 2 0 0 0),(5,.ptr 5 0 0 0),(6,.sl 1 (z1.map cS)),(7,.c (.int .i64 x5.2.1)),(9,.c (.bool (decide (x5.2.1<(IntKind.i64.wrap (((z1.map cS).length:Int)-1)))))),(10,.c (.bool v120)),(20,.sl 1 (z1.map cS)),(21,.c (.int .i64 ((z1.map cS).length:Int))),(22,.c (.int .i64 x5.2.1))] [(2,⟨35,2,true,[[.c (.int .i64 0),.c (.slice none 0 0)]]⟩),(5,⟨35,2,true,[[.c (.int .i64 v121),.own 59 0 0 v122.length]]⟩),(59,⟨61,2,false,v122.map cN⟩)]) (fun v=>o16=v) ?_ ?_
      ·refine aSR ?_;intro _;refine dr_XDPrs ?_;refine aCd ?_;intro _;refine spl h (fun c18 h=>?_) (fun c18 h=>?_)
       ·refine aRg ?_;intro _;obtain⟨z124,z125,u19,h⟩:=ob2_ok h;refine cl_XDPrs rfl (A_ce_head y114 u19) ?_;intro _;refine dr_XDPrs ?_;refine⟨(z125,z124,x5.2.2.2),(sI_ h).symm,?_⟩;exact ca_XDPrs
       ·refine aSR ?_;intro _;refine dr_XDPrs ?_;refine aSR ?_;intro _;obtain⟨z126,z127,u20,h⟩:=ob2_ok h;refine cl_XDPrs rfl (A_ce_nogood y114 u20) ?_;intro _;refine dr_XDPrs ?_;refine aRg ?_;intro _;obtain⟨q21,h⟩:=grd_ok h;refine pl_XDPrs ?_;refine pl_XDPrs ?_;refine And.intro (by first|with_reducible assumption|(show(x5.2.2.2.length+1)*32≤140737488355328;with_reducible assumption)|omega|(simp;omega)) ?_;refine pe_XDPrs ?_;refine dr_XDPrs ?_;refine⟨(z127,x5.2.2.1,(x5.2.2.2++[z126])),(sI_ h).symm,?_⟩;exact ca_XDPrs
      ·rintro⟨v120,v121,v122⟩ ho;have ho:=ho.symm;subst ho;intro _;replace h:=hK17;refine aSR ?_;intro _;refine spf h (fun c22 h=>?_) (fun c22 h=>?_)
       ·intro _;refine dr_XDPrs ?_;refine aCd ?_;intro _;refine spl h (fun c23 h=>?_) (fun c23 h=>?_)
        ·refine aSR ?_;intro _;refine dr_XDPrs ?_;refine aRt ?_;have j24:=sI_ h;subst j24;replace h:=(osum_r hK4);intro _;obtain⟨rfl,rfl,rfl⟩:=inj3 h;exact ca_XDPrs
        ·refine aSk (aRg ?_);intro _;refine dr_XDPrs ?_;refine⟨(k113,(IntKind.i64.wrap (x5.2.1+1)),v121,v122),h,ltS m6,?_⟩;exact ca_XDPrs
       ·intro _;refine dr_XDPrs ?_;refine aCd ?_;intro _;refine litT (aSR ?_);intro _;refine dr_XDPrs ?_;refine aRt ?_;have j25:=sI_ h;subst j25;replace h:=(osum_r hK4);intro _;obtain⟨rfl,rfl,rfl⟩:=inj3 h;exact ca_XDPrs
    ·refine aEx ?_;refine⟨(x5.2.2.1,x5.2.2.2),(sI_ h).symm,?_⟩;exact ca_XDPrs
  ·rintro⟨v62,v63⟩ ho;have ho:=ho.symm;subst ho;intro _;replace h:=(osum_l hK4);refine aSq (aSR ?_);intro _;obtain⟨q26,h⟩:=grd_ok h;obtain⟨z128,u27,h⟩:=ob1_ok h;refine clb_XDPrs [59] rfl rfl (A_ce_Check ({ Bound:=v62,Nogoods:=v63:GCertificate }) u27) ?_;intro _;refine dr_XDPrs ?_;refine aSq ?_;rcases z128 with _|e129
   ·replace h:=erM_nil h;refine aRg ?_;intro _;refine dr_XDPrs ?_;refine aCd ?_;intro _;refine litF (aSk (aSR ?_));intro _;refine dr_XDPrs ?_;refine aRt ?_;intro _;obtain⟨rfl,rfl,rfl⟩:=inj3 h;exact ca_XDPrs
   ·replace h:=erM_no h;refine aRg ?_;intro _;refine dr_XDPrs ?_;refine aCd ?_;intro _;refine litT (aSR ?_);intro _;refine dr_XDPrs ?_;refine aRt ?_;intro _;obtain⟨rfl,rfl,rfl⟩:=inj3 h;exact ca_XDPrs
end Go.Proofs.YtinknhophadbkaaGreatDoor.Am
namespace Go.Proofs.YtinknhophadbkaaGreatDoor.Am
open Go.RowKit
theorem numL_tot (s:ByteArray)(hs:s.size≤13):∀ (k n:Nat)(v:Int),n≤s.size→s.size<k+n→∃ r,M_ce_number_L1 s k v (n:Int)=some r
 | 0,n,v,h1,h2=>by omega
 | k+1,n,v,h1,h2=>by
  have hl:((bys s).map c_u8).length=s.size:=by rw[lM_,bys_bl,lM_,bl_len]
  have hb:(bys s).length=s.size:=by rw[bys_bl,lM_,bl_len]
  rw[M_ce_number_L1,sel_dec,hl]
  by_cases hn:n<s.size
  ·obtain⟨x,hx,_⟩:=drop_at (l:=bys s) (n:=n) (by omega)
   rw[if_pos (by omega),ix_at hx,sel_dec]
   split
   ·exact⟨_,rfl⟩
   ·rw[sel_dec]
    split
    ·exact⟨_,rfl⟩
    ·rw[w64s (by omega)]
     exact numL_tot s hs k (n+1) _ hn (by omega)
  ·rw[if_neg (by omega)]
   exact⟨_,rfl⟩
theorem num_tot (s:ByteArray):∃ z b,M_ce_number s=some (z,b):=by
 have hl:((bys s).map c_u8).length=s.size:=by rw[lM_,bys_bl,lM_,bl_len]
 rw[M_ce_number,sel_dec,sel_dec,sel_dec]
 by_cases h1:(s.size:Int)<1
 ·rw[if_pos h1];exact⟨_,_,rfl⟩
 ·rw[if_neg h1]
  by_cases h2:(s.size:Int)>13
  ·rw[if_pos h2];exact⟨_,_,rfl⟩
  ·obtain⟨r,hr⟩:=numL_tot s (by omega) (s.size+1) 0 0 (Nat.zero_le _) (by omega)
   have hr':M_ce_number_L1 s (s.size+1) 0 0=some r:=hr
   rw[if_neg h2,hl,Int.toNat_natCast,hr']
   obtain⟨z,b⟩:=r
   by_cases h3:(s.size:Int)>1
   ·rw[if_pos h3,grd_t (by omega)]
    cases (byt s 0 == 48)with
    | true=>exact⟨_,_,rfl⟩
    | false =>
     rw[sel_ff,ob1_some,osum_inl,grd_t (by omega)]
     exact⟨_,_,rfl⟩
   ·rw[if_neg h3,ob1_some,osum_inl,grd_t (by omega)]
    exact⟨_,_,rfl⟩
theorem cut_sz (s sep:ByteArray):(cutB s sep).1.size≤s.size∧(cutB s sep).2.1.size≤s.size:=by
 have key:∀ (l p:List UInt8),(Lib.cut l p).1.length≤l.length∧(Lib.cut l p).2.1.length≤l.length:=by
  intro l p
  unfold Lib.cut
  split <;> simp <;> omega
 obtain⟨h1,h2⟩:=key s.data.toList sep.data.toList
 have e:s.data.toList.length=s.size:=by rw[Array.length_toList];rfl
 rw[e]at h1 h2
 unfold cutB
 exact⟨by show(Lib.cut s.data.toList sep.data.toList).1.toArray.size≤_;simpa using h1,by show(Lib.cut s.data.toList sep.data.toList).2.1.toArray.size≤_;simpa using h2⟩
theorem split_sz {s:ByteArray}{c:UInt8}:(Lib.splitB ⟨#[c]⟩ 0 (Lib.countB s ⟨#[c]⟩) s).length≤s.size+1∧∀ y∈Lib.splitB ⟨#[c]⟩ 0 (Lib.countB s ⟨#[c]⟩) s,y.size≤s.size:=by
 rw[split_eq c s.size s (Nat.le_refl _)]
 constructor
 ·rw[lM_]
  have:=splitL_len_le c (bl s)
  rw[bl_len]at this
  exact this
 ·intro y hy
  obtain⟨x,hx,rfl⟩:=List.mem_map.1 hy
  have:=splitL_mem_len hx
  rw[bl_len]at this
  rw[← bl_len,bl_ofB]
  exact this
theorem nogL_tot (d:Int)(ws:List ByteArray)(hw:∀ w∈ws,w.size≤65536)(hl:ws.length≤70000):∀ (k n:Nat)(acc:List Fact),n≤ws.length→ws.length<k+n→acc.length≤n→∃ x b,M_ce_nogood_L1 d ws k (n:Int) acc=some (x,b)∧x.1.length≤ws.length
 | 0,n,acc,h1,h2,_=>by omega
 | k+1,n,acc,h1,h2,h3=>by
  rw[M_ce_nogood_L1,sel_dec,lM_]
  by_cases hn:n<ws.length
  ·obtain⟨y,hy,_⟩:=drop_at hn
   have hys:=hw y (mG_ hy)
   obtain⟨a,b,e⟩:∃ a b,cutB y ⟨#[61]⟩=(a,b):=⟨_,_,rfl⟩
   obtain⟨b,is⟩:=b
   obtain⟨z1,b1,e1⟩:=num_tot a
   obtain⟨z2,b2,e2⟩:=num_tot b
   rw[if_pos (by omega),ix_at hy,M_strings_Cut,grd_t (by omega),e,ob3_some,e1,ob2_some,e2,ob2_some]
   cases is with
   | false=>exact⟨_,_,rfl,Nat.zero_le _⟩
   | true =>
    cases b1 with
    | false=>exact⟨_,_,rfl,Nat.zero_le _⟩
    | true =>
     cases b2 with
     | false=>exact⟨_,_,rfl,Nat.zero_le _⟩
     | true =>
      rw[Bool.not_true,sel_ff,sel_ff,sel_ff,grd_t (by omega),w64s (by omega)]
      exact nogL_tot d ws hw hl k (n+1) _ hn (by omega) (by simp;omega)
  ·rw[if_neg (by omega),grd_t (by omega)]
   exact⟨_,_,rfl,by show acc.length≤_;omega⟩
theorem trim_sz (l p:List UInt8):(Lib.trimPrefix l p).length≤l.length:=by
 unfold Lib.trimPrefix
 split <;> simp
theorem nog_tot (s:ByteArray)(hs:s.size≤65536):∃ x b,M_ce_nogood s=some (x,b)∧x.1.length≤s.size+1:=by
 have h0:=trim_sz s.data.toList (⟨#[110,111,103,111,111,100,32]⟩:ByteArray).data.toList
 have e0:s.data.toList.length=s.size:=by rw[Array.length_toList];rfl
 obtain⟨u,hu⟩:∃ u:ByteArray,(⟨(Lib.trimPrefix s.data.toList (⟨#[110,111,103,111,111,100,32]⟩:ByteArray).data.toList).toArray⟩:ByteArray)=u:=⟨_,rfl⟩
 have hus:u.size≤s.size:=by
  rw[← hu,← e0]
  show(Lib.trimPrefix s.data.toList _).toArray.size≤_
  simpa using h0
 obtain⟨c1,c2⟩:=cut_sz u ⟨#[58]⟩
 obtain⟨a,r,is,e⟩:∃ a r is,cutB u ⟨#[58]⟩=(a,r,is):=⟨_,_,_,rfl⟩
 rw[e]at c1 c2
 obtain⟨z1,b1,e1⟩:=num_tot a
 rw[M_ce_nogood,M_strings_CutPrefix,hu,ob2_some,M_strings_Cut,grd_t (by omega),e,ob3_some,e1,ob2_some]
 cases Lib.hasPrefix s.data.toList (⟨#[110,111,103,111,111,100,32]⟩:ByteArray).data.toList with
 | false=>exact⟨_,_,rfl,Nat.zero_le _⟩
 | true =>
  cases is with
  | false=>exact⟨_,_,rfl,Nat.zero_le _⟩
  | true =>
   cases b1 with
   | false=>exact⟨_,_,rfl,Nat.zero_le _⟩
   | true =>
    rw[Bool.not_true,sel_ff,sel_ff,sel_ff,ob1_some,osum_inl]
    cases hz:(r.toList == (⟨#[]⟩:ByteArray).toList)with
    | true=>exact⟨_,_,rfl,Nat.zero_le _⟩
    | false =>
     have hr1:1≤r.size:=by
      rcases Nat.eq_zero_or_pos r.size with h|h
      ·have:r=⟨#[]⟩:=by
        have h0:bl r=[]:=List.length_eq_zero_iff.1 (by rw[bl_len];exact h)
        exact bl_inj (h0.trans rfl)
       rw[this]at hz
       simp at hz
      ·exact h
     have c2':r.size≤u.size:=c2
     rw[sel_ff,grd_t (by omega)]
     cases (byt r 0 != 32)with
     | true=>exact⟨_,_,rfl,Nat.zero_le _⟩
     | false =>
      have hx:(r.extract 1 r.size).size≤r.size:=by rw[ByteArray.size_extract];omega
      obtain⟨q1,q2⟩:=split_sz (s:=r.extract 1 r.size) (c:=32)
      rw[sel_ff,M_strings_Split,grd_t (by omega),grd_t (by decide),ob1_some,grd_t hr1]
      obtain⟨L,hL⟩:∃ L,Lib.splitB (⟨#[32]⟩:ByteArray) 0 (Lib.countB (r.extract 1 r.size) ⟨#[32]⟩) (r.extract 1 r.size)=L:=⟨_,rfl⟩
      have hrs:(r.extract 1 r.size).size+1≤r.size:=by rw[ByteArray.size_extract];omega
      rw[hL]at q1 q2 ⊢
      obtain⟨x,b,g1,g2⟩:=nogL_tot z1 L (fun w hw=>by have:=q2 w hw;omega) (by omega) (L.length+1) 0 [] (Nat.zero_le _) (by omega) (Nat.zero_le _)
      rw[lM_,Int.toNat_natCast]
      exact⟨x,b,g1,by omega⟩
theorem head_tot (s:ByteArray):∃ z b,M_ce_head s=some (z,b):=by
 rw[M_ce_head]
 cases (s.toList == (⟨#[117,110,115,111,108,118,97,98,108,101]⟩:ByteArray).toList)with
 | true=>exact⟨_,_,rfl⟩
 | false =>
  rw[sel_ff,M_strings_CutPrefix,ob2_some]
  cases Lib.hasPrefix s.data.toList (⟨#[108,111,119,101,114,32]⟩:ByteArray).data.toList with
  | false=>exact⟨_,_,rfl⟩
  | true =>
   obtain⟨z,b,e⟩:=num_tot ⟨(Lib.trimPrefix s.data.toList (⟨#[108,111,119,101,114,32]⟩:ByteArray).data.toList).toArray⟩
   rw[Bool.not_true,sel_ff,e,ob2_some]
   exact⟨_,_,rfl⟩
theorem prsL_tot (z1:List ByteArray)(hz:∀ w∈z1,w.size≤65536)(hl:z1.length≤70000):∀ (k n:Nat)(b:Int)(gs:List Nogood),n≤z1.length→z1.length<k+n→gs.length≤n→(∀ x∈gs,x.1.length≤65537) →
  (∃ b' gs',M_ce_Parse_L1 z1 k (n:Int) b gs=some (.inl (b',gs'))∧gs'.length≤z1.length∧∀ x∈gs',x.1.length≤65537)∨∃ i e,M_ce_Parse_L1 z1 k (n:Int) b gs=some (.inr ({ Bound:=0,Nogoods:=[] },i,e))
 | 0,n,b,gs,h1,h2,_,_=>by omega
 | k+1,n,b,gs,h1,h2,h3,h4=>by
  rw[M_ce_Parse_L1,sel_dec,lM_]
  by_cases hn:n<z1.length
  ·obtain⟨y,hy,_⟩:=drop_at hn
   have hys:=hz y (mG_ hy)
   rw[if_pos (by omega),ix_at hy]
   obtain⟨o,ho⟩:∃ o:Unit⊕Unit,(sel (!(decide ((n:Int)<(IntKind.i64.wrap ((z1.length:Int)-1))))) (sel (y.toList == (⟨#[]⟩:ByteArray).toList) (sel (decide ((n:Int)>0)) (some (.inr ())) (some (.inl ()))) (some (.inl ()))) (some (.inl ())):Option (Unit⊕Unit))=some o:=by
    cases (!(decide ((n:Int)<(IntKind.i64.wrap ((z1.length:Int)-1)))))with
    | false=>exact⟨_,rfl⟩
    | true =>
     rw[sel_tt]
     cases (y.toList == (⟨#[]⟩:ByteArray).toList)with
     | false=>exact⟨_,rfl⟩
     | true =>
      rw[sel_tt]
      cases decide ((n:Int)>0)with
      | false=>exact⟨_,rfl⟩
      | true=>exact⟨_,rfl⟩
   rw[ho,ob1_some]
   cases o with
   | inr _=>exact .inl ⟨_,_,rfl,by omega,h4⟩
   | inl _ =>
    rw[osum_inl]
    obtain⟨ok,b2,gs2,hb,g1,g2⟩:∃ ok b2 gs2,(sel ((n:Int) == 0) (ob2 (M_ce_head y) (fun z124 z125=>some (z125,z124,gs))) (ob2 (M_ce_nogood y) (fun z126 z127=>grd ((gs.length+1)*32≤140737488355328) (some (z127,b,(gs++[z126]))))):Option (Bool×Int×(List Nogood)))=some (ok,b2,gs2)∧gs2.length≤n+1∧∀ x∈gs2,x.1.length≤65537:=by
     cases ((n:Int) == 0)with
     | true =>
      obtain⟨z,q,e⟩:=head_tot y
      rw[sel_tt,e,ob2_some]
      exact⟨_,_,_,rfl,by omega,h4⟩
     | false =>
      obtain⟨x,q,e,hx⟩:=nog_tot y hys
      rw[sel_ff,e,ob2_some,grd_t (by omega)]
      refine⟨_,_,_,rfl,by simp;omega,fun w hw=>?_⟩
      rcases List.mem_append.1 hw with h|h
      ·exact h4 w h
      ·simp at h;subst h;omega
    rw[hb,ob1_some]
    simp only
    cases ok with
    | false=>exact .inr ⟨_,_,rfl⟩
    | true =>
     rw[Bool.not_true,sel_ff]
     cases (!(decide ((n:Int)<(IntKind.i64.wrap ((z1.length:Int)-1)))))with
     | true=>exact .inr ⟨_,_,rfl⟩
     | false =>
      rw[sel_ff,w64s (by omega)]
      exact prsL_tot z1 hz hl k (n+1) b2 gs2 hn (by omega) g1 g2
  ·rw[if_neg (by omega)]
   exact .inl ⟨_,_,rfl,by omega,h4⟩
theorem shC0 : ShC { Bound:=0,Nogoods:=[] }:=⟨by show _≤_;decide,fun n hn=>by cases hn⟩
theorem parse_tot (s:ByteArray)(hs:s.size≤65536):∃ c i e,M_ce_Parse s=some (c,i,e)∧ShC c:=by
 obtain⟨q1,q2⟩:=split_sz (s:=s) (c:=10)
 rw[M_ce_Parse,sel_dec,if_neg (by omega),M_strings_Split,grd_t (by omega),grd_t (by decide),ob1_some]
 obtain⟨L,hL⟩:∃ L,Lib.splitB (⟨#[10]⟩:ByteArray) 0 (Lib.countB s ⟨#[10]⟩) s=L:=⟨_,rfl⟩
 rw[hL]at q1 q2 ⊢
 rw[lM_,Int.toNat_natCast]
 rcases prsL_tot L (fun w hw=>by have:=q2 w hw;omega) (by omega) (L.length+1) 0 0 [] (Nat.zero_le _) (by omega) (Nat.zero_le _) (by simp)with⟨b,gs,e,g1,g2⟩|⟨i,e,h⟩
 ·have hc:ShC { Bound:=b,Nogoods:=gs }:=⟨by show _≤_;show gs.length≤_;omega,fun n hn=>by have:=g2 n hn;show _≤_;omega⟩
  have e':M_ce_Parse_L1 L (L.length+1) 0 0 []=some (.inl (b,gs)):=e
  rw[e',ob1_some,osum_inl]
  simp only
  rw[grd_t (by omega),ccheck_eq _ hc,ob1_some]
  cases certF { Bound:=b,Nogoods:=gs } with
  | nil=>exact⟨_,_,_,rfl,hc⟩
  | no z=>exact⟨_,_,_,rfl,shC0⟩
 ·have e':M_ce_Parse_L1 L (L.length+1) 0 0 []=some (.inr ({ Bound:=0,Nogoods:=[] },i,e)):=h
  rw[e',ob1_some,osum_inr]
  exact⟨_,_,_,rfl,shC0⟩
theorem ext_at (u:List Int):∀ (m:Nat)(j:Int)(x:Nat)(z:List Int),(extF u m j)[x]?=some z→x<m∧z=u++[j+(x:Int)]
 | 0,j,x,z,h=>by simp[extF]at h
 | m+1,j,0,z,h=>by
  simp only[extF,List.getElem?_cons_zero,Option.some.injEq]at h
  exact⟨by omega,by rw[← h];simp⟩
 | m+1,j,x+1,z,h=>by
  rw[extF,List.getElem?_cons_succ]at h
  obtain⟨h1,h2⟩:=ext_at u m (j+1) x z h
  refine⟨by omega,?_⟩
  rw[h2,show j+1+(x:Int)=j+((x+1:Nat):Int)from by omega]
theorem flat_inv (m:Nat):∀ (out:List (List Int))(j:Nat)(z:List Int),(out.flatMap fun s=>extF s m 0)[j]?=some z→∃ (i x:Nat)(s:List Int),j=i*m+x∧x<m∧out[i]?=some s∧z=s++[(x:Int)]
 | [],j,z,h=>by simp at h
 | u :: out,j,z,h=>by
  rw[List.flatMap_cons]at h
  by_cases hj:j<(extF u m 0).length
  ·rw[List.getElem?_append_left hj]at h
   obtain⟨h1,h2⟩:=ext_at u m 0 j z h
   exact⟨0,j,u,by omega,h1,rfl,by rw[h2];congr 2;omega⟩
  ·rw[List.getElem?_append_right (by omega),extF_len]at h
   rw[extF_len]at hj
   obtain⟨i,x,s,e1,e2,e3,e4⟩:=flat_inv m out (j-m) z h
   exact⟨i+1,x,s,by rw[Nat.add_mul];omega,e2,by rw[List.getElem?_cons_succ];exact e3,e4⟩
theorem rank_inv : ∀ (r:List Int)(out:List (List Int))(k:Nat)(z:List Int),(∀ y∈r,1≤y)→(statesG r out)[k]?=some z→∃ (i:Nat)(s u:List Int),out[i]?=some s∧z=s++u∧stateF r u=true∧rankF r u i=(k:Int)
 | [],out,k,z,_,h=>⟨k,z,[],h,(List.append_nil z).symm,rfl,rfl⟩
 | y :: r,out,k,z,hy,h=>by
  rw[statesG]at h
  obtain⟨j,s,u,h1,h2,h3,h4⟩:=rank_inv r _ k z (fun x hx=>hy x (mC_ _ hx)) h
  obtain⟨i,x,s0,e1,e2,e3,e4⟩:=flat_inv y.toNat out j s h1
  have hy0:=hy y (mS_ ..)
  refine⟨i,s0,(x:Int) :: u,e3,by rw[h2,e4,List.append_assoc];rfl,?_,?_⟩
  ·rw[stateF,bA_,decide_eq_true_iff]
   exact⟨by omega,h3⟩
  ·rw[rankF,← h4,e1,Int.natCast_add,Int.natCast_mul,show((y.toNat:Nat):Int)=y from by omega]
theorem place_one {t:GTask}(hgood:goodF t=true){i j:Nat}{s:List Int}(hi:(allF t)[i]?=some s)(hj:(allF t)[j]?=some s):i=j:=by
 have key:∀ k:Nat,(allF t)[k]?=some s→rankF t.Vars s 0=(k:Int):=fun k hk=>by
  obtain⟨i0,s0,u,h1,h2,-,h4⟩:=rank_inv t.Vars [[]] k s (fun y hy=>((good_dom hgood).dom y hy).1) hk
  cases i0 with
  | zero =>
   simp only[List.getElem?_cons_zero,Option.some.injEq]at h1
   subst h1
   rw[List.nil_append]at h2
   subst h2
   exact h4
  | succ i0=>simp at h1
 have h1:=key i hi
 have h2:=key j hj
 omega
def EdgI (t:GTask)(i q:Nat)(o:GOp)(s:List Int)(e:GEdge):Prop:=∃ k:Nat,e={ From:=(i:Int),Op:=(q:Int),To:=(k:Int) }∧(allF t)[k]?=some (nextF s o)
theorem edges1c {t:GTask}(hsm:smallF t=true)(i:Nat)(s:List Int)(hi:(allF t)[i]?=some s):∀ (l:List GOp)(m j:Nat)(v:List GEdge),t.Ops.drop j=l→l.length=m→v.length+m≤100000 →
  ∃ v',Rn (M_b_Edges_L1_B t i s) (M_b_Edges_L1_E t i s) m j v=some v'∧v'.length≤v.length+m∧(∀ e∈v,e∈v')∧∀ q o,j≤q→t.Ops[q]?=some o→holdsF s o.Pre=true→∃ e∈v',EdgI t i q o s e
 | [],m,j,v,hdr,hm,_=>by
  subst hm
  refine⟨v,rfl,Nat.le_refl _,fun _ h=>h,fun q o hq ho _=>?_⟩
  have hlt:=(gS_.1 ho).1
  have hn:=congrArg List.length hdr
  simp only[List.length_drop,lN_]at hn
  omega
 | o :: os,m,j,v,hdr,hm,hlen=>by
  have hgood:=(small_good hsm).1
  obtain⟨hj,hd',hlt⟩:=drop_cons hdr
  obtain⟨m,rfl⟩:∃ k,m=k+1:=⟨os.length,hm.symm⟩
  have hst:=(allF_mem t s).1 (mG_ hi)
  have hm':os.length=m:=by simpa using hm
  rw[Rn,M_b_Edges_L1_B,apply_eq t hgood s (stateF_st hst) j o hj]
  by_cases hp:holdsF s o.Pre=true
  ·obtain⟨k,e1,e2⟩:=rank_eq hsm (next_state hgood hst (mG_ hj))
   rw[if_pos hp,ob2_some,sel_tt,e1,ob1_some,grd_t (by omega)]
   obtain⟨v',h1,h2,h3,h4⟩:=edges1c hsm i s hi os m (j+1) (v++[{ From:=(i:Int),Op:=(j:Int),To:=(k:Int) }]) hd' hm' (by simp;omega)
   refine⟨v',h1,by simp at h2;omega,fun e he=>h3 e (List.mem_append.2 (.inl he)),fun q u hq hu hpu=>?_⟩
   rcases Nat.lt_or_ge j q with hjq|hjq
   ·exact h4 q u (by omega) hu hpu
   ·obtain rfl:q=j:=by omega
    rw[hj]at hu
    injection hu with hu
    subst hu
    exact⟨_,h3 _ (List.mem_append.2 (.inr (List.mem_singleton.2 rfl))),k,rfl,e2⟩
  ·rw[if_neg hp,ob2_some,sel_ff]
   obtain⟨v',h1,h2,h3,h4⟩:=edges1c hsm i s hi os m (j+1) v hd' hm' (by omega)
   refine⟨v',h1,by omega,h3,fun q u hq hu hpu=>?_⟩
   rcases Nat.lt_or_ge j q with hjq|hjq
   ·exact h4 q u (by omega) hu hpu
   ·obtain rfl:q=j:=by omega
    rw[hj]at hu
    injection hu with hu
    subst hu
    exact absurd hpu hp
theorem edges2c {t:GTask}(hsm:smallF t=true):∀ (r:List (List Int))(i:Nat)(v:List GEdge),(allF t).drop i=r→v.length+r.length*20≤100000 →
  ∃ v',Rg (M_b_Edges_L2_B t (allF t)) (M_b_Edges_L2_E t (allF t)) r i v=some v'∧(∀ e∈v,e∈v')∧∀ k s q o,i≤k→(allF t)[k]?=some s→t.Ops[q]?=some o→holdsF s o.Pre=true→∃ e∈v',EdgI t k q o s e
 | [],i,v,hdr,hl=>by
  refine⟨v,by rw[Rg,M_b_Edges_L2_E,grd_t (by simp at hl;omega)],fun _ h=>h,fun k s q o hk hs _ _=>?_⟩
  have hlt:=(gS_.1 hs).1
  have hn:=congrArg List.length hdr
  simp only[List.length_drop,lN_]at hn
  omega
 | s :: r,i,v,hdr,hl=>by
  obtain⟨hi,hd',hlt⟩:=drop_cons hdr
  have hops:=(small_good hsm).2.2
  rw[lC_]at hl
  rw[Rg,M_b_Edges_L2_B,ixv,M_b_Edges_L1_eq t i s v (m:=t.Ops.length) (by rw[lM_]) (by omega)]
  obtain⟨v1,h1,h2,h3,h4⟩:=edges1c hsm i s hi t.Ops t.Ops.length 0 v rfl rfl (by omega)
  have h1':Rn (M_b_Edges_L1_B t i s) (M_b_Edges_L1_E t i s) t.Ops.length 0 v=some v1:=h1
  rw[h1',ob1_some]
  obtain⟨v',g1,g2,g3⟩:=edges2c hsm r (i+1) v1 hd' (by omega)
  refine⟨v',g1,fun e he=>g2 e (h3 e he),fun k u q o hk hu ho hp=>?_⟩
  rcases Nat.lt_or_ge i k with hik|hik
  ·exact g3 k u q o (by omega) hu ho hp
  ·obtain rfl:k=i:=by omega
   rw[hi]at hu
   injection hu with hu
   subst hu
   obtain⟨e,he,hx⟩:=h4 q o (Nat.zero_le _) ho hp
   exact⟨e,g2 e he,hx⟩
theorem edges_all {t:GTask}(hsm:smallF t=true):∃ es,M_b_Edges t=some es∧es.length≤100000∧(∀ e∈es,EdgP t e)∧∀ k s q o,(allF t)[k]?=some s→t.Ops[q]?=some o→holdsF s o.Pre=true→∃ e∈es,EdgI t k q o s e:=by
 have hal:=allF_len t hsm
 obtain⟨es,h1,h2,h3⟩:=edges_eq hsm
 obtain⟨es',g1,-,g3⟩:=edges2c hsm (allF t) 0 [] rfl (by simp;omega)
 have he:M_b_Edges t=some es':=by
  rw[M_b_Edges,states_eq t hsm,ob1_some,M_b_Edges_L2_eq t (allF t) [] (by omega)]
  exact g1
 rw[h1]at he
 obtain rfl:=sI_ he
 exact⟨es,h1,h2,h3,fun k s q o hk ho hp=>g3 k s q o (Nat.zero_le _) hk ho hp⟩
def finN (d:List Int):Nat:=(d.filter fun x=>decide (x≠infD)).length
theorem finN_set : ∀ (d:List Int)(a:Nat)(y v:Int),d[a]?=some y→v≠infD→finN (d.set a v)=finN d+(if y=infD then 1 else 0)
 | [],a,y,v,h,_=>by simp at h
 | z :: d,0,y,v,h,hv=>by
  simp only[List.getElem?_cons_zero,Option.some.injEq]at h
  subst h
  unfold finN
  rw[List.set_cons_zero,List.filter_cons,List.filter_cons,if_pos (decide_eq_true hv)]
  by_cases hz:z=infD
  ·rw[if_neg (by simp[hz]),if_pos hz,lC_]
  ·rw[if_pos (decide_eq_true hz),if_neg hz,lC_,lC_,Nat.add_zero]
 | z :: d,a+1,y,v,h,hv=>by
  rw[List.getElem?_cons_succ]at h
  have ih:=finN_set d a y v h hv
  unfold finN at ih ⊢
  rw[List.set_cons_succ,List.filter_cons,List.filter_cons]
  split
  ·rw[lC_,lC_,ih];omega
  ·exact ih
structure DG (t:GTask)(d:List Int):Prop where
 len:d.length=(allF t).length
 ok:∀ (i:Nat) (s:List Int) (x:Int),(allF t)[i]?=some s→d[i]?=some x→0≤x∧x≤infD∧(holdsF s t.Goal=true→x=0)
 bnd:∀ x∈d,x≠infD→x≤1048576*(finN d:Int)
theorem DG.all {t:GTask}{d:List Int}(h:DG t d):∀ x∈d,0≤x∧x≤infD:=fun x hx=>by
 obtain⟨i,hi⟩:=List.getElem?_of_mem hx
 have hlt:=(gS_.1 hi).1
 have hs:(allF t)[i]?=some ((allF t)[i]'(by rw[← h.len];exact hlt)):=gE_ _
 obtain⟨h1,h2,-⟩:=h.ok i _ x hs hi
 exact⟨h1,h2⟩
def Calm (t:GTask)(d:List Int)(e:GEdge):Prop:=∀ (a b q:Nat) (o:GOp) (x y:Int),e={ From:=(a:Int),Op:=(q:Int),To:=(b:Int) }→t.Ops[q]?=some o→d[b]?=some x→d[a]?=some y→x<infD→y≤x+o.Cost
theorem dis2c {t:GTask}(hgood:goodF t=true)(es:List GEdge):∀ (r:List GEdge)(i:Int)(b:Bool)(d:List Int),(∀ e∈r,EdgP t e)→DG t d →
  ∃ b' d',Rg (M_b_Distances_L2_B t es) (M_b_Distances_L2_E t es) r i (b,d)=some (b',d')∧DG t d'∧((b'=b∧d'=d∧∀ e∈r,Calm t d e)∨(b'=true∧d'.sum<d.sum))
 | [],i,b,d,_,hd=>⟨b,d,rfl,hd,.inl ⟨rfl,rfl,fun e he=>by cases he⟩⟩
 | e :: r,i,b,d,he,hd=>by
  have her:∀ e∈r,EdgP t e:=fun u hu=>he u (mC_ _ hu)
  obtain⟨a,bb,q,s,o,e1,e2,e3,h1,h2,h3,h4⟩:=(he e (mS_ ..)).ex
  obtain⟨F,O,T⟩:=e
  simp only at e1 e2 e3
  subst e1 e2 e3
  have ho:=mG_ h3
  have hcost:=good_cost hgood ho
  have hla:a<d.length:=by rw[hd.len];exact(gS_.1 h1).1
  have hlb:bb<d.length:=by rw[hd.len];exact(gS_.1 h2).1
  obtain⟨x,hx⟩:∃ x,d[bb]?=some x:=⟨_,gE_ hlb⟩
  obtain⟨y,hy⟩:∃ y,d[a]?=some y:=⟨_,gE_ hla⟩
  obtain⟨x0,x1,-⟩:=hd.ok bb _ x h2 hx
  obtain⟨y0,y1,yq⟩:=hd.ok a s y h1 hy
  have hcalm:(x<infD→y≤x+o.Cost)→Calm t d { From:=(a:Int),Op:=(q:Int),To:=(bb:Int) }:=fun hh a' b' q' o' x' y' e ho' hx' hy' hlt=>by
   simp only[GEdge.mk.injEq]at e
   obtain⟨ea,eq,eb⟩:=e
   obtain rfl:a'=a:=by omega
   obtain rfl:b'=bb:=by omega
   obtain rfl:q'=q:=by omega
   rw[h3]at ho';rw[hx]at hx';rw[hy]at hy'
   injection ho' with ho';injection hx' with hx';injection hy' with hy'
   subst ho' hx' hy'
   exact hh hlt
  unfold infD at x1 y1 hcalm
  have hw:IntKind.i64.wrap (x+o.Cost)=x+o.Cost:=wrap_eq (by omega) (by omega)
  have hcons:(x<1125899906842624→y≤x+o.Cost)→∃ b' d',Rg (M_b_Distances_L2_B t es) (M_b_Distances_L2_E t es) r (i+1) (b,d)=some (b',d')∧DG t d'∧((b'=b∧d'=d∧∀ e∈({ From:=(a:Int),Op:=(q:Int),To:=(bb:Int) }:GEdge) :: r,Calm t d e)∨(b'=true∧d'.sum<d.sum)):=fun hh=>by
   obtain⟨b',d',g1,g2,g3⟩:=dis2c hgood es r (i+1) b d her hd
   refine⟨b',d',g1,g2,g3.imp (fun⟨q1,q2,q3⟩=>⟨q1,q2,fun e he=>?_⟩) id⟩
   rcases List.mem_cons.1 he with rfl|he
   ·exact hcalm hh
   ·exact q3 e he
  rw[Rg,M_b_Distances_L2_B]
  simp only[ixv,ix_at h3,ob1_some,Int.toNat_natCast,ixn_at hx,ixn_at hy,sel_dec]
  by_cases hlt:x<1125899906842624
  ·rw[if_pos hlt,grd_t (by omega),grd_t (by omega),grd_t (by omega),grd_t (by omega),ob1_some,hw]
   by_cases hr:x+o.Cost<y
   ·rw[decide_eq_true hr,sel_tt,grd_t (by omega),grd_t (by omega),grd_t (by omega),grd_t (by omega)]
    have hd1:DG t (d.set a (x+o.Cost)):=by
     have hbx:=hd.bnd x (mG_ hx) (by unfold infD;omega)
     have hfin:=finN_set d a y (x+o.Cost) hy (by unfold infD;omega)
     refine⟨by rw[List.length_set];exact hd.len,fun i s' z hs' hz=>?_,fun z hz hne=>?_⟩
     rotate_left
     ·rw[hfin]
      rcases List.mem_or_eq_of_mem_set hz with hz|rfl
      ·have:=hd.bnd z hz hne
       split <;> omega
      ·by_cases hyi:y=infD
       ·rw[if_pos hyi];omega
       ·have:=hd.bnd y (mG_ hy) hyi
        rw[if_neg hyi];omega
     by_cases hai:a=i
     ·subst hai
      rw[List.getElem?_set_self hla]at hz
      injection hz with hz
      rw[h1]at hs'
      injection hs' with hs'
      subst hz hs'
      exact⟨by omega,by unfold infD;omega,fun hg=>by have:=yq hg;omega⟩
     ·rw[List.getElem?_set_ne hai]at hz
      exact hd.ok i s' z hs' hz
    obtain⟨b',d',g1,g2,g3⟩:=dis2c hgood es r (i+1) true _ her hd1
    have hsum:=sum_set (x+o.Cost) d a y hy
    refine⟨b',d',g1,g2,.inr ?_⟩
    rcases g3 with⟨g3,g4,-⟩|⟨g3,g4⟩
    ·exact⟨g3,by rw[g4,hsum];omega⟩
    ·exact⟨g3,by rw[hsum]at g4;omega⟩
   ·rw[decide_eq_false hr,sel_ff]
    exact hcons (fun _=>by omega)
  ·rw[if_neg hlt,grd_t (by omega),grd_t (by omega),ob1_some,sel_ff]
   exact hcons (fun h=>absurd h hlt)
theorem dis3c {t:GTask}(hgood:goodF t=true)(es:List GEdge)(hes:∀ e∈es,EdgP t e)(hlen:es.length≤100000)(hal:(allF t).length≤512):∀ (S k:Nat)(d:List Int),DG t d→d.sum≤S→S+2≤k→∃ d',M_b_Distances_L3 t es k true d=some d'∧DG t d'∧∀ e∈es,Calm t d' e:=by
 intro S
 induction S with
 | zero =>
  intro k d hd hs hk
  obtain⟨k,rfl⟩:∃ j,k=j+2:=⟨k-2,by omega⟩
  obtain⟨b',d',g1,g2,g3⟩:=dis2c hgood es es 0 false d hes hd
  have hpos:=sum_pos d' (fun x hx=>(g2.all x hx).1)
  rcases g3 with⟨rfl,rfl,g5⟩|⟨-,g4⟩
  ·refine⟨d',?_,g2,g5⟩
   have hl:=g2.len
   rw[M_b_Distances_L3,sel_tt,M_b_Distances_L2_eq t es false d' (by omega),g1,ob1_some]
   simp only
   rw[M_b_Distances_L3,sel_ff,grd_t (by omega)]
  ·omega
 | succ S ih =>
  intro k d hd hs hk
  obtain⟨k,rfl⟩:∃ j,k=j+2:=⟨k-2,by omega⟩
  obtain⟨b',d',g1,g2,g3⟩:=dis2c hgood es es 0 false d hes hd
  rw[M_b_Distances_L3,sel_tt,M_b_Distances_L2_eq t es false d (by omega),g1,ob1_some]
  simp only
  rcases g3 with⟨rfl,rfl,g5⟩|⟨rfl,g4⟩
  ·have hl:=g2.len
   exact⟨d',by rw[M_b_Distances_L3,sel_ff,grd_t (by omega)],g2,g5⟩
  ·exact ih (k+1) d' g2 (by omega) (by omega)
structure DFix (t:GTask)(d:List Int):Prop where
 g:DG t d
 step:∀ (i k:Nat) (s:List Int) (o:GOp) (x y:Int),(allF t)[i]?=some s→o∈t.Ops→holdsF s o.Pre=true→(allF t)[k]?=some (nextF s o)→d[k]?=some x→d[i]?=some y→x<infD→y≤x+o.Cost
theorem fix_eq {t:GTask}(hsm:smallF t=true)(g:Nat)(hg:1000000000000000000≤g)(u:List Int):∃ d,M_b_Distances g t u=some d∧DFix t d:=by
 have hgood:=(small_good hsm).1
 have hal:=allF_len t hsm
 obtain⟨es,h1,h2,h3,h4⟩:=edges_all hsm
 have hd0:DG t ((allF t).map fun s=>if holdsF s t.Goal=true then 0 else infD):=by
  refine⟨lM_ _,fun i s x hs hx=>?_,fun x hx hne=>?_⟩
  ·rw[List.getElem?_map,hs]at hx
   simp only[Option.map_some,Option.some.injEq]at hx
   subst hx
   by_cases hh:holdsF s t.Goal=true
   ·rw[if_pos hh];exact⟨by decide,by decide,fun _=>rfl⟩
   ·rw[if_neg hh];exact⟨by decide,by decide,fun h=>absurd h hh⟩
  ·obtain⟨s,-,rfl⟩:=List.mem_map.1 hx
   by_cases hh:holdsF s t.Goal=true
   ·rw[if_pos hh];omega
   ·rw[if_neg hh]at hne;exact absurd rfl hne
 have hsum:=sum_le infD _ (fun x hx=>(hd0.all x hx).2)
 rw[hd0.len]at hsum
 have hle:infD*((allF t).length:Int)≤infD*512:=Int.mul_le_mul_of_nonneg_left (by omega) (by decide)
 have hs2:((allF t).map fun s=>if holdsF s t.Goal=true then 0 else infD).sum≤(576460752303423488:Nat):=Int.le_trans hsum (Int.le_trans hle (by decide))
 obtain⟨d,e1,e2,e3⟩:=dis3c hgood es h3 h2 hal 576460752303423488 g _ hd0 hs2 (by omega)
 refine⟨d,?_,e2,fun i k s o x y hi ho hp hk hx hy hlt=>?_⟩
 ·have hrep:(List.replicate ((((allF t).map cL_cI).length:Int)).toNat (0:Int)).length=(allF t).length:=by rw[List.length_replicate,lM_,Int.toNat_natCast]
  have hd1:=dis1 hgood (allF t) 0 (List.replicate ((((allF t).map cL_cI).length:Int)).toNat 0) rfl hrep
  have hd1':Rg (M_b_Distances_L1_B t (allF t)) (M_b_Distances_L1_E t (allF t)) (allF t) 0 (List.replicate ((((allF t).map cL_cI).length:Int)).toNat 0)=_:=hd1
  have hlm:((allF t).map cL_cI).length=(allF t).length:=lM_ _
  rw[M_b_Distances,states_eq t hsm,ob1_some,grd_t (by omega),grd_t (by omega),M_b_Distances_L1_eq t (allF t) _ (by omega),hd1',List.take_zero,List.nil_append,ob1_some,h1,ob1_some]
  exact e1
 ·obtain⟨q,hq⟩:=List.getElem?_of_mem ho
  obtain⟨e,he,kk,hee,hkk⟩:=h4 i s q o hi hq hp
  have:=place_one hgood hk hkk
  subst this
  exact e3 e he i k q o x y hee hq hx hy hlt
def runF (t:GTask):List Int→List Int→Int→Option (List Int×Int)
 | [],s,c=>some (s,c)
 | j :: r,s,c=>if 0≤j then match t.Ops[j.toNat]? with
  | some o=>if holdsF s o.Pre=true then runF t r (nextF s o) (c+o.Cost)else none
  | none=>none
  else none
theorem run_best {t:GTask}(hsm:smallF t=true){d:List Int}(hd:DFix t d):∀ (plan s:List Int)(c:Int)(s':List Int)(c':Int),plan.length≤1000→stateF t.Vars s=true→runF t plan s c=some (s',c')→holdsF s' t.Goal=true→c≤c'∧c'≤c+1048576*plan.length∧∀ (k:Nat)(y:Int),(allF t)[k]?=some s→d[k]?=some y→y≤c'-c
 | [],s,c,s',c',_,hs,h,hg=>by
  rw[runF]at h
  injection h with h
  injection h with h1 h2
  subst h1 h2
  refine⟨Int.le_refl _,by simp,fun k y hk hy=>?_⟩
  have:=(hd.g.ok k s y hk hy).2.2 hg
  omega
 | j :: r,s,c,s',c',hl,hs,h,hg=>by
  have hgood:=(small_good hsm).1
  rw[lC_]at hl
  rw[runF]at h
  split at h
  ·cases hj:t.Ops[j.toNat]? with
   | none=>rw[hj]at h;cases h
   | some o =>
    rw[hj]at h
    dsimp only at h
    have ho:o∈t.Ops:=mG_ hj
    have hc:=good_cost hgood ho
    split at h
    ·rename_i hp
     have hs2:=next_state hgood hs ho
     obtain⟨i1,i2,i3⟩:=run_best hsm hd r (nextF s o) (c+o.Cost) s' c' (by omega) hs2 h hg
     obtain⟨k2,-,hk2⟩:=rank_eq hsm hs2
     obtain⟨x,hx⟩:∃ x,d[k2]?=some x:=⟨_,gE_ (by rw[hd.g.len];exact(gS_.1 hk2).1)⟩
     have h3:=i3 k2 x hk2 hx
     rw[lC_]
     refine⟨by omega,by omega,fun k y hk hy=>?_⟩
     have:=hd.step k k2 s o x y hk ho hp hk2 hx hy (by unfold infD;omega)
     omega
    ·cases h
  ·cases h
end Go.Proofs.YtinknhophadbkaaGreatDoor.Am
namespace Go.Proofs.YtinknhophadbkaaGreatDoor
open Go.RowKit
theorem sizeBuilder0 : (Tryz.prog.info? 89).map (·.size)=some 2:=by kernel_rfl
theorem infoByte0 : (Tryz.prog.info? 5).map (fun i=>(i.zero,i.size,i.bytes))=some (some (.int .u8 0),1,1):=by kernel_rfl
theorem liesB (c:Nat)(h:1≤c):liesAt Tryz.prog Tryz.prog.depth 89 c 0 89 1=true:=by
 obtain⟨d,hd⟩:∃ d,Tryz.prog.depth=d+1:=⟨Tryz.prog.depth-1,by kernel_rfl⟩
 have h1:sameLayout Tryz.prog Tryz.prog.depth 89 89=true:=by kernel_rfl
 have hc:Tryz.prog.cellsOf 89=2:=by kernel_rfl
 have h2:rowAt Tryz.prog (fun x=>sameLayout Tryz.prog Tryz.prog.depth x 89) (d+1) 89 c 0 1=true:=by
  rw[rowAt]
  simp only[hc,h1]
  have:decide (0 / 2+1≤c)=true:=decide_eq_true (by omega)
  simp[h]
 rw[show liesAt Tryz.prog Tryz.prog.depth 89 c 0 89 1=liesAt Tryz.prog (d+1) 89 c 0 89 1 by rw[hd],liesAt,hd]
 rw[hd]at h2
 simp[h2]
structure BAt (b:Nat)(p v:Value)(w:World):Prop where
 blk:∃ arr,w.heap[b]?=some (.cells arr 89 (0,0))∧2≤arr.size∧arr[0]?=some p∧arr[1]?=some v
 adr:p=.pointer none∨p=.pointer (some ⟨b,0,none⟩)
theorem BAt.cell0 {b:Nat}{p v:Value}{w:World}(h:BAt b p v w):w.cell? ⟨b,0,none⟩=some p:=by
 obtain⟨arr,h1,_,h2,_⟩:=h.blk
 rw[Lib.cell_of_heap h1,h2]
theorem BAt.cell1 {b:Nat}{p v:Value}{w:World}(h:BAt b p v w):w.cell? ⟨b,1,none⟩=some v:=by
 obtain⟨arr,h1,_,_,h2⟩:=h.blk
 rw[Lib.cell_of_heap h1,h2]
theorem BAt.lt {b:Nat}{p v:Value}{w:World}(h:BAt b p v w):b<w.heap.size:=by
 obtain⟨arr,h1,_⟩:=h.blk
 rcases Nat.lt_or_ge b w.heap.size with h'|h'
 ·exact h'
 ·simp[Array.getElem?_eq_none h']at h1
structure Oth (w w':World)(X:Nat→Prop):Prop where
 os:w'.os=w.os
 tape:w'.tape=w.tape
 output:w'.output=w.output
 size:w.heap.size≤w'.heap.size
 block:∀ i,i<w.heap.size→¬ X i→w'.heap[i]?=w.heap[i]?
theorem Oth.refl (w:World)(X:Nat→Prop):Oth w w X:=⟨rfl,rfl,rfl,Nat.le_refl _,fun _ _ _=>rfl⟩
theorem Oth.trans {a b c:World}{X:Nat→Prop}(h:Oth a b X)(k:Oth b c X):Oth a c X :=
 ⟨k.os.trans h.os,k.tape.trans h.tape,k.output.trans h.output,Nat.le_trans h.size k.size,fun i hi hx=>(k.block i (Nat.lt_of_lt_of_le hi h.size) hx).trans (h.block i hi hx)⟩
theorem Oth.setC (w:World){X:Nat→Prop}(p:Addr)(u:Value)(h:X p.block):Oth w (w.setCell p u) X :=
 ⟨rfl,rfl,rfl,by simp[World.setCell],fun i _ hx=>Below.heap_setCell w p u i (fun e=>hx (by rw[e];exact h))⟩
theorem setC_arr {w:World}{b k:Nat}{arr:Array Value}{T:TypeId}(u:Value)(h:w.heap[b]?=some (.cells arr T (0,0))):∃ arr',(w.setCell ⟨b,k,none⟩ u).heap[b]?=some (.cells arr' T (0,0))∧arr'.size=arr.size∧(k<arr.size→arr'[k]?=some u)∧∀ j,j≠k→arr'[j]?=arr[j]?:=by
 refine⟨arr.setIfInBounds k u,?_,by simp,fun hk=>by simp[hk],fun j hj=>by simp[Array.getElem?_setIfInBounds,Ne.symm hj]⟩
 simp[World.setCell,Array.getElem?_modify,h]
set_option maxHeartbeats 1000000 in
set_option maxRecDepth 100000 in
theorem copyCheck_at (b:Nat)(p v:Value)(w:World)(h:BAt b p v w) :
  Calls Tryz.prog 66 #[.pointer (some ⟨b,0,none⟩)] w fun e w'=>e=.returned (.tuple #[])∧(BAt b (.pointer (some ⟨b,0,none⟩)) v w'∧Oth w w' (fun i=>i=b)∧w'.heap.size=w.heap.size∧w'.shape? b=w.shape? b):=by
 obtain⟨j,hj,hjs⟩:=Option.map_eq_some_iff.1 sizeBuilder0
 have h0:=h.cell0
 obtain⟨arr,h1,h2,h3,h4⟩:=h.blk
 rcases h.adr with rfl|rfl
 ·have hsh:w.shape? b=some (89,arr.size):=by simp[World.shape?,h1]
  have hfz:w.frozen? ⟨b,0,none⟩=false:=Lib.frozen_of_heap h1 0
  have hl:liesAt Tryz.prog Tryz.prog.depth 89 (arr.size / Tryz.prog.cellsOf 89) 0 89 1=true:=by
   rw[show Tryz.prog.cellsOf 89=2 by kernel_rfl]
   exact liesB _ (by omega)
  have hpos:0<arr.size:=by omega
  go_enter Tryz.func66,Tryz.ntmps66
  go_wp2
  rw[Lib.run_to_unsafe w ⟨b,0,none⟩ Tryz.underlying86 Tryz.underlying154 hj (by rw[hjs];decide) hsh hpos]
  simp only[Result.andThen]
  rw[Oper.upon_value]
  go_wp2
  rw[run_callFunc_extern Tryz.func89 (by kernel_rfl) (by kernel_rfl) (by kernel_rfl) (e:=Extern.AbiNoEscape.same) (by kernel_rfl)]
  rw[Lib.run_noEscape]
  simp only[Result.andThen]
  rw[Oper.upon_value]
  go_wp2
  rw[Lib.run_from_unsafe w ⟨b,0,none⟩ Tryz.underlying154 Tryz.underlying86 hj hsh hl]
  simp only[Result.andThen]
  rw[Oper.upon_value]
  go_wp2
  go_end0
  obtain⟨arr',a1,a2,a3,a4⟩:=setC_arr (k:=0) (.pointer (some ⟨b,0,none⟩)) h1
  exact⟨rfl,⟨⟨arr',a1,by omega,a3 hpos,by rw[a4 1 (by decide)];exact h4⟩,.inr rfl⟩,Oth.setC w _ _ rfl,by simp[World.setCell],by simp[World.shape?,a1,a2,h1]⟩
 ·go_enter Tryz.func66,Tryz.ntmps66
  go_wp2
  rw[Lib.run_neq_ptr_same w _ Tryz.underlying86 hj]
  go_wp2
  go_end0
  exact⟨rfl,h,Oth.refl _ _,rfl,rfl⟩
section
variable {P : Program} (w : World)
theorem append_str2 (t u ty e:TypeId)(i:TypeInfo)(ht:P.underlying t=some (.slice e))(hu:P.underlying u=some .string)(hi:P.info? e=some i)(hz:i.zero=some (.int .u8 0))
  (hsize:i.size=1) (hby:i.bytes=1) (v:Value) (n:Nat) (xs:List Value) (hown:w.ownsRow 0 e 1 v n xs) (s:ByteArray) (h63:n+s.size≤maxLen) (hbytes:n+s.size≤140737488355328) :
  ∃ v' w',(Builtin.append_ #[t,u] ty #[v,.string s]).run P w=.ok v' w'∧w'.ownsRow 0 e 1 v' (n+s.size) (xs++Lib.strCells s)∧w.grownBy w' v.ownBlock∧(v'.ownBlock=v.ownBlock∨∀ g,v'.ownBlock=some g→w.heap.size≤g):=by
 obtain⟨v',w',hr,h2,h3,h4⟩:=Lib.run_append_own_string (P:=P) w 0 t u ty e i ht hu hi hz hsize hby v n xs hown s h63 hbytes (Nat.zero_le _)
 refine⟨v',w',hr,h2,h3,?_⟩
 rcases hown.2 with⟨rfl,rfl⟩|⟨g,cap,cur,rfl,hbg,hg,hnc,hcm,hcs,htake⟩
 ·obtain⟨v2,w2,hr2,k2,_⟩:=Lib.run_append_own_string (P:=P) w w.heap.size t u ty e i ht hu hi hz hsize hby _ 0 xs ⟨hown.1,.inl ⟨rfl,rfl⟩⟩ s h63 hbytes (Nat.le_refl _)
  rw[hr]at hr2
  injection hr2 with e1 e2
  subst e1 e2
  refine .inr (fun g hg=>?_)
  rcases k2.2 with⟨e,_⟩|⟨g',cap,cur,e,hb,_⟩
  ·subst e;cases hg
  ·subst e
   have:g'=g:=by simpa [Value.ownBlock] using hg
   omega
 ·have hcs':cur.size=cap:=by simpa using hcs
  by_cases hroom:n+s.size≤cap
  ·have hr2:=Lib.run_append_room_string (P:=P) w t u ty e i ht hu hi hsize g n cap cur hg s hroom (by omega)
   rw[hr]at hr2
   injection hr2 with e1 e2
   subst e1
   exact .inl rfl
  ·have hxl:xs.length=n:=by simpa using hown.1
   have holds:∀ j u,xs[j]?=some u→w.cell? ((⟨g,0,none⟩:Addr).add j)=some u:=hown.cells (g:=g) rfl
   have h63':((n+s.size:Nat):Int)≤9223372036854775807:=by simp only[maxLen]at h63;omega
   have hr2:=Lib.run_append_grow_string (P:=P) w t u ty e i (.int .u8 0) ht hu hi hz ⟨g,0,none⟩ n cap xs (by rw[hsize];simpa using hxl) holds s (by omega) h63' (by rw[hby];exact growslice_fits (by omega) (by omega))
   rw[hr]at hr2
   injection hr2 with e1 e2
   subst e1
   refine .inr (fun g' hg'=>?_)
   have:w.heap.size=g':=by simpa [Value.ownBlock] using hg'
   omega
theorem wpList_append_str2 {ops:Array Oper}{rest:List Oper}{o:Oper}{a:Act}{Q:Exit→Act→World→Prop}(hgd:o.guard=none)(sl x:Operand)(t u:TypeId)
  (ho:o.op=.call { callee:=.builtin .append,args:=#[sl,x],argTypes:=#[t,u] })
  (e:TypeId) (i:TypeInfo) (ht:P.underlying t=some (.slice e)) (hu:P.underlying u=some .string) (hi:P.info? e=some i) (hz:i.zero=some (.int .u8 0))
  (hsize:i.size=1) (hby:i.bytes=1)
  (v:Value) (n:Nat) (xs:List Value) (hs:a.eval sl=v) (hown:w.ownsRow 0 e 1 v n xs) (s:ByteArray) (hx:a.eval x=.string s)
  (h63:n+s.size≤maxLen) (hbytes:n+s.size≤140737488355328)
  (h:∀ v' w',w'.ownsRow 0 e 1 v' (n+s.size) (xs++Lib.strCells s)→w.grownBy w' v.ownBlock→(v'.ownBlock=v.ownBlock∨∀ g,v'.ownBlock=some g→w.heap.size≤g)→wpList P ops Q rest (a.put o.dst v') w'):wpList P ops Q (o :: rest) a w:=by
 refine wpList_plain hgd fun K hK=>?_
 obtain⟨v',w',hr,h2,h3,h4⟩:=append_str2 (P:=P) w t u o.type e i ht hu hi hz hsize hby v n xs hown s h63 hbytes
 unfold Oper.wp execOp
 simp only[ho,resolve,invoke,builtin,Sem.run_bind,Sem.run_pure,Result.andThen_ok,List.map_toArray,List.map_cons,List.map_nil,hs,hx,hr]
 exact hK _ _ (h v' w' h2 h3 h4)
end
theorem own_oth {w w':World}{X:Nat→Prop}{e:TypeId}{size n:Nat}{v:Value}{xs:List Value}(h:w.ownsRow 0 e size v n xs)(k:Oth w w' X)(hx:∀ g,v.ownBlock=some g→¬ X g):w'.ownsRow 0 e size v n xs:=by
 refine⟨h.1,?_⟩
 rcases h.2 with h|⟨g,cap,cur,rfl,hb,hg,r⟩
 ·exact .inl h
 ·have hlt:g<w.heap.size:=by
   rcases Nat.lt_or_ge g w.heap.size with h'|h'
   ·exact h'
   ·simp[Array.getElem?_eq_none h']at hg
  exact .inr ⟨g,cap,cur,rfl,hb,by rw[k.block g hlt (hx g rfl)];exact hg,r⟩
set_option maxHeartbeats 1000000 in
set_option maxRecDepth 100000 in
theorem writeString_at (b:Nat)(p v:Value)(n:Nat)(bs:List Value)(s:ByteArray)(w:World)(h:BAt b p v w)(hown:w.ownsRow 0 5 1 v n bs)(hlen:n+s.size≤140737488355328) :
  Calls Tryz.prog 32 #[.pointer (some ⟨b,0,none⟩),.string s] w fun e w'=>e=.returned (.tuple #[.int .i64 s.size,.nilIface])∧∃ v',BAt b (.pointer (some ⟨b,0,none⟩)) v' w'∧w'.ownsRow 0 5 1 v' (n+s.size) (bs++Lib.strCells s) ∧
   Oth w w' (fun i=>i=b∨v.ownBlock=some i)∧(v'.ownBlock=v.ownBlock∨∀ g,v'.ownBlock=some g→w.heap.size≤g)∧w'.shape? b=w.shape? b:=by
 obtain⟨i0,hi,hz0,hz1,hz2⟩:=info_parts infoByte0
 obtain⟨arr0,e1,_⟩:=h.blk
 have hne:v.ownBlock≠some b:=Lib.ownBlock_ne hown e1 (by decide)
 have hsh0:w.shape? b=some (89,arr0.size):=by simp[World.shape?,e1]
 go_enter Tryz.func32,Tryz.ntmps32
 go_wp2_with (go_at_call 66;refine(copyCheck_at b p v _ h).mono ?_)
 rintro e w1 ⟨rfl,h1,ho1,hs1,hs2⟩
 have hown1:w1.ownsRow 0 5 1 v n bs:=own_oth hown ho1 (fun g hg e=>hne (by rw[hg,e]))
 have c1:=h1.cell1
 go_wp2_with (at_builtin;refine wpList_append_str2 _ rfl _ _ 87 9 rfl 5 i0 Tryz.underlying87 Tryz.underlying9 hi hz0 hz1 hz2 _ _ _ rfl hown1 s rfl ?c3 ?c4 ?_)
 case c3=>unfold maxLen;omega
 case c4=>omega
 intro v' w2 hown' hgrow hnew
 obtain⟨arr1,b1,b2,b3,b4⟩:=h1.blk
 have hlt:=h1.lt
 have hb2:w2.heap[b]?=some (.cells arr1 89 (0,0)):=by
  rw[hgrow.block b hlt (fun e=>hne e.symm)]
  exact b1
 have d0:w2.cell? ⟨b,0,none⟩=some (.pointer (some ⟨b,0,none⟩)):=by rw[Lib.cell_of_heap hb2];exact b3
 have d1:w2.cell? ⟨b,1,none⟩=some v:=by rw[Lib.cell_of_heap hb2];exact b4
 have f1:w2.frozen? ⟨b,1,none⟩=false:=Lib.frozen_of_heap hb2 1
 have hsz:=hgrow.size
 have ho2:Oth w w2 (fun i=>i=b∨v.ownBlock=some i):=⟨hgrow.os.trans ho1.os,hgrow.tape.trans ho1.tape,hgrow.output.trans ho1.output,by omega,fun i hi hx=>(hgrow.block i (by omega) (fun e=>hx (.inr e.symm))).trans (ho1.block i hi (fun e=>hx (.inl e)))⟩
 have hne':v'.ownBlock≠some b:=Lib.ownBlock_ne hown' hb2 (by decide)
 obtain⟨ao,n',cap,rfl⟩:∃ ao n' cap,v'=.slice ao n' cap:=by
  rcases hown'.2 with⟨hv,_⟩|⟨g,cap,cur,hv,_⟩
  ·exact⟨_,_,_,hv⟩
  ·exact⟨_,_,_,hv⟩
 generalize hvv:Value.slice ao n' cap=v' at hown' hnew hne'
 obtain⟨arr2,a1,a2,a3,a4⟩:=setC_arr (k:=1) v' hb2
 have hfin:∃ v'',BAt b (.pointer (some ⟨b,0,none⟩)) v'' (w2.setCell ⟨b,1,none⟩ v')∧(w2.setCell ⟨b,1,none⟩ v').ownsRow 0 5 1 v'' (n+s.size) (bs++Lib.strCells s)∧Oth w (w2.setCell ⟨b,1,none⟩ v') (fun i=>i=b∨v.ownBlock=some i)∧(v''.ownBlock=v.ownBlock∨∀ g,v''.ownBlock=some g→w.heap.size≤g)∧(w2.setCell ⟨b,1,none⟩ v').shape? b=w.shape? b:=by
  have hst:=Oth.setC w2 (X:=fun i=>i=b∨v.ownBlock=some i) ⟨b,1,none⟩ v' (.inl rfl)
  have hsz1:arr1.size=arr0.size:=by
   rw[hsh0]at hs2
   have q:w1.shape? b=some (89,arr1.size):=by simp[World.shape?,b1]
   rw[q]at hs2
   injection hs2 with hs2
   injection hs2
  refine⟨v',⟨⟨arr2,a1,by omega,by rw[a4 0 (by decide)];exact b3,a3 (by omega)⟩,.inr rfl⟩,own_oth hown' (X:=fun i=>i=b) (Oth.setC w2 _ _ rfl) (fun g hg e=>hne' (by rw[hg,e])),ho2.trans hst,?_,?_⟩
  ·rcases hnew with e|e
   ·exact .inl e
   ·exact .inr (fun g hg=>by have:=e g hg;omega)
  ·rw[hsh0];simp[World.shape?,a1,a2,hsz1]
 clear hown' hnew hne' a1 a2 a3 a4
 subst hvv
 have HF:=Lib.hid hfin
 clear hfin
 go_wp2
 go_ret2
 exact⟨rfl,HF.out⟩
set_option maxHeartbeats 1000000 in
set_option maxRecDepth 100000 in
theorem len_at (b:Nat)(p v:Value)(n:Nat)(bs:List Value)(w:World)(h:BAt b p v w)(hown:w.ownsRow 0 5 1 v n bs) :
  Calls Tryz.prog 34 #[.pointer (some ⟨b,0,none⟩)] w fun e w'=>e=.returned (.int .i64 n)∧w'=w:=by
 obtain⟨ao,cap,rfl⟩:∃ ao cap,v=.slice ao n cap:=by
  rcases hown.2 with⟨hv,h0⟩|⟨g,cap,cur,hv,_⟩
  ·exact⟨none,0,by rw[hv,h0]⟩
  ·exact⟨_,_,hv⟩
 have c1:=h.cell1
 go_enter Tryz.func34,Tryz.ntmps34
 go_wp2
 go_ret
 exact⟨rfl,rfl⟩
theorem mixed0 : Tryz.prog.follows .mixedOrders=true:=by kernel_rfl
set_option maxHeartbeats 2000000 in
set_option maxRecDepth 100000 in
theorem string_nil (b:Nat)(w:World)(hcell:w.cell? ⟨b,1,none⟩=some (.slice none 0 0)) :
  Calls Tryz.prog 35 #[.pointer (some ⟨b,0,none⟩)] w fun e w'=>e=.returned (.string ⟨#[]⟩)∧w'=w.drew:=by
 have c1:w.drew.cell? ⟨b,1,none⟩=some (.slice none 0 0):=hcell
 have hSD:(Builtin.unsafeSliceData_ #[87] 133 #[.slice none 0 0]).run Tryz.prog w.drew=.ok (.pointer none) w.drew:=rfl
 have hUS:∀ (W:World) (q:Option Addr),(Builtin.unsafeString_ #[133,3] 9 #[.pointer q,.int .i64 0]).run Tryz.prog W=.ok (.string .empty) W:=fun W q=>Lib.run_unsafeString_none W _ _ _ q
 have mixed:=mixed0
 clear hcell
 go_enter Tryz.func35,Tryz.ntmps35
 go_wp2
 go_region_o
 all_goals (go_wp2;go_ret;exact⟨rfl,rfl⟩)
set_option maxHeartbeats 2000000 in
set_option maxRecDepth 100000 in
theorem string_noroom (b g sz:Nat)(w:World)(hlt:b<w.heap.size)(hcell:w.cell? ⟨b,1,none⟩=some (.slice (some ⟨g,0,none⟩) 0 0))(hsh:w.shape? g=some (5,sz)) :
  Calls Tryz.prog 35 #[.pointer (some ⟨b,0,none⟩)] w fun e w'=>e=.returned (.string ⟨#[]⟩)∧w'=w.drew.alloc (.view ⟨g,0,none⟩ 5):=by
 have c1:w.drew.cell? ⟨b,1,none⟩=some (.slice (some ⟨g,0,none⟩) 0 0):=hcell
 have hSD:(Builtin.unsafeSliceData_ #[87] 133 #[.slice (some ⟨g,0,none⟩) 0 0]).run Tryz.prog w.drew=.ok (.pointer (some ⟨w.drew.heap.size,0,none⟩)) (w.drew.alloc (.view ⟨g,0,none⟩ 5)) :=
  Lib.run_unsafeSliceData_zero w.drew _ _ 5 Tryz.underlying133 ⟨g,0,none⟩ 0 (5,sz) hsh
 have hUS:∀ (W:World) (q:Option Addr),(Builtin.unsafeString_ #[133,3] 9 #[.pointer q,.int .i64 0]).run Tryz.prog W=.ok (.string .empty) W:=fun W q=>Lib.run_unsafeString_none W _ _ _ q
 have c2:(w.drew.alloc (.view ⟨g,0,none⟩ 5)).cell? ⟨b,1,none⟩=some (.slice (some ⟨g,0,none⟩) 0 0):=by
  rw[← c1]
  exact World.cell?_of_block (Lib.alloc_old w.drew _ b hlt)
 have c3:(w.alloc (.view ⟨g,0,none⟩ 5)).drew.cell? ⟨b,1,none⟩=some (.slice (some ⟨g,0,none⟩) 0 0):=c2
 have mixed:=mixed0
 clear hsh
 go_enter Tryz.func35,Tryz.ntmps35
 go_wp2
 go_region_o
 all_goals (go_wp2;go_ret;exact⟨rfl,rfl⟩)
set_option maxHeartbeats 2000000 in
set_option maxRecDepth 100000 in
theorem string_room (b g cap:Nat)(w:World)(hc0:cap≠0)(hcell:w.cell? ⟨b,1,none⟩=some (.slice (some ⟨g,0,none⟩) 0 cap)) :
  Calls Tryz.prog 35 #[.pointer (some ⟨b,0,none⟩)] w fun e w'=>e=.returned (.string ⟨#[]⟩)∧w'=w.drew:=by
 have c1:w.drew.cell? ⟨b,1,none⟩=some (.slice (some ⟨g,0,none⟩) 0 cap):=hcell
 have hSD:(Builtin.unsafeSliceData_ #[87] 133 #[.slice (some ⟨g,0,none⟩) 0 cap]).run Tryz.prog w.drew=.ok (.pointer (some ⟨g,0,none⟩)) w.drew :=
  Lib.run_unsafeSliceData_row _ _ _ _ _ _ hc0
 have hUS:∀ (W:World) (q:Option Addr),(Builtin.unsafeString_ #[133,3] 9 #[.pointer q,.int .i64 0]).run Tryz.prog W=.ok (.string .empty) W:=fun W q=>Lib.run_unsafeString_none W _ _ _ q
 have mixed:=mixed0
 clear hc0 hcell
 go_enter Tryz.func35,Tryz.ntmps35
 go_wp2
 go_region_o
 all_goals (go_wp2;go_ret;exact⟨rfl,rfl⟩)
set_option maxHeartbeats 2000000 in
set_option maxRecDepth 100000 in
theorem string_some (b g cap n:Nat)(str:ByteArray)(w:World)(hcell:w.cell? ⟨b,1,none⟩=some (.slice (some ⟨g,0,none⟩) n cap))(hSD:(Builtin.unsafeSliceData_ #[87] 133 #[.slice (some ⟨g,0,none⟩) n cap]).run Tryz.prog w.drew=.ok (.pointer (some ⟨g,0,none⟩)) w.drew)
  (hUS:(Builtin.unsafeString_ #[133,3] 9 #[.pointer (some ⟨g,0,none⟩),.int .i64 n]).run Tryz.prog w.drew=.ok (.string str) (w.drew.freeze ⟨g,0,none⟩ n)) :
  Calls Tryz.prog 35 #[.pointer (some ⟨b,0,none⟩)] w fun e w'=>e=.returned (.string str)∧w'=w.drew.freeze ⟨g,0,none⟩ n:=by
 have c1:w.drew.cell? ⟨b,1,none⟩=some (.slice (some ⟨g,0,none⟩) n cap):=hcell
 have mixed:=mixed0
 clear hcell
 go_enter Tryz.func35,Tryz.ntmps35
 go_wp2
 go_region_o
 all_goals (go_wp2;go_ret;exact⟨rfl,rfl⟩)
theorem string_at (b:Nat)(p v:Value)(l:List UInt8)(w:World)(h:BAt b p v w)(hown:w.ownsRow 0 5 1 v l.length (Lib.byteCells l)) :
  Calls Tryz.prog 35 #[.pointer (some ⟨b,0,none⟩)] w fun e w'=>e=.returned (.string ⟨l.toArray⟩)∧Oth w w' (fun i=>v.ownBlock=some i):=by
 have hcell1:=h.cell1
 have hdrew:∀ X,Oth w w.drew X:=fun X=>⟨rfl,rfl,rfl,Nat.le_refl _,fun _ _ _=>rfl⟩
 have hcb:Tryz.prog.cellsOf 5=1:=by kernel_rfl
 rcases hown.2 with⟨rfl,h0⟩|⟨g,cap,cur,rfl,hbg,hg,hnc,hcm,hcs,htake⟩
 ·obtain rfl:l=[]:=List.length_eq_zero_iff.1 h0
  refine(string_nil b w hcell1).mono ?_
  rintro e w' ⟨rfl,rfl⟩
  exact⟨rfl,hdrew _⟩
 ·by_cases hl:l=[]
  ·subst hl
   by_cases hc0:cap=0
   ·subst hc0
    refine(string_noroom b g cur.size w h.lt hcell1 (by simp[World.shape?,hg])).mono ?_
    rintro e w' ⟨rfl,rfl⟩
    exact⟨rfl,rfl,rfl,rfl,by simp,fun i hi _=>Lib.alloc_old w.drew _ i hi⟩
   ·refine(string_room b g cap w hc0 hcell1).mono ?_
    rintro e w' ⟨rfl,rfl⟩
    exact⟨rfl,hdrew _⟩
  ·have hl0:l.length≠0:=by simpa using hl
   have hSD:(Builtin.unsafeSliceData_ #[87] 133 #[.slice (some ⟨g,0,none⟩) l.length cap]).run Tryz.prog w.drew=.ok (.pointer (some ⟨g,0,none⟩)) w.drew :=
    Lib.run_unsafeSliceData_row _ _ _ _ _ _ (by omega)
   have hUS:(Builtin.unsafeString_ #[133,3] 9 #[.pointer (some ⟨g,0,none⟩),.int .i64 l.length]).run Tryz.prog w.drew=.ok (.string ⟨l.toArray⟩) (w.drew.freeze ⟨g,0,none⟩ l.length):=by
    refine Lib.run_unsafeString_row w.drew 133 3 9 5 Tryz.underlying133 hcb g cur.size (by have hg':w.drew.heap[g]?=some (.cells cur 5 (0,0)):=hg;simp[World.shape?,hg']) l hl (by omega) (by unfold maxLen at hcm;omega) ?_
    intro j x hx
    have:=hown.cells (g:=g) rfl j (.int .u8 x.toNat) (by simp[Lib.byteCells,hx])
    exact this
   refine(string_some b g cap l.length _ w hcell1 hSD hUS).mono ?_
   rintro e w' ⟨rfl,rfl⟩
   refine⟨rfl,?_⟩
   unfold World.freeze
   rw[if_neg hl0]
   exact⟨rfl,rfl,rfl,by simp,fun i _ hx=>by
    have:i≠g:=fun e=>hx (by rw[e];rfl)
    simp only[Array.getElem?_modify]
    rw[if_neg (Ne.symm this)]
    rfl⟩
end Go.Proofs.YtinknhophadbkaaGreatDoor
namespace Go.Proofs.YtinknhophadbkaaGreatDoor.Am
open Go.RowKit
abbrev bB (n:Nat):Blk:=⟨89,2,true,[[.ptrO 900 0 0 0,.own 901 0 0 n]]⟩
abbrev bJ (x:ByteArray):Blk:=⟨5,1,false,(bys x).map c_u8⟩
abbrev bE (x:ByteArray):List (Nat×Blk):=[(900,bB (bys x).length),(901,bJ x)]
theorem bld_bys (x:ByteArray):(bys x).length=x.size:=by
 unfold bys
 rw[lM_,Array.length_toList]
 rfl
theorem cells_bys (x:ByteArray):Lib.byteCells x.data.toList=(bys x).map (fun z=>Value.int .u8 z):=by
 unfold Lib.byteCells bys
 rw[List.map_map]
 rfl
theorem cargs1b {α:Type}{c:Array α}(h:c.size=1):∃ a,c=#[a]:=by
 obtain⟨l⟩:=c
 match l,h with
 | [a],_=>exact⟨a,rfl⟩
theorem cargs2b {α:Type}{c:Array α}(h:c.size=2):∃ a b,c=#[a,b]:=by
 obtain⟨l⟩:=c
 match l,h with
 | [a,b],_=>exact⟨a,b,rfl⟩
theorem bld_pre {w:World}{m:MM}{x:ByteArray}(hM:Mem cx.N w (fE (bE x)) m):∃ b p v,m 900=some b∧BAt b p v w∧m 901=v.ownBlock∧w.ownsRow 0 5 1 v x.size (Lib.byteCells x.data.toList):=by
 have hi:fE (bE x) 900=⟨0,some (bB (bys x).length)⟩:=rfl
 have hj:fE (bE x) 901=⟨0,some (bJ x)⟩:=rfl
 have ok1:=hM.ok 900 _ (by rw[hi])
 have ok2:=hM.ok 901 _ (by rw[hj])
 cases hb:m 900 with
 | none=>rw[hb]at ok1;cases ok1.1
 | some b =>
  rw[hb]at ok1
  obtain⟨arr,a1,a2,a3⟩:=ok1
  obtain⟨_,a4⟩:=a3 0 _ rfl
  obtain⟨p,p1,_,p2⟩:=a4 0 _ rfl
  obtain⟨v,v1,_,v2⟩:=a4 1 _ rfl
  obtain⟨xs,x1,x2,x3⟩:=own_row v2 hj ok2 (by rw[lM_])
  have a2':1*2≤arr.size:=a2
  have hadr:p=.pointer none∨p=.pointer (some ⟨b,0,none⟩):=by
   rcases rv_ptrO p2 hi with e|⟨b',e1,e2⟩
   ·exact .inl e
   ·rw[hb]at e1
    injection e1 with e1
    subst e1
    refine .inr (e2.trans ?_)
    show Value.pointer (some ⟨b,0*2+0,none⟩)=_
    rfl
  have hxs:xs=Lib.byteCells x.data.toList:=by
   rw[cells_bys]
   obtain⟨q1,q2⟩:=x2
   refine List.ext_getElem? (fun k=>?_)
   by_cases hk:k<(bys x).length
   ·have hz:=gE_ hk
    obtain⟨_,q3⟩:=q2 k (c_u8 (bys x)[k]) (by rw[List.getElem?_map,hz];rfl)
    obtain⟨u,u1,_,u2⟩:=q3 0 _ rfl
    rw[List.getElem?_map,hz]
    have e:=rv_c u2
    have u1':xs[k]?=some u:=by simpa using u1
    rw[u1',e]
    rfl
   ·have hl:xs.length=(bys x).length*1:=x1.1
    rw[List.getElem?_eq_none (by omega),List.getElem?_eq_none (by rw[lM_];omega)]
  subst hxs
  rw[bld_bys]at x1
  exact⟨b,p,v,rfl,⟨⟨arr,a1.1 rfl,by omega,p1,v1⟩,hadr⟩,x3,x1⟩
theorem bld_post {w w':World}{m:MM}{x x':ByteArray}{b:Nat}{p v v':Value}{rA:AV}{r:Value}(hM:Mem cx.N w (fE (bE x)) m)(hG:cx.Gl w)(hb:m 900=some b)(hv:m 901=v.ownBlock)(h:BAt b p v' w')(hown:w'.ownsRow 0 5 1 v' x'.size (Lib.byteCells x'.data.toList))(ho:Oth w w' (fun i=>i=b∨v.ownBlock=some i))
  (hn:v'.ownBlock=v.ownBlock∨∀ g,v'.ownBlock=some g→w.heap.size≤g) (hsh:w'.shape? b=w.shape? b) (hr:∀ m',RV w' (shp (fE (bE x'))) m' rA r) :
  GR cx w m (bE x) [900] rA (bE x') r ⟨fun k=>if k=900 then some b else if k=901 then v'.ownBlock else none,m.O⟩ w':=by
 have hi:fE (bE x) 900=⟨0,some (bB (bys x).length)⟩:=rfl
 have hj:fE (bE x) 901=⟨0,some (bJ x)⟩:=rfl
 have hi':fE (bE x') 900=⟨0,some (bB (bys x').length)⟩:=rfl
 have hj':fE (bE x') 901=⟨0,some (bJ x')⟩:=rfl
 have l1:(fE (bE x) 900).blk≠none:=by rw[hi];simp
 have l2:(fE (bE x) 901).blk≠none:=by rw[hj];simp
 have live:∀ (y:ByteArray) i,(fE (bE y) i).blk≠none→i=900∨i=901:=fun y i h=>by
  have:=fE_live.1 h
  simpa [keys] using this
 obtain⟨arr,a1,a2,a3,a4⟩:=h.blk
 have hblt:b<w.heap.size:=by
  have ok1:=hM.ok 900 _ (by rw[hi])
  rw[hb]at ok1
  obtain⟨arr,a1,_⟩:=ok1
  exact a1.lt
 have hvne:v'.ownBlock≠some b:=Lib.ownBlock_ne hown a1 (by decide)
 have hX:∀ i,(i=b∨v.ownBlock=some i)→∃ k,(fE (bE x) k).blk≠none∧m k=some i:=fun i h=>by
  rcases h with rfl|h
  ·exact⟨900,l1,hb⟩
  ·exact⟨901,l2,by rw[hv,h]⟩
 have hnew:∀ g,v'.ownBlock=some g→(∃ k,(fE (bE x) k).blk≠none∧m k=some g)∨w.heap.size≤g:=fun g hg=>by
  rcases hn with e|e
  ·exact .inl ⟨901,l2,by rw[hv,← e,hg]⟩
  ·exact .inr (e g hg)
 have m0:(⟨fun k=>if k=900 then some b else if k=901 then v'.ownBlock else none,m.O⟩:MM) 900=some b:=rfl
 have m1:(⟨fun k=>if k=900 then some b else if k=901 then v'.ownBlock else none,m.O⟩:MM) 901=v'.ownBlock:=rfl
 refine⟨hr _,⟨fun i B hB=>?_,fun i k g hi1 hk1 e1 e2=>?_,fun i g hi1 e1=>?_,fun i g hi1 e1 ho1=>?_,fun g hg=>⟨Nat.lt_of_lt_of_le (hM.olt g hg).1 ho.size,(hM.olt g hg).2⟩,Nat.le_trans hM.big ho.size⟩,rfl,⟨ho.os,ho.tape,ho.output,ho.size,fun i hi1 hx=>ho.block i hi1 (fun e=>hx (hX i e))⟩,fun i g hi1 e1=>?_,fun i hi1=>?_,cx.keep w w' (fun i hi1=>ho.block i (Nat.lt_of_lt_of_le hi1 hM.big) (fun e=>?_)) hG⟩
 ·rcases live x' i (by rw[hB];simp)with rfl|rfl
  ·rw[hi']at hB
   injection hB with hB
   subst hB
   rw[m0]
   refine⟨arr,.cells a1 rfl,by show 1*2≤_;omega,fun k e he=>?_⟩
   cases k with
   | succ k=>simp at he
   | zero =>
    simp at he
    subst he
    refine⟨rfl,fun j y hy=>?_⟩
    match j,hy with
    | 0,hy =>
     simp at hy
     subst hy
     refine⟨p,a3,?_,?_⟩
     ·rcases h.adr with rfl|rfl <;> exact fun _=>rfl
     ·rcases h.adr with rfl|rfl
      ·exact .ptrON (sz:=2) rfl
      ·exact RV.ptrO (sz:=2) (b:=b) (k:=0) (j:=0) rfl rfl
    | 1,hy =>
     simp at hy
     subst hy
     rw[bld_bys]
     rcases hown.2 with⟨rfl,h0⟩|⟨g,cap,cur,rfl,_,hh,hnc,hmx,hcs,htake⟩
     ·rw[h0]
      exact⟨_,a4,fun _=>rfl,.ownN (sz:=1) rfl rfl⟩
     ·refine⟨_,a4,fun _=>rfl,?_⟩
      have:=RV.own (w:=w') (vs:=shp (fE (bE x'))) (m:=⟨fun k=>if k=900 then some b else if k=901 then(Value.slice (some ⟨g,0,none⟩) x'.size cap).ownBlock else none,m.O⟩) (i:=901) (ver:=0) (sz:=1) (k:=0) (b:=g) (ty:=5) (n:=cur.size) (len:=x'.size) (cap:=cap) rfl rfl hnc hmx (by simp[World.shape?,hh]) (by rw[Nat.zero_add,hcs])
      simpa using this
    | j+2,hy=>simp at hy
  ·rw[hj']at hB
   injection hB with hB
   subst hB
   rw[m1]
   rcases hown.2 with⟨rfl,h0⟩|⟨g,cap,cur,rfl,_,hh,hnc,hmx,hcs,htake⟩
   ·refine⟨?_,rfl⟩
    show(bys x').map c_u8=[]
    rw[List.map_eq_nil_iff,← List.length_eq_zero_iff,bld_bys,h0]
   ·refine⟨cur,.cells hh rfl,?_,fun k e he=>?_⟩
    ·show((bys x').map c_u8).length*1≤_
     rw[lM_,bld_bys]
     omega
    ·have he':((bys x').map c_u8)[k]?=some e:=he
     rw[List.getElem?_map]at he'
     cases hz:(bys x')[k]? with
     | none=>rw[hz]at he';cases he'
     | some z =>
      rw[hz]at he'
      injection he' with he'
      subst he'
      refine⟨rfl,fun j y hy=>?_⟩
      cases j with
      | succ j=>simp[c_u8]at hy
      | zero =>
       simp[c_u8]at hy
       subst hy
       refine⟨.int .u8 z,?_,fun _=>rfl,.c _⟩
       have hk:k<(bys x').length:=(gS_.1 hz).1
       have:=congrArg (fun l=>l[k]?) htake
       rw[cells_bys]at this
       simp only[List.getElem?_take,List.getElem?_map,hz]at this
       rw[bld_bys]at hk
       rw[if_pos (by omega)]at this
       simpa using this
 ·rcases live x' i hi1 with rfl|rfl <;> rcases live x' k hk1 with rfl|rfl
  ·rfl
  ·rw[m0]at e1;rw[m1]at e2;exact absurd (e2.trans e1.symm) hvne
  ·rw[m1]at e1;rw[m0]at e2;exact absurd (e1.trans e2.symm) hvne
  ·rfl
 ·rcases live x' i hi1 with rfl|rfl
  ·rw[m0]at e1;exact hM.low 900 g l1 (hb.trans e1)
  ·rw[m1]at e1
   rcases hnew g e1 with⟨k,k1,k2⟩|q
   ·exact hM.low k g k1 k2
   ·exact Nat.le_trans hM.big q
 ·rcases live x' i hi1 with rfl|rfl
  ·rw[m0]at e1;exact hM.sep 900 g l1 (hb.trans e1) ho1
  ·rw[m1]at e1
   rcases hnew g e1 with⟨k,k1,k2⟩|q
   ·exact hM.sep k g k1 k2 ho1
   ·have:=(hM.olt g ho1).1
    omega
 ·rcases live x' i hi1 with rfl|rfl
  ·rw[m0]at e1;exact .inl ⟨900,l1,hb.trans e1⟩
  ·rw[m1]at e1;exact hnew g e1
 ·simp only[List.mem_singleton]at hi1
  subst hi1
  exact⟨hb.symm ▸ m0,fun g hg=>by rw[hb]at hg;injection hg with hg;subst hg;exact hsh⟩
 ·obtain⟨k,k1,k2⟩:=hX i e
  have:=hM.low k i k1 k2
  omega
def M_WriteString (x s:ByteArray):Option (Int×Er×ByteArray):=grd (x.size+s.size≤140737488355328) (some ((s.size:Int),.nil,x++s))
theorem A_WriteString (x s:ByteArray){r1:Int}{r2:Er}{y:ByteArray}(h:M_WriteString x s=some (r1,r2,y)):ACallG cx 32 [.ptr 900 0 0 0,.c (.string s)] (bE x) [900] (.tup [.c (.int .i64 r1),eA r2]) (bE y):=by
 obtain⟨h0,h⟩:=grd_ok h
 have h:=sI_ h
 injection h with e1 h
 injection h with e2 e3
 subst e1 e2 e3
 refine⟨enter_g Tryz.func32 rfl (by decide),fun w m cargs hg hM hsz hargs=>?_⟩
 obtain⟨q,t,rfl⟩:=cargs2b hsz
 obtain⟨b,p,v,hb,hB,hv,hown⟩:=bld_pre hM
 obtain⟨b',e1,rfl⟩:=rv_ptr (hargs 0 _ q rfl rfl) (B:=bB (bys x).length) rfl
 rw[hb]at e1
 injection e1 with e1
 subst e1
 have et:=rv_c (hargs 1 _ t rfl rfl)
 subst et
 refine(writeString_at b p v x.size _ s w hB hown h0).mono ?_
 rintro e w' ⟨rfl,v',h1,h2,h3,h4,h5⟩
 refine⟨_,_,rfl,bld_post hM hg hb hv h1 ?_ h3 h4 h5 (fun m'=>.tup rfl (fun j y u hy hu=>?_))⟩
 ·have e1:(x++s).size=x.size+s.size:=by simp
  have e2:Lib.byteCells (x++s).data.toList=Lib.byteCells x.data.toList++Lib.strCells s:=by simp[Lib.byteCells,Lib.strCells,ByteArray.data_append]
  rw[e1,e2]
  exact h2
 ·match j,hy,hu with
  | 0,hy,hu=>simp at hy hu;subst hy hu;exact .c _
  | 1,hy,hu=>simp[eA]at hy hu;subst hy hu;exact .c _
  | j+2,hy,hu=>simp at hy
def M_BuilderLen (x:ByteArray):Option Int:=some (x.size:Int)
theorem A_BuilderLen (x:ByteArray){r:Int}(h:M_BuilderLen x=some r):ACallG cx 34 [.ptr 900 0 0 0] (bE x) [900,901] (.c (.int .i64 r)) (bE x):=by
 obtain rfl:=sI_ h
 refine⟨enter_g Tryz.func34 rfl (by decide),fun w m cargs hg hM hsz hargs=>?_⟩
 obtain⟨q,rfl⟩:=cargs1b hsz
 obtain⟨b,p,v,hb,hB,hv,hown⟩:=bld_pre hM
 obtain⟨b',e1,rfl⟩:=rv_ptr (hargs 0 _ q rfl rfl) (B:=bB (bys x).length) rfl
 rw[hb]at e1
 injection e1 with e1
 subst e1
 refine(len_at b p v x.size _ w hB hown).mono ?_
 rintro e w' ⟨rfl,rfl⟩
 exact⟨_,m,rfl,.c _,hM,rfl,⟨rfl,rfl,rfl,Nat.le_refl _,fun _ _ _=>rfl⟩,fun i g hi hg=>.inl ⟨i,hi,hg⟩,fun i _=>⟨rfl,fun _ _=>rfl⟩,hg⟩
def M_BuilderString (x:ByteArray):Option ByteArray:=some x
theorem A_BuilderString (x:ByteArray){r:ByteArray}(h:M_BuilderString x=some r):ACallG cx 35 [.ptr 900 0 0 0] (bE x) [] (.c (.string r)) []:=by
 obtain rfl:=sI_ h
 refine⟨enter_g Tryz.func35 rfl (by decide),fun w m cargs hg hM hsz hargs=>?_⟩
 obtain⟨q,rfl⟩:=cargs1b hsz
 obtain⟨b,p,v,hb,hB,hv,hown⟩:=bld_pre hM
 obtain⟨b',e1,rfl⟩:=rv_ptr (hargs 0 _ q rfl rfl) (B:=bB (bys x).length) rfl
 rw[hb]at e1
 injection e1 with e1
 subst e1
 have hl:x.data.toList.length=x.size:=by rw[Array.length_toList];rfl
 rw[← hl]at hown
 refine(string_at b p v x.data.toList w hB hown).mono ?_
 rintro e w' ⟨rfl,ho⟩
 have hj:fE (bE x) 901=⟨0,some (bJ x)⟩:=rfl
 have l2:(fE (bE x) 901).blk≠none:=by rw[hj];simp
 have mem:Mem cx.N w' (fE []) ⟨fun _=>none,m.O⟩:=⟨fun i B hB=>by simp[fE]at hB,fun i k g hi=>by simp[fE]at hi,fun i g hi=>by simp[fE]at hi,fun i g hi=>by simp[fE]at hi,fun g hg=>⟨Nat.lt_of_lt_of_le (hM.olt g hg).1 ho.size,(hM.olt g hg).2⟩,Nat.le_trans hM.big ho.size⟩
 refine⟨_,⟨fun _=>none,m.O⟩,rfl,⟨.c _,mem,rfl,⟨ho.os,ho.tape,ho.output,ho.size,fun i hi1 hx=>ho.block i hi1 (fun e=>hx ⟨901,l2,by rw[hv,e]⟩)⟩,fun i g hi=>by simp[fE]at hi,fun i hi=>(by cases hi),cx.keep w w' (fun i hi1=>ho.block i (Nat.lt_of_lt_of_le hi1 hM.big) (fun e=>?_)) hg⟩⟩
 have:=hM.low 901 i l2 (by rw[hv,e])
 omega
end Go.Proofs.YtinknhophadbkaaGreatDoor.Am
