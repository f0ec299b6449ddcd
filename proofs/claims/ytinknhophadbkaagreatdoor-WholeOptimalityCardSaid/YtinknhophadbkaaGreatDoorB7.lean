/- stratagemtop.WholeOptimality returns true for every input. No condition beyond the card's own. -/
import Derived.Test.YtinknhophadbkaaGreatDoorB6
import Derived.Test.YtinknhophadbkaaGreatDoorB2
import Derived.Test.YtinknhophadbkaaGreatDoorB3
import Derived.Test.YtinknhophadbkaaGreatDoorB4
import Derived.Test.YtinknhophadbkaaGreatDoorB5
import Derived.Test.YtinknhophadbkaaGreatDoorB1
import Derived.Deep.Slices
import Derived.Deep.Fields
import Derived.ChangeSame
import Derived.SizedLaws
import Derived.Lib.SmallJoins
import Derived.Below
import Derived.OpenShut
import Derived.Carry
import Derived.Test.YtinknhophadbkaaGreatDoorCards
import Derived.Test.YtinknhophadbkaaGreatDoorTie
import Derived.WalkKit
import Derived.ProofKit
import Derived.Deep.DeepHandedRow
import Derived.Lib.LaidTab
import Derived.Lib.ItoaNum
import GoSem.PinnedTables
set_option linter.unusedVariables false
set_option linter.unusedSectionVars false
set_option linter.unusedSimpArgs false
open List renaming getElem?_eq_getElem→gE_, length_map→lM_, length_append→lA_, length_cons→lC_, getElem?_eq_some_iff→gS_, length_nil→lN_, take_of_length_le→tL_
open Option.some renaming inj→sI_
open Bool renaming and_eq_true→bA_
namespace Go.Proofs.YtinknhophadbkaaGreatDoor.Am
open Go.RowKit
theorem bT3 {n m:Nat}(h:Nat.ble n m=true):n≤m:=Nat.le_of_ble_eq_true h
def M_Itoa (n:Int):Option ByteArray:=grd (-9223372036854775808≤n∧n≤9223372036854775807) (some ⟨(Lib.itoa n).toArray⟩)
theorem A_Itoa (n:Int){r:ByteArray}(h:M_Itoa n=some r):ACall cx 33 [.c (.int .i64 n)] (.c (.string r)):=by
 obtain⟨⟨h0,h1⟩,h⟩:=grd_ok h
 obtain rfl:=sI_ h
 refine acall_gl Tryz.func33 rfl (by decide) (fun w O cargs ht hO hs hr=>?_)
 obtain⟨a,rfl⟩:=args1 hs
 obtain rfl:=rv_c (hr 0 _ a rfl rfl)
 refine(Tryz.strconv_Itoa n h0 h1 w ht.1).mono ?_
 rintro e w' ⟨rfl,k,os,rfl⟩
 exact⟨_,rfl,.c _,rfl,rfl,rfl,by show w.heap.size≤(w.heap++os).size;rw[Array.size_append];omega,fun j hj=>by
  show(w.heap++os)[j]?=w.heap[j]?
  exact Array.getElem?_append_left hj⟩
theorem zg_XDFmt {P:Prop}(h:P:=by repeat (first|exact True.intro|exact gb_nil rfl rfl|exact gb_take rfl ⟨rfl,rfl,rfl⟩ List.map_take FrI.h|refine gb_some ⟨rfl,rfl,rfl⟩ ?_|refine And.intro ?_ ?_|refine gw_ren rfl rfl rfl rfl rfl ?_|exact gw_oren rfl rfl rfl rfl rfl|exact gw_opren rfl rfl rfl rfl rfl|exact gw_onil rfl rfl|exact gw_mren rfl rfl rfl rfl|refine gw_pren rfl rfl rfl rfl rfl|exact gw_thaw rfl rfl rfl|refine gw_tup ?_|refine gw_ifc ?_|exact GWL.nil|exact gwll_nil|exact gw_c|exact GW.sl|exact GW.nil|exact gwll_same rfl FrI.h|refine GWL.cons ?_ ?_|refine gwll_cons ?_ ?_|(refine gw_own3 rfl rfl rfl FrI.h ?_ ?_ ?_)|exact GW.fr FrV.h|exact GW.fr (by assumption)|refine gw_agg ?_|refine gw_clo ?_|refine gw_ptr rfl rfl rfl ?_|(refine gw_own rfl rfl rfl ?_ FrI.h ?_ ?_)|assumption|omega|rfl|(rw[lM_,← lA_];assumption)|(refine gwll_same ?_ FrI.h;(simp[cGCertificate,cN,cF,c_u8] <;> fail))|(rw[List.map_set];refine gwll_set (by first|rfl|omega|simp) ?_ ?_)|refine gwll_set (by first|rfl|omega|simp) ?_ ?_|(rw[List.map_replicate];refine gwll_rep ?_)|refine gwll_rep ?_|(rw[List.map_append];refine gwll_append ?_ ?_)|refine gwll_append ?_ ?_|(simp[cGCertificate,cN,cF,c_u8,take_len_map] <;> fail)|(rw[List.drop_zero,tL_] <;> first|rfl|(simp[cGCertificate,cN,cF,c_u8] <;> fail))|(simp;omega)|(simp only[lM_,lA_,List.drop_zero,lC_,lN_,Nat.zero_add,Nat.add_zero]at *;omega))):P:=h
theorem zn_XDFmt {P:Prop}(h:P:=by repeat (first|exact True.intro|rfl|exact bT3 rfl|exact gb_nil rfl rfl|exact gb_take rfl ⟨rfl,rfl,rfl⟩ List.map_take FrI.h|refine gb_some ⟨rfl,rfl,rfl⟩ ?_|refine And.intro ?_ ?_|refine gw_ren rfl rfl rfl rfl rfl ?_|exact gw_oren rfl rfl rfl rfl rfl|exact gw_opren rfl rfl rfl rfl rfl|exact gw_onil rfl rfl|exact gw_mren rfl rfl rfl rfl|refine gw_pren rfl rfl rfl rfl rfl|exact gw_thaw rfl rfl rfl|refine gw_tup ?_|refine gw_ifc ?_|exact GWL.nil|exact gwll_nil|exact gw_c|exact GW.sl|exact GW.nil|exact gwll_same rfl FrI.h|refine GWL.cons ?_ ?_|refine gwll_cons ?_ ?_|(refine gw_own3 rfl rfl rfl FrI.h ?_ ?_ ?_)|exact GW.fr FrV.h|exact GW.fr (by assumption)|refine gw_agg ?_|refine gw_clo ?_|refine gw_ptr rfl rfl rfl ?_|(refine gw_own rfl rfl rfl ?_ FrI.h ?_ ?_)|assumption|omega|rfl|(rw[lM_,← lA_];assumption)|(refine gwll_same ?_ FrI.h;(simp[cGCertificate,cN,cF,c_u8] <;> fail))|(rw[List.map_set];refine gwll_set (by first|rfl|omega|simp) ?_ ?_)|refine gwll_set (by first|rfl|omega|simp) ?_ ?_|(rw[List.map_replicate];refine gwll_rep ?_)|refine gwll_rep ?_|(rw[List.map_append];refine gwll_append ?_ ?_)|refine gwll_append ?_ ?_|(simp[cGCertificate,cN,cF,c_u8,take_len_map] <;> fail)|(rw[List.drop_zero,tL_] <;> first|rfl|(simp[cGCertificate,cN,cF,c_u8] <;> fail))|(simp;omega)|(simp only[lM_,lA_,List.drop_zero,lC_,lN_,Nat.zero_add,Nat.add_zero]at *;omega))):P:=h
theorem ci_XDFmt {p K:Prop}(k:K)(h:p:=by first|rfl|exact⟨rfl,rfl⟩|exact BW.fr FrV.h|(refine BW.fr ?_;assumption)|(refine⟨rfl,?_⟩;(simp[cGCertificate,cN,cF,c_u8,take_len_map];done))|(refine RowK.same ?_ FrI.h;first|rfl|(simp[cGCertificate,cN,cF,c_u8,take_len_map];done))|(refine row_part1 ?_;(repeat (first|exact BWL.nil|exact bwll_nil|exact bw_c|exact BW.sl|exact BW.nil|exact bwll_same rfl FrI.h|refine BWL.cons ?_ ?_|refine bwll_cons ?_ ?_|(refine bw_own3 rfl rfl rfl FrI.h ?_ ?_ ?_)|exact BW.fr FrV.h|exact BW.fr (by assumption)|refine bw_agg ?_|refine bw_clo ?_|refine bw_ptr rfl rfl rfl ?_|(refine bw_own rfl rfl rfl ?_ FrI.h ?_ ?_)|assumption|omega|rfl|(rw[lM_,← lA_];assumption)|(refine bwll_same ?_ FrI.h;(simp[cGCertificate,cN,cF,c_u8] <;> fail))|(rw[List.map_set];refine bwll_set (by first|rfl|omega|simp) ?_ ?_)|refine bwll_set (by first|rfl|omega|simp) ?_ ?_|(rw[List.map_replicate];refine bwll_rep ?_)|refine bwll_rep ?_|(rw[List.map_append];refine bwll_append ?_ ?_)|refine bwll_append ?_ ?_|(simp[cGCertificate,cN,cF,c_u8,take_len_map] <;> fail)|(rw[List.drop_zero,tL_] <;> first|rfl|(simp[cGCertificate,cN,cF,c_u8] <;> fail))|(simp;omega)|(simp only[lM_,lA_,List.drop_zero,lC_,lN_,Nat.zero_add,Nat.add_zero]at *;omega)));done)|((repeat (first|exact BWL.nil|exact bwll_nil|exact bw_c|exact BW.sl|exact BW.nil|exact bwll_same rfl FrI.h|refine BWL.cons ?_ ?_|refine bwll_cons ?_ ?_|(refine bw_own3 rfl rfl rfl FrI.h ?_ ?_ ?_)|exact BW.fr FrV.h|exact BW.fr (by assumption)|refine bw_agg ?_|refine bw_clo ?_|refine bw_ptr rfl rfl rfl ?_|(refine bw_own rfl rfl rfl ?_ FrI.h ?_ ?_)|assumption|omega|rfl|(rw[lM_,← lA_];assumption)|(refine bwll_same ?_ FrI.h;(simp[cGCertificate,cN,cF,c_u8] <;> fail))|(rw[List.map_set];refine bwll_set (by first|rfl|omega|simp) ?_ ?_)|refine bwll_set (by first|rfl|omega|simp) ?_ ?_|(rw[List.map_replicate];refine bwll_rep ?_)|refine bwll_rep ?_|(rw[List.map_append];refine bwll_append ?_ ?_)|refine bwll_append ?_ ?_|(simp[cGCertificate,cN,cF,c_u8,take_len_map] <;> fail)|(rw[List.drop_zero,tL_] <;> first|rfl|(simp[cGCertificate,cN,cF,c_u8] <;> fail))|(simp;omega)|(simp only[lM_,lA_,List.drop_zero,lC_,lN_,Nat.zero_add,Nat.add_zero]at *;omega)));done)|(simp[cGCertificate,cN,cF,c_u8,take_len_map];done)):p∧K:=⟨h,k⟩
theorem ca_XDFmt {P:Prop}(h:P:=by repeat (first|exact True.intro|refine ci_XDFmt ?_)):P:=h
theorem pr_XDFmt {p K:Prop}(k:K)(h:p:=by first|assumption|exact Int.natCast_nonneg _|exact Nat.le_refl _|exact Nat.zero_le _|omega|(simp;done)|(simp;omega)):p∧K:=⟨h,k⟩
theorem dr_XDFmt {b:Bool}{p K:Prop}(k:K)(h:b=true→p:=by intro h;first|(cases h;done)|exact⟨by kernel_rfl,by kernel_rfl⟩):(b=true→p)∧K:=⟨h,k⟩
theorem cl_XDFmt {C:Cx}{n:Nat}{o:Oper}{τ:Nat→AV}{η:Nat→Ent}{f:FuncId}{os:Array Operand}{ats:Array TypeId}{r:AV}{args:List AV}{K:Foot→Prop}(ho:o.op=.call ⟨.value (.func f),os,ats⟩)(hc:ACall C f args r)(k:K ⟨r,[],[]⟩)
  (hd:InB n o.dst:=by exact bT3 rfl) (hargs:os.toList.map (evA τ)=args:=by first|rfl|(simp[cGCertificate,cN,cF,c_u8];done)|(repeat (first|exact rfl|refine cons_eq ?_ ?_|exact sl_dt rfl))) (hfr:frs args:=by repeat (first|exact trivial|exact fr1_eA _|exact fr0_eA _|exact fr1_fr (by assumption)|exact FrV.h|exact fr1_fr FrV.h|refine And.intro ?_ ?_)) (hr:fr1 r:=by repeat (first|exact trivial|exact fr1_eA _|exact fr0_eA _|exact fr1_fr (by assumption)|exact FrV.h|exact fr1_fr FrV.h|refine And.intro ?_ ?_)):∃ f:Foot,LF C n o τ η f∧K f:=⟨_,lf_call ho hd hargs hc hfr hr,k⟩
theorem clg_XDFmt {C:Cx}{n:Nat}{o:Oper}{τ:Nat→AV}{η:Nat→Ent}{f:FuncId}{os:Array Operand}{ats:Array TypeId}{r:AV}{xs ys:List AV}{bs bs':List (Nat×Blk)}{ks:List Nat}{K:Foot→Prop}(ρ:List (Nat×Nat))(fz:List Nat)(go nb:List (Nat×Ent))(r':AV)(ho:o.op=.call ⟨.value (.func f),os,ats⟩)(hargs:os.toList.map (evA τ)=xs)
  (hc:ACallG C f ys bs ks r bs') (k:K ⟨r',go++nb,[]⟩) (hd:InB n o.dst:=by exact bT3 rfl) (hok:okC ρ fz bs ks bs' (idsE go)=true:=by rfl) (hgo:allUs η go:=by repeat (first|exact trivial|refine And.intro rfl ?_)) (hgl:ltUs n go:=by repeat (first|exact trivial|refine And.intro (bT3 rfl) ?_))
  (hw:GWL η (fE bs) (lk ρ) (fun i=>inB fz i=true) (fun i=>inB (keys bs) i=true) xs ys:=by exact zg_XDFmt) (hb:GBL η (fE bs) (lk ρ) (fun i=>inB fz i=true) (fun i=>inB (keys bs) i=true) bs:=by exact zg_XDFmt)
  (hr:GW (fE bs') (updAll η (go++nb)) (lk (backN ρ bs')) (fun _=>False) (fun i=>inB (idsE nb) i=true) r r':=by exact zg_XDFmt)
  (hnb:nbOk n η (updAll η (go++nb)) ρ ks (fE bs') (lk (backN ρ bs')) (fun i=>inB (idsE nb) i=true) bs' nb:=by exact zn_XDFmt):∃ f:Foot,LF C n o τ η f∧K f:=⟨_,lf_callG ρ fz go nb ho hd hargs hc hok hgo hgl hw hb hr hnb,k⟩
theorem clk_XDFmt {C:Cx}{n:Nat}{o:Oper}{τ:Nat→AV}{η:Nat→Ent}{f:FuncId}{os:Array Operand}{ats:Array TypeId}{r:AV}{xs ys:List AV}{bs bs':List (Nat×Blk)}{ks:List Nat}{K:Foot→Prop}(ρ:List (Nat×Nat))(nb:List (Nat×Ent))(r':AV)(ho:o.op=.call ⟨.value (.func f),os,ats⟩)(hargs:os.toList.map (evA τ)=xs)
  (hc:ACallG C f ys bs ks r bs') (k:K ⟨r',[],nb.map (·.1)⟩) (hd:InB n o.dst:=by exact bT3 rfl) (hok:okC ρ [] bs ks bs' (idsE [])=true:=by rfl)
  (hw:GWL η (fE bs) (lk ρ) (fun i=>inB [] i=true) (fun i=>inB (keys bs) i=true) xs ys:=by exact zg_XDFmt) (hb:GBL η (fE bs) (lk ρ) (fun i=>inB [] i=true) (fun i=>inB (keys bs) i=true) bs:=by exact zg_XDFmt)
  (hr:GW (fE bs') (updAll η ([]++nb)) (lk (backN ρ bs')) (fun _=>False) (fun i=>inB (idsE nb) i=true) r r':=by exact zg_XDFmt)
  (hnb:nbOk n η (updAll η ([]++nb)) ρ ks (fE bs') (lk (backN ρ bs')) (fun i=>inB (idsE nb) i=true) bs' nb:=by exact zn_XDFmt) (hs:sameUs η nb:=by repeat (first|exact True.intro|refine And.intro rfl ?_)):∃ f:Foot,LF C n o τ η f∧K f:=⟨_,lf_callK (lf_callG ρ [] [] nb ho hd hargs hc hok True.intro True.intro hw hb hr hnb) hs,k⟩
def M_ce_Format_L1 (y321:Nogood):Nat→Int→ByteArray→Option (ByteArray)|0,_,_=>none|k367+1,v365,v366=>sel (decide (v365<((y321.1.map cF).length:Int))) (ix y321.1 v365 (fun y368=>ob1 (M_Itoa y368.1) (fun z369=>ob1 (M_Itoa y368.2) (fun z370=>ob3 (M_WriteString v366 ((((⟨#[32]⟩:ByteArray)++z369)++(⟨#[61]⟩:ByteArray))++z370)) (fun _ _ c373=>grd ((⟨#[32]⟩:ByteArray).size+z369.size≤9223372036854775807) (grd (((⟨#[32]⟩:ByteArray)++z369).size+(⟨#[61]⟩:ByteArray).size≤9223372036854775807) (grd ((((⟨#[32]⟩:ByteArray)++z369)++(⟨#[61]⟩:ByteArray)).size+z370.size≤9223372036854775807) (M_ce_Format_L1 y321 k367 (IntKind.i64.wrap (v365+1)) c373)))))))) (some v366)
def M_ce_Format_L2 (a0:GCertificate):Nat→Int→ByteArray→Option (ByteArray×Er)|0,_,_=>none|k259+1,v257,v258=>sel (decide (v257<((a0.Nogoods.map cN).length:Int))) (ob1 (ix a0.Nogoods v257 (fun y321=>ob1 (M_Itoa y321.2) (fun z322=>ob3 (M_WriteString v258 (((⟨#[110,111,103,111,111,100,32]⟩:ByteArray)++z322)++(⟨#[58]⟩:ByteArray))) (fun _ _ c325=>grd ((⟨#[110,111,103,111,111,100,32]⟩:ByteArray).size+z322.size≤9223372036854775807) (grd (((⟨#[110,111,103,111,111,100,32]⟩:ByteArray)++z322).size+(⟨#[58]⟩:ByteArray).size≤9223372036854775807) (ob1 (M_ce_Format_L1 y321 ((((y321.1.map cF).length:Int)).toNat+1) 0 c325:Option (ByteArray)) (fun v349=>ob3 (M_WriteString v349 (⟨#[10]⟩:ByteArray)) (fun _ _ c376=>ob1 (M_BuilderLen c376) (fun z377=>sel (decide (z377>65536)) (some (.inr ((⟨#[]⟩:ByteArray),(Er.no 5)))) (some (.inl c376)))))))))):Option (ByteArray⊕(ByteArray×Er))) (osum (fun v317=>M_ce_Format_L2 a0 k259 (IntKind.i64.wrap (v257+1)) v317) (fun(r318,r319)=>some (r318,r319)))) (ob1 (M_BuilderString v258) (fun z378=>some (z378,Er.nil)))
def M_ce_Format (a0:GCertificate):Option (ByteArray×Er):=ob1 (M_ce_Check a0) (fun z1=>erM z1 (ob1 (sel (decide (a0.Bound<0)) (ob3 (M_WriteString (⟨#[]⟩:ByteArray) (⟨#[117,110,115,111,108,118,97,98,108,101,10]⟩:ByteArray)) (fun _ _ c14=>some c14)) (ob1 (M_Itoa a0.Bound) (fun z15=>ob3 (M_WriteString (⟨#[]⟩:ByteArray) (((⟨#[108,111,119,101,114,32]⟩:ByteArray)++z15)++(⟨#[10]⟩:ByteArray))) (fun _ _ c18=>grd ((⟨#[108,111,119,101,114,32]⟩:ByteArray).size+z15.size≤9223372036854775807) (grd (((⟨#[108,111,119,101,114,32]⟩:ByteArray)++z15).size+(⟨#[10]⟩:ByteArray).size≤9223372036854775807) (some c18))))):Option (ByteArray)) (fun v10=>M_ce_Format_L2 a0 ((((a0.Nogoods.map cN).length:Int)).toNat+1) 0 v10)) (fun e2=>some ((⟨#[]⟩:ByteArray),(Er.no e2))))
set_option maxHeartbeats 16000000 in
set_option maxRecDepth 100000 in
theorem A_ce_Format (a0:GCertificate){r1:ByteArray}{r2:Er}(h:M_ce_Format a0=some (r1,r2)):ACall cx 12 [.agg [.c (.int .i64 a0.Bound),.sl 2 (a0.Nogoods.map cN)]] (.tup [.c (.string r1),eA r2]):=by
 refine aOf Tryz.func12 rfl (by decide) rfl (bT3 rfl) ?_;intro _;unfold M_ce_Format at h;refine aSR ?_;intro _;refine dr_XDFmt ?_;refine aSq (aSR ?_);intro _;obtain⟨z1,u1,h⟩:=ob1_ok h;refine cl_XDFmt rfl (A_ce_Check a0 u1) ?_;intro _;refine dr_XDFmt ?_;refine aSq ?_;rcases z1 with _|e2
 ·replace h:=erM_nil h;refine aRg ?_;intro _;refine dr_XDFmt ?_;refine aCd ?_;intro _;refine litF (aSk (aSR ?_));intro _;refine dr_XDFmt ?_;obtain⟨o2,h,hK3⟩:=ob1_ok h;refine awp_cut (α:=ByteArray) (fun v10=>mkS 62 [(1,.ptr 1 0 0 0),(5,.ptr 5 0 0 0)] [(0,⟨5,1,false,(bys v10).map c_u8⟩),(1,⟨35,2,true,[[.c (.int .i64 a0.Bound),.sl 2 (a0.Nogoods.map cN)]]⟩),(5,⟨89,2,true,[[.ptrO 5 0 0 0,.own 0 0 0 ((bys v10).length)]]⟩)]) (fun v=>o2=v) ?_ ?_
  ·skip;refine awp_wk (mkS 62 [(1,.ptr 1 0 0 0),(5,.ptr 5 0 0 0)] [(0,⟨5,1,false,(bys (⟨#[]⟩:ByteArray)).map c_u8⟩),(1,⟨35,2,true,[[.c (.int .i64 a0.Bound),.sl 2 (a0.Nogoods.map cN)]]⟩),(5,⟨89,2,true,[[.ptrO 5 0 0 0,.own 0 0 0 ((bys (⟨#[]⟩:ByteArray)).length)]]⟩)]) ?_ ?_
   ·exact ca_XDFmt
   intro _;refine aSR ?_;intro _;refine dr_XDFmt ?_;refine aCd ?_;intro _;refine spl h (fun c4 h=>?_) (fun c4 h=>?_)
   ·refine aRg ?_;intro _;obtain⟨z12,z13,c14,u5,h⟩:=ob3_ok h;refine clg_XDFmt [(900,5),(901,0)] [] [(0,⟨1,none⟩)] [(5,⟨0,some ⟨89,2,true,[[.ptrO 5 0 0 0,.own 0 2 0 ((bys c14).length)]]⟩⟩),(0,⟨2,some ⟨5,1,false,(bys c14).map c_u8⟩⟩)] (.tup [.c (.int .i64 z12),eA z13]) rfl rfl (A_WriteString (⟨#[]⟩:ByteArray) (⟨#[117,110,115,111,108,118,97,98,108,101,10]⟩:ByteArray) u5) ?_;intro _;refine dr_XDFmt ?_;refine⟨c14,(sI_ h).symm,?_⟩;exact ca_XDFmt
   ·refine aRg ?_;intro _;obtain⟨z15,u6,h⟩:=ob1_ok h;refine cl_XDFmt rfl (A_Itoa a0.Bound u6) ?_;intro _;obtain⟨z16,z17,c18,u7,h⟩:=ob3_ok h;refine clg_XDFmt [(900,5),(901,0)] [] [(0,⟨1,none⟩)] [(5,⟨0,some ⟨89,2,true,[[.ptrO 5 0 0 0,.own 0 2 0 ((bys c18).length)]]⟩⟩),(0,⟨2,some ⟨5,1,false,(bys c18).map c_u8⟩⟩)] (.tup [.c (.int .i64 z16),eA z17]) rfl rfl (A_WriteString (⟨#[]⟩:ByteArray) (((⟨#[108,111,119,101,114,32]⟩:ByteArray)++z15)++(⟨#[10]⟩:ByteArray)) u7) ?_;intro _;obtain⟨q8,h⟩:=grd_ok h;obtain⟨q9,h⟩:=grd_ok h;refine pr_XDFmt ?_;refine pr_XDFmt ?_;refine dr_XDFmt ?_;refine⟨c18,(sI_ h).symm,?_⟩;exact ca_XDFmt
  ·rintro v10 ho;have ho:=ho.symm;subst ho;intro _;replace h:=hK3;refine aSq (aSR ?_);intro _;refine dr_XDFmt ?_;refine aBk ?_;refine awp_loop (α:=Nat×Int×ByteArray) (fun x=>mkS 62 [(5,.ptr 5 0 0 0),(26,.sl 2 (a0.Nogoods.map cN)),(27,.c (.int .i64 ((a0.Nogoods.map cN).length:Int))),(28,.c (.int .i64 x.2.1))] [(0,⟨5,1,false,(bys x.2.2).map c_u8⟩),(5,⟨89,2,true,[[.ptrO 5 0 0 0,.own 0 0 0 ((bys x.2.2).length)]]⟩)]) (fun x=>M_ce_Format_L2 a0 x.1 x.2.1 x.2.2=some (r1,r2)) (fun x=>x.1) ((((a0.Nogoods.map cN).length:Int)).toNat+1,0,v10) h ?_ ?_
   ·exact ca_XDFmt
   ·intro x10 h;intro _;obtain⟨k259,m11,h⟩:=succ_of (f:=fun n=>M_ce_Format_L2 a0 n x10.2.1 x10.2.2) rfl h;replace h:M_ce_Format_L2 a0 (k259+1) x10.2.1 x10.2.2=some (r1,r2):=h;rw[M_ce_Format_L2]at h;refine aSR ?_;intro _;refine dr_XDFmt ?_;refine aSq (aCd ?_);intro _;refine spl h (fun c12 h=>?_) (fun c12 h=>?_)
    ·refine aSk ?_;obtain⟨o13,h,hK14⟩:=ob1_ok h;refine awp_cut (α:=ByteArray) (fun v317=>mkS 62 [(5,.ptr 5 0 0 0),(26,.sl 2 (a0.Nogoods.map cN)),(27,.c (.int .i64 ((a0.Nogoods.map cN).length:Int))),(28,.c (.int .i64 x10.2.1))] [(0,⟨5,1,false,(bys v317).map c_u8⟩),(5,⟨89,2,true,[[.ptrO 5 0 0 0,.own 0 0 0 ((bys v317).length)]]⟩)]) (fun v=>o13=(.inl v)) ?_ ?_
     ·refine aBk (aSR ?_);intro _;obtain⟨y321,w15,q16,h⟩:=ix_ok h;refine Exists.intro (cN y321) (And.intro (map_at' w15) ?_);intro _;refine pr_XDFmt ?_;refine dr_XDFmt ?_;refine aSR ?_;intro _;obtain⟨z322,u17,h⟩:=ob1_ok h;refine cl_XDFmt rfl (A_Itoa y321.2 u17) ?_;intro _;obtain⟨z323,z324,c325,u18,h⟩:=ob3_ok h;refine clg_XDFmt [(900,5),(901,0)] [] [(0,⟨1,none⟩)] [(5,⟨0,some ⟨89,2,true,[[.ptrO 5 0 0 0,.own 0 2 0 ((bys c325).length)]]⟩⟩),(0,⟨2,some ⟨5,1,false,(bys c325).map c_u8⟩⟩)] (.tup [.c (.int .i64 z323),eA z324]) rfl rfl (A_WriteString x10.2.2 (((⟨#[110,111,103,111,111,100,32]⟩:ByteArray)++z322)++(⟨#[58]⟩:ByteArray)) u18) ?_;intro _;obtain⟨q19,h⟩:=grd_ok h;obtain⟨q20,h⟩:=grd_ok h;refine pr_XDFmt ?_;refine pr_XDFmt ?_;refine dr_XDFmt ?_;obtain⟨o21,h,hK22⟩:=ob1_ok h;refine awp_cut (α:=ByteArray) (fun v349=>mkS 62 [(5,.ptr 5 0 0 0),(26,.sl 2 (a0.Nogoods.map cN)),(27,.c (.int .i64 ((a0.Nogoods.map cN).length:Int))),(28,.c (.int .i64 x10.2.1))] [(0,⟨5,1,false,(bys v349).map c_u8⟩),(5,⟨89,2,true,[[.ptrO 5 0 0 0,.own 0 0 0 ((bys v349).length)]]⟩)]) (fun v=>o21=v) ?_ ?_
      ·refine aSR ?_;intro _;refine dr_XDFmt ?_;refine aBk ?_;refine awp_loop (α:=Nat×Int×ByteArray) (fun x=>mkS 62 [(5,.ptr 5 0 0 0),(26,.sl 2 (a0.Nogoods.map cN)),(27,.c (.int .i64 ((a0.Nogoods.map cN).length:Int))),(28,.c (.int .i64 x10.2.1)),(39,.sl 2 (y321.1.map cF)),(40,.c (.int .i64 ((y321.1.map cF).length:Int))),(41,.c (.int .i64 x.2.1))] [(0,⟨5,1,false,(bys x.2.2).map c_u8⟩),(5,⟨89,2,true,[[.ptrO 5 0 0 0,.own 0 0 0 ((bys x.2.2).length)]]⟩)]) (fun x=>M_ce_Format_L1 y321 x.1 x.2.1 x.2.2=some o21) (fun x=>x.1) ((((y321.1.map cF).length:Int)).toNat+1,0,c325) h ?_ ?_
       ·exact ca_XDFmt
       ·intro x23 h;intro _;obtain⟨k367,m24,h⟩:=succ_of (f:=fun n=>M_ce_Format_L1 y321 n x23.2.1 x23.2.2) rfl h;replace h:M_ce_Format_L1 y321 (k367+1) x23.2.1 x23.2.2=some o21:=h;rw[M_ce_Format_L1]at h;refine aSR ?_;intro _;refine dr_XDFmt ?_;refine aSq (aCd ?_);intro _;refine spl h (fun c25 h=>?_) (fun c25 h=>?_)
        ·refine aSk (aSq (aBk (aSR ?_)));intro _;obtain⟨y368,w26,q27,h⟩:=ix_ok h;refine Exists.intro (cF y368) (And.intro (map_at' w26) ?_);intro _;refine pr_XDFmt ?_;refine dr_XDFmt ?_;refine aRg ?_;intro _;obtain⟨z369,u28,h⟩:=ob1_ok h;refine cl_XDFmt rfl (A_Itoa y368.1 u28) ?_;intro _;obtain⟨z370,u29,h⟩:=ob1_ok h;refine cl_XDFmt rfl (A_Itoa y368.2 u29) ?_;intro _;obtain⟨z371,z372,c373,u30,h⟩:=ob3_ok h;refine clg_XDFmt [(900,5),(901,0)] [] [(0,⟨1,none⟩)] [(5,⟨0,some ⟨89,2,true,[[.ptrO 5 0 0 0,.own 0 2 0 ((bys c373).length)]]⟩⟩),(0,⟨2,some ⟨5,1,false,(bys c373).map c_u8⟩⟩)] (.tup [.c (.int .i64 z371),eA z372]) rfl rfl (A_WriteString x23.2.2 ((((⟨#[32]⟩:ByteArray)++z369)++(⟨#[61]⟩:ByteArray))++z370) u30) ?_;intro _;obtain⟨q31,h⟩:=grd_ok h;obtain⟨q32,h⟩:=grd_ok h;obtain⟨q33,h⟩:=grd_ok h;refine pr_XDFmt ?_;refine pr_XDFmt ?_;refine pr_XDFmt ?_;refine dr_XDFmt ?_;refine aRg ?_;intro _;refine dr_XDFmt ?_;refine⟨(k367,(IntKind.i64.wrap (x23.2.1+1)),c373),h,ltS m24,?_⟩;exact ca_XDFmt
        ·refine aEx ?_;refine⟨x23.2.2,(sI_ h).symm,?_⟩;exact ca_XDFmt
      ·rintro v349 ho;have ho:=ho.symm;subst ho;intro _;replace h:=hK22;refine aSR ?_;intro _;obtain⟨z374,z375,c376,u34,h⟩:=ob3_ok h;refine clg_XDFmt [(900,5),(901,0)] [] [(0,⟨1,none⟩)] [(5,⟨0,some ⟨89,2,true,[[.ptrO 5 0 0 0,.own 0 2 0 ((bys c376).length)]]⟩⟩),(0,⟨2,some ⟨5,1,false,(bys c376).map c_u8⟩⟩)] (.tup [.c (.int .i64 z374),eA z375]) rfl rfl (A_WriteString v349 (⟨#[10]⟩:ByteArray) u34) ?_;intro _;refine dr_XDFmt ?_;refine aSR ?_;intro _;obtain⟨z377,u35,h⟩:=ob1_ok h;refine clk_XDFmt [(900,5),(901,0)] [(5,⟨0,some ⟨89,2,true,[[.ptrO 5 0 0 0,.own 0 2 0 ((bys c376).length)]]⟩⟩),(0,⟨2,some ⟨5,1,false,(bys c376).map c_u8⟩⟩)] (.c (.int .i64 z377)) rfl rfl (A_BuilderLen c376 u35) ?_;intro _;refine dr_XDFmt ?_;refine aCd ?_;intro _;refine spl h (fun c36 h=>?_) (fun c36 h=>?_)
       ·refine aSR ?_;intro _;refine dr_XDFmt ?_;refine aRt ?_;have j37:=sI_ h;subst j37;replace h:=(osum_r hK14);intro _;obtain⟨rfl,rfl⟩:=inj2 h;exact ca_XDFmt
       ·refine aSk ?_;refine⟨c376,(sI_ h).symm,?_⟩;exact ca_XDFmt
     ·rintro v317 ho;have ho:=ho.symm;subst ho;intro _;replace h:=(osum_l hK14);refine aRg ?_;intro _;refine dr_XDFmt ?_;refine⟨(k259,(IntKind.i64.wrap (x10.2.1+1)),v317),h,ltS m11,?_⟩;exact ca_XDFmt
    ·refine aEx (aSR ?_);intro _;obtain⟨z378,u38,h⟩:=ob1_ok h;refine clg_XDFmt [(900,5),(901,0)] [] [(0,⟨1,none⟩),(5,⟨1,none⟩)] [] (.c (.string z378)) rfl rfl (A_BuilderString x10.2.2 u38) ?_;intro _;refine dr_XDFmt ?_;refine aRt ?_;intro _;obtain⟨rfl,rfl⟩:=inj2 h;exact ca_XDFmt
 ·replace h:=erM_no h;refine aRg ?_;intro _;refine dr_XDFmt ?_;refine aCd ?_;intro _;refine litT (aSR ?_);intro _;refine dr_XDFmt ?_;refine aRt ?_;intro _;obtain⟨rfl,rfl⟩:=inj2 h;exact ca_XDFmt
def M_cloneI (l:List Int):Option (List Int):=grd (l.length*8≤140737488355328) (some l)
theorem cells_ints {w:World}{vs:Shp}{m:MM}{l:List Int}(k:Nat)(e:List AV)(he:(l.map cI)[k]?=some e):e.length=1∧∀ (j:Nat)(y:AV),e[j]?=some y→Fr y∧∃ u,(l.map (Value.int .i64))[k*1+j]?=some u∧u.oneCell'=true∧RV w vs m y u:=by
 obtain⟨x,hx,rfl⟩:=get_map he
 refine⟨rfl,fun j y hy=>?_⟩
 match j,hy with
 | 0,hy=>simp[cI]at hy;subst hy;exact⟨.c _,_,by rw[Nat.mul_one,Nat.add_zero,List.getElem?_map,hx];rfl,rfl,.c _⟩
 | j+1,hy=>simp[cI]at hy
theorem A_cloneIo (l:List Int){r:List Int}(h:M_cloneI l=some r):ACallG cx 37 [.sl 1 (l.map cI)] [] [] (.own 0 0 0 r.length) [(0,⟨3,1,false,r.map cI⟩)]:=by
 obtain⟨h0,h⟩:=grd_ok h
 obtain rfl:=sI_ h
 refine⟨enter_g Tryz.func37 rfl (by decide),fun w m cargs hg hM hsz hargs=>?_⟩
 obtain⟨v,rfl⟩:=cargs1 hsz
 obtain⟨A,cap,b,off,f,rfl,hA,hcap,_,_,hc,hv,_⟩:=rv_sl (hargs 0 _ v rfl rfl)
 have hlen:(l.map cI).length=l.length:=lM_ _
 have done:∀ (w':World) (v':Value),w'.ownsRow w.heap.size 3 1 v' l.length (l.map (Value.int .i64))→Below w.heap.size w w' →
   ∃ m',GR cx w m [] [] (.own 0 0 0 l.length) [(0,⟨3,1,false,l.map cI⟩)] v' m' w':=fun w' v' ho hb=>by
  have hge:∀ b,v'.ownBlock=some b→w.heap.size≤b:=fun b hb=>by
   rcases ho.2 with⟨rfl,_⟩|⟨g,cap,cur,rfl,hbase,_⟩
   ·cases hb
   ·simp[Value.ownBlock]at hb;omega
  exact⟨_,gr_row (i0:=0) (v:=.slice none 0 0) (row:=none) hM hg (.inl rfl) (own_mono ho (Nat.zero_le _)) ⟨hb.os,hb.tape,hb.output,hb.size,fun b hb' _=>hb.block b hb'⟩ (.inl rfl) (.inr hge) (lM_ _) (fun k e he=>cells_ints k e he)⟩
 have fin:∀ (w':World) (v':Value),w'.ownsRow w.heap.size 3 1 v' l.length (l.map (Value.int .i64))→Below w.heap.size w w'→_:=fun w' v' ho hb=>(done w' v' ho hb)
 by_cases hl:l=[]
 ·subst hl
  cases A with
  | none =>
   refine(Tryz.slices_Clone_int_nil _ cap w).mono ?_
   rintro e w' ⟨rfl,rfl⟩
   obtain⟨m',hm'⟩:=done w' (.slice none 0 0) ⟨rfl,.inl ⟨rfl,rfl⟩⟩ (Below.refl _ _)
   exact⟨_,m',rfl,hm'⟩
  | some a =>
   refine(Tryz.slices_Clone_int_zero a cap w).mono ?_
   rintro e w' ⟨v',rfl,ho,_,hb⟩
   obtain⟨m',hm'⟩:=done w' v' ho hb
   exact⟨_,m',rfl,hm'⟩
 ·obtain⟨rfl,_,_⟩:=hA (by simpa using hl)
  rw[hlen]
  refine(Tryz.slices_Clone_int b off l.length cap l w (Nat.le_refl _) h0 (fun j hj=>?_)).mono ?_
  ·have hx:=gE_ hj
   have:=(hc j 0 _ _ (map_at' hx) rfl).1
   rw[rv_c (hv j 0 _ _ (map_at' hx) rfl)]at this
   simpa [List.getD_eq_getElem?_getD,hx] using this
  ·rintro e w' ⟨v',rfl,ho,_,hb⟩
   rw[tL_ (Nat.le_refl _)]at ho
   obtain⟨m',hm'⟩:=done w' v' ho hb
   exact⟨_,m',rfl,hm'⟩
end Go.Proofs.YtinknhophadbkaaGreatDoor.Am
namespace Go.Proofs.YtinknhophadbkaaGreatDoor.Am
set_option maxHeartbeats 16000000
set_option maxRecDepth 100000
open Go.RowKit
theorem zg_XDSol {P:Prop}(h:P:=by repeat (first|exact True.intro|exact gb_nil rfl rfl|exact gb_take rfl ⟨rfl,rfl,rfl⟩ List.map_take FrI.h|refine gb_some ⟨rfl,rfl,rfl⟩ ?_|refine And.intro ?_ ?_|refine gw_ren rfl rfl rfl rfl rfl ?_|exact gw_oren rfl rfl rfl rfl rfl|exact gw_opren rfl rfl rfl rfl rfl|exact gw_onil rfl rfl|exact gw_mren rfl rfl rfl rfl|refine gw_pren rfl rfl rfl rfl rfl|exact gw_thaw rfl rfl rfl|refine gw_tup ?_|refine gw_ifc ?_|exact GWL.nil|exact gwll_nil|exact gw_c|exact GW.sl|exact GW.nil|exact gwll_same rfl FrI.h|refine GWL.cons ?_ ?_|refine gwll_cons ?_ ?_|(refine gw_own3 rfl rfl rfl FrI.h ?_ ?_ ?_)|exact GW.fr FrV.h|exact GW.fr (by assumption)|refine gw_agg ?_|refine gw_clo ?_|refine gw_ptr rfl rfl rfl ?_|(refine gw_own rfl rfl rfl ?_ FrI.h ?_ ?_)|assumption|omega|rfl|(rw[lM_,← lA_];assumption)|(refine gwll_same ?_ FrI.h;(simp[cGTask,cI,cF,cGOp,cGEffect] <;> fail))|(rw[List.map_set];refine gwll_set (by first|rfl|omega|simp) ?_ ?_)|refine gwll_set (by first|rfl|omega|simp) ?_ ?_|(rw[List.map_replicate];refine gwll_rep ?_)|refine gwll_rep ?_|(rw[List.map_append];refine gwll_append ?_ ?_)|refine gwll_append ?_ ?_|(simp[cGTask,cI,cF,cGOp,cGEffect,take_len_map] <;> fail)|(rw[List.drop_zero,tL_] <;> first|rfl|(simp[cGTask,cI,cF,cGOp,cGEffect] <;> fail))|(simp;omega)|(simp only[lM_,lA_,List.drop_zero,lC_,lN_,Nat.zero_add,Nat.add_zero]at *;omega))):P:=h
theorem ci_XDSol {p K:Prop}(k:K)(h:p:=by first|rfl|exact⟨rfl,rfl⟩|exact BW.fr FrV.h|(refine BW.fr ?_;assumption)|(refine⟨rfl,?_⟩;(simp[cGTask,cI,cF,cGOp,cGEffect,take_len_map];done))|(refine RowK.same ?_ FrI.h;first|rfl|(simp[cGTask,cI,cF,cGOp,cGEffect,take_len_map];done))|(refine row_part1 ?_;(repeat (first|exact BWL.nil|exact bwll_nil|exact bw_c|exact BW.sl|exact BW.nil|exact bwll_same rfl FrI.h|refine BWL.cons ?_ ?_|refine bwll_cons ?_ ?_|(refine bw_own3 rfl rfl rfl FrI.h ?_ ?_ ?_)|exact BW.fr FrV.h|exact BW.fr (by assumption)|refine bw_agg ?_|refine bw_clo ?_|refine bw_ptr rfl rfl rfl ?_|(refine bw_own rfl rfl rfl ?_ FrI.h ?_ ?_)|assumption|omega|rfl|(rw[lM_,← lA_];assumption)|(refine bwll_same ?_ FrI.h;(simp[cGTask,cI,cF,cGOp,cGEffect] <;> fail))|(rw[List.map_set];refine bwll_set (by first|rfl|omega|simp) ?_ ?_)|refine bwll_set (by first|rfl|omega|simp) ?_ ?_|(rw[List.map_replicate];refine bwll_rep ?_)|refine bwll_rep ?_|(rw[List.map_append];refine bwll_append ?_ ?_)|refine bwll_append ?_ ?_|(simp[cGTask,cI,cF,cGOp,cGEffect,take_len_map] <;> fail)|(rw[List.drop_zero,tL_] <;> first|rfl|(simp[cGTask,cI,cF,cGOp,cGEffect] <;> fail))|(simp;omega)|(simp only[lM_,lA_,List.drop_zero,lC_,lN_,Nat.zero_add,Nat.add_zero]at *;omega)));done)|((repeat (first|exact BWL.nil|exact bwll_nil|exact bw_c|exact BW.sl|exact BW.nil|exact bwll_same rfl FrI.h|refine BWL.cons ?_ ?_|refine bwll_cons ?_ ?_|(refine bw_own3 rfl rfl rfl FrI.h ?_ ?_ ?_)|exact BW.fr FrV.h|exact BW.fr (by assumption)|refine bw_agg ?_|refine bw_clo ?_|refine bw_ptr rfl rfl rfl ?_|(refine bw_own rfl rfl rfl ?_ FrI.h ?_ ?_)|assumption|omega|rfl|(rw[lM_,← lA_];assumption)|(refine bwll_same ?_ FrI.h;(simp[cGTask,cI,cF,cGOp,cGEffect] <;> fail))|(rw[List.map_set];refine bwll_set (by first|rfl|omega|simp) ?_ ?_)|refine bwll_set (by first|rfl|omega|simp) ?_ ?_|(rw[List.map_replicate];refine bwll_rep ?_)|refine bwll_rep ?_|(rw[List.map_append];refine bwll_append ?_ ?_)|refine bwll_append ?_ ?_|(simp[cGTask,cI,cF,cGOp,cGEffect,take_len_map] <;> fail)|(rw[List.drop_zero,tL_] <;> first|rfl|(simp[cGTask,cI,cF,cGOp,cGEffect] <;> fail))|(simp;omega)|(simp only[lM_,lA_,List.drop_zero,lC_,lN_,Nat.zero_add,Nat.add_zero]at *;omega)));done)|(simp[cGTask,cI,cF,cGOp,cGEffect,take_len_map];done)):p∧K:=⟨h,k⟩
theorem ca_XDSol {P:Prop}(h:P:=by repeat (first|exact True.intro|refine ci_XDSol ?_)):P:=h
theorem pr_XDSol {p K:Prop}(k:K)(h:p:=by first|assumption|exact Int.natCast_nonneg _|exact Nat.le_refl _|exact Nat.zero_le _|omega|(simp;done)|(simp;omega)):p∧K:=⟨h,k⟩
theorem dr_XDSol {b:Bool}{p K:Prop}(k:K)(h:b=true→p:=by intro h;first|(cases h;done)|exact⟨by kernel_rfl,by kernel_rfl⟩):(b=true→p)∧K:=⟨h,k⟩
theorem cl_XDSol {C:Cx}{n:Nat}{o:Oper}{τ:Nat→AV}{η:Nat→Ent}{f:FuncId}{os:Array Operand}{ats:Array TypeId}{r:AV}{args:List AV}{K:Foot→Prop}(ho:o.op=.call ⟨.value (.func f),os,ats⟩)(hc:ACall C f args r)(k:K ⟨r,[],[]⟩)
  (hd:InB n o.dst:=by exact bT3 rfl) (hargs:os.toList.map (evA τ)=args:=by first|rfl|(simp[cGTask,cI,cF,cGOp,cGEffect];done)|(repeat (first|exact rfl|refine cons_eq ?_ ?_|exact sl_dt rfl))) (hfr:frs args:=by repeat (first|exact trivial|exact fr1_eA _|exact fr0_eA _|exact fr1_fr (by assumption)|exact FrV.h|exact fr1_fr FrV.h|refine And.intro ?_ ?_)) (hr:fr1 r:=by repeat (first|exact trivial|exact fr1_eA _|exact fr0_eA _|exact fr1_fr (by assumption)|exact FrV.h|exact fr1_fr FrV.h|refine And.intro ?_ ?_)):∃ f:Foot,LF C n o τ η f∧K f:=⟨_,lf_call ho hd hargs hc hfr hr,k⟩
theorem clg_XDSol {C:Cx}{n:Nat}{o:Oper}{τ:Nat→AV}{η:Nat→Ent}{f:FuncId}{os:Array Operand}{ats:Array TypeId}{r:AV}{xs ys:List AV}{bs bs':List (Nat×Blk)}{ks:List Nat}{K:Foot→Prop}(ρ:List (Nat×Nat))(fz:List Nat)(go nb:List (Nat×Ent))(r':AV)(ho:o.op=.call ⟨.value (.func f),os,ats⟩)(hargs:os.toList.map (evA τ)=xs)
  (hc:ACallG C f ys bs ks r bs') (k:K ⟨r',go++nb,[]⟩) (hd:InB n o.dst:=by exact bT3 rfl) (hok:okC ρ fz bs ks bs' (idsE go)=true:=by rfl) (hgo:allUs η go:=by repeat (first|exact trivial|refine And.intro rfl ?_)) (hgl:ltUs n go:=by repeat (first|exact trivial|refine And.intro (bT3 rfl) ?_))
  (hw:GWL η (fE bs) (lk ρ) (fun i=>inB fz i=true) (fun i=>inB (keys bs) i=true) xs ys:=by exact zg_XDSol) (hb:GBL η (fE bs) (lk ρ) (fun i=>inB fz i=true) (fun i=>inB (keys bs) i=true) bs:=by exact zg_XDSol)
  (hr:GW (fE bs') (updAll η (go++nb)) (lk (backN ρ bs')) (fun _=>False) (fun i=>inB (idsE nb) i=true) r r':=by exact zg_XDSol)
  (hnb:nbOk n η (updAll η (go++nb)) ρ ks (fE bs') (lk (backN ρ bs')) (fun i=>inB (idsE nb) i=true) bs' nb:=by repeat (first|exact True.intro|rfl|exact bT3 rfl|exact gb_nil rfl rfl|exact gb_take rfl ⟨rfl,rfl,rfl⟩ List.map_take FrI.h|refine gb_some ⟨rfl,rfl,rfl⟩ ?_|refine And.intro ?_ ?_|refine gw_ren rfl rfl rfl rfl rfl ?_|exact gw_oren rfl rfl rfl rfl rfl|exact gw_opren rfl rfl rfl rfl rfl|exact gw_onil rfl rfl|exact gw_mren rfl rfl rfl rfl|refine gw_pren rfl rfl rfl rfl rfl|exact gw_thaw rfl rfl rfl|refine gw_tup ?_|refine gw_ifc ?_|exact GWL.nil|exact gwll_nil|exact gw_c|exact GW.sl|exact GW.nil|exact gwll_same rfl FrI.h|refine GWL.cons ?_ ?_|refine gwll_cons ?_ ?_|(refine gw_own3 rfl rfl rfl FrI.h ?_ ?_ ?_)|exact GW.fr FrV.h|exact GW.fr (by assumption)|refine gw_agg ?_|refine gw_clo ?_|refine gw_ptr rfl rfl rfl ?_|(refine gw_own rfl rfl rfl ?_ FrI.h ?_ ?_)|assumption|omega|rfl|(rw[lM_,← lA_];assumption)|(refine gwll_same ?_ FrI.h;(simp[cGTask,cI,cF,cGOp,cGEffect] <;> fail))|(rw[List.map_set];refine gwll_set (by first|rfl|omega|simp) ?_ ?_)|refine gwll_set (by first|rfl|omega|simp) ?_ ?_|(rw[List.map_replicate];refine gwll_rep ?_)|refine gwll_rep ?_|(rw[List.map_append];refine gwll_append ?_ ?_)|refine gwll_append ?_ ?_|(simp[cGTask,cI,cF,cGOp,cGEffect,take_len_map] <;> fail)|(rw[List.drop_zero,tL_] <;> first|rfl|(simp[cGTask,cI,cF,cGOp,cGEffect] <;> fail))|(simp;omega)|(simp only[lM_,lA_,List.drop_zero,lC_,lN_,Nat.zero_add,Nat.add_zero]at *;omega))):∃ f:Foot,LF C n o τ η f∧K f:=⟨_,lf_callG ρ fz go nb ho hd hargs hc hok hgo hgl hw hb hr hnb,k⟩
def M_task_apply_L1 (a1:List Int)(y15:GOp):Nat→Int→(List Int)→Option ((List Int)×Er)|0,_,_=>none|k26+1,v24,v25=>sel (decide (v24<((y15.Effs.map cGEffect).length:Int))) (ix y15.Effs v24 (fun y27=>ob1 (M_task_Holds y27.When a1) (fun z28=>sel z28 (ixn v25 ((y27.Var).toNat) (fun _=>grd (0≤y27.Var) (grd (y27.Var<((v25.length:Nat):Int)) (M_task_apply_L1 a1 y15 k26 (IntKind.i64.wrap (v24+1)) (v25.set ((y27.Var).toNat) y27.Val))))) (M_task_apply_L1 a1 y15 k26 (IntKind.i64.wrap (v24+1)) v25)))) (grd (v25.length≤140737488355328) (some (v25,Er.nil)))
def M_task_apply (a0:GTask)(a1:List Int)(a2:Int):Option ((List Int)×Er):=ob1 (ob1 (sel (decide (a2<0)) (some true) (some (decide (a2≥((a0.Ops.map cGOp).length:Int)))):Option (Bool)) (fun v9=>sel v9 (some (.inr ([],(Er.no 1)))) (ob1 (M_task_Proper a0.Vars a1) (fun z11=>sel (!z11) (some (.inr ([],(Er.no 2)))) (ix a0.Ops a2 (fun y12=>ob1 (M_task_Holds y12.Pre a1) (fun z13=>sel (!z13) (some (.inr ([],(Er.no 12)))) (some (.inl ())))))))):Option (Unit⊕((List Int)×Er))) (osum (fun _=>ob1 (M_cloneI a1) (fun z14=>ix a0.Ops a2 (fun y15=>M_task_apply_L1 a1 y15 ((((y15.Effs.map cGEffect).length:Int)).toNat+1) 0 z14))) (fun(r6,r7)=>some (r6,r7)))
theorem A_task_apply (a0:GTask)(a1:List Int)(a2:Int){r1:List Int}{r2:Er}(h:M_task_apply a0 a1 a2=some (r1,r2)):ACall cx 38 [.agg [.sl 1 (a0.Vars.map cI),.sl 1 (a0.Init.map cI),.sl 2 (a0.Goal.map cF),.sl 4 (a0.Ops.map cGOp)],.sl 1 (a1.map cI),.c (.int .i64 a2)] (.tup [.sl 1 (r1.map cI),eA r2]):=by
 refine aOf Tryz.func38 rfl (by decide) rfl (bT3 rfl) ?_;intro _;unfold M_task_apply at h;refine aSR ?_;intro _;refine dr_XDSol ?_;obtain⟨o1,h,hK2⟩:=ob1_ok h;refine awp_cut (α:=Unit) (fun _=>mkS 65 [(1,.sl 1 (a1.map cI)),(2,.c (.int .i64 a2)),(3,.ptr 3 0 0 0)] [(3,⟨26,4,true,[[.sl 1 (a0.Vars.map cI),.sl 1 (a0.Init.map cI),.sl 2 (a0.Goal.map cF),.sl 4 (a0.Ops.map cGOp)]]⟩)]) (fun v=>o1=(.inl v)) ?_ ?_
 ·refine aBk ?_;obtain⟨o3,h,hK4⟩:=ob1_ok h;refine awp_cut (α:=Bool) (fun v9=>mkS 65 [(1,.sl 1 (a1.map cI)),(2,.c (.int .i64 a2)),(3,.ptr 3 0 0 0),(11,.c (.bool v9))] [(3,⟨26,4,true,[[.sl 1 (a0.Vars.map cI),.sl 1 (a0.Init.map cI),.sl 2 (a0.Goal.map cF),.sl 4 (a0.Ops.map cGOp)]]⟩)]) (fun v=>o3=v) ?_ ?_
  ·refine aRg ?_;intro _;refine spf h (fun c5 h=>?_) (fun c5 h=>?_)
   ·intro _;refine dr_XDSol ?_;refine⟨(decide (a2≥((a0.Ops.map cGOp).length:Int))),(sI_ h).symm,?_⟩;exact ca_XDSol
   ·intro _;refine dr_XDSol ?_;refine⟨true,(sI_ h).symm,?_⟩;exact ca_XDSol
  ·rintro v9 ho;have ho:=ho.symm;subst ho;intro _;replace h:=hK4;refine aCd ?_;intro _;refine spl h (fun c6 h=>?_) (fun c6 h=>?_)
   ·refine aSR ?_;intro _;refine dr_XDSol ?_;refine aRt ?_;have j7:=sI_ h;subst j7;replace h:=(osum_r hK2);intro _;obtain⟨rfl,rfl⟩:=inj2 h;exact ca_XDSol
   ·refine aSR ?_;intro _;obtain⟨z11,u8,h⟩:=ob1_ok h;refine cl_XDSol rfl (A_task_Proper a0.Vars a1 u8) ?_;intro _;refine dr_XDSol ?_;refine aCd ?_;intro _;refine spl h (fun c9 h=>?_) (fun c9 h=>?_)
    ·refine aSR ?_;intro _;refine dr_XDSol ?_;refine aRt ?_;have j10:=sI_ h;subst j10;replace h:=(osum_r hK2);intro _;obtain⟨rfl,rfl⟩:=inj2 h;exact ca_XDSol
    ·refine aSR ?_;intro _;obtain⟨y12,w11,q12,h⟩:=ix_ok h;refine Exists.intro (cGOp y12) (And.intro (map_at' w11) ?_);intro _;obtain⟨z13,u13,h⟩:=ob1_ok h;refine cl_XDSol rfl (A_task_Holds y12.Pre a1 u13) ?_;intro _;refine pr_XDSol ?_;refine dr_XDSol ?_;refine aCd ?_;intro _;refine spl h (fun c14 h=>?_) (fun c14 h=>?_)
     ·refine aSR ?_;intro _;refine dr_XDSol ?_;refine aRt ?_;have j15:=sI_ h;subst j15;replace h:=(osum_r hK2);intro _;obtain⟨rfl,rfl⟩:=inj2 h;exact ca_XDSol
     ·refine aSk ?_;refine⟨(),(sI_ h).symm,?_⟩;exact ca_XDSol
 ·rintro _ ho;have ho:=ho.symm;subst ho;intro _;replace h:=(osum_l hK2);refine aSR ?_;intro _;obtain⟨z14,u16,h⟩:=ob1_ok h;refine clg_XDSol [(0,41)] [] [] [(41,⟨2,some ⟨3,1,false,z14.map cI⟩⟩)] (.own 41 2 0 z14.length) rfl rfl (A_cloneIo a1 u16) ?_;intro _;refine dr_XDSol ?_;refine aSq (aSR ?_);intro _;obtain⟨y15,w17,q18,h⟩:=ix_ok h;refine Exists.intro (cGOp y15) (And.intro (map_at' w17) ?_);intro _;refine pr_XDSol ?_;refine dr_XDSol ?_;refine aBk ?_;refine awp_loop (α:=Nat×Int×(List Int)) (fun x=>mkS 65 [(1,.sl 1 (a1.map cI)),(8,.own 41 0 0 x.2.2.length),(47,.sl 3 (y15.Effs.map cGEffect)),(48,.c (.int .i64 ((y15.Effs.map cGEffect).length:Int))),(49,.c (.int .i64 x.2.1))] [(41,⟨3,1,false,x.2.2.map cI⟩)]) (fun x=>M_task_apply_L1 a1 y15 x.1 x.2.1 x.2.2=some (r1,r2)) (fun x=>x.1) ((((y15.Effs.map cGEffect).length:Int)).toNat+1,0,z14) h ?_ ?_
  ·exact ca_XDSol
  ·intro x19 h;intro _;obtain⟨k26,m20,h⟩:=succ_of (f:=fun n=>M_task_apply_L1 a1 y15 n x19.2.1 x19.2.2) rfl h;replace h:M_task_apply_L1 a1 y15 (k26+1) x19.2.1 x19.2.2=some (r1,r2):=h;rw[M_task_apply_L1]at h;refine aSR ?_;intro _;refine dr_XDSol ?_;refine aSq (aCd ?_);intro _;refine spl h (fun c21 h=>?_) (fun c21 h=>?_)
   ·refine aSk (aSq (aBk (aSR ?_)));intro _;obtain⟨y27,w22,q23,h⟩:=ix_ok h;refine Exists.intro (cGEffect y27) (And.intro (map_at' w22) ?_);intro _;refine pr_XDSol ?_;refine dr_XDSol ?_;refine aSR ?_;intro _;obtain⟨z28,u24,h⟩:=ob1_ok h;refine cl_XDSol rfl (A_task_Holds y27.When a1 u24) ?_;intro _;refine dr_XDSol ?_;refine aCd ?_;intro _;refine spl h (fun c25 h=>?_) (fun c25 h=>?_)
    ·refine aRg ?_;intro _;obtain⟨y29,w26,h⟩:=ixn_ok h;refine Exists.intro (cI y29) (And.intro (by first|exact map_at' w26|(have w:=map_at' (f:=cI) w26;simpa [cI,Value.cells] using w)) ?_);intro _;obtain⟨q27,h⟩:=grd_ok h;obtain⟨q28,h⟩:=grd_ok h;refine pr_XDSol ?_;refine pr_XDSol ?_;refine dr_XDSol ?_;refine aRg ?_;intro _;refine dr_XDSol ?_;refine⟨(k26,(IntKind.i64.wrap (x19.2.1+1)),(x19.2.2.set ((y27.Var).toNat) y27.Val)),h,ltS m20,?_⟩;exact ca_XDSol
    ·refine aSk (aRg ?_);intro _;refine dr_XDSol ?_;refine⟨(k26,(IntKind.i64.wrap (x19.2.1+1)),x19.2.2),h,ltS m20,?_⟩;exact ca_XDSol
   ·refine aEx (aSR ?_);intro _;refine dr_XDSol ?_;refine aRt ?_;obtain⟨q29,h⟩:=grd_ok h;intro _;obtain⟨rfl,rfl⟩:=inj2 h;exact ca_XDSol
def M_task_Run_L1 (a0:GTask)(a2:List Int):Nat→(List Int)→Int→Int→Option ((List Int)×Int×Er)|0,_,_,_=>none|k21+1,v18,v19,v20=>sel (decide (v20<((a2.map cI).length:Int))) (ix a2 v20 (fun y22=>ob2 (M_task_apply a0 v18 y22) (fun z23 z24=>erM z24 (ix a0.Ops y22 (fun y26=>M_task_Run_L1 a0 a2 k21 z23 (IntKind.i64.wrap (v19+y26.Cost)) (IntKind.i64.wrap (v20+1)))) (fun e25=>some ([],0,(Er.no e25)))))) (some (v18,v19,Er.nil))
def M_task_Run (a0:GTask)(a1:List Int)(a2:List Int):Option ((List Int)×Int×Er):=ob1 (M_task_Check a0) (fun z1=>erM z1 (ob1 (M_task_Proper a0.Vars a1) (fun z3=>sel (!z3) (some ([],0,(Er.no 2))) (sel (decide (((a2.map cI).length:Int)>65536)) (some ([],0,(Er.no 5))) (ob1 (M_cloneI a1) (fun z4=>grd (z4.length≤140737488355328) (M_task_Run_L1 a0 a2 ((((a2.map cI).length:Int)).toNat+1) z4 0 0)))))) (fun e2=>some ([],0,(Er.no e2))))
theorem A_task_Run (a0:GTask)(a1:List Int)(a2:List Int){r1:List Int}{r2:Int}{r3:Er}(h:M_task_Run a0 a1 a2=some (r1,r2,r3)):ACall cx 13 [.agg [.sl 1 (a0.Vars.map cI),.sl 1 (a0.Init.map cI),.sl 2 (a0.Goal.map cF),.sl 4 (a0.Ops.map cGOp)],.sl 1 (a1.map cI),.sl 1 (a2.map cI)] (.tup [.sl 1 (r1.map cI),.c (.int .i64 r2),eA r3]):=by
 refine aOf Tryz.func13 rfl (by decide) rfl (bT3 rfl) ?_;intro _;unfold M_task_Run at h;refine aSR ?_;intro _;refine dr_XDSol ?_;refine aSq (aSR ?_);intro _;obtain⟨z1,u1,h⟩:=ob1_ok h;refine cl_XDSol rfl (A_task_Check a0 u1) ?_;intro _;refine dr_XDSol ?_;refine aSq ?_;rcases z1 with _|e2
 ·replace h:=erM_nil h;refine aRg ?_;intro _;refine dr_XDSol ?_;refine aCd ?_;intro _;refine litF (aSk (aSq (aSR ?_)));intro _;obtain⟨z3,u2,h⟩:=ob1_ok h;refine cl_XDSol rfl (A_task_Proper a0.Vars a1 u2) ?_;intro _;refine dr_XDSol ?_;refine aCd ?_;intro _;refine spl h (fun c3 h=>?_) (fun c3 h=>?_)
  ·refine aSR ?_;intro _;refine dr_XDSol ?_;refine aRt ?_;intro _;obtain⟨rfl,rfl,rfl⟩:=inj3 h;exact ca_XDSol
  ·refine aSk (aSq (aSR ?_));intro _;refine dr_XDSol ?_;refine aCd ?_;intro _;refine spl h (fun c4 h=>?_) (fun c4 h=>?_)
   ·refine aSR ?_;intro _;refine dr_XDSol ?_;refine aRt ?_;intro _;obtain⟨rfl,rfl,rfl⟩:=inj3 h;exact ca_XDSol
   ·refine aSk (aSR ?_);intro _;refine dr_XDSol ?_;refine aSR ?_;intro _;obtain⟨z4,u5,h⟩:=ob1_ok h;refine clg_XDSol [(0,31)] [] [] [(31,⟨2,some ⟨3,1,false,z4.map cI⟩⟩)] (.own 31 2 0 z4.length) rfl rfl (A_cloneIo a1 u5) ?_;intro _;refine dr_XDSol ?_;refine aSq (aSR ?_);intro _;refine dr_XDSol ?_;refine aBk ?_;obtain⟨q6,h⟩:=grd_ok h;refine awp_loop (α:=Nat×(List Int)×Int×Int) (fun x=>mkS 60 [(1,.sl 1 (x.2.1.map cI)),(3,.ptr 3 0 0 0),(10,.c (.int .i64 x.2.2.1)),(32,.sl 1 (a2.map cI)),(33,.c (.int .i64 ((a2.map cI).length:Int))),(34,.c (.int .i64 x.2.2.2))] [(3,⟨26,4,true,[[.sl 1 (a0.Vars.map cI),.sl 1 (a0.Init.map cI),.sl 2 (a0.Goal.map cF),.sl 4 (a0.Ops.map cGOp)]]⟩)]) (fun x=>M_task_Run_L1 a0 a2 x.1 x.2.1 x.2.2.1 x.2.2.2=some (r1,r2,r3)) (fun x=>x.1) ((((a2.map cI).length:Int)).toNat+1,z4,0,0) h ?_ ?_
    ·exact ca_XDSol
    ·intro x7 h;intro _;obtain⟨k21,m8,h⟩:=succ_of (f:=fun n=>M_task_Run_L1 a0 a2 n x7.2.1 x7.2.2.1 x7.2.2.2) rfl h;replace h:M_task_Run_L1 a0 a2 (k21+1) x7.2.1 x7.2.2.1 x7.2.2.2=some (r1,r2,r3):=h;rw[M_task_Run_L1]at h;refine aSR ?_;intro _;refine dr_XDSol ?_;refine aSq (aCd ?_);intro _;refine spl h (fun c9 h=>?_) (fun c9 h=>?_)
     ·refine aSk (aSq (aBk (aSR ?_)));intro _;obtain⟨y22,w10,q11,h⟩:=ix_ok h;refine Exists.intro (cI y22) (And.intro (map_at' w10) ?_);intro _;refine pr_XDSol ?_;refine dr_XDSol ?_;refine aSR ?_;intro _;obtain⟨z23,z24,u12,h⟩:=ob2_ok h;refine cl_XDSol rfl (A_task_apply a0 x7.2.1 y22 u12) ?_;intro _;refine dr_XDSol ?_;refine aSq (aSq ?_);rcases z24 with _|e25
      ·replace h:=erM_nil h;refine aRg ?_;intro _;refine dr_XDSol ?_;refine aCd ?_;intro _;refine litF (aSk (aRg ?_));intro _;obtain⟨y26,w13,q14,h⟩:=ix_ok h;refine Exists.intro (cGOp y26) (And.intro (map_at' w13) ?_);intro _;refine pr_XDSol ?_;refine dr_XDSol ?_;refine aRg ?_;intro _;refine dr_XDSol ?_;refine⟨(k21,z23,(IntKind.i64.wrap (x7.2.2.1+y26.Cost)),(IntKind.i64.wrap (x7.2.2.2+1))),h,ltS m8,?_⟩;exact ca_XDSol
      ·replace h:=erM_no h;refine aRg ?_;intro _;refine dr_XDSol ?_;refine aCd ?_;intro _;refine litT (aSR ?_);intro _;refine dr_XDSol ?_;refine aRt ?_;intro _;obtain⟨rfl,rfl,rfl⟩:=inj3 h;exact ca_XDSol
     ·refine aEx (aSR ?_);intro _;refine dr_XDSol ?_;refine aRt ?_;intro _;obtain⟨rfl,rfl,rfl⟩:=inj3 h;exact ca_XDSol
 ·replace h:=erM_no h;refine aRg ?_;intro _;refine dr_XDSol ?_;refine aCd ?_;intro _;refine litT (aSR ?_);intro _;refine dr_XDSol ?_;refine aRt ?_;intro _;obtain⟨rfl,rfl,rfl⟩:=inj3 h;exact ca_XDSol
def M_task_Solves (a0:GTask)(a1:List Int):Option (Int×Er):=ob3 (M_task_Run a0 a0.Init a1) (fun z1 z2 z3=>erM z3 (ob1 (M_task_Holds a0.Goal z1) (fun z5=>sel (!z5) (some (0,(Er.no 13))) (some (z2,Er.nil)))) (fun e4=>some (0,(Er.no e4))))
theorem A_task_Solves (a0:GTask)(a1:List Int){r1:Int}{r2:Er}(h:M_task_Solves a0 a1=some (r1,r2)):ACall cx 6 [.agg [.sl 1 (a0.Vars.map cI),.sl 1 (a0.Init.map cI),.sl 2 (a0.Goal.map cF),.sl 4 (a0.Ops.map cGOp)],.sl 1 (a1.map cI)] (.tup [.c (.int .i64 r1),eA r2]):=by
 refine aOf Tryz.func6 rfl (by decide) rfl (bT3 rfl) ?_;intro _;unfold M_task_Solves at h;refine aSR ?_;intro _;refine dr_XDSol ?_;refine aSR ?_;intro _;obtain⟨z1,z2,z3,u1,h⟩:=ob3_ok h;refine cl_XDSol rfl (A_task_Run a0 a0.Init a1 u1) ?_;intro _;refine dr_XDSol ?_;refine aSq (aSq ?_);rcases z3 with _|e4
 ·replace h:=erM_nil h;refine aRg ?_;intro _;refine dr_XDSol ?_;refine aCd ?_;intro _;refine litF (aSk (aSq (aSR ?_)));intro _;obtain⟨z5,u2,h⟩:=ob1_ok h;refine cl_XDSol rfl (A_task_Holds a0.Goal z1 u2) ?_;intro _;refine dr_XDSol ?_;refine aCd ?_;intro _;refine spl h (fun c3 h=>?_) (fun c3 h=>?_)
  ·refine aSR ?_;intro _;refine dr_XDSol ?_;refine aRt ?_;intro _;obtain⟨rfl,rfl⟩:=inj2 h;exact ca_XDSol
  ·refine aSk (aSR ?_);intro _;refine dr_XDSol ?_;refine aRt ?_;intro _;obtain⟨rfl,rfl⟩:=inj2 h;exact ca_XDSol
 ·replace h:=erM_no h;refine aRg ?_;intro _;refine dr_XDSol ?_;refine aCd ?_;intro _;refine litT (aSR ?_);intro _;refine dr_XDSol ?_;refine aRt ?_;intro _;obtain⟨rfl,rfl⟩:=inj2 h;exact ca_XDSol
set_option maxHeartbeats 16000000
set_option maxRecDepth 100000
open Go.RowKit
theorem ci_XDTop {p K:Prop}(k:K)(h:p:=by first|rfl|exact⟨rfl,rfl⟩|exact BW.fr FrV.h|(refine BW.fr ?_;assumption)|(refine⟨rfl,?_⟩;(simp[cGTask,cI,cF,cGOp,cGEffect,cN,take_len_map];done))|(refine RowK.same ?_ FrI.h;first|rfl|(simp[cGTask,cI,cF,cGOp,cGEffect,cN,take_len_map];done))|(refine row_part1 ?_;(repeat (first|exact BWL.nil|exact bwll_nil|exact bw_c|exact BW.sl|exact BW.nil|exact bwll_same rfl FrI.h|refine BWL.cons ?_ ?_|refine bwll_cons ?_ ?_|(refine bw_own3 rfl rfl rfl FrI.h ?_ ?_ ?_)|exact BW.fr FrV.h|exact BW.fr (by assumption)|refine bw_agg ?_|refine bw_clo ?_|refine bw_ptr rfl rfl rfl ?_|(refine bw_own rfl rfl rfl ?_ FrI.h ?_ ?_)|assumption|omega|rfl|(rw[lM_,← lA_];assumption)|(refine bwll_same ?_ FrI.h;(simp[cGTask,cI,cF,cGOp,cGEffect,cN] <;> fail))|(rw[List.map_set];refine bwll_set (by first|rfl|omega|simp) ?_ ?_)|refine bwll_set (by first|rfl|omega|simp) ?_ ?_|(rw[List.map_replicate];refine bwll_rep ?_)|refine bwll_rep ?_|(rw[List.map_append];refine bwll_append ?_ ?_)|refine bwll_append ?_ ?_|(simp[cGTask,cI,cF,cGOp,cGEffect,cN,take_len_map] <;> fail)|(rw[List.drop_zero,tL_] <;> first|rfl|(simp[cGTask,cI,cF,cGOp,cGEffect,cN] <;> fail))|(simp;omega)|(simp only[lM_,lA_,List.drop_zero,lC_,lN_,Nat.zero_add,Nat.add_zero]at *;omega)));done)|((repeat (first|exact BWL.nil|exact bwll_nil|exact bw_c|exact BW.sl|exact BW.nil|exact bwll_same rfl FrI.h|refine BWL.cons ?_ ?_|refine bwll_cons ?_ ?_|(refine bw_own3 rfl rfl rfl FrI.h ?_ ?_ ?_)|exact BW.fr FrV.h|exact BW.fr (by assumption)|refine bw_agg ?_|refine bw_clo ?_|refine bw_ptr rfl rfl rfl ?_|(refine bw_own rfl rfl rfl ?_ FrI.h ?_ ?_)|assumption|omega|rfl|(rw[lM_,← lA_];assumption)|(refine bwll_same ?_ FrI.h;(simp[cGTask,cI,cF,cGOp,cGEffect,cN] <;> fail))|(rw[List.map_set];refine bwll_set (by first|rfl|omega|simp) ?_ ?_)|refine bwll_set (by first|rfl|omega|simp) ?_ ?_|(rw[List.map_replicate];refine bwll_rep ?_)|refine bwll_rep ?_|(rw[List.map_append];refine bwll_append ?_ ?_)|refine bwll_append ?_ ?_|(simp[cGTask,cI,cF,cGOp,cGEffect,cN,take_len_map] <;> fail)|(rw[List.drop_zero,tL_] <;> first|rfl|(simp[cGTask,cI,cF,cGOp,cGEffect,cN] <;> fail))|(simp;omega)|(simp only[lM_,lA_,List.drop_zero,lC_,lN_,Nat.zero_add,Nat.add_zero]at *;omega)));done)|(simp[cGTask,cI,cF,cGOp,cGEffect,cN,take_len_map];done)):p∧K:=⟨h,k⟩
theorem ca_XDTop {P:Prop}(h:P:=by repeat (first|exact True.intro|refine ci_XDTop ?_)):P:=h
theorem pr_XDTop {p K:Prop}(k:K)(h:p:=by first|assumption|exact Int.natCast_nonneg _|exact Nat.le_refl _|exact Nat.zero_le _|omega|(simp;done)|(simp;omega)):p∧K:=⟨h,k⟩
theorem dr_XDTop {b:Bool}{p K:Prop}(k:K)(h:b=true→p:=by intro h;first|(cases h;done)|exact⟨by kernel_rfl,by kernel_rfl⟩):(b=true→p)∧K:=⟨h,k⟩
theorem cl_XDTop {C:Cx}{n:Nat}{o:Oper}{τ:Nat→AV}{η:Nat→Ent}{f:FuncId}{os:Array Operand}{ats:Array TypeId}{r:AV}{args:List AV}{K:Foot→Prop}(ho:o.op=.call ⟨.value (.func f),os,ats⟩)(hc:ACall C f args r)(k:K ⟨r,[],[]⟩)
  (hd:InB n o.dst:=by exact bT3 rfl) (hargs:os.toList.map (evA τ)=args:=by first|rfl|(simp[cGTask,cI,cF,cGOp,cGEffect,cN];done)|(repeat (first|exact rfl|refine cons_eq ?_ ?_|exact sl_dt rfl))) (hfr:frs args:=by repeat (first|exact trivial|exact fr1_eA _|exact fr0_eA _|exact fr1_fr (by assumption)|exact FrV.h|exact fr1_fr FrV.h|refine And.intro ?_ ?_)) (hr:fr1 r:=by repeat (first|exact trivial|exact fr1_eA _|exact fr0_eA _|exact fr1_fr (by assumption)|exact FrV.h|exact fr1_fr FrV.h|refine And.intro ?_ ?_)):∃ f:Foot,LF C n o τ η f∧K f:=⟨_,lf_call ho hd hargs hc hfr hr,k⟩
def M_stratagemtop_certifyAwake (g:Nat):Option (Bool):=ob2 (M_certify_Lower g ({ Vars:=[2],Init:=[0],Goal:=[(0,1)],Ops:=[{ Name:=(⟨#[]⟩:ByteArray),Cost:=2,Pre:=[],Effs:=[{ When:=[],Var:=0,Val:=1:GEffect }]:GOp }]:GTask }) 2 10) (fun z1 z2=>ob2 (M_ce_Format z1) (fun z3 z4=>erM z2 (erM z4 (sel (z3.toList == (⟨#[108,111,119,101,114,32,50,10,110,111,103,111,111,100,32,48,58,32,48,61,49,10]⟩:ByteArray).toList) (ob1 (M_checker_Verify g ({ Vars:=[2],Init:=[0],Goal:=[(0,1)],Ops:=[{ Name:=(⟨#[]⟩:ByteArray),Cost:=2,Pre:=[],Effs:=[{ When:=[],Var:=0,Val:=1:GEffect }]:GOp }]:GTask }) z1 100) (fun z7=>erM z7 (some true) (fun _=>some false))) (some false)) (fun _=>some false)) (fun _=>some false)))
theorem A_stratagemtop_certifyAwake (g:Nat){r1:Bool}(h:M_stratagemtop_certifyAwake g=some r1):ACall cx 5 [] (.c (.bool r1)):=by
 refine aOf Tryz.func5 rfl (by decide) rfl (bT3 rfl) ?_;intro _;unfold M_stratagemtop_certifyAwake at h;refine aSR ?_;intro _;refine dr_XDTop ?_;refine aSR ?_;intro _;refine dr_XDTop ?_;refine aSq ?_;refine awp_wk (mkS 41 [(1,.ptr 1 0 0 0)] [(1,⟨26,4,true,[[.sl 1 ([2].map cI),.sl 1 ([0].map cI),.sl 2 ([(0,1)].map cF),.sl 4 ([{ Name:=(⟨#[]⟩:ByteArray),Cost:=2,Pre:=[],Effs:=[{ When:=[],Var:=0,Val:=1:GEffect }]:GOp }].map cGOp)]]⟩)]) ?_ ?_
 ·exact ca_XDTop
 ·intro _;refine aRg ?_;intro _;obtain⟨z1,z2,u1,h⟩:=ob2_ok h;refine cl_XDTop rfl (A_certify_Lower g ({ Vars:=[2],Init:=[0],Goal:=[(0,1)],Ops:=[{ Name:=(⟨#[]⟩:ByteArray),Cost:=2,Pre:=[],Effs:=[{ When:=[],Var:=0,Val:=1:GEffect }]:GOp }]:GTask }) 2 10 u1) ?_;intro _;refine dr_XDTop ?_;refine aSR ?_;intro _;obtain⟨z3,z4,u2,h⟩:=ob2_ok h;refine cl_XDTop rfl (A_ce_Format z1 u2) ?_;intro _;refine dr_XDTop ?_;refine aSq ?_;rcases z2 with _|e5
  ·replace h:=erM_nil h;rcases z4 with _|e6
   ·replace h:=erM_nil h;refine aRg ?_;intro _;refine litT ?_;intro _;refine litT ?_;intro _;refine spl h (fun c3 h=>?_) (fun c3 h=>?_)
    ·intro _;obtain⟨z7,u4,h⟩:=ob1_ok h;refine cl_XDTop rfl (A_checker_Verify g ({ Vars:=[2],Init:=[0],Goal:=[(0,1)],Ops:=[{ Name:=(⟨#[]⟩:ByteArray),Cost:=2,Pre:=[],Effs:=[{ When:=[],Var:=0,Val:=1:GEffect }]:GOp }]:GTask }) z1 100 u4) ?_;rcases z7 with _|e8
     ·replace h:=erM_nil h;intro _;refine dr_XDTop ?_;refine aRt ?_;intro _;obtain rfl:=inj1 h;exact ca_XDTop
     ·replace h:=erM_no h;intro _;refine dr_XDTop ?_;refine aRt ?_;intro _;obtain rfl:=inj1 h;exact ca_XDTop
    ·intro _;refine dr_XDTop ?_;refine aRt ?_;intro _;obtain rfl:=inj1 h;exact ca_XDTop
   ·replace h:=erM_no h;refine aRg ?_;intro _;refine litT ?_;intro _;refine litF ?_;intro _;refine dr_XDTop ?_;refine aRt ?_;intro _;obtain rfl:=inj1 h;exact ca_XDTop
  ·replace h:=erM_no h;refine aRg ?_;intro _;refine litF ?_;intro _;refine dr_XDTop ?_;refine aRt ?_;intro _;obtain rfl:=inj1 h;exact ca_XDTop
def M_b_Best (g:Nat)(a0:GTask):Option (Int):=ob1 (M_b_Distances g a0 []) (fun z1=>ob1 (M_b_Rank a0.Vars a0.Init) (fun z2=>ix z1 z2 (fun y3=>some y3)))
theorem A_b_Best (g:Nat)(a0:GTask){r1:Int}(h:M_b_Best g a0=some r1):ACall cx 9 [.agg [.sl 1 (a0.Vars.map cI),.sl 1 (a0.Init.map cI),.sl 2 (a0.Goal.map cF),.sl 4 (a0.Ops.map cGOp)]] (.c (.int .i64 r1)):=by
 refine aOf Tryz.func9 rfl (by decide) rfl (bT3 rfl) ?_;intro _;unfold M_b_Best at h;refine aSR ?_;intro _;refine dr_XDTop ?_;refine aSR ?_;intro _;obtain⟨z1,u1,h⟩:=ob1_ok h;refine cl_XDTop rfl (A_b_Distances g a0 [] u1) ?_;intro _;obtain⟨z2,u2,h⟩:=ob1_ok h;refine cl_XDTop rfl (A_b_Rank a0.Vars a0.Init u2) ?_;intro _;obtain⟨y3,w3,q4,h⟩:=ix_ok h;refine Exists.intro (cI y3) (And.intro (map_at' w3) ?_);intro _;refine pr_XDTop ?_;refine dr_XDTop ?_;refine aRt ?_;intro _;obtain rfl:=inj1 h;exact ca_XDTop
def M_stratagemtop_WholeOptimality (g:Nat)(a0:GTask)(a1:List Int)(a2:ByteArray):Option (Bool):=ob1 (ob1 (M_b_Tame a0) (fun z10=>sel (!z10) (ob1 (M_stratagemtop_certifyAwake g) (fun z16=>some (.inr z16))) (sel (decide (((a0.Ops.map cGOp).length:Int)>10)) (ob1 (M_stratagemtop_certifyAwake g) (fun z15=>some (.inr z15))) (sel (decide (((a1.map cI).length:Int)>50)) (ob1 (M_stratagemtop_certifyAwake g) (fun z14=>some (.inr z14))) (sel (decide ((a2.size:Int)>1500)) (ob1 (M_stratagemtop_certifyAwake g) (fun z13=>some (.inr z13))) (ob1 (M_stratagemtop_certifyAwake g) (fun z11=>sel (!z11) (ob1 (M_stratagemtop_certifyAwake g) (fun z12=>some (.inr z12))) (some (.inl ())))))))):Option (Unit⊕Bool)) (osum (fun _=>ob2 (M_task_Solves a0 a1) (fun z17 z18=>ob3 (M_ce_Parse a2) (fun z19 _ z21=>ob1 (erM z18 (erM z21 (ob1 (M_checker_Verify g a0 z19 20000) (fun z30=>erM z30 (some (.inl ())) (fun _=>some (.inr true)))) (fun _=>some (.inr true))) (fun _=>some (.inr true)):Option (Unit⊕Bool)) (osum (fun _=>sel (decide (z19.Bound≥0)) (sel (decide (z19.Bound≤z17)) (sel (decide (z19.Bound<z17)) (some true) (ob1 (M_b_Best g a0) (fun z32=>some (z32 == z17)))) (some false)) (some false)) (fun r26=>some r26))))) (fun r8=>some r8))
theorem A_stratagemtop_WholeOptimality (g:Nat)(a0:GTask)(a1:List Int)(a2:ByteArray){r1:Bool}(h:M_stratagemtop_WholeOptimality g a0 a1 a2=some r1):ACall cx 3 [.agg [.sl 1 (a0.Vars.map cI),.sl 1 (a0.Init.map cI),.sl 2 (a0.Goal.map cF),.sl 4 (a0.Ops.map cGOp)],.sl 1 (a1.map cI),.c (.string a2)] (.c (.bool r1)):=by
 refine aOf Tryz.func3 rfl (by decide) rfl (bT3 rfl) ?_;intro _;unfold M_stratagemtop_WholeOptimality at h;refine aSR ?_;intro _;refine dr_XDTop ?_;obtain⟨o1,h,hK2⟩:=ob1_ok h;refine awp_cut (α:=Unit) (fun _=>mkS 81 [(1,.sl 1 (a1.map cI)),(2,.c (.string a2)),(3,.ptr 3 0 0 0)] [(3,⟨26,4,true,[[.sl 1 (a0.Vars.map cI),.sl 1 (a0.Init.map cI),.sl 2 (a0.Goal.map cF),.sl 4 (a0.Ops.map cGOp)]]⟩)]) (fun v=>o1=(.inl v)) ?_ ?_
 ·refine aSR ?_;intro _;obtain⟨z10,u3,h⟩:=ob1_ok h;refine cl_XDTop rfl (A_b_Tame a0 u3) ?_;intro _;refine spf h (fun c4 h=>?_) (fun c4 h=>?_)
  ·intro _;refine spf h (fun c5 h=>?_) (fun c5 h=>?_)
   ·intro _;refine spf h (fun c6 h=>?_) (fun c6 h=>?_)
    ·intro _;refine spf h (fun c7 h=>?_) (fun c7 h=>?_)
     ·intro _;obtain⟨z11,u8,h⟩:=ob1_ok h;refine cl_XDTop rfl (A_stratagemtop_certifyAwake g u8) ?_;intro _;refine dr_XDTop ?_;refine aCd ?_;intro _;refine spl h (fun c9 h=>?_) (fun c9 h=>?_)
      ·refine aSR ?_;intro _;obtain⟨z12,u10,h⟩:=ob1_ok h;refine cl_XDTop rfl (A_stratagemtop_certifyAwake g u10) ?_;intro _;refine dr_XDTop ?_;refine aRt ?_;have j11:=sI_ h;subst j11;replace h:=(osum_r hK2);intro _;obtain rfl:=inj1 h;exact ca_XDTop
      ·refine aSk ?_;refine⟨(),(sI_ h).symm,?_⟩;exact ca_XDTop
     ·intro _;refine dr_XDTop ?_;refine aCd ?_;intro _;refine litT (aSR ?_);intro _;obtain⟨z13,u12,h⟩:=ob1_ok h;refine cl_XDTop rfl (A_stratagemtop_certifyAwake g u12) ?_;intro _;refine dr_XDTop ?_;refine aRt ?_;have j13:=sI_ h;subst j13;replace h:=(osum_r hK2);intro _;obtain rfl:=inj1 h;exact ca_XDTop
    ·intro _;refine dr_XDTop ?_;refine aCd ?_;intro _;refine litT (aSR ?_);intro _;obtain⟨z14,u14,h⟩:=ob1_ok h;refine cl_XDTop rfl (A_stratagemtop_certifyAwake g u14) ?_;intro _;refine dr_XDTop ?_;refine aRt ?_;have j15:=sI_ h;subst j15;replace h:=(osum_r hK2);intro _;obtain rfl:=inj1 h;exact ca_XDTop
   ·intro _;refine dr_XDTop ?_;refine aCd ?_;intro _;refine litT (aSR ?_);intro _;obtain⟨z15,u16,h⟩:=ob1_ok h;refine cl_XDTop rfl (A_stratagemtop_certifyAwake g u16) ?_;intro _;refine dr_XDTop ?_;refine aRt ?_;have j17:=sI_ h;subst j17;replace h:=(osum_r hK2);intro _;obtain rfl:=inj1 h;exact ca_XDTop
  ·intro _;refine dr_XDTop ?_;refine aCd ?_;intro _;refine litT (aSR ?_);intro _;obtain⟨z16,u18,h⟩:=ob1_ok h;refine cl_XDTop rfl (A_stratagemtop_certifyAwake g u18) ?_;intro _;refine dr_XDTop ?_;refine aRt ?_;have j19:=sI_ h;subst j19;replace h:=(osum_r hK2);intro _;obtain rfl:=inj1 h;exact ca_XDTop
 ·rintro _ ho;have ho:=ho.symm;subst ho;intro _;replace h:=(osum_l hK2);refine aSR ?_;intro _;obtain⟨z17,z18,u20,h⟩:=ob2_ok h;refine cl_XDTop rfl (A_task_Solves a0 a1 u20) ?_;intro _;refine dr_XDTop ?_;refine aSR ?_;intro _;obtain⟨z19,z20,z21,u21,h⟩:=ob3_ok h;refine cl_XDTop rfl (A_ce_Parse a2 u21) ?_;intro _;refine dr_XDTop ?_;obtain⟨o22,h,hK23⟩:=ob1_ok h;refine awp_cut (α:=Unit) (fun _=>mkS 81 [(3,.ptr 3 0 0 0),(7,.c (.int .i64 z17)),(9,.ptr 9 0 0 0)] [(3,⟨26,4,true,[[.sl 1 (a0.Vars.map cI),.sl 1 (a0.Init.map cI),.sl 2 (a0.Goal.map cF),.sl 4 (a0.Ops.map cGOp)]]⟩),(9,⟨35,2,true,[[.c (.int .i64 z19.Bound),.sl 2 (z19.Nogoods.map cN)]]⟩)]) (fun v=>o22=(.inl v)) ?_ ?_
  ·refine aSq ?_;rcases z18 with _|e28
   ·replace h:=erM_nil h;rcases z21 with _|e29
    ·replace h:=erM_nil h;refine aRg ?_;intro _;refine litFf ?_;intro _;refine litFf ?_;intro _;obtain⟨z30,u24,h⟩:=ob1_ok h;refine cl_XDTop rfl (A_checker_Verify g a0 z19 20000 u24) ?_;rcases z30 with _|e31
     ·replace h:=erM_nil h;intro _;refine dr_XDTop ?_;refine aCd ?_;intro _;refine litF (aSk ?_);refine⟨(),(sI_ h).symm,?_⟩;exact ca_XDTop
     ·replace h:=erM_no h;intro _;refine dr_XDTop ?_;refine aCd ?_;intro _;refine litT (aSR ?_);intro _;refine dr_XDTop ?_;refine aRt ?_;have j25:=sI_ h;subst j25;replace h:=(osum_r hK23);intro _;obtain rfl:=inj1 h;exact ca_XDTop
    ·replace h:=erM_no h;refine aRg ?_;intro _;refine litFf ?_;intro _;refine litTf ?_;intro _;refine dr_XDTop ?_;refine aCd ?_;intro _;refine litT (aSR ?_);intro _;refine dr_XDTop ?_;refine aRt ?_;have j26:=sI_ h;subst j26;replace h:=(osum_r hK23);intro _;obtain rfl:=inj1 h;exact ca_XDTop
   ·replace h:=erM_no h;refine aRg ?_;intro _;refine litTf ?_;intro _;refine dr_XDTop ?_;refine aCd ?_;intro _;refine litT (aSR ?_);intro _;refine dr_XDTop ?_;refine aRt ?_;have j27:=sI_ h;subst j27;replace h:=(osum_r hK23);intro _;obtain rfl:=inj1 h;exact ca_XDTop
  ·rintro _ ho;have ho:=ho.symm;subst ho;intro _;replace h:=(osum_l hK23);refine aSR ?_;intro _;refine spl h (fun c28 h=>?_) (fun c28 h=>?_)
   ·intro _;refine spl h (fun c29 h=>?_) (fun c29 h=>?_)
    ·intro _;refine spf h (fun c30 h=>?_) (fun c30 h=>?_)
     ·intro _;obtain⟨z32,u31,h⟩:=ob1_ok h;refine cl_XDTop rfl (A_b_Best g a0 u31) ?_;intro _;refine dr_XDTop ?_;refine aRt ?_;intro _;obtain rfl:=inj1 h;exact ca_XDTop
     ·intro _;refine dr_XDTop ?_;refine aRt ?_;intro _;obtain rfl:=inj1 h;exact ca_XDTop
    ·intro _;refine dr_XDTop ?_;refine aRt ?_;intro _;obtain rfl:=inj1 h;exact ca_XDTop
   ·intro _;refine dr_XDTop ?_;refine aRt ?_;intro _;obtain rfl:=inj1 h;exact ca_XDTop
def M_task_apply_L1_B (a1:List Int)(_:GOp)(_y27:GEffect)(_:Int):((List Int))→(((List Int))→Option ((List Int)×Er))→Option ((List Int)×Er):=fun v25 rc=>ixv _y27 (fun y27=>ob1 (M_task_Holds y27.When a1) (fun z28=>sel z28 (ixn v25 ((y27.Var).toNat) (fun _=>grd (0≤y27.Var) (grd (y27.Var<((v25.length:Nat):Int)) (rc ((v25.set ((y27.Var).toNat) y27.Val)))))) (rc (v25))))
def M_task_apply_L1_E (_:List Int)(_:GOp):((List Int))→Option ((List Int)×Er):=fun v25=>grd (v25.length≤140737488355328) (some (v25,Er.nil))
theorem M_task_apply_L1_eq (a1:List Int)(y15:GOp)(v25:List Int)(hl:y15.Effs.length<9223372036854775807):M_task_apply_L1 a1 y15 (((y15.Effs.map cGEffect).length:Int).toNat+1) 0 v25=Rg (M_task_apply_L1_B a1 y15) (M_task_apply_L1_E a1 y15) y15.Effs 0 v25:=rg_e1 (L:=fun k i v25=>M_task_apply_L1 a1 y15 k i v25) hl (fun _ _ _=>rfl) v25
def M_task_Run_L1_B (a0:GTask)(_:List Int)(_y22:Int)(_:Int):((List Int)×(Int))→(((List Int)×(Int))→Option ((List Int)×Int×Er))→Option ((List Int)×Int×Er):=fun(v18,v19) rc=>ixv _y22 (fun y22=>ob2 (M_task_apply a0 v18 y22) (fun z23 z24=>erM z24 (ix a0.Ops y22 (fun y26=>rc (z23,(IntKind.i64.wrap (v19+y26.Cost))))) (fun e25=>some ([],0,(Er.no e25)))))
def M_task_Run_L1_E (_:GTask)(_:List Int):((List Int)×(Int))→Option ((List Int)×Int×Er):=fun(v18,v19)=>some (v18,v19,Er.nil)
theorem M_task_Run_L1_eq (a0:GTask)(a2:List Int)(v18:List Int)(v19:Int)(hl:a2.length<9223372036854775807):M_task_Run_L1 a0 a2 (((a2.map cI).length:Int).toNat+1) v18 v19 0=Rg (M_task_Run_L1_B a0 a2) (M_task_Run_L1_E a0 a2) a2 0 (v18,v19):=rg_e1 (L:=fun k i p=>match p with|(v18,v19)=>M_task_Run_L1 a0 a2 k v18 v19 i) hl (fun _ _ ⟨_,_⟩=>rfl) (v18,v19)
end Go.Proofs.YtinknhophadbkaaGreatDoor.Am
namespace Go.Proofs.YtinknhophadbkaaGreatDoor.Am
open Go.RowKit
theorem claims_mono {ns:List Nogood}{s:List Int}{d d':Int}(h:claimsF ns s d=true)(hd:d≤d'):claimsF ns s d'=true:=by
 unfold claimsF at h ⊢
 obtain⟨n,hn,e⟩:=List.any_eq_true.1 h
 rw[bA_,decide_eq_true_iff]at e
 exact List.any_eq_true.2 ⟨n,hn,by rw[decide_eq_true (by omega),e.2];rfl⟩
def Qc (c:GCertificate)(s:List Int)(d:Int):Prop:=(0≤c.Bound∧c.Bound≤d)∨claimsF c.Nogoods s d=true
theorem acc_dq {t:GTask}(hgood:goodF t=true){c:GCertificate}(ha:Acc t c):DQ t (Qc c):=by
 refine⟨fun s hs hh=>?_,fun s hs o ho hp x hx hq=>?_⟩
 ·by_cases hb:c.Bound=0
  ·exact .inl (by omega)
  ·exact .inr (ha.goal hb s hs hh)
 ·have hcost:=good_cost hgood ho
  rcases hq with hq|hq
  ·exact .inl (by omega)
  ·unfold claimsF at hq
   obtain⟨n,hn,e⟩:=List.any_eq_true.1 hq
   rw[bA_,decide_eq_true_iff]at e
   have hi:inF o n.1 s=true:=by rw[inF,hp,e.2];rfl
   cases hsk:skipO c n o with
   | true =>
    have:=of_decide_eq_true hsk
    exact .inl (by omega)
   | false =>
    have h2:=ha.step n hn o ho hsk s hs hi
    refine .inr (claims_mono h2 ?_)
    unfold distO
    split <;> omega
theorem best_eq {t:GTask}(hsm:smallF t=true){c:GCertificate}(hcp:CertP t.Vars c)(ha:Acc t c)(g:Nat)(hg:1000000000000000000≤g):∃ x,M_b_Best g t=some x∧(c.Bound<0→x=infD)∧(0≤c.Bound→c.Bound≤x)∧∀ (plan s':List Int)(z:Int),plan.length≤1000→runF t plan t.Init 0=some (s',z)→holdsF s' t.Goal=true→x≤z∧z<infD:=by
 have hgood:=(small_good hsm).1
 have hal:=allF_len t hsm
 obtain⟨d,e1,hd⟩:=dis_eq hsm (acc_dq hgood ha) g hg []
 have hinit:stateF t.Vars t.Init=true:=by
  unfold goodF at hgood
  simp only[bA_]at hgood
  exact hgood.2.2.1
 obtain⟨k,k1,k2⟩:=rank_eq hsm hinit
 obtain⟨x,hx⟩:∃ x,d[k]?=some x:=⟨_,gE_ (by rw[hd.len];exact(gS_.1 k2).1)⟩
 obtain⟨x0,x1,xq⟩:=hd.ok k t.Init x k2 hx
 have hno:∀ z,claimsF c.Nogoods t.Init z=false:=fun z=>by
  rw[Bool.eq_false_iff]
  intro h
  unfold claimsF at h
  obtain⟨n,hn,e⟩:=List.any_eq_true.1 h
  rw[bA_,ha.init n hn]at e
  exact absurd e.2 (by decide)
 have hq:x≠infD→0≤c.Bound∧c.Bound≤x:=fun hne=>(xq hne).resolve_right (fun h=>by rw[hno]at h;cases h)
 have hb1:=hcp.b1
 obtain⟨d',f1,f2⟩:=fix_eq hsm g hg []
 have hdd:d=d':=sI_ (e1.symm.trans f1)
 subst hdd
 refine⟨x,by rw[M_b_Best,e1,ob1_some,k1,ob1_some,ix_at hx],fun hb=>Decidable.byContradiction fun hne=>by have:=hq hne;omega,fun hb=>?_,fun plan s' z hl hr hg'=>?_⟩
 ·by_cases hi:x=infD
  ·rw[hi];unfold infD;omega
  ·exact(hq hi).2
 ·obtain⟨g1,g2,g3⟩:=run_best hsm f2 plan t.Init 0 s' z hl hinit hr hg'
  have:=g3 k x k2 hx
  exact⟨by omega,by unfold infD;omega⟩
theorem cloneI_eq {l:List Int}(h:l.length≤1000):M_cloneI l=some l:=grd_t (by omega)
theorem tapp_loop (s:List Int)(o:GOp):∀ (r:List GEffect)(i:Int)(v:List Int),(∀ e∈r,Sh e.When∧0≤e.Var∧e.Var<v.length)→v.length≤1000→Rg (M_task_apply_L1_B s o) (M_task_apply_L1_E s o) r i v=some (applyG s r v,Er.nil)
 | [],i,v,_,h=>by rw[Rg,M_task_apply_L1_E,grd_t (by omega),applyG]
 | e :: r,i,v,he,h=>by
  obtain⟨h1,h2,h3⟩:=he e (List.mem_cons_self ..)
  have he':∀ u∈r,Sh u.When∧0≤u.Var∧u.Var<v.length:=fun u hu=>he u (List.mem_cons_of_mem _ hu)
  rw[Rg,M_task_apply_L1_B,ixv,tholds_eq _ s h1,ob1_some,applyG]
  by_cases hf:holdsF s e.When=true
  ·obtain⟨y,hy,-⟩:=drop_at (l:=v) (n:=e.Var.toNat) (by omega)
   rw[hf,sel_tt,if_pos rfl,ixn_at hy,grd_t h2,grd_t h3]
   exact tapp_loop s o r _ _ (by rw[List.length_set];exact he') (by rw[List.length_set];exact h)
  ·rw[if_neg hf,Bool.eq_false_iff.2 hf,sel_ff]
   exact tapp_loop s o r _ v he' h
theorem app_any {t:GTask}(hgood:goodF t=true){s:List Int}(hst:stateF t.Vars s=true)(j:Int):∃ r,M_task_apply t s j=some r∧((∃ e,r=([],Er.no e))∨∃ o,0≤j∧t.Ops[j.toNat]?=some o∧holdsF s o.Pre=true∧r=(nextF s o,Er.nil)):=by
 have ok:=good_ok hgood
 have hs:=stateF_st hst
 have hlen:=hs.len
 have okl:=ok.len
 by_cases h0:j<0
 ·exact⟨([],Er.no 1),by rw[M_task_apply,decide_eq_true h0];rfl,.inl ⟨_,rfl⟩⟩
 ·by_cases h1:j<t.Ops.length
  ·obtain⟨o,hj,-⟩:=drop_at (l:=t.Ops) (n:=j.toNat) (by omega)
   have hom:=List.mem_of_getElem? hj
   have oo:=good_op hgood hom
   have he:=oo.effs
   have hjj:∀ {β:Type} {k:GOp→Option β},ix t.Ops j k=k o:=fun {β k}=>by
    have:=ix_at (k:=k) hj
    rwa [show((j.toNat:Nat):Int)=j from by omega]at this
   rw[M_task_apply,decide_eq_false h0,sel_ff,ob1_some,decide_eq_false (by rw[lM_];omega),sel_ff,tproper_eq t.Vars s (by show _≤_;omega),ob1_some,hst,Bool.not_true,sel_ff,hjj,tholds_eq _ s (prop_sh ok.len oo.pre),ob1_some]
   by_cases hf:holdsF s o.Pre=true
   ·refine⟨(nextF s o,Er.nil),?_,.inr ⟨o,by omega,hj,hf,rfl⟩⟩
    rw[hf,Bool.not_true,sel_ff,ob1_some,osum_inl,cloneI_eq (by omega),ob1_some,hjj,M_task_apply_L1_eq s o s (by omega),tapp_loop s o o.Effs 0 s (fun e he=>⟨prop_sh ok.len (oo.when e he),by have:=good_eff hgood hom he;omega,by have:=good_eff hgood hom he;omega⟩) (by omega),nextF]
   ·refine⟨([],Er.no 12),?_,.inl ⟨_,rfl⟩⟩
    rw[Bool.eq_false_iff.2 hf,Bool.not_false,sel_tt,ob1_some,osum_inr]
  ·exact⟨([],Er.no 1),by rw[M_task_apply,decide_eq_false h0,sel_ff,ob1_some,decide_eq_true (by rw[lM_];omega)];rfl,.inl ⟨_,rfl⟩⟩
theorem run_loop {t:GTask}(hgood:goodF t=true)(plan:List Int):∀ (r:List Int)(i:Int)(s:List Int)(c:Int),stateF t.Vars s=true→0≤c→c+1048576*(r.length:Int)≤1048576*1000→∃ res,Rg (M_task_Run_L1_B t plan) (M_task_Run_L1_E t plan) r i (s,c)=some res∧((∃ e,res=([],0,Er.no e))∨∃ s' c',res=(s',c',Er.nil)∧runF t r s c=some (s',c')∧stateF t.Vars s'=true)
 | [],i,s,c,hs,_,_=>⟨(s,c,Er.nil),rfl,.inr ⟨s,c,rfl,rfl,hs⟩⟩
 | j :: r,i,s,c,hs,h0,hc=>by
  rw[lC_]at hc
  obtain⟨x,hx,h⟩:=app_any hgood hs j
  rw[Rg,M_task_Run_L1_B]
  show ∃ res,ixv j _=_∧_
  rw[ixv,hx]
  rcases h with⟨e,rfl⟩|⟨o,j0,hj,hp,rfl⟩
  ·exact⟨([],0,Er.no e),rfl,.inl ⟨e,rfl⟩⟩
  ·have hom:=List.mem_of_getElem? hj
   have hcost:=good_cost hgood hom
   have hs2:=next_state hgood hs hom
   obtain⟨res,k1,k2⟩:=run_loop hgood plan r (i+1) (nextF s o) (c+o.Cost) hs2 (by omega) (by omega)
   have hjj:=ix_at (k:=fun y26=>Rg (M_task_Run_L1_B t plan) (M_task_Run_L1_E t plan) r (i+1) (nextF s o,IntKind.i64.wrap (c+y26.Cost))) hj
   rw[show((j.toNat:Nat):Int)=j from by omega,wrap_eq (by omega) (by omega)]at hjj
   refine⟨res,by rw[ob2_some,erM,hjj];exact k1,?_⟩
   rcases k2 with k2|⟨s',c',e1,e2,e3⟩
   ·exact .inl k2
   ·refine .inr ⟨s',c',e1,?_,e3⟩
    rw[runF,if_pos j0,hj]
    dsimp only
    rw[if_pos hp]
    exact e2
theorem solves_eq {t:GTask}(ht:ShT t)(hgood:goodF t=true)(plan:List Int)(hl:plan.length≤50):∃ z e,M_task_Solves t plan=some (z,e)∧(e=Er.nil→∃ s',runF t plan t.Init 0=some (s',z)∧holdsF s' t.Goal=true):=by
 have hinit:stateF t.Vars t.Init=true:=by
  unfold goodF at hgood
  simp only[bA_]at hgood
  exact hgood.2.2.1
 have hgoal:propF t.Vars (-1) t.Goal=true:=by
  unfold goodF at hgood
  simp only[bA_]at hgood
  exact hgood.2.2.2.1
 have ok:=good_ok hgood
 have okl:=ok.len
 have hs:=stateF_st hinit
 have hlen:=hs.len
 obtain⟨res,k1,k2⟩:=run_loop hgood plan plan 0 t.Init 0 hinit (by omega) (by omega)
 have hrun:M_task_Run t t.Init plan=some res:=by
  rw[M_task_Run,check_eq t ht,(good_check t).1 hgood,ob1_some,erM,tproper_eq t.Vars t.Init (by show _≤_;omega),ob1_some,hinit,Bool.not_true,sel_ff,lM_,decide_eq_false (by omega),sel_ff,cloneI_eq (by omega),ob1_some,grd_t (by omega)]
  have e:=M_task_Run_L1_eq t plan t.Init 0 (by omega)
  rw[lM_]at e
  rw[e]
  exact k1
 rw[M_task_Solves,hrun]
 rcases k2 with⟨e,rfl⟩|⟨s',c',rfl,e2,e3⟩
 ·exact⟨0,Er.no e,rfl,fun h=>nomatch h⟩
 ·rw[ob3_some,erM,tholds_eq _ s' (prop_sh ok.len hgoal),ob1_some]
  cases hg:holdsF s' t.Goal with
  | false=>exact⟨0,Er.no 13,rfl,fun h=>nomatch h⟩
  | true=>exact⟨c',Er.nil,rfl,fun _=>⟨s',e2,hg⟩⟩
theorem awakeT : M_stratagemtop_certifyAwake 1000000000000000000=some true:=by kernel_rfl
theorem guardO {γ:Type}{b1 b2 b3 b4:Bool}{K:Unit⊕Bool→Option γ}{x:Option γ}(h1:b1=true→b2=false→b3=false→b4=false→K (.inl ())=x)(h2:K (.inr true)=x):ob1 (ob1 (some b1) (fun z10=>sel (!z10) (ob1 (some true) (fun z16=>some (.inr z16))) (sel b2 (ob1 (some true) (fun z15=>some (.inr z15))) (sel b3 (ob1 (some true) (fun z14=>some (.inr z14))) (sel b4 (ob1 (some true) (fun z13=>some (.inr z13))) (ob1 (some true) (fun z11=>sel (!z11) (ob1 (some true) (fun z12=>some (.inr z12))) (some (.inl ())))))))):Option (Unit⊕Bool)) K=x:=by
 cases b1
 ·exact h2
 ·cases b2
  ·cases b3
   ·cases b4
    ·exact h1 rfl rfl rfl rfl
    ·exact h2
   ·exact h2
  ·exact h2
theorem whole_true (t:GTask)(ht:ShT t)(plan:List Int)(s:ByteArray):M_stratagemtop_WholeOptimality 1000000000000000000 t plan s=some true:=by
 rw[M_stratagemtop_WholeOptimality,awakeT,tame_eq t ht]
 refine guardO (fun hte _ hpl hsz=>?_) rfl
 have hpl':=of_decide_eq_false hpl
 have hsz':=of_decide_eq_false hsz
 rw[lM_]at hpl'
 have hgd:=(small_good (tame_small hte)).1
 obtain⟨c,i,e,hp,hc⟩:=parse_tot s (by omega)
 obtain⟨z,ez,hsol,hz⟩:=solves_eq ht hgd plan (by omega)
 rw[osum_inl,hsol,ob2_some,hp,ob3_some]
 cases ez with
 | no e=>rfl
 | nil =>
  obtain⟨s',hr,hgl⟩:=hz rfl
  cases e with
  | no e=>rfl
  | nil =>
   rw[erM,erM,verify_eq t ht c hc _ _ (by decide),ob1_some]
   cases hv:verF t c 20000 with
   | no e=>rfl
   | nil =>
    obtain⟨hgood,hcp,ha⟩:=ver_acc hv
    obtain⟨x,hx,h1,h2,h3⟩:=best_eq (tame_small hte) hcp ha _ (Nat.le_refl _)
    obtain⟨g1,g2⟩:=h3 plan s' z (by omega) hr hgl
    have hb:0≤c.Bound:=Decidable.byContradiction fun hn=>by
     have:=h1 (by omega)
     omega
    have hb2:=h2 hb
    rw[erM,ob1_some,osum_inl,decide_eq_true (show c.Bound≥0 from hb),sel_tt,decide_eq_true (show c.Bound≤z from by omega),sel_tt]
    by_cases hlt:c.Bound<z
    ·rw[decide_eq_true hlt,sel_tt]
    ·rw[decide_eq_false hlt,sel_ff,hx,ob1_some,show x=z from by omega]
     simp
end Go.Proofs.YtinknhophadbkaaGreatDoor.Am
namespace Go.Proofs.YtinknhophadbkaaGreatDoor
open Go.RowKit Go.ChangeShapes Go.WideShapes Go.Deep Go.Joins
def I64 (x:Int):Prop:=-9223372036854775808≤x∧x≤9223372036854775807
theorem I64.of {x:Int}(h:(Lit.int .i64 x).wf=true):I64 x:=by
 have:=bounds_i64 h
 exact this
section
variable {H : Type} {enc : TypeId × Value → H} {P : Program} {w : World} {base : Nat} {spare : Nat → Bool} {held : Bool}
def Sized (P:Program)(t:TypeId)(d:DataW H):Prop:=∀ n∈d.weights P t,n≤reachBytes
theorem sized_arg {ts:List TypeId}{ds:List (DataW H)}(h:(DataW.weightsEach P ts ds).all (·≤reachBytes)=true){j:Nat}{t:TypeId}{d:DataW H}(ht:ts[j]?=some t)(hd:ds[j]?=some d):Sized P t d :=
 fun n hn=>of_decide_eq_true (List.all_eq_true.1 h n (DataW.weights_mem_each ht hd n hn))
theorem sized_field {t:TypeId}{fs:Array Field}{parts:List (DataW H)}(h:Sized P t (.agg parts))(hu:P.underlying t=some (.struct fs)){j:Nat}{f:Field}{d:DataW H}(hf:fs[j]?=some f)(hd:parts[j]?=some d):Sized P f.type d :=
 fun n hn=>h n (by
  simp only[DataW.weights,hu]
  exact DataW.weights_mem_each (j:=j) (by simp[List.getElem?_map,hf]) hd n hn)
theorem weightsAll_mem {e:TypeId}:∀ {l:List (DataW H)}{d:DataW H},d∈l→∀ n∈d.weights P e,n∈DataW.weightsAll P e l
 | x :: l,d,hd,n,hn=>by
  simp only[DataW.weightsAll,List.mem_append]
  rcases List.mem_cons.1 hd with rfl|h
  ·exact Or.inl hn
  ·exact Or.inr (weightsAll_mem h n hn)
theorem sized_elem {t e:TypeId}{elems sp:List (DataW H)}(h:Sized P t (.slice elems sp))(hu:P.underlying t=some (.slice e)){d:DataW H}(hd:d∈elems):Sized P e d :=
 fun n hn=>h n (by
  simp only[DataW.weights,hu,List.mem_cons,List.mem_append]
  exact Or.inr (Or.inl (weightsAll_mem hd n hn)))
theorem sized_len {t e:TypeId}{elems sp:List (DataW H)}(h:Sized P t (.slice elems sp))(hu:P.underlying t=some (.slice e)):elems.length*P.bytesOf e≤140737488355328:=by
 have h1:=h ((elems.length+sp.length)*P.bytesOf e) (by simp[DataW.weights,hu])
 have h2:elems.length*P.bytesOf e≤(elems.length+sp.length)*P.bytesOf e:=Nat.mul_le_mul_right _ (by omega)
 have h3:reachBytes≤140737488355328:=by decide
 omega
end
theorem spot_of_cell {w:World}{p:Addr}{v:Value}(h:w.cell? p=some v):p.spot=none:=by
 unfold World.cell? at h
 split at h
 ·split at h
  ·cases h
  ·rename_i hs;simpa using hs
 ·cases h
theorem addr_of_cell {w:World}{a:Addr}{k:Nat}{v:Value}(h0:∃ u,w.cell? (a.add 0)=some u)(h:w.cell? (a.add k)=some v):a=⟨a.block,a.off,none⟩∧w.cell? ⟨a.block,a.off+k,none⟩=some v:=by
 obtain⟨u,hu⟩:=h0
 have hs:=spot_of_cell hu
 obtain⟨b,off,sp⟩:=a
 simp[Addr.add]at hs
 subst hs
 refine⟨rfl,?_⟩
 rw[← h]
 congr 1
 unfold Addr.add
 split
 ·subst k;rfl
 ·rfl
theorem list_of {α:Type}(n:Nat)(R:Nat→α→Prop)(h:∀ i,i<n→∃ x,R i x):∃ l:List α,l.length=n∧∀ k x,l[k]?=some x→R k x:=by
 induction n with
 | zero=>exact⟨[],rfl,fun k x hx=>by simp at hx⟩
 | succ n ih =>
  obtain⟨l,hl,hr⟩:=ih (fun i hi=>h i (by omega))
  obtain⟨x,hx⟩:=h n (by omega)
  refine⟨l++[x],by simp[hl],fun k y hy=>?_⟩
  by_cases hk:k<n
  ·rw[List.getElem?_append_left (by omega)]at hy
   exact hr k y hy
  ·rw[List.getElem?_append_right (by omega)]at hy
   have hk':k-l.length=0:=by
    have:=(gS_.1 hy).1
    simp at this
    omega
   rw[hk']at hy
   simp at hy
   subst hy
   obtain rfl:k=n:=by omega
   exact hx
variable {H : Type} {enc : TypeId × Value → H} {w : World} {base : Nat} {spare : Nat → Bool} {held : Bool}
end Go.Proofs.YtinknhophadbkaaGreatDoor
namespace Go.Proofs.YtinknhophadbkaaGreatDoor.Am
open Go.RowKit Go.ChangeShapes Go.WideShapes Go.Deep Go.Joins
abbrev mZ : MM:=mO (fun _=>False)
theorem noZ (b:Nat):¬ Owned nov mZ b:=fun h=>owned_nov.1 h
section
variable {H : Type} {enc : TypeId × Value → H} {P : Program} {w : World} {base : Nat} {spare : Nat → Bool} {held : Bool}
def CellsRv (w:World)(es:List AV)(cs:List Value):Prop:=es.length=cs.length∧(∀ (j:Nat) (y:AV) (u:Value),es[j]?=some y→cs[j]?=some u→RV w nov mZ y u∧u.oneCell'=true)∧∀ y∈es,Fr y
def Opens (enc:TypeId×Value→H)(P:Program)(w:World)(base:Nat)(spare:Nat→Bool)(held:Bool)(t:TypeId){α:Type}(en:α→List AV)(R:α→Prop):Prop :=
 ∀ (fuel:Nat) (cs:List Value) (x:DataW H×List MemPlace),DataW.trod enc P w base spare held fuel t cs=some x→Sized P t x.1→∃ a,R a∧CellsRv w (en a) cs
theorem cells_one1 {y:AV}{u:Value}(h:RV w nov mZ y u)(h1:u.oneCell'=true)(hf:Fr y):CellsRv w [y] [u]:=by
 refine⟨rfl,fun j z v hz hv=>?_,fun z hz=>by simp at hz;subst hz;exact hf⟩
 cases j with
 | zero=>simp at hz hv;subst hz hv;exact⟨h,h1⟩
 | succ j=>simp at hz
theorem opens_int {t:TypeId}{k:IntKind}(ht:P.underlying t=some (.int k)):Opens enc P w base spare held t (fun z:Int=>[.c (.int k z)]) (fun z=>(Lit.int k z).wf=true):=by
 intro fuel cs x h _
 obtain⟨z,rfl,_,wz⟩:=DataW.trod_int ht h
 exact⟨z,wz,cells_one1 (.c _) rfl (.c _)⟩
theorem opens_slice {t e:TypeId}{α:Type}{en:α→List AV}{R:α→Prop}{sz by_:Nat}(ht:P.underlying t=some (.slice e))(hc:P.cellsOf e=sz)(hb:P.bytesOf e=by_)(hby:0<by_)(hsz:0<sz)(he:Opens enc P w base spare held e en R) :
  Opens enc P w base spare held t (fun l:List α=>[.sl sz (l.map en)]) (fun l=>l.length*by_≤140737488355328∧∀ x∈l,R x):=by
 intro fuel cs x h hs
 rcases open_slice ht h with⟨rfl,_⟩|⟨a,len,cap,m,n,D,Pl,rfl,_,hl,hm,hmm,rfl,hi⟩
 ·refine⟨[],⟨by simp,by simp⟩,cells_one1 ?_ rfl (.sl (fun e he=>by cases he))⟩
  exact RV.sl (l:=[]) (b:=0) (off:=0) (f:=fun _ _=>undef) (fun h=>absurd rfl h) (Nat.zero_le _) (by simp) (fun k e h=>by simp at h) (fun k j e x h=>by simp at h) (fun k j e x h=>by simp at h) (fun e he=>by cases he)
 ·have hlen:=sized_len hs ht
  rw[hb]at hlen
  simp only[lM_,List.length_range]at hlen
  have hml:len≤m:=by rw[hmm];split <;> omega
  have hcell:∀ i,i<len→∃ z:α,R z∧∃ cs',CellsRv w (en z) cs'∧cs'.length=sz∧∀ j,j<sz→w.cell? (a.add (i*sz+j))=cs'[j]?:=by
   intro i hi'
   obtain⟨cs',hcc,ht'⟩:=hi i (by omega)
   rw[hc]at hcc
   obtain⟨z,hz,hcr⟩:=he n cs' _ ht' (sized_elem hs ht (List.mem_map.2 ⟨i,by simpa using hi',rfl⟩))
   obtain⟨_,hcl',hat⟩:=World.cells?_some hcc
   exact⟨z,hz,cs',hcr,hcl',fun j hj=>by rw[← hat j hj,Go.Deep.add_add]⟩
  obtain⟨l,hl',hat⟩:=list_of len _ hcell
  have hR:∀ x∈l,R x:=fun x hx=>by
   obtain⟨k,hk⟩:=List.getElem?_of_mem hx
   exact(hat k x hk).1
  have hfr:FrL (l.map en):=by
   intro e he
   obtain⟨x,hx,rfl⟩:=List.mem_map.1 he
   obtain⟨k,hk⟩:=List.getElem?_of_mem hx
   obtain⟨_,cs',hcr,_⟩:=hat k x hk
   exact hcr.2.2
  refine⟨l,⟨by rw[hl'];exact hlen,hR⟩,cells_one1 ?_ rfl (.sl hfr)⟩
  have key:∀ (k j:Nat) (e:List AV) (y:AV),(l.map en)[k]?=some e→e[j]?=some y→e.length=sz∧∃ u,w.cell? ⟨a.block,a.off+(k*sz+j),none⟩=some u∧u.oneCell'=true∧RV w nov mZ y u∧a=⟨a.block,a.off,none⟩∧a.block<w.heap.size:=by
   intro k j e y hk hj
   rw[List.getElem?_map]at hk
   cases hx:l[k]? with
   | none=>rw[hx]at hk;cases hk
   | some z =>
    rw[hx]at hk
    simp at hk
    subst hk
    obtain⟨_,cs',⟨c1,c2,_⟩,c4,c5⟩:=hat k z hx
    have hjl:j<sz:=by rw[← c4,← c1];exact(gS_.1 hj).1
    have hcj:=c5 j hjl
    have hget:cs'[j]?=some (cs'[j]'(by omega)):=gE_ _
    rw[hget]at hcj
    obtain⟨r1,r2⟩:=c2 j y _ hj hget
    have h0:0<len:=by have:=(gS_.1 hx).1;omega
    obtain⟨_,_,cs0,⟨_,_,_⟩,d4,d5⟩:=hcell 0 h0
    have hz0:=d5 0 hsz
    rw[gE_ (by omega)]at hz0
    obtain⟨e1,e2⟩:=addr_of_cell ⟨_,by simpa using hz0⟩ hcj
    exact⟨by rw[c1,c4],_,e2,r2,r1,e1,lt_of_cell (p:=⟨a.block,a.off+(k*sz+j),none⟩) e2⟩
  have hlen2:(l.map en).length=len:=by simp[hl']
  have:=RV.sl (w:=w) (vs:=nov) (m:=mZ) (sz:=sz) (l:=l.map en) (A:=some a) (cap:=cap) (b:=a.block) (off:=a.off) (f:=fun k j=>(w.cell? ⟨a.block,a.off+(k*sz+j),none⟩).getD undef)
   (fun hne=>?_) (by omega) (by rw[hlen2];exact Nat.le_trans (Nat.le_mul_of_pos_right _ hby) hlen) (fun k e hk=>?_) (fun k j e y hk hj=>?_) (fun k j e y hk hj=>?_) hfr
  ·rw[hlen2]at this
   exact this
  ·have h0:0<(l.map en).length:=List.length_pos_iff.2 hne
   have hk:=gE_ h0
   obtain⟨x0,hx0,hx0'⟩:∃ x0,l[0]?=some x0∧(l.map en)[0]=en x0:=by
    have h1:0<l.length:=by simpa using h0
    exact⟨l[0],gE_ h1,by simp⟩
   obtain⟨_,cs',⟨c1,_,_⟩,c4,_⟩:=hat 0 x0 hx0
   have hel:0<((l.map en)[0]).length:=by rw[hx0',c1,c4];exact hsz
   obtain⟨_,_,_,_,_,q1,q2⟩:=key 0 0 _ _ hk (gE_ hel)
   exact⟨by rw[← q1],noZ _,q2⟩
  ·rw[List.getElem?_map]at hk
   cases hx:l[k]? with
   | none=>rw[hx]at hk;cases hk
   | some z =>
    rw[hx]at hk
    simp at hk
    subst hk
    obtain⟨_,cs',⟨c1,_,_⟩,c4,_⟩:=hat k z hx
    rw[c1,c4]
  ·obtain⟨_,u,q1,q2,_⟩:=key k j e y hk hj
   rw[q1]
   exact⟨rfl,q2⟩
  ·obtain⟨_,u,q1,_,q3,_⟩:=key k j e y hk hj
   rw[q1]
   exact q3
def OpensF (enc:TypeId×Value→H)(P:Program)(w:World)(base:Nat)(spare:Nat→Bool)(held:Bool)(fs:List Field)(off tot:Nat){α:Type}(en:α→List AV)(R:α→Prop):Prop :=
 ∀ (fuel:Nat) (cs:List Value) (xs:List (DataW H×List MemPlace)),cs.length=tot→xs.length=fs.length→(∀ (i:Nat) (f:Field),fs[i]?=some f→DataW.trod enc P w base spare held fuel f.type ((cs.drop f.offset).take (P.cellsOf f.type))=xs[i]?) →
  (∀ (i:Nat) (f:Field) (x:DataW H×List MemPlace),fs[i]?=some f→xs[i]?=some x→Sized P f.type x.1)→∃ a,R a∧CellsRv w (en a) (cs.drop off)
theorem cells_append {a b:List AV}{xs ys:List Value}(h1:CellsRv w a xs)(h2:CellsRv w b ys):CellsRv w (a++b) (xs++ys):=by
 refine⟨by rw[lA_,lA_,h1.1,h2.1],fun j y u hy hu=>?_,fun y hy=>?_⟩
 ·rcases Nat.lt_or_ge j a.length with hlt|hge
  ·rw[List.getElem?_append_left hlt]at hy
   rw[List.getElem?_append_left (by rw[← h1.1];exact hlt)]at hu
   exact h1.2.1 j y u hy hu
  ·rw[List.getElem?_append_right hge]at hy
   rw[List.getElem?_append_right (by rw[← h1.1];exact hge)]at hu
   rw[h1.1]at hy
   exact h2.2.1 _ y u hy hu
 ·rcases List.mem_append.1 hy with h|h
  ·exact h1.2.2 y h
  ·exact h2.2.2 y h
theorem opensF_last {f:Field}{off tot:Nat}{α:Type}{en:α→List AV}{R:α→Prop}(ho:f.offset=off)(htot:off+P.cellsOf f.type=tot)(h:Opens enc P w base spare held f.type en R):OpensF enc P w base spare held [f] off tot en R:=by
 intro fuel cs xs hcl hx ht hs
 obtain⟨x,rfl⟩:=List.length_eq_one_iff.1 hx
 have h1:=ht 0 f rfl
 obtain⟨a,ha,hc⟩:=h fuel _ x h1 (hs 0 f x rfl rfl)
 refine⟨a,ha,?_⟩
 rw[ho,tL_ (by simp;omega)]at hc
 exact hc
theorem opensF_cons {f:Field}{fs:List Field}{off off' tot:Nat}{α β:Type}{en:α→List AV}{R:α→Prop}{en':β→List AV}{R':β→Prop}(ho:f.offset=off)(hoff:off+P.cellsOf f.type=off')(h:Opens enc P w base spare held f.type en R)(h':OpensF enc P w base spare held fs off' tot en' R') :
  OpensF enc P w base spare held (f :: fs) off tot (fun p:α×β=>en p.1++en' p.2) (fun p=>R p.1∧R' p.2):=by
 intro fuel cs xs hcl hx ht hs
 cases xs with
 | nil=>simp at hx
 | cons x xs =>
  obtain⟨a,ha,hc⟩:=h fuel _ x (ht 0 f rfl) (hs 0 f x rfl rfl)
  obtain⟨b,hb,hc'⟩:=h' fuel cs xs hcl (by simpa using hx) (fun i g hg=>by simpa using ht (i+1) g (by simpa using hg)) (fun i g y hg hy=>hs (i+1) g y (by simpa using hg) (by simpa using hy))
  refine⟨(a,b),⟨ha,hb⟩,?_⟩
  rw[ho]at hc
  have:cs.drop off=(cs.drop off).take (P.cellsOf f.type)++cs.drop off':=by
   rw[← hoff,← List.drop_drop,List.take_append_drop]
  rw[this]
  exact cells_append hc hc'
theorem opens_struct {t:TypeId}{fs:Array Field}{α:Type}{en:α→List AV}{R:α→Prop}(ht:P.underlying t=some (.struct fs))(h:OpensF enc P w base spare held fs.toList 0 (P.cellsOf t) en R):Opens enc P w base spare held t en R:=by
 intro fuel cs x hx hs
 obtain⟨xs,n,_,rfl,hcl,hxl,hf⟩:=DataW.trod_struct ht hx
 obtain⟨a,ha,hc⟩:=h n cs xs hcl (by simpa using hxl) (fun i f hi=>hf i f (by simpa using hi)) (fun i f y hi hy=>sized_field hs ht (j:=i) (by simpa using hi) (by simp[List.getElem?_map,hy]))
 exact⟨a,ha,by simpa using hc⟩
theorem agg_rv {es:List AV}{us:Array Value}(h:CellsRv w es us.toList):RV w nov mZ (.agg es) (.agg us) :=
 .agg (by rw[h.1];simp) (fun j y u hy hu=>(h.2.1 j y u hy (by simpa using hu)).1)
theorem one_rv {y:AV}{u:Value}(h:CellsRv w [y] [u]):RV w nov mZ y u:=(h.2.1 0 y u rfl rfl).1
end
end Go.Proofs.YtinknhophadbkaaGreatDoor.Am
namespace Go.Proofs.YtinknhophadbkaaGreatDoor
open Go.RowKit Go.WideShapes Go.ChangeShapes Go.ChangeAt
section
variable {H : Type} {enc : TypeId × Value → H} {P : Program}
theorem post_of_below {f:Func}{s:ChangeSpec}{apart fresh handsOn again:Bool}{W W':World}{args:Array Value}{v:Value}{ds gs:List (DataW H)}{before pa pv:List MemPlace}
  (hW:DataW.Whole enc P f.params.toList s.vars apart W args.toList ds gs before)
  (hres:∀ (b:Nat) (sp:Nat→Bool) (hd:Bool),DataW.TrodAll enc P W' b sp hd f.resultTypes.toList (v.resultList f.resultTypes.size) (s.fn H (ds++gs)).results [])
  (hargs:∀ sp:Nat→Bool,(∀ p∈before,sp p.block=true)→DataW.TrodAll enc P W' 0 sp true f.params.toList args.toList (s.fn H (ds++gs)).args pa)
  (hvars:∀ sp:Nat→Bool,(∀ p∈before,sp p.block=true)→DataW.TrodVars enc P W' sp s.vars (s.fn H (ds++gs)).vars pv)
  (hps:before=pa++pv) (hb:Below W.heap.size W W')
  (hok:∀ (j:Nat) (t:TypeId) (r:Value),f.resultTypes[j]?=some t→(v.resultList f.resultTypes.size)[j]?=some r→Value.okWide P W' .any 0 t r) :
  s.post enc P f apart fresh handsOn again W args v W':=by
 have hlt:∀ p∈before,p.block<W.heap.size:=fun p hp=>hW.lt p hp
 have hold:∀ p∈before,(fun b=>decide (b<W.heap.size)) p.block=true:=fun p hp=>by simpa using hlt p hp
 refine⟨ds,gs,before,[],pa,pv,hW,hres _ _ _,hargs _ hold,hvars _ hold,World.keptBut_mono (fun p hp=>⟨hp,?_⟩) (hb.frame (·∈before)),fun _=>?_⟩
 ·rw[hps,List.mem_append]at hp
  exact Or.inr hp
 ·obtain⟨_,_,_,_,_,hz,hn⟩:=hW
  refine⟨hok,_,_,([]++pa)++pv,⟨[]++pa,pv,trodAll_append (hargs _ (fun _ _=>rfl)) (hres _ _ _),hvars _ (fun _ _=>rfl),rfl,?_,?_⟩,?_⟩
  ·intro b off hp
   have hin:MemPlace.cell b off∈before:=by rw[hps];simpa using hp
   rw[hb.frozen (hlt _ hin)]
   exact hz b off hin
  ·intro ha
   have:=hn ha
   rw[hps]at this
   simpa using this
  ·intro p hp _
   rw[hps]
   simpa using hp
theorem trodAll_keep (hl:laidOutB P=true){W W':World}(hb:Below W.heap.size W W')(sp:Nat→Bool)(ts:List TypeId):∀ (vs:List Value)(ds:List (DataW H))(ps:List MemPlace),(∀ t∈ts,P.readableRec t=true∧t<P.types.size) →
  DataW.TrodAll enc P W 0 (fun _=>true) true ts vs ds ps→(∀ x∈ps,x.block<W.heap.size)→(∀ x∈ps,sp x.block=true)→DataW.TrodAll enc P W' 0 sp true ts vs ds ps:=by
 induction ts with
 | nil =>
  intro vs ds ps _ h _ _
  obtain⟨rfl,rfl,rfl⟩:=trodAll_nil h
  exact trodAll_mk0
 | cons t ts ih =>
  intro vs ds ps hts h hlt hsp
  obtain⟨v0,vs0,d0,ds0,p0,q0,rfl,rfl,rfl,h0,r0⟩:=trodAll_cons h
  obtain⟨hr,hrow⟩:=hts t (by simp)
  exact trodAll_cons_mk (WideElems.Trod_stays hl hr hrow h0 (fun x hx=>hb.same (hlt x (by simp[hx]))) (fun x hx=>hsp x (by simp[hx])))
   (ih _ _ _ (fun t ht=>hts t (by simp[ht])) r0 (fun x hx=>hlt x (by simp[hx])) (fun x hx=>hsp x (by simp[hx])))
theorem law_post (hl:laidOutB P=true){f:Func}{s:ChangeSpec}{T:TypeId}{W W':World}{args:Array Value}{ds:List (DataW H)}{before:List MemPlace}
  (hvars:s.vars=[]) (hrt:f.resultTypes=#[T]) (hT:P.underlying T=some .bool) (hts:f.params.toList.all (fun t=>P.readableRec t&&decide (t<P.types.size))=true)
  (hW:DataW.Whole enc P f.params.toList s.vars false W args.toList ds [] before) (hA:DataW.TrodAll enc P W 0 (fun _=>true) true f.params.toList args.toList ds before)
  (e1:(s.fn H (ds++[])).results=[.lit (.bool true)]) (e2:(s.fn H (ds++[])).args=ds) (e3:(s.fn H (ds++[])).vars=[]) (hb:Below W.heap.size W W') :
  s.post enc P f false true false false W args (.bool true) W':=by
 have hlt:∀ x∈before,x.block<W.heap.size:=fun x hx=>hW.lt x hx
 refine post_of_below (pa:=before) (pv:=[]) hW ?_ ?_ ?_ (by simp) hb ?_
 ·intro b sp hd
  rw[e1,hrt]
  exact trodAll_cons_mk (shut_bool hT true) trodAll_mk0
 ·intro sp hsp
  rw[e2]
  exact trodAll_keep hl hb sp _ _ _ _ (fun t ht=>by simpa using List.all_eq_true.1 hts t ht) hA hlt hsp
 ·intro sp hsp
  rw[e3,hvars]
  rfl
 ·exact ok_one hrt rfl (okWide_bool_mk hT true)
end
end Go.Proofs.YtinknhophadbkaaGreatDoor
namespace Go.Proofs.YtinknhophadbkaaGreatDoor.Am
open Go.RowKit Go.ChangeShapes Go.WideShapes Go.Deep Go.Joins
section
variable {H : Type} {enc : TypeId × Value → H} {w : World} {base : Nat} {spare : Nat → Bool} {held : Bool}
theorem opens_conv {P:Program}{t:TypeId}{α β:Type}{en:α→List AV}{en2:β→List AV}{R:α→Prop}{R2:β→Prop}(f:α→β)(h:Opens enc P w base spare held t en R)(he:∀ a,en2 (f a)=en a)(hR:∀ a,R a→R2 (f a)):Opens enc P w base spare held t en2 R2:=by
 intro fuel cs x hx hs
 obtain⟨a,ha,hc⟩:=h fuel cs x hx hs
 exact⟨f a,hR a ha,by rw[he];exact hc⟩
theorem opens_str2 {P:Program}{t:TypeId}(ht:P.underlying t=some .string):Opens enc P w base spare held t (fun s:ByteArray=>[.c (.string s)]) (fun s=>s.size≤140737488355328):=by
 intro fuel cs x h hsz
 obtain⟨s,rfl,rfl,-⟩:=DataW.trod_string ht h
 refine⟨s,?_,cells_one1 (.c _) rfl (.c _)⟩
 have h1:s.data.toList.length≤140737488355328:=Nat.le_trans (hsz s.data.toList.length (List.mem_singleton.2 rfl)) (by decide)
 rw[Array.length_toList]at h1
 exact h1
abbrev I64F (p:Fact):Prop:=(Lit.int .i64 p.1).wf=true∧(Lit.int .i64 p.2).wf=true
abbrev FactsR (l:List Fact):Prop:=l.length*16≤140737488355328∧∀ p∈l,I64F p
abbrev EffR (e:GEffect):Prop:=FactsR e.When
abbrev OpR (o:GOp):Prop:=o.Name.size≤140737488355328∧FactsR o.Pre∧o.Effs.length*40≤140737488355328∧∀ e∈o.Effs,EffR e
abbrev IntsR (l:List Int):Prop:=l.length*8≤140737488355328∧∀ z∈l,(Lit.int .i64 z).wf=true
abbrev TaskR (t:GTask):Prop:=IntsR t.Vars∧IntsR t.Init∧FactsR t.Goal∧t.Ops.length*72≤140737488355328∧∀ o∈t.Ops,OpR o
set_option maxRecDepth 100000 in
theorem oFact : Opens enc Tryz.prog w base spare held 47 cF I64F :=
 opens_struct Tryz.underlying47 (opensF_cons (off':=1) rfl (by kernel_rfl) (opens_int Tryz.underlying3) (opensF_last rfl (by kernel_rfl) (opens_int Tryz.underlying3)))
set_option maxRecDepth 100000 in
theorem oFacts : Opens enc Tryz.prog w base spare held 23 (fun l:List Fact=>[.sl 2 (l.map cF)]) FactsR :=
 opens_slice Tryz.underlying23 (by kernel_rfl) (by kernel_rfl) (by decide) (by decide) oFact
set_option maxRecDepth 100000 in
theorem oInts : Opens enc Tryz.prog w base spare held 22 (fun l:List Int=>[.sl 1 (l.map cI)]) IntsR :=
 opens_slice Tryz.underlying22 (by kernel_rfl) (by kernel_rfl) (by decide) (by decide) (opens_int Tryz.underlying3)
set_option maxRecDepth 100000 in
theorem oEff : Opens enc Tryz.prog w base spare held 45 cGEffect EffR :=
 opens_conv (fun p:List Fact×(Int×Int)=>{ When:=p.1,Var:=p.2.1,Val:=p.2.2:GEffect })
  (opens_struct Tryz.underlying45 (opensF_cons (off':=1) (en:=fun l:List Fact=>[AV.sl 2 (l.map cF)]) (R:=FactsR) (en':=fun z:Int×Int=>[AV.c (.int .i64 z.1)]++[AV.c (.int .i64 z.2)]) (R':=fun z:Int×Int=>(Lit.int .i64 z.1).wf=true∧(Lit.int .i64 z.2).wf=true) rfl (by kernel_rfl) oFacts
   (opensF_cons (off':=2) (en:=fun z:Int=>[AV.c (.int .i64 z)]) (R:=fun z:Int=>(Lit.int .i64 z).wf=true) (en':=fun z:Int=>[AV.c (.int .i64 z)]) (R':=fun z:Int=>(Lit.int .i64 z).wf=true) rfl (by kernel_rfl) (opens_int Tryz.underlying3) (opensF_last rfl (by kernel_rfl) (opens_int Tryz.underlying3)))))
  (fun _=>rfl) (fun _ h=>h.1)
set_option maxRecDepth 100000 in
theorem oOp : Opens enc Tryz.prog w base spare held 43 cGOp OpR :=
 opens_conv (fun p:ByteArray×(Int×(List Fact×List GEffect))=>{ Name:=p.1,Cost:=p.2.1,Pre:=p.2.2.1,Effs:=p.2.2.2:GOp })
  (opens_struct Tryz.underlying43 (opensF_cons (off':=1) (en:=fun s:ByteArray=>[AV.c (.string s)]) (R:=fun s=>s.size≤140737488355328) (en':=fun p:Int×(List Fact×List GEffect)=>[AV.c (.int .i64 p.1)]++([AV.sl 2 (p.2.1.map cF)]++[AV.sl 3 (p.2.2.map cGEffect)])) (R':=fun p:Int×(List Fact×List GEffect)=>(Lit.int .i64 p.1).wf=true∧(FactsR p.2.1∧(p.2.2.length*40≤140737488355328∧∀ e∈p.2.2,EffR e))) rfl (by kernel_rfl) (opens_str2 Tryz.underlying9)
   (opensF_cons (off':=2) (en:=fun z:Int=>[AV.c (.int .i64 z)]) (R:=fun z:Int=>(Lit.int .i64 z).wf=true) (en':=fun p:List Fact×List GEffect=>[AV.sl 2 (p.1.map cF)]++[AV.sl 3 (p.2.map cGEffect)]) (R':=fun p:List Fact×List GEffect=>FactsR p.1∧(p.2.length*40≤140737488355328∧∀ e∈p.2,EffR e)) rfl (by kernel_rfl) (opens_int Tryz.underlying3)
    (opensF_cons (off':=3) (en:=fun l:List Fact=>[AV.sl 2 (l.map cF)]) (R:=FactsR) (en':=fun l:List GEffect=>[AV.sl 3 (l.map cGEffect)]) (R':=fun l:List GEffect=>l.length*40≤140737488355328∧∀ e∈l,EffR e) rfl (by kernel_rfl) oFacts
     (opensF_last rfl (by kernel_rfl) (opens_slice Tryz.underlying41 (by kernel_rfl) (by kernel_rfl) (by decide) (by decide) oEff))))))
  (fun _=>rfl) (fun _ h=>⟨h.1,h.2.2.1,h.2.2.2⟩)
set_option maxRecDepth 100000 in
theorem oTask : Opens enc Tryz.prog w base spare held 26 cGTask TaskR :=
 opens_conv (fun p:List Int×(List Int×(List Fact×List GOp))=>{ Vars:=p.1,Init:=p.2.1,Goal:=p.2.2.1,Ops:=p.2.2.2:GTask })
  (opens_struct Tryz.underlying26 (opensF_cons (off':=1) (en:=fun l:List Int=>[AV.sl 1 (l.map cI)]) (R:=IntsR) (en':=fun p:List Int×(List Fact×List GOp)=>[AV.sl 1 (p.1.map cI)]++([AV.sl 2 (p.2.1.map cF)]++[AV.sl 4 (p.2.2.map cGOp)])) (R':=fun p:List Int×(List Fact×List GOp)=>IntsR p.1∧(FactsR p.2.1∧(p.2.2.length*72≤140737488355328∧∀ o∈p.2.2,OpR o))) rfl (by kernel_rfl) oInts
   (opensF_cons (off':=2) (en:=fun l:List Int=>[AV.sl 1 (l.map cI)]) (R:=IntsR) (en':=fun p:List Fact×List GOp=>[AV.sl 2 (p.1.map cF)]++[AV.sl 4 (p.2.map cGOp)]) (R':=fun p:List Fact×List GOp=>FactsR p.1∧(p.2.length*72≤140737488355328∧∀ o∈p.2,OpR o)) rfl (by kernel_rfl) oInts
    (opensF_cons (off':=3) (en:=fun l:List Fact=>[AV.sl 2 (l.map cF)]) (R:=FactsR) (en':=fun l:List GOp=>[AV.sl 4 (l.map cGOp)]) (R':=fun l:List GOp=>l.length*72≤140737488355328∧∀ o∈l,OpR o) rfl (by kernel_rfl) oFacts
     (opensF_last rfl (by kernel_rfl) (opens_slice Tryz.underlying24 (by kernel_rfl) (by kernel_rfl) (by decide) (by decide) oOp))))))
  (fun _=>rfl) (fun _ h=>h)
theorem arg_struct {P:Program}{t:TypeId}{fs:Array Field}{α:Type}{en:α→List AV}{R:α→Prop}{r:Reach}{b0:Nat}{v:Value}{d:DataW H}{p:List MemPlace}(ht:P.underlying t=some (.struct fs))(hv:Value.okWide P w r b0 t v)(ho:Opens enc P w base spare held t en R)(h:DataW.Trod enc P w base spare held t v d p)(hs:Sized P t d) :
  ∃ a,R a∧RV w nov mZ (.agg (en a)) v:=by
 obtain⟨cs,rfl,hsz⟩:=okWide_struct ht hv
 obtain⟨fuel,hf⟩:=h
 obtain⟨a,ha,hc⟩:=ho fuel _ _ hf hs
 exact⟨a,ha,agg_rv hc⟩
theorem arg_one {P:Program}{t:TypeId}{α:Type}{y:α→AV}{R:α→Prop}{v:Value}{d:DataW H}{p:List MemPlace}(hv:v.cells=#[v])(ho:Opens enc P w base spare held t (fun a=>[y a]) R)(h:DataW.Trod enc P w base spare held t v d p)(hs:Sized P t d) :
  ∃ a,R a∧RV w nov mZ (y a) v:=by
 obtain⟨fuel,hf⟩:=h
 rw[hv]at hf
 obtain⟨a,ha,hc⟩:=ho fuel _ _ hf hs
 exact⟨a,ha,one_rv hc⟩
end
theorem TaskR.sh {t:GTask}(h:TaskR t):ShT t:=by
 obtain⟨⟨h1,-⟩,⟨h2,-⟩,⟨h3,-⟩,h4,h5⟩:=h
 refine⟨?_,?_,?_,?_,fun o ho=>?_⟩
 ·show _≤_;omega
 ·show _≤_;omega
 ·show _≤_;omega
 ·show _≤_;omega
 ·obtain⟨g1,⟨g2,-⟩,g3,g4⟩:=h5 o ho
  refine⟨by omega,?_,?_,fun e he=>?_⟩
  ·show _≤_;omega
  ·show _≤_;omega
  ·have:=(g4 e he).1
   show _≤_;omega
theorem FactsR.sh {l:List Fact}(h:FactsR l):Sh l:=by have:=h.1;show _≤_;omega
end Go.Proofs.YtinknhophadbkaaGreatDoor.Am
namespace Go.Proofs.YtinknhophadbkaaGreatDoor
open Go.ChangeShapes Go.WideShapes Go.ChangeAt Go.RowKit
theorem own : ownKnob Tryz.prog.godebug=none:=by kernel_rfl
theorem laidOut : laidOutB Tryz.prog=true:=by kernel_rfl
def tab32 : Array Value:=#[.int .u8 0,.int .u8 1,.int .u8 28,.int .u8 2,.int .u8 29,.int .u8 14,.int .u8 24,.int .u8 3,.int .u8 30,.int .u8 22,.int .u8 20,.int .u8 15,.int .u8 25,.int .u8 17,.int .u8 4,.int .u8 8,.int .u8 31,.int .u8 27,.int .u8 13,.int .u8 23,.int .u8 21,.int .u8 19,.int .u8 16,.int .u8 7,.int .u8 26,.int .u8 12,.int .u8 18,.int .u8 6,.int .u8 11,.int .u8 5,.int .u8 10,.int .u8 9]
def tab64 : Array Value:=#[.int .u8 0,.int .u8 1,.int .u8 56,.int .u8 2,.int .u8 57,.int .u8 49,.int .u8 28,.int .u8 3,.int .u8 61,.int .u8 58,.int .u8 42,.int .u8 50,.int .u8 38,.int .u8 29,.int .u8 17,.int .u8 4,.int .u8 62,.int .u8 47,.int .u8 59,.int .u8 36,.int .u8 45,.int .u8 43,.int .u8 51,.int .u8 22,.int .u8 53,.int .u8 39,.int .u8 33,.int .u8 30,.int .u8 24,.int .u8 18,.int .u8 12,.int .u8 5,.int .u8 63,.int .u8 55,.int .u8 48,.int .u8 27,.int .u8 60,.int .u8 41,.int .u8 37,.int .u8 16,.int .u8 46,.int .u8 35,.int .u8 44,.int .u8 21,.int .u8 52,.int .u8 32,.int .u8 23,.int .u8 11,.int .u8 54,.int .u8 26,.int .u8 40,.int .u8 15,.int .u8 34,.int .u8 20,.int .u8 31,.int .u8 10,.int .u8 25,.int .u8 14,.int .u8 19,.int .u8 9,.int .u8 13,.int .u8 8,.int .u8 7,.int .u8 6]
def tabPow : Array Value:=#[.int .u64 1,.int .u64 10,.int .u64 100,.int .u64 1000,.int .u64 10000,.int .u64 100000,.int .u64 1000000,.int .u64 10000000,.int .u64 100000000,.int .u64 1000000000,.int .u64 10000000000,.int .u64 100000000000,.int .u64 1000000000000,.int .u64 10000000000000,.int .u64 100000000000000,.int .u64 1000000000000000,.int .u64 10000000000000000,.int .u64 100000000000000000,.int .u64 1000000000000000000,.int .u64 10000000000000000000]
def putCells (cs:Array Value):Obj→Obj
 | .cells _ t frozen=>.cells cs t frozen
 | o=>o
noncomputable def laidWorld (os:Os):World :=
 { World.holding Tryz.prog os ⟨#[],#[],[]⟩with heap:=(((World.holding Tryz.prog os ⟨#[],#[],[]⟩).heap.modify 1 (putCells tabPow)).modify 4 (putCells tab32)).modify 5 (putCells tab64) }
end Go.Proofs.YtinknhophadbkaaGreatDoor
namespace Go.Proofs.YtinknhophadbkaaGreatDoor
open Go.ChangeShapes Go.WideShapes Go.ChangeAt Go.RowKit
def tabFirst : Array Value:=(Go.Pinned.utf8FirstZ.map (fun(n:Nat)=>Value.int .u8 n)).toArray
def tabAccept : Array Value:=#[.int .u8 128,.int .u8 191,.int .u8 160,.int .u8 191,.int .u8 128,.int .u8 159,.int .u8 144,.int .u8 191,.int .u8 128,.int .u8 143]++Array.replicate 22 (.int .u8 0)
noncomputable def laidWorld5 (os:Os):World :=
 { laidWorld os with heap:=((laidWorld os).heap.modify 2 (putCells tabFirst)).modify 3 (putCells tabAccept) }
end Go.Proofs.YtinknhophadbkaaGreatDoor
namespace Go.Proofs.YtinknhophadbkaaGreatDoor.rowOptimality
open Go.ChangeShapes Go.WideShapes Go.ChangeAt Go.RowKit Am
theorem table {W:World}(h:laidMetH Tryz.prog Rows.wholeOptimalityRow.laid W):TabOk W:=by
 obtain⟨ps,⟨_,_,_,_,_,_,_,_,_,_,⟨_,_,_,_,_,_,_,_,_,_,hr,_⟩,_⟩,_⟩:=h
 obtain⟨g',t',cs,fuel,p,q,hg',ht',hvar,hd,_,_⟩:=hr
 obtain rfl:=sI_ (gPow.symm.trans hg')
 obtain rfl:=sI_ ((show(Tryz.prog.globals[1]?).map (·.type)=some 201 by kernel_rfl).symm.trans ht')
 unfold TabOk Lib.TabIs
 rw[hvar,← Lib.cells_of_tab (zs:=Lib.pow10Tab) Tryz.underlying201 Tryz.underlying183 (by kernel_rfl) (by kernel_rfl) hd]
set_option maxRecDepth 100000 in
theorem contract (H:Type)(enc:TypeId×Value→H)(W:World)(base:Nat)(args:Array Value)(ds gs:List (DataW H))(before:List MemPlace)
  (hval:∀ (j:Nat) t v,Tryz.f3.params[j]?=some t→args[j]?=some v→Value.okWide Tryz.prog W .any base t v)
  (hW:DataW.Whole enc Tryz.prog Tryz.f3.params.toList Rows.wholeOptimalitySpec.vars false W args.toList ds gs before) (hL:laidMetH Tryz.prog Rows.wholeOptimalityRow.laid W)
  (hsz:(DataW.weightsEach Tryz.prog (Tryz.f3.params.toList++(OpenSpec.ofChange Rows.wholeOptimalitySpec).bare.plain.varTypes Tryz.prog) (ds++gs)).all (·≤reachBytes)=true) (hsh:W.ShapedOpen Tryz.prog) :
  Calls Tryz.prog 3 args W fun e W'=>∃ v,e=.returned v∧Rows.wholeOptimalitySpec.post enc Tryz.prog Tryz.f3 false true false false W args v W':=by
 have hW':=hW
 obtain⟨p,q,hA0,hV,rfl,hfz,hnd⟩:=hW
 have hA:DataW.TrodAll enc Tryz.prog W 0 (fun _=>true) true Tryz.f3.params.toList args.toList ds p:=hA0
 rw[Tryz.params3]at hA hval
 obtain⟨v0,vs0,d0,ds0,p0,q0,hargs,rfl,rfl,h0,r0⟩:=trodAll_cons hA
 obtain⟨v1,vs1,d1,ds1,p1,q1,rfl,rfl,rfl,h1,r1⟩:=trodAll_cons r0
 obtain⟨v2,vs2,d2,ds2,p2,q2,rfl,rfl,rfl,h2,r2⟩:=trodAll_cons r1
 obtain⟨rfl,rfl,rfl⟩:=trodAll_nil r2
 obtain rfl:args=#[v0,v1,v2]:=Array.ext' hargs
 obtain⟨rfl,rfl⟩:=trodVars_none hV
 simp only[List.append_nil]at hW' hA0 hsz
 rw[Tryz.params3]at hsz
 obtain⟨t,ht,k0⟩:=arg_struct Tryz.underlying26 (hval 0 26 v0 rfl rfl) oTask h0 (sized_arg hsz (j:=0) rfl rfl)
 obtain⟨a1,len1,cap1,rfl⟩:=okWide_slice Tryz.underlying22 (hval 1 22 v1 rfl rfl)
 obtain⟨x,hx0,k1⟩:=arg_one rfl oInts h1 (sized_arg hsz (j:=1) rfl rfl)
 obtain⟨s,rfl⟩:=okWide_string Tryz.underlying9 (hval 2 9 v2 rfl rfl)
 refine(law_of (A_stratagemtop_WholeOptimality 1000000000000000000 t x s (whole_true t ht.sh x s)) ⟨table hL,Tryz.laysM146.s1_3 W hsh⟩ rfl (fun j x v hx hv=>?_)).mono fun e W' ⟨he,hb⟩=>?_
 ·match j,hx,hv with
  | 0,hx,hv=>simp at hx hv;subst hx hv;exact k0
  | 1,hx,hv=>simp at hx hv;subst hx hv;exact k1
  | 2,hx,hv=>simp at hx hv;subst hx hv;exact .c _
  | j+3,hx,hv=>simp at hx
 ·subst he
  exact⟨_,rfl,law_post laidOut rfl (by kernel_rfl) Tryz.underlying4 (by kernel_rfl) hW' hA0 rfl rfl rfl hb⟩
theorem laid_met (os:Os):laidMet Tryz.prog Rows.wholeOptimalityRow.laid ((laidWorld5 os).forCall (fun _ _=>0) ⟨#[],#[.agg #[.slice none 0 0,.slice none 0 0,.slice none 0 0,.slice none 0 0],.slice none 0 0,.string ⟨#[]⟩],[]⟩).memory :=
 laidMet_of_run' 8 (by kernel_rfl) (by kernel_rfl)
theorem reads (os:Os){H:Type}(enc:TypeId×Value→H):∃ places,DataW.whole enc Tryz.prog ((laidWorld5 os).forCall (fun _ _=>0) ⟨#[],#[.agg #[.slice none 0 0,.slice none 0 0,.slice none 0 0,.slice none 0 0],.slice none 0 0,.string ⟨#[]⟩],[]⟩).memory Tryz.f3.params.toList Rows.wholeOptimalitySpec.vars false (#[.agg #[.slice none 0 0,.slice none 0 0,.slice none 0 0,.slice none 0 0],.slice none 0 0,.string ⟨#[]⟩]:Array Value).toList 8=some ([.agg [.nil,.nil,.nil,.nil],.nil,.lit (.string [])],[],places) :=
 ⟨[],by kernel_rfl⟩
set_option maxRecDepth 100000 in
theorem lifted (os:Os)(started:os.Started)(H:Type)(enc:TypeId×Value→H)(F:Stop.Interp) :
  ReturnsInHanded {} Tryz.checked os 3 .any ((OpenSpec.ofChange Rows.wholeOptimalitySpec).preRow enc Tryz.prog Tryz.f3 Rows.wholeOptimalityRow.domain false Rows.wholeOptimalityRow.laid) (((OpenSpec.ofChange Rows.wholeOptimalitySpec).at F).post enc Tryz.prog Tryz.f3 false true false false):=by
 obtain⟨places,hx⟩:=reads os enc
 refine returnsInHanded_of_row (C:=Tryz.checked) (s:=OpenSpec.ofChange Rows.wholeOptimalitySpec) own started (by kernel_rfl) Tryz.func3
  (witness_row_at (enc:=enc) (C:=Tryz.checked) false (laidWorld5 os) #[.agg #[.slice none 0 0,.slice none 0 0,.slice none 0 0,.slice none 0 0],.slice none 0 0,.string ⟨#[]⟩] rfl (by kernel_rfl) (by kernel_rfl) (by kernel_rfl)
   (OpenSpec.preRow_of_cond 8 hx (by kernel_rfl) (fun k hk=>by cases hk) (by kernel_rfl) (laid_met os))) ?_
 intro W base args ds gs before hval hW _ _ hsz hL hsh _
 exact contract H enc W base args ds gs before hval hW hL hsz hsh
theorem said : Rows.WholeOptimalitySaid :=
 OpenClaim.holds_of_cond 3 Tryz.f3 rfl rfl rfl rfl rfl rfl rfl ⟨rfl,rfl,rfl,rfl,rfl⟩ rfl rfl rfl rfl rfl (by kernel_rfl) Tryz.func3 (by kernel_rfl)
  (of_decide_eq_true (by kernel_rfl)) (by unfold Func.isWrapper;first|(rw[if_pos (by decide +kernel)];kernel_rfl)|(rw[if_neg (by decide +kernel)];exact⟨rfl,rfl⟩))
  (fun os started H enc _ F=>by rw[OpenClaim.pre_eq_preRow];exact lifted os started H enc F)
theorem plain (f:FuncId)(fn:Func)(hf:Tryz.pinned.checked.prog.funcNamed Rows.wholeOptimalityRow.func=some f)(hfn:Tryz.pinned.checked.prog.funcs[f]?=some fn) :
  true=Tryz.pinned.checked.prog.looks []∧∀ (j:Nat) t,fn.params[j]?=some t→Tryz.pinned.checked.prog.wantsStandIn t=false:=by
 obtain rfl:f=3:=sI_ ((show Tryz.prog.funcNamed Rows.wholeOptimalityRow.func=some 3 by kernel_rfl).symm.trans hf) |>.symm
 obtain rfl:fn=Tryz.f3:=(sI_ (Tryz.func3.symm.trans hfn)).symm
 refine⟨by kernel_rfl,fun j t ht=>?_⟩
 have hall:Tryz.f3.params.toList.all (fun t=>!Tryz.prog.wantsStandIn t)=true:=by kernel_rfl
 have:=List.all_eq_true.1 hall t (by simpa using Array.mem_of_getElem? ht)
 have h2:Tryz.prog.wantsStandIn t=false:=by simpa using this
 exact h2
theorem card : Rows.WholeOptimalityCardSaid :=
 Claim7.holds_tied_plain_at .later [] _ _ _ _ said (fun _ h=>by cases h) (by kernel_rfl) (fun _ h=>by cases h) wholeOptimality_row_tie rfl ⟨rfl,rfl⟩ (by kernel_rfl) rfl plain (by kernel_rfl)
end Go.Proofs.YtinknhophadbkaaGreatDoor.rowOptimality
