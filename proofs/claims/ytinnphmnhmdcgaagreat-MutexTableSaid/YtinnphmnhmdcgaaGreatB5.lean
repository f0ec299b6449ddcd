/- Texts of the proof, part 5 of 6. -/
import Derived.Test.YtinnphmnhmdcgaaGreatB4
import Derived.Test.YtinnphmnhmdcgaaGreatB1
import Derived.Test.YtinnphmnhmdcgaaGreatB2
import Derived.Maps.Keyed
import Derived.WideKeyRuns
import Derived.Test.YtinnphmnhmdcgaaGreatB3
set_option linter.unusedVariables false
set_option linter.unusedSectionVars false
set_option linter.unusedSimpArgs false
open List renaming getElem?_eq_getElem→gE_, length_map→lM_, length_append→lA_, mem_cons_of_mem→mC_, length_cons→lC_, mem_cons_self→mS_, mem_of_getElem?→mG_, getElem?_eq_some_iff→gS_, getD_eq_getElem?_getD→gD_, length_nil→lN_, mem_singleton→mI_, take_of_length_le→tL_, length_replicate→lR_
open Option.some renaming inj→sI_
open Bool renaming and_eq_true→bA_
open Option renaming bind_some→oB_
open Array renaming getElem?_eq_getElem→aE_
namespace Go.Proofs.YtinnphmnhmdcgaaGreat.Am
theorem bT2 {n m:Nat}(h:Nat.ble n m=true):n≤m:=Nat.le_of_ble_eq_true h
def offG : Int→List Int→List Int
 | _,[]=>[]
 | a,k :: r=>a :: offG (a+k) r
theorem offG_len : ∀ (a:Int)(l:List Int),(offG a l).length=l.length
 | _,[]=>rfl
 | a,k :: r=>by simp[offG,offG_len (a+k) r]
def InV (vars:List Int)(f:Fact):Prop:=0≤f.1∧f.1<vars.length∧0≤f.2∧f.2<vars.getD f.1.toNat 0
theorem inV_iff {vars:List Int}{f:Fact}:propF vars (-1) [f]=true↔InV vars f:=by
 rw[propF_iff,vF_iff']
 unfold InV
 constructor
 ·rintro⟨⟨h1,_⟩,h2⟩
  have:=h1 f (by simp)
  have:=h2 f (by simp)
  omega
 ·rintro⟨h1,h2,h3,h4⟩
  refine⟨⟨fun x hx=>?_,by simp[Asc]⟩,fun x hx=>?_⟩
  ·rw[mI_.1 hx];exact⟨h1,h3⟩
  ·rw[mI_.1 hx];exact⟨h2,h4⟩
def sumI : List Int→Int
 | []=>0
 | k :: r=>k+sumI r
theorem sumI_nn : ∀ {r:List Int},(∀ k∈r,1≤k)→0≤sumI r
 | [],_=>by simp[sumI]
 | y :: s,h=>by
  have:=sumI_nn (r:=s) (fun k hk=>h k (mC_ _ hk))
  have:=h y (by simp)
  simp only[sumI]
  omega
theorem offG_at : ∀ (l:List Int)(a:Int)(i:Nat)(x:Int),(∀ k∈l,1≤k)→i<l.length→0≤x→x<l.getD i 0→a≤(offG a l).getD i 0+x∧(offG a l).getD i 0+x<a+sumI l
 | [],a,i,x,_,hi,_,_=>by simp at hi
 | k :: r,a,0,x,h,_,h0,h1=>by
  simp only[offG,List.getD_cons_zero]at h1 ⊢
  have:=sumI_nn (r:=r) (fun k hk=>h k (mC_ _ hk))
  simp only[sumI]
  omega
 | k :: r,a,i+1,x,h,hi,h0,h1=>by
  have hk:=h k (by simp)
  have:=offG_at r (a+k) i x (fun k hk=>h k (mC_ _ hk)) (by simpa using hi) h0 (by simpa using h1)
  simp only[offG,List.getD_cons_succ,sumI]at this ⊢
  omega
theorem offG_inj : ∀ (l:List Int)(a:Int)(i j:Nat)(x y:Int),(∀ k∈l,1≤k)→i<l.length→j<l.length→0≤x→x<l.getD i 0→0≤y→y<l.getD j 0→(offG a l).getD i 0+x=(offG a l).getD j 0+y→i=j∧x=y
 | [],a,i,j,x,y,_,hi,_,_,_,_,_,_=>by simp at hi
 | k :: r,a,0,0,x,y,_,_,_,_,_,_,_,e=>by
  simp only[offG,List.getD_cons_zero]at e
  exact⟨rfl,by omega⟩
 | k :: r,a,0,j+1,x,y,h,_,hj,h0,h1,g0,g1,e=>by
  have:=offG_at r (a+k) j y (fun k hk=>h k (mC_ _ hk)) (by simpa using hj) g0 (by simpa using g1)
  simp only[offG,List.getD_cons_zero,List.getD_cons_succ]at e h1
  omega
 | k :: r,a,i+1,0,x,y,h,hi,_,h0,h1,g0,g1,e=>by
  have:=offG_at r (a+k) i x (fun k hk=>h k (mC_ _ hk)) (by simpa using hi) h0 (by simpa using h1)
  simp only[offG,List.getD_cons_zero,List.getD_cons_succ]at e g1
  omega
 | k :: r,a,i+1,j+1,x,y,h,hi,hj,h0,h1,g0,g1,e=>by
  have:=offG_inj r (a+k) i j x y (fun k hk=>h k (mC_ _ hk)) (by simpa using hi) (by simpa using hj) h0 (by simpa using h1) g0 (by simpa using g1) (by simpa [offG] using e)
  omega
def numF (vars:List Int)(f:Fact):Int:=(offG 0 vars).getD f.1.toNat 0+f.2
theorem numF_at {vars:List Int}(hv:∀ k∈vars,1≤k){f:Fact}(h:InV vars f):0≤numF vars f∧numF vars f<sumI vars:=by
 obtain⟨h1,h2,h3,h4⟩:=h
 have:=offG_at vars 0 f.1.toNat f.2 hv (by omega) h3 h4
 unfold numF
 omega
theorem numF_inj {vars:List Int}(hv:∀ k∈vars,1≤k){f g:Fact}(h:InV vars f)(h':InV vars g)(e:numF vars f=numF vars g):f=g:=by
 obtain⟨h1,h2,h3,h4⟩:=h
 obtain⟨g1,g2,g3,g4⟩:=h'
 obtain⟨e1,e2⟩:=offG_inj vars 0 f.1.toNat g.1.toNat f.2 g.2 hv (by omega) (by omega) h3 h4 g3 g4 e
 exact Prod.ext (by omega) e2
structure Tb (t:GTask)(z:GTable):Prop where
 task:z.t=t
 first:z.first=offG 0 t.Vars
 len:(z.reached.length:Int)=sumI t.Vars
 row:∀ r∈z.reached,r.length=z.reached.length
 pos:∀ k∈t.Vars,1≤k
 small:sumI t.Vars≤512
 vlen:t.Vars.length≤64
def atR (R:List (List Bool))(i j:Int):Bool:=(R.getD i.toNat []).getD j.toNat false
def isF (t:GTask)(R:List (List Bool))(a b:Fact):Bool:=atR R (numF t.Vars a) (numF t.Vars b)
theorem number_eq {t:GTask}{z:GTable}(h:Tb t z){f:Fact}(hf:InV t.Vars f):M_stratagem_mutex_Table_number z f=some (numF t.Vars f):=by
 unfold M_stratagem_mutex_Table_number
 have hn:=numF_at h.pos hf
 have hs:=h.small
 obtain⟨h1,h2,h3,h4⟩:=hf
 rw[h.first,ix_getD (d:=0) h1 (by rw[offG_len];exact h2)]
 have:(offG 0 t.Vars).getD f.1.toNat 0+f.2=numF t.Vars f:=rfl
 rw[this,wrap_eq (by omega) (by omega)]
theorem is_eq {t:GTask}{z:GTable}(h:Tb t z){a b:Fact}(ha:InV t.Vars a)(hb:InV t.Vars b):M_stratagem_mutex_Table_is z a b=some (isF t z.reached a b):=by
 unfold M_stratagem_mutex_Table_is
 obtain⟨a1,a2⟩:=numF_at h.pos ha
 obtain⟨b1,b2⟩:=numF_at h.pos hb
 have hl:=h.len
 rw[number_eq h ha,ob1_some,ix_getD (d:=[]) a1 (by omega),number_eq h hb,ob1_some,ix_getD (d:=false) b1 ?_]
 ·rfl
 ·have hlt:(numF t.Vars a).toNat<z.reached.length:=by omega
  have hm:z.reached.getD (numF t.Vars a).toNat []∈z.reached:=by
   rw[gD_,gE_ hlt]
   exact List.getElem_mem hlt
  rw[h.row _ hm]
  omega
def rowG (v:Int):Nat→Int→List Fact
 | 0,_=>[]
 | m+1,x=>(v,x) :: rowG v m (x+1)
def factsG : Int→List Int→List Fact
 | _,[]=>[]
 | v,k :: r=>rowG v k.toNat 0++factsG (v+1) r
def allL (vars:List Int):List Fact:=factsG 0 vars
theorem rowG_len (v:Int):∀ (m:Nat)(x:Int),(rowG v m x).length=m
 | 0,_=>rfl
 | m+1,x=>by simp[rowG,rowG_len v m]
theorem factsG_len : ∀ (r:List Int)(v:Int),(∀ k∈r,1≤k)→((factsG v r).length:Int)=sumI r
 | [],_,_=>rfl
 | k :: r,v,h=>by
  have:=factsG_len r (v+1) (fun k hk=>h k (mC_ _ hk))
  have:=h k (by simp)
  simp only[factsG,lA_,rowG_len,sumI]
  omega
theorem rowG_mem (v:Int)(f:Fact):∀ (m:Nat)(x:Int),f∈rowG v m x↔f.1=v∧x≤f.2∧f.2<x+m
 | 0,x=>by simp[rowG] <;> (intros;omega)
 | m+1,x=>by
  rw[rowG,List.mem_cons,rowG_mem v f m (x+1)]
  constructor
  ·rintro(rfl|h)
   ·simp <;> omega
   ·omega
  ·intro h
   by_cases hx:f.2=x
   ·left;exact Prod.ext h.1 hx
   ·right;omega
theorem factsG_mem (f:Fact):∀ (r:List Int)(v:Int),f∈factsG v r↔v≤f.1∧f.1<v+r.length∧0≤f.2∧f.2<r.getD (f.1-v).toNat 0
 | [],v=>by simp[factsG] <;> (intros;omega)
 | k :: r,v=>by
  rw[factsG,List.mem_append,rowG_mem,factsG_mem f r (v+1)]
  constructor
  ·rintro(h|⟨h1,h2,h3,h4⟩)
   ·obtain⟨h1,h2,h3⟩:=h
    rw[h1,Int.sub_self]
    simp
    omega
   ·rw[show(f.1-v).toNat=(f.1-(v+1)).toNat+1 from by omega,List.getD_cons_succ]
    simp only[lC_]
    omega
  ·rintro⟨h1,h2,h3,h4⟩
   by_cases he:f.1=v
   ·left
    rw[he,Int.sub_self]at h4
    simp at h4
    omega
   ·right
    rw[show(f.1-v).toNat=(f.1-(v+1)).toNat+1 from by omega,List.getD_cons_succ]at h4
    simp only[lC_]at h2
    omega
theorem allL_mem {vars:List Int}{f:Fact}:f∈allL vars↔InV vars f:=by
 unfold allL InV
 rw[factsG_mem,Int.sub_zero]
 constructor <;> (intro h;omega)
theorem all1 (v:Int)(y:Int):∀ (m:Nat)(i:Int)(out:List Fact),out.length+m≤1000000→Rn (M_stratagem_mutex_Table_all_L1_B v y) (M_stratagem_mutex_Table_all_L1_E v y) m i out=some (out++rowG v m i)
 | 0,i,out,_=>by simp[Rn,M_stratagem_mutex_Table_all_L1_E,rowG]
 | m+1,i,out,h=>by
  rw[Rn,M_stratagem_mutex_Table_all_L1_B,grd_t (by omega),all1 v y m (i+1) _ (by simp;omega)]
  simp[rowG]
theorem all2 (z:GTable):∀ (r:List Int)(i:Int)(out:List Fact),(∀ k∈r,1≤k)→(out.length:Int)+sumI r≤1000000→Rg (M_stratagem_mutex_Table_all_L2_B z) (M_stratagem_mutex_Table_all_L2_E z) r i out=some (out++factsG i r)
 | [],i,out,_,h=>by
  simp only[sumI]at h
  rw[Rg,M_stratagem_mutex_Table_all_L2_E,grd_t (by omega),factsG,List.append_nil]
 | k :: r,i,out,hk,h=>by
  have h1:=hk k (by simp)
  have h2:=sumI_nn (r:=r) (fun k hk'=>hk k (mC_ _ hk'))
  simp only[sumI]at h
  have e:=M_stratagem_mutex_Table_all_L1_eq i k out (m:=k.toNat) (by omega) (by omega)
  rw[Rg,M_stratagem_mutex_Table_all_L2_B,ixv,e,all1 i k k.toNat 0 out (by omega),ob1_some,all2 z r (i+1) _ (fun k hk'=>hk k (mC_ _ hk')) (by simp[rowG_len];omega),factsG,List.append_assoc]
theorem all_eq {t:GTask}{z:GTable}(h:Tb t z):M_stratagem_mutex_Table_all z=some (allL t.Vars):=by
 have:=h.small
 have:=h.vlen
 unfold M_stratagem_mutex_Table_all
 rw[h.task,← h.task,M_stratagem_mutex_Table_all_L2_eq z [] (by rw[h.task];omega),all2 z _ 0 [] (by rw[h.task];exact h.pos) (by rw[h.task];simp;omega),h.task]
 rfl
def opP (t:GTask)(R:List (List Bool))(a b:Fact):Bool:=a.1 != b.1&&(isF t R a a&&(isF t R b b && !isF t R a b))
def pairG (t:GTask)(R:List (List Bool)):List Fact→List (List Fact)
 | []=>[]
 | a :: r=>(r.filter (opP t R a)).map (fun b=>[a,b])++pairG t R r
def oneF (t:GTask)(R:List (List Bool))(l:List Fact):List (List Fact):=(l.filter (fun a=>!isF t R a a)).map (fun a=>[a])
def openF (t:GTask)(R:List (List Bool)):List (List Fact):=oneF t R (allL t.Vars)++pairG t R (allL t.Vars)
section
variable {t : GTask} {z : GTable}
theorem open1 (h:Tb t z)(l0:List Fact):∀ (r:List Fact)(i:Int)(out:List (List Fact)),(∀ f∈r,InV t.Vars f)→out.length+r.length≤1000000→Rg (M_stratagem_mutex_Table_open_L1_B z l0) (M_stratagem_mutex_Table_open_L1_E z l0) r i out=some (out++oneF t z.reached r)
 | [],i,out,_,_=>by simp[Rg,M_stratagem_mutex_Table_open_L1_E,oneF]
 | a :: r,i,out,hr,hl=>by
  simp only[lC_]at hl
  have ih:=fun out' ho=>open1 h l0 r (i+1) out' (fun f hf=>hr f (mC_ _ hf)) ho
  rw[Rg,M_stratagem_mutex_Table_open_L1_B,ixv,is_eq h (hr a (by simp)) (hr a (by simp)),ob1_some]
  cases hb:isF t z.reached a a with
  | true=>rw[Bool.not_true,sel_ff,ih out (by omega)];simp[oneF,hb]
  | false=>rw[Bool.not_false,sel_tt,grd_t (by omega),ih _ (by simp;omega)];simp[oneF,hb]
theorem open2 (h:Tb t z)(v:Int)(a:Fact)(ha:InV t.Vars a)(l0:List Fact):∀ (r:List Fact)(i:Int)(out:List (List Fact)),(∀ f∈r,InV t.Vars f)→out.length+r.length≤1000000→Rg (M_stratagem_mutex_Table_open_L2_B z v a l0) (M_stratagem_mutex_Table_open_L2_E z v a l0) r i out=some (out++(r.filter (opP t z.reached a)).map (fun b=>[a,b]))
 | [],i,out,_,_=>by simp[Rg,M_stratagem_mutex_Table_open_L2_E]
 | b :: r,i,out,hr,hl=>by
  simp only[lC_]at hl
  have ih:=fun out' ho=>open2 h v a ha l0 r (i+1) out' (fun f hf=>hr f (mC_ _ hf)) ho
  have hb:=hr b (by simp)
  rw[Rg,M_stratagem_mutex_Table_open_L2_B,ixv,is_eq h ha ha,is_eq h hb hb,is_eq h ha hb,ob1_some,ob1_some,ob1_some,List.filter_cons]
  have e:opP t z.reached a b=(a.1 != b.1&&(isF t z.reached a a&&(isF t z.reached b b && !isF t z.reached a b))):=rfl
  rw[e]
  cases h1:(a.1 != b.1)with
  | false=>rw[sel_ff,ih out (by omega)];simp
  | true =>
   cases h2:isF t z.reached a a with
   | false=>rw[sel_tt,sel_ff,ih out (by omega)];simp
   | true =>
    cases h3:isF t z.reached b b with
    | false=>rw[sel_tt,sel_tt,sel_ff,ih out (by omega)];simp
    | true =>
     cases h4:isF t z.reached a b with
     | true=>rw[sel_tt,sel_tt,sel_tt,Bool.not_true,sel_ff,ih out (by omega)];simp
     | false=>rw[sel_tt,sel_tt,sel_tt,Bool.not_false,sel_tt,grd_t (by omega),ih _ (by simp;omega)];simp
theorem open3 (h:Tb t z)(l:List Fact)(hl:∀ f∈l,InV t.Vars f)(hn:l.length≤512):∀ (r:List Fact)(n:Nat)(out:List (List Fact)),l.drop n=r→out.length+r.length*512≤900000→Rg (M_stratagem_mutex_Table_open_L3_B z l) (M_stratagem_mutex_Table_open_L3_E z l) r n out=some (out++pairG t z.reached r)
 | [],n,out,_,ho=>by
  simp only[lN_]at ho
  rw[Rg,M_stratagem_mutex_Table_open_L3_E,grd_t (by omega),pairG,List.append_nil]
 | a :: r,n,out,hd,ho=>by
  obtain⟨h1,h2,h3⟩:=drop_cons hd
  simp only[lC_]at ho
  have hw:IntKind.i64.wrap ((n:Int)+1)=((n+1:Nat):Int):=w64s (by omega)
  have hr:r.length≤512:=by rw[← h2,List.length_drop];omega
  have hcur:(l.take ((l.map cF).length)).drop ((IntKind.i64.wrap ((n:Int)+1)).toNat)=r:=by
   rw[hw,lM_,List.take_length,Int.toNat_natCast,h2]
  have hmem:∀ f∈r,InV t.Vars f:=fun f hf=>hl f (List.mem_of_mem_drop (by rw[h2];exact hf))
  have e:=M_stratagem_mutex_Table_open_L2_eq z n a l out (by rw[hcur];omega)
  have hlen:((r.filter (opP t z.reached a)).map (fun b=>[a,b])).length≤512:=by
   rw[lM_]
   exact Nat.le_trans (List.length_filter_le _ _) hr
  rw[Rg,M_stratagem_mutex_Table_open_L3_B,ixv,grd_t (by rw[hw];omega),grd_t (by rw[hw,lM_];omega),e,hcur,open2 h n a (hl a (mG_ h1)) l r 0 out hmem (by omega),ob1_some]
  have ih:=open3 h l hl hn r (n+1) (out++(r.filter (opP t z.reached a)).map (fun b=>[a,b])) h2 (by rw[lA_];omega)
  rw[show((n:Int)+1)=((n+1:Nat):Int)from rfl,ih,pairG,List.append_assoc]
theorem all_len (h:Tb t z):(allL t.Vars).length≤512:=by
 have:=factsG_len t.Vars 0 h.pos
 have:=h.small
 unfold allL
 omega
theorem all_in {vars:List Int}:∀ f∈allL vars,InV vars f:=fun _ hf=>allL_mem.1 hf
theorem oneF_len (R:List (List Bool))(l:List Fact):(oneF t R l).length≤l.length:=by
 unfold oneF
 rw[lM_]
 exact List.length_filter_le _ _
theorem open_eq (h:Tb t z):M_stratagem_mutex_Table_open z=some (openF t z.reached):=by
 have hl:=all_len h
 unfold M_stratagem_mutex_Table_open
 rw[all_eq h,ob1_some,M_stratagem_mutex_Table_open_L1_eq z _ [] (by omega),open1 h _ _ 0 [] all_in (by simp;omega),ob1_some,M_stratagem_mutex_Table_open_L3_eq z _ _ (by omega)]
 have:=open3 h (allL t.Vars) all_in hl (allL t.Vars) 0 ([]++oneF t z.reached (allL t.Vars)) rfl (by
  have:=oneF_len (t:=t) z.reached (allL t.Vars)
  rw[List.nil_append]
  omega)
 rw[show((0:Nat):Int)=0 from rfl]at this
 rw[this]
 rfl
end
end Go.Proofs.YtinnphmnhmdcgaaGreat.Am
namespace Go.Proofs.YtinnphmnhmdcgaaGreat.Am
open Go.RowKit
def setT (T:Tab)(i j:Nat):Tab :=
 match T[i]? with
 | some (b,r)=>T.set i (b,r.set j true)
 | none=>T
def setR (R:List (List Bool))(i j:Nat):List (List Bool) :=
 match R[i]? with
 | some r=>R.set i (r.set j true)
 | none=>R
theorem setT_fst (T:Tab)(i j:Nat):(setT T i j).map (·.1)=T.map (·.1):=by
 unfold setT
 split
 ·rename_i b r h
  rw[List.map_set]
  refine List.ext_getElem? (fun k=>?_)
  rw[List.getElem?_set]
  split
  ·rename_i e
   subst e
   obtain⟨hlt,he⟩:=gS_.1 h
   simp[hlt,he]
  ·rfl
 ·rfl
theorem setT_snd (T:Tab)(i j:Nat):(setT T i j).map (·.2)=setR (T.map (·.2)) i j:=by
 unfold setT setR
 rw[List.getElem?_map]
 cases h:T[i]? with
 | none=>rfl
 | some q=>obtain⟨b,r⟩:=q;simp[List.map_set]
theorem setR_len (R:List (List Bool))(i j:Nat):(setR R i j).length=R.length:=by
 unfold setR
 split <;> simp
def chT (T T':Tab):Chg:=(T.zip T').map fun p=>(p.1.1,p.1.2,p.2.2)
theorem chT_fst {T T':Tab}(h:T'.map (·.1)=T.map (·.1)):(chT T T').map (·.1)=T.map (·.1):=by
 have hl:T'.length=T.length:=by have:=congrArg List.length h;simpa using this
 unfold chT
 rw[List.map_map]
 refine List.ext_getElem? (fun k=>?_)
 rw[List.getElem?_map,List.getElem?_map]
 rcases Nat.lt_or_ge k T.length with hk|hk
 ·rw[List.getElem?_zip_eq_some (z:=(T[k],T'[k]'(by omega))) |>.2 ⟨gE_ hk,gE_ (by omega:k<T'.length)⟩,gE_ hk]
  rfl
 ·rw[List.getElem?_eq_none (by simp;omega),List.getElem?_eq_none hk]
  rfl
theorem fst_inj {T:Tab}(hn:(T.map (·.1)).Nodup){i k:Nat}{p q:Nat×List Bool}(h1:T[i]?=some p)(h2:T[k]?=some q)(e:p.1=q.1):i=k:=by
 have g1:(T.map (·.1))[i]?=some p.1:=by rw[List.getElem?_map,h1];rfl
 have g2:(T.map (·.1))[k]?=some p.1:=by rw[List.getElem?_map,h2,e];rfl
 obtain⟨a1,b1⟩:=gS_.1 g1
 obtain⟨a2,b2⟩:=gS_.1 g2
 have hp:=List.pairwise_iff_getElem.1 hn
 rcases Nat.lt_trichotomy i k with h|h|h
 ·exact absurd (b1.trans b2.symm) (hp i k a1 a2 h)
 ·exact h
 ·exact absurd (b2.trans b1.symm) (hp k i a2 a1 h)
theorem ub_tab {lo ty:Nat}{T:Tab}{i j b:Nat}{r:List Bool}(hn:(T.map (·.1)).Nodup)(hi:T[i]?=some (b,r)):UB [(b,r,r.set j true)] (.sl 1 (rwT lo ty T)) (.sl 1 (rwT lo ty (setT T i j))):=by
 have hs:setT T i j=T.set i (b,r.set j true):=by unfold setT;rw[hi]
 rw[hs]
 refine .sl (by decide) (by simp[rwT]) (fun k e e' h1 h2=>?_) (fun k e e' h1 h2=>?_) FrI.h
 ·unfold rwT at h1 h2
  rw[List.getElem?_map]at h1 h2
  obtain⟨q,_,rfl⟩:=Option.map_eq_some_iff.1 h1
  obtain⟨q',_,rfl⟩:=Option.map_eq_some_iff.1 h2
  rfl
 ·unfold rwT at h1 h2
  rw[List.getElem?_map]at h1 h2
  obtain⟨q,hq,rfl⟩:=Option.map_eq_some_iff.1 h1
  obtain⟨q',hq',rfl⟩:=Option.map_eq_some_iff.1 h2
  intro m x x' g1 g2
  cases m with
  | succ m=>simp at g1
  | zero =>
   simp at g1 g2
   subst g1 g2
   rw[List.getElem?_set]at hq'
   split at hq'
   ·rename_i e
    subst e
    rw[hi]at hq
    injection hq with hq
    subst hq
    split at hq'
    ·injection hq' with hq'
     subst hq'
     exact .row (by simp)
    ·cases hq'
   ·rename_i e
    rw[hq]at hq'
    injection hq' with hq'
    subst hq'
    refine .rowo (fun hm=>e ?_)
    have hm':q.1=b:=by simpa using hm
    exact(fst_inj hn hq hi hm').symm
theorem ub_row {lo ty:Nat}{T:Tab}{i j k b b2:Nat}{r r2:List Bool}(hn:(T.map (·.1)).Nodup)(hi:T[i]?=some (b,r))(hk:T[k]?=some (b2,r2)):∃ r3,(setT T i j)[k]?=some (b2,r3)∧r3.length=r2.length∧UB [(b,r,r.set j true)] (.rowb lo ty b2 r2) (.rowb lo ty b2 r3):=by
 have hs:setT T i j=T.set i (b,r.set j true):=by unfold setT;rw[hi]
 rw[hs,List.getElem?_set]
 have hlt:=(gS_.1 hi).1
 by_cases e:i=k
 ·subst e
  rw[hi]at hk
  injection hk with hk
  injection hk with h1 h2
  subst h1 h2
  exact⟨r.set j true,by simp[hlt],by simp,.row (by simp)⟩
 ·refine⟨r2,by simp[e,hk],rfl,.rowo (fun hm=>e ?_)⟩
  have hm':b2=b:=by simpa using hm
  exact(fst_inj hn hk hi hm').symm
section
variable {C : Cx} {n : Nat} {ops : Array Oper} {Q : Exit → Act → World → Prop} {i : Nat} {rest : List Nat} {o : Oper} {τ : Nat → AV} {η : Nat → Ent} {w0 : World} {X : XX} {m : MM} {a : Act} {w : World}
theorem wpOps_lf {f:Foot}(hi:ops[i]?=some o)(hg:o.guard=none)(hr:Rep C n w0 X τ η m a w)(hlf:LF C n o τ η f)(hk:∀ m' a' w',Rep C n w0 X (putA τ o.dst f.x) (updAll η f.ups) m' a' w'→wpOps C.P ops Q rest a' w'):wpOps C.P ops Q (i :: rest) a w:=by
 refine wpOps_app [i] rest a w ?_
 have:=tr_seq (Q:=fun e a w=>match e with | .normal=>wpOps C.P ops Q rest a w|e=>Q e a w) [o] i τ η [f] _ _ ⟨ts_run hlf (.inl hg),rfl,rfl⟩ (fun j o' hj=>by
  cases j with
  | zero=>simp at hj;subst hj;exact hi
  | succ j=>simp at hj) w0 X m a w hr hk
 exact this
theorem wpOps_storeB {t:TypeId}{ti:TI}{x y:Operand}{lo ty b j t0:Nat}{r:List Bool}{τ':Nat→AV}(hi:ops[i]?=some o)(hg:o.guard=none)(hr:Rep C n w0 X τ η m a w)(ho:o.op=.store t x y)(hd:o.dst=none)(hx:evA τ x=.c (.pointer (some ⟨b,j,none⟩)))(hy:evA τ y=.c (.bool true))
  (ht:TyOk C.P t ti) (hsz:ti.sz=1) (hag:ti.kind.agg=false) (hrow:τ t0=.rowb lo ty b r) (hj:j<r.length) (hX:X b∨w0.heap.size≤b) (hN:C.N=0) (hτ:∀ t,US [(b,r,r.set j true)] (τ t) (τ' t)) (hη:∀ i B,(η i).blk=some B→∀ e∈B.els,∀ x∈e,US [(b,r,r.set j true)] x x)
  (hk:∀ w',Rep C n w0 X τ' η m a w'→wpOps C.P ops Q rest a w'):wpOps C.P ops Q (i :: rest) a w:=by
 have h0:=hr.tm t0
 rw[hrow]at h0
 obtain⟨_,h1,_,h3,_⟩:=rv_rowb h0
 refine wpOps_at hi hg (wp_storeB hr ho hd hx hy ht hsz hag h3 hj (hk _ ?_))
 exact hr.rows (rows_one h3) (fun b' hb'=>by simp at hb';subst hb';exact h1) (fun b' hb'=>by simp at hb';subst hb';exact hX) hN hτ hη
end
section
variable {C : Cx} {n : Nat}
theorem acall_at {f:FuncId}{fn:Func}{c:Code}{args:List AV}{r:AV}(hf:C.P.funcs[f]?=some fn)(hb:fn.body=some c)(hn:fn.ntmps=n)(_ha:args.length≤n){w:World}{O:Nat→Prop}{cargs:Array Value}(hg:C.Gl w)(hN:C.N≤w.heap.size)(hO:∀ b,O b→b<w.heap.size∧C.N≤b)(hsz:cargs.size=args.length)(hargs:∀ (j:Nat)(x:AV)(v:Value),args[j]?=some x→cargs[j]?=some v→RV w nov (mO O) x v)
  (h:AWP C c (retK C fn.results.toList r) ⟨args++List.replicate (n-args.length) .dead,List.replicate n ⟨0,none⟩⟩) (hP:C.Pw w (xx0 O)):Calls C.P f cargs w (fun e w'=>∃ v,e=.returned v∧RV w' nov (mO O) r v∧Kin w (fun _=>False) w'∧C.Gl w'):=by
 unfold AWP at h
 have hη:∀ i,hpF (List.replicate n ⟨0,none⟩) i=⟨0,none⟩:=fun i=>by
  show(List.replicate n (⟨0,none⟩:Ent)).getD i _=_
  rw[gD_,List.getElem?_replicate]
  split <;> rfl
 have hηf:hpF (List.replicate n ⟨0,none⟩)=fun _=>⟨0,none⟩:=funext hη
 have hshp:shp (hpF (List.replicate n ⟨0,none⟩))=nov:=by rw[hηf];rfl
 have hrep:RepS C w (xx0 O) ⟨args++List.replicate (n-args.length) .dead,List.replicate n ⟨0,none⟩⟩ (mO O) { tmps:=cargs++Array.replicate (fn.ntmps-cargs.size) undef,defers:=[] } w:=by
  refine⟨fun t=>?_,by simp[hn,hsz],rfl,⟨fun i B hB=>?_,fun i i' b hl=>?_,fun i b hl=>?_,fun i b hl=>?_,hO,hN⟩,⟨rfl,rfl,rfl,Nat.le_refl _,fun _ _ _=>rfl⟩,rfl,fun i b hl=>?_,hg,fun i hi=>hi.elim,hP⟩
  ·rw[hshp]
   show RV w nov (mO O) ((args++List.replicate (n-args.length) AV.dead).getD t .dead) _
   rcases Nat.lt_or_ge t args.length with hlt|hge
   ·rw[gD_,List.getElem?_append_left hlt,gE_ hlt]
    have hc:t<cargs.size:=by omega
    refine hargs t _ _ (gE_ hlt) ?_
    rw[Array.getD_eq_getD_getElem?,Array.getElem?_append_left hc,aE_ hc]
    rfl
   ·have:(args++List.replicate (n-args.length) AV.dead).getD t .dead=.dead:=by
     rw[gD_,List.getElem?_append_right hge,List.getElem?_replicate]
     split <;> rfl
    rw[this]
    exact .dead _
  all_goals (simp only[hη]at *;first|(exact absurd rfl hl)|(cases hB))
 refine calls_of_wp hf hb (wp_mono (h w _ (mO O) _ w hrep) ?_)
 rintro e a' w' ⟨s',m',hl,hq,hr'⟩
 have fin:resK C s'.tm s'.hp fn.results.toList (fun xs=>oneK xs r (fun xs rs=>True→wkT s'.hp [] xs rs True))→a'.defers=[]∧∃ v,(results fn a'.tmps).run C.P w'=.ok v w'∧∃ u,Ending.returned v=.returned u∧RV w' nov (mO O) r u∧Kin w (fun _=>False) w'∧C.Gl w':=by
  intro hk
  obtain⟨xs,us,h1,h2,h3,h4⟩:=resK_ok hr' hk
  refine⟨hr'.df,?_⟩
  have hO':m'.O=O:=hr'.oo
  have hfin:∀ (ys:List AV),wkT s'.hp [] xs ys True→xs.length=ys.length∧∀ (j:Nat) (y:AV) (u:Value),ys[j]?=some y→us[j]?=some u→RV w' nov (mO O) y u:=by
   intro ys hw
   obtain⟨g1,g2,_⟩:=wkT_ok (N:=C.N) hw
   refine⟨g1,fun j y u hy hu=>?_⟩
   have hlt:j<xs.length:=by rw[g1];exact(gS_.1 hy).1
   have:=g2 j _ y (gE_ hlt) hy w' m' u hr'.mem (h4 j _ u (gE_ hlt) hu)
   rw[shp_nil,mwk_nil,hO']at this
   exact this
  have hrun:(results fn a'.tmps).run C.P w'=.ok (if h:us.toArray.size=1 then us.toArray[0]else .tuple us.toArray) w':=by
   unfold results
   rw[Array.mapM_eq_mapM_toList,map_eq_pure_bind]
   simp only[Sem.run_bind]
   erw [h2]
   simp
  refine⟨_,hrun,_,rfl,?_,hr'.kin,hr'.gl⟩
  rcases oneK_ok h1 with⟨x,rfl,h1⟩|⟨rs,rfl,hne,h1⟩
  ·obtain⟨g1,g2⟩:=hfin [r] (h1 trivial)
   have hus:us.length=1:=by simpa using h3.symm
   obtain⟨u,rfl⟩:=List.length_eq_one_iff.1 hus
   simpa using g2 0 r u rfl rfl
  ·obtain⟨g1,g2⟩:=hfin rs (h1 trivial)
   have hus:us.length≠1:=fun e=>by
    obtain⟨x,rfl⟩:=List.length_eq_one_iff.1 (show xs.length=1 by omega)
    exact hne x rfl
   rw[dif_neg (by simpa using hus)]
   refine .tup (by simp;omega) (fun j x u hx hu=>g2 j x u hx (by simpa using hu))
 cases e with
 | normal=>exact fin hq
 | ret=>exact fin hq
 | _=>exact hq.elim
def ASet (C:Cx)(f:FuncId)(args:List AV)(ch:Chg):Prop :=
 (∀ (vs:Array Value) (w:World),(callFunc f vs).run C.P w=.ok (.enter f vs) w) ∧
 ∀ (w:World) (O:Nat→Prop) (cargs:Array Value),C.Gl w→C.N≤w.heap.size→(∀ b,O b→b<w.heap.size∧C.N≤b)→cargs.size=args.length→(∀ (j:Nat) (x:AV) (v:Value),args[j]?=some x→cargs[j]?=some v→RV w nov (mO O) x v) →
  Calls C.P f cargs w (fun e w'=>(∃ v,e=.returned v)∧RowsTo w ch w'∧C.Gl w')
theorem rv_tab {w:World}{vs:Shp}{m:MM}{e:List AV}{j k lo ty:Nat}{T:Tab}{v:Value}(h:RV w vs m (.pim e j) v)(he:e[k]?=some (.sl 1 (rwT lo ty T))):∀ q∈T,w.heap[q.1]?=some (.cells (q.2.map Value.bool).toArray ty (0,0))∧¬ Owned vs m q.1∧lo≤q.1:=by
 intro q hq
 obtain⟨b,off,f,_,_,_,_,hrv⟩:=rv_pim h
 obtain⟨A,cap,b,off,f,_,_,_,_,_,_,hrv,_⟩:=rv_sl (hrv k _ he)
 obtain⟨i,hi⟩:=List.mem_iff_getElem?.1 hq
 have h1:(rwT lo ty T)[i]?=some [.rowb lo ty q.1 q.2]:=by unfold rwT;rw[List.getElem?_map,hi];rfl
 obtain⟨_,h2,h3,h4,_⟩:=rv_rowb (hrv i 0 _ _ h1 rfl)
 exact⟨h4,h2,h3⟩
def setQ (v:AV)(x:Exit)(s:St):Prop:=(x=.normal∨x=.ret)∧s.tm[0]?=some v
theorem aset_of {f:FuncId}{fn:Func}{c:Code}{args:List AV}{e e':List AV}{j k lo ty:Nat}{T T':Tab}(hf:C.P.funcs[f]?=some fn)(hb:fn.body=some c)(hname:(fn.name == "runtime.NumGoroutine")=false)(hn:fn.ntmps=n)(hres:fn.results=#[])(_ha:args.length≤n)(h0:args[0]?=some (.pim e j))(he:e[k]?=some (.sl 1 (rwT lo ty T)))(he':e'[k]?=some (.sl 1 (rwT lo ty T')))
  (hT:T'.map (·.1)=T.map (·.1)) (hl:∀ (i:Nat) (q q':Nat×List Bool),T[i]?=some q→T'[i]?=some q'→q'.2.length=q.2.length) (hPw:∀ (w:World) (O:Nat→Prop),C.Pw w ⟨fun b=>b∈T.map (·.1),O,fun _=>False,fun _=>none⟩)
  (h:forceK (args++List.replicate (n-args.length) .dead) (fun tm=>forceK (List.replicate n ⟨0,none⟩) (fun hp=>True→AWP C c (setQ (.pim e' j)) ⟨tm,hp⟩))):ASet C f args (chT T T'):=by
 have h:=forceK_ok (forceK_ok h) trivial
 unfold AWP at h
 refine⟨fun vs w=>?_,fun w O cargs hg hN hO hsz hargs=>?_⟩
 ·simp only[callFunc,Sem.run_bind,program,Sem.run,Result.andThen_ok,hf,hname,hb]
  rfl
 have hη:∀ i,hpF (List.replicate n ⟨0,none⟩) i=⟨0,none⟩:=fun i=>by
  show(List.replicate n (⟨0,none⟩:Ent)).getD i _=_
  rw[gD_,List.getElem?_replicate]
  split <;> rfl
 have hηf:hpF (List.replicate n ⟨0,none⟩)=fun _=>⟨0,none⟩:=funext hη
 have hshp:shp (hpF (List.replicate n ⟨0,none⟩))=nov:=by rw[hηf];rfl
 have hrep:RepS C w ⟨fun b=>b∈T.map (·.1),O,fun _=>False,fun _=>none⟩ ⟨args++List.replicate (n-args.length) .dead,List.replicate n ⟨0,none⟩⟩ (mO O) { tmps:=cargs++Array.replicate (fn.ntmps-cargs.size) undef,defers:=[] } w:=by
  refine⟨fun t=>?_,by simp[hn,hsz],rfl,⟨fun i B hB=>?_,fun i i' b hl=>?_,fun i b hl=>?_,fun i b hl=>?_,hO,hN⟩,⟨rfl,rfl,rfl,Nat.le_refl _,fun _ _ _=>rfl⟩,rfl,fun i b hl=>?_,hg,fun i hi=>hi.elim,hPw w O⟩
  ·rw[hshp]
   show RV w nov (mO O) ((args++List.replicate (n-args.length) AV.dead).getD t .dead) _
   rcases Nat.lt_or_ge t args.length with hlt|hge
   ·rw[gD_,List.getElem?_append_left hlt,gE_ hlt]
    have hc:t<cargs.size:=by omega
    refine hargs t _ _ (gE_ hlt) ?_
    rw[Array.getD_eq_getD_getElem?,Array.getElem?_append_left hc,aE_ hc]
    rfl
   ·have:(args++List.replicate (n-args.length) AV.dead).getD t .dead=.dead:=by
     rw[gD_,List.getElem?_append_right hge,List.getElem?_replicate]
     split <;> rfl
    rw[this]
    exact .dead _
  all_goals (simp only[hη]at *;first|(exact absurd rfl hl)|(cases hB))
 refine calls_of_wp hf hb (wp_mono (h w _ _ _ w hrep) ?_)
 rintro x a' w' ⟨s',m',_,⟨hx,ht⟩,hr'⟩
 have h0':cargs[0]?=some cargs[0]!:=by
  have:0<cargs.size:=by rw[hsz];exact(gS_.1 h0).1
  simp[this]
 have hin:=rv_tab (hargs 0 _ _ h0 h0') he
 have hout:=rv_tab (by have:=hr'.tm 0;rw[show tmF s'.tm 0=.pim e' j from by show s'.tm.getD 0 _=_;rw[gD_,ht];rfl]at this;exact this) he'
 have hrows:RowsTo w (chT T T') w':=by
  refine⟨?_,fun b r r' hm=>?_⟩
  ·have:=hr'.kin
   rw[chT_fst hT]
   exact this
  ·unfold chT at hm
   obtain⟨⟨q,q'⟩,hq,e1⟩:=List.mem_map.1 hm
   injection e1 with e1 e2
   injection e2 with e2 e3
   obtain⟨i,hi⟩:=List.mem_iff_getElem?.1 hq
   obtain⟨g1,g2⟩:=List.getElem?_zip_eq_some.1 hi
   have e4:q'.1=q.1:=by
    have:=congrArg (fun l=>l[i]?) hT
    simp only[List.getElem?_map,g1,g2,Option.map_some]at this
    injection this
   subst e1 e2 e3
   refine⟨hl i q q' g1 g2,ty,(hin q (mG_ g1)).1,?_⟩
   rw[← e4]
   exact(hout q' (mG_ g2)).1
 have fin:a'.defers=[]∧∃ v,(results fn a'.tmps).run C.P w'=.ok v w'∧((∃ u,Ending.returned v=.returned u)∧RowsTo w (chT T T') w'∧C.Gl w'):=by
  refine⟨hr'.df,?_⟩
  unfold results
  rw[hres]
  refine⟨.tuple #[],?_,⟨_,rfl⟩,hrows,hr'.gl⟩
  simp
 rcases hx with rfl|rfl <;> exact fin
end
noncomputable def cxS (T:Tab):Cx:={ cx with Pw:=fun _ X=>∀ b∈T.map (·.1),X.X b }
def cT (z:GTable)(lo:Nat)(T:Tab):List AV:=[.sl 1 (z.t.Vars.map cI),.sl 1 (z.t.Init.map cI),.sl 2 (z.t.Goal.map cF),.sl 4 (z.t.Ops.map cGOp),.sl 1 (z.first.map cI),.sl 1 (rwT lo 4 T)]
theorem cv_z {z:GTable}{lo:Nat}{T:Tab}(h:z.reached=T.map (·.2)):Cv (.pim (cT z lo T) 0) (.pim [.sl 1 (z.t.Vars.map cI),.sl 1 (z.t.Init.map cI),.sl 2 (z.t.Goal.map cF),.sl 4 (z.t.Ops.map cGOp),.sl 1 (z.first.map cI),.sl 1 (z.reached.map cL_cB)] 0):=by
 rw[h]
 exact cv_pimL (.cons cv_refl (.cons cv_refl (.cons cv_refl (.cons cv_refl (.cons cv_refl (.cons cv_tab .nil))))))
section
variable {ch : Chg}
theorem ub_map {α:Type}{sz:Nat}{f:α→List AV}{l:List α}(hs:0<sz)(hf:∀ x,∀ y∈f x,UB ch y y)(hfr:FrL (l.map f)):UB ch (.sl sz (l.map f)) (.sl sz (l.map f)):=by
 refine .sl hs rfl (fun k e e' h1 h2=>by rw[h1]at h2;injection h2 with h2;rw[h2]) (fun k e e' h1 h2 j x x' g1 g2=>?_) hfr
 rw[h1]at h2
 injection h2 with h2
 subst h2
 rw[g1]at g2
 injection g2 with g2
 subst g2
 obtain⟨y,_,rfl⟩:=get_map h1
 exact hf y x (mG_ g1)
theorem ub_i {k:IntKind}{z:Int}:UB ch (.c (.int k z)) (.c (.int k z)):=.c (fun q e=>by cases e)
theorem ub_s {s:ByteArray}:UB ch (.c (.string s)) (.c (.string s)):=.c (fun q e=>by cases e)
theorem ub_cI (l:List Int):UB ch (.sl 1 (l.map cI)) (.sl 1 (l.map cI)):=ub_map (by decide) (fun x y hy=>by
 simp[cI]at hy;subst hy;exact ub_i) FrI.h
theorem ub_cF (l:List Fact):UB ch (.sl 2 (l.map cF)) (.sl 2 (l.map cF)):=ub_map (by decide) (fun x y hy=>by
 simp[cF]at hy;rcases hy with rfl|rfl <;> exact ub_i) FrI.h
theorem ub_cE (l:List GEffect):UB ch (.sl 3 (l.map cGEffect)) (.sl 3 (l.map cGEffect)):=ub_map (by decide) (fun x y hy=>by
 simp only[cGEffect,List.mem_cons,List.not_mem_nil,or_false]at hy
 rcases hy with rfl|rfl|rfl
 ·exact ub_cF _
 ·exact ub_i
 ·exact ub_i) FrI.h
theorem ub_cO (l:List GOp):UB ch (.sl 4 (l.map cGOp)) (.sl 4 (l.map cGOp)):=ub_map (by decide) (fun x y hy=>by
 simp only[cGOp,List.mem_cons,List.not_mem_nil,or_false]at hy
 rcases hy with rfl|rfl|rfl|rfl
 ·exact ub_s
 ·exact ub_i
 ·exact ub_cF _
 ·exact ub_cE _) FrI.h
theorem ub_z {z:GTable}{lo:Nat}{T:Tab}{i j b:Nat}{r:List Bool}(hn:(T.map (·.1)).Nodup)(hi:T[i]?=some (b,r)):UB [(b,r,r.set j true)] (.pim (cT z lo T) 0) (.pim (cT z lo (setT T i j)) 0):=by
 refine .pim (by simp[cT]) rfl (fun k x x' h1 h2=>?_)
 match k,h1,h2 with
 | 0,h1,h2=>simp[cT]at h1 h2;subst h1 h2;exact ub_cI _
 | 1,h1,h2=>simp[cT]at h1 h2;subst h1 h2;exact ub_cI _
 | 2,h1,h2=>simp[cT]at h1 h2;subst h1 h2;exact ub_cF _
 | 3,h1,h2=>simp[cT]at h1 h2;subst h1 h2;exact ub_cO _
 | 4,h1,h2=>simp[cT]at h1 h2;subst h1 h2;exact ub_cI _
 | 5,h1,h2=>simp[cT]at h1 h2;subst h1 h2;exact ub_tab hn hi
 | k+6,h1,_=>simp[cT]at h1
def nbB : AV→Bool
 | .c (.bool _)=>true
 | .c _=>true
 | _=>false
def allC (hp:List Ent):Bool:=hp.all fun e=>match e.blk with
 | none=>true
 | some B=>B.els.all fun c=>c.all nbB
theorem allC_us {hp:List Ent}(h:allC hp=true):∀ i B,(hpF hp i).blk=some B→∀ e∈B.els,∀ x∈e,US ch x x:=by
 intro i B hB e he x hx
 unfold allC at h
 rw[List.all_eq_true]at h
 rcases Nat.lt_or_ge i hp.length with hlt|hge
 ·have h1:=h _ (List.getElem_mem hlt)
  have h2:hpF hp i=hp[i]:=by
   show hp.getD i _=_
   rw[gD_,gE_ hlt]
   rfl
  rw[← h2,hB]at h1
  simp only[List.all_eq_true]at h1
  have h3:=h1 e he x hx
  cases x <;> first|exact .c|(simp[nbB]at h3)
 ·have h2:hpF hp i=⟨0,none⟩:=by
   show hp.getD i _=_
   rw[gD_,List.getElem?_eq_none hge]
   rfl
  rw[h2]at hB
  cases hB
theorem tmF_dead {k t:Nat}:tmF (List.replicate k AV.dead) t=.dead:=by
 show(List.replicate k AV.dead).getD t .dead=_
 rw[gD_,List.getElem?_replicate]
 split <;> rfl
end
theorem rwT_at {lo ty k b:Nat}{r:List Bool}{T:Tab}(h:T[k]?=some (b,r)):(rwT lo ty T)[k]?=some [.rowb lo ty b r]:=by
 unfold rwT
 rw[List.getElem?_map,h]
 rfl
theorem setT_at {T:Tab}{k:Nat}(h:k<T.length):∃ b r,T[k]?=some (b,r):=⟨_,_,gE_ h⟩
theorem setT_row {T:Tab}{i j m:Nat}(h:∀ (k:Nat)(q:Nat×List Bool),T[k]?=some q→q.2.length=m):∀ (k:Nat)(q:Nat×List Bool),(setT T i j)[k]?=some q→q.2.length=m:=by
 intro k q hq
 unfold setT at hq
 split at hq
 ·rename_i b r hi
  rw[List.getElem?_set]at hq
  split at hq
  ·rename_i e
   subst e
   split at hq
   ·injection hq with hq
    subst hq
    have:=h _ _ hi
    simpa using this
   ·cases hq
  ·exact h k q hq
 ·exact h k q hq
def τT (z:GTable)(lo:Nat)(T:Tab):Nat→AV:=tmF (.pim (cT z lo T) 0 :: List.replicate 31 .dead)
theorem us_T {ch:Chg}{z:GTable}{lo:Nat}{T:Tab}{τ:Nat→AV}(h:UB ch (τ 0) (.pim (cT z lo T) 0)):∀ t,US ch (τ t) (τT z lo T t)
 | 0=>.ub h
 | t+1=>by
  have:τT z lo T (t+1)=.dead:=tmF_dead (k:=31) (t:=t)
  rw[this]
  exact .dead
theorem set_tail {z:GTable}{lo:Nat}{T:Tab}{ops:Array Oper}{Q:Exit→Act→World→Prop}{tm:List AV}{hp:List Ent}{w0:World}{X:XX}{mm:MM}{a:Act}{w:World}{b1 b2 m:Nat}{r1 r2:List Bool}{ia ib:Int}{o1 o2 o3 o4:Oper}
  (h1:ops[24]?=some o1) (p1:o1.op=.indexAddr 41 (.tmp 14) (.tmp 17)) (d1:o1.dst=some 30) (q1:o1.guard=none)
  (h2:ops[25]?=some o2) (p2:o2.op=.store 4 (.tmp 30) (.const (.bool true))) (d2:o2.dst=none) (q2:o2.guard=none)
  (h3:ops[26]?=some o3) (p3:o3.op=.indexAddr 41 (.tmp 26) (.tmp 29)) (d3:o3.dst=some 31) (q3:o3.guard=none)
  (h4:ops[27]?=some o4) (p4:o4.op=.store 4 (.tmp 31) (.const (.bool true))) (d4:o4.dst=none) (q4:o4.guard=none)
  (hl:tm.length=32) (e0:tmF tm 0=.pim (cT z lo T) 0) (e14:tmF tm 14=.rowb lo 4 b1 r1) (e17:tmF tm 17=.c (.int .i64 ib)) (e26:tmF tm 26=.rowb lo 4 b2 r2) (e29:tmF tm 29=.c (.int .i64 ia))
  (hall:allC hp=true) (hn:(T.map (·.1)).Nodup) (hr:∀ (k:Nat) (q:Nat×List Bool),T[k]?=some q→q.2.length=m) (t1:T[ia.toNat]?=some (b1,r1)) (t2:T[ib.toNat]?=some (b2,r2)) (g0:0≤ia) (g1:ia<m) (g2:0≤ib) (g3:ib<m) (hrep:RepS (cxS T) w0 X ⟨tm,hp⟩ mm a w)
  (hQ:∀ m' a' w',Rep (cxS T) 32 w0 X (τT z lo (setT (setT T ia.toNat ib.toNat) ib.toNat ia.toNat)) (hpF hp) m' a' w'→Q .normal a' w'):wpOps (cxS T).P ops Q [24,25,26,27] a w:=by
 have hrep:Rep (cxS T) 32 w0 X (tmF tm) (hpF hp) mm a w:=by
  unfold RepS at hrep
  rw[hl]at hrep
  exact hrep
 have l1:r1.length=m:=hr _ _ t1
 have l2:r2.length=m:=hr _ _ t2
 have x1:X b1:=hrep.pw b1 (List.mem_map.2 ⟨_,mG_ t1,rfl⟩)
 have x2:X b2:=hrep.pw b2 (List.mem_map.2 ⟨_,mG_ t2,rfl⟩)
 have hlf1:=lf_rowAt (C:=cxS T) (n:=32) (o:=o1) (τ:=tmF tm) (η:=hpF hp) p1 (by rw[d1];exact bT2 rfl) e14 e17 (tyTab_ok 41 _ rfl) rfl (tyTab_ok 4 _ rfl) rfl g2 (by omega)
 obtain⟨r3,t3,l3,hu⟩:=ub_row (lo:=lo) (ty:=4) (j:=ib.toNat) hn t1 t2
 refine wpOps_lf h1 q1 hrep hlf1 (fun m1 a1 w1 hr1=>?_)
 rw[d1]at hr1
 refine wpOps_storeB (t0:=14) (j:=ib.toNat) (τ':=fun t=>if t=0 then .pim (cT z lo (setT T ia.toNat ib.toNat)) 0 else if t=26 then .rowb lo 4 b2 r3 else if t=29 then .c (.int .i64 ia)else .dead) h2 q2 hr1 p2 d2 (by simp[evA,putA]) rfl (tyTab_ok 4 _ rfl) rfl rfl (by simp only[putA];exact e14) (by omega) (.inl x1) rfl (fun t=>?_) (allC_us hall) (fun w2 hr2=>?_)
 ·by_cases c0:t=0
  ·subst c0
   simp only[putA,if_true]
   rw[show(if 0=30 then _ else tmF tm 0:AV)=tmF tm 0 from rfl,e0]
   exact .ub (ub_z hn t1)
  ·by_cases c1:t=26
   ·subst c1
    simp only[if_neg c0,if_true]
    rw[show putA (tmF tm) (some 30) _ 26=tmF tm 26 from rfl,e26]
    exact .ub hu
   ·by_cases c2:t=29
    ·subst c2
     simp only[if_neg c0,if_neg c1,if_true]
     rw[show putA (tmF tm) (some 30) _ 29=tmF tm 29 from rfl,e29]
     exact .c
    ·simp only[if_neg c0,if_neg c1,if_neg c2]
     exact .dead
 have hn1:((setT T ia.toNat ib.toNat).map (·.1)).Nodup:=by rw[setT_fst];exact hn
 have hlf3:=lf_rowAt (C:=cxS T) (n:=32) (o:=o3) (τ:=fun t=>if t=0 then .pim (cT z lo (setT T ia.toNat ib.toNat)) 0 else if t=26 then .rowb lo 4 b2 r3 else if t=29 then .c (.int .i64 ia)else .dead) (η:=hpF hp) p3 (by rw[d3];exact bT2 rfl) rfl rfl (tyTab_ok 41 _ rfl) rfl (tyTab_ok 4 _ rfl) rfl g0 (by omega)
 refine wpOps_lf h3 q3 hr2 hlf3 (fun m3 a3 w3 hr3=>?_)
 rw[d3]at hr3
 refine wpOps_storeB (t0:=26) (j:=ia.toNat) (τ':=τT z lo (setT (setT T ia.toNat ib.toNat) ib.toNat ia.toNat)) h4 q4 hr3 p4 d4 (by simp[evA,putA]) rfl (tyTab_ok 4 _ rfl) rfl rfl rfl (by omega) (.inl x2) rfl (us_T (by
  show UB _ (.pim (cT z lo (setT T ia.toNat ib.toNat)) 0) _
  exact ub_z hn1 t3)) (allC_us hall) (fun w4 hr4=>?_)
 exact hQ _ _ _ hr4
def M_set (z:GTable)(a b:Fact):Option (List (List Bool)):=ob1 (M_stratagem_mutex_Table_number z a) (fun ia=>ob1 (M_stratagem_mutex_Table_number z b) (fun ib=>grd (0≤ia∧ia<z.reached.length∧0≤ib∧ib<z.reached.length∧∀ r∈z.reached,r.length=z.reached.length) (some (setR (setR z.reached ia.toNat ib.toNat) ib.toNat ia.toNat))))
set_option maxHeartbeats 4000000 in
set_option maxRecDepth 100000 in
theorem A_set (z:GTable)(lo:Nat)(T:Tab)(a b:Fact){ia ib:Int}{m:Nat}(hz:z.reached=T.map (·.2))(u1:M_stratagem_mutex_Table_number z a=some ia)(u2:M_stratagem_mutex_Table_number z b=some ib)(hn:(T.map (·.1)).Nodup)(hm:T.length=m)(hr:∀ (k:Nat)(q:Nat×List Bool),T[k]?=some q→q.2.length=m)
  (g0:0≤ia) (g1:ia<m) (g2:0≤ib) (g3:ib<m):ASet (cxS T) 42 [.pim (cT z lo T) 0,.agg [.c (.int .i64 a.1),.c (.int .i64 a.2)],.agg [.c (.int .i64 b.1),.c (.int .i64 b.2)]] (chT T (setT (setT T ia.toNat ib.toNat) ib.toNat ia.toNat)):=by
 obtain⟨b1,r1,t1⟩:=setT_at (T:=T) (k:=ia.toNat) (by omega)
 obtain⟨b2,r2,t2⟩:=setT_at (T:=T) (k:=ib.toNat) (by omega)
 have A1:ACall (cxS T) 73 _ _:=A_stratagem_mutex_Table_number z a u1
 have A2:ACall (cxS T) 73 _ _:=A_stratagem_mutex_Table_number z b u2
 have hcv:∀ {η η':Nat→Ent} {x y:List AV},BWL η η' x y→BWL η η' (.pim (cT z lo T) 0 :: x) (.pim [.sl 1 (z.t.Vars.map cI),.sl 1 (z.t.Init.map cI),.sl 2 (z.t.Goal.map cF),.sl 4 (z.t.Ops.map cGOp),.sl 1 (z.first.map cI),.sl 1 (z.reached.map cL_cB)] 0 :: y):=fun h=>.cons (.cv (cv_z hz) FrV.h) h
 unfold cT at hcv ⊢
 refine aset_of Tryz.func42 rfl (by decide) rfl rfl (bT2 rfl) rfl (k:=5) (e':=cT z lo (setT (setT T ia.toNat ib.toNat) ib.toNat ia.toNat)) rfl rfl (by rw[setT_fst,setT_fst]) (fun i q q' h1 h2=>by rw[hr i q h1];exact setT_row (setT_row hr) i q' h2) (fun w O b hb=>hb) ?_
 intro _
 refine aSq ?_
 refine aRg ?_
 intro _
 refine dr ?_
 refine awp_regionS [] 24 rfl ?_
 intro _
 refine clf [] rfl rfl A1 ?_ (hb:=hcv (.cons (bw_fr2 rfl FrV.h) .nil))
 intro _
 refine Exists.intro [.rowb lo _ b1 r1] (And.intro (rwT_at t1) ?_)
 intro _
 refine clf [] rfl rfl A2 ?_ (hb:=hcv (.cons (bw_fr2 rfl FrV.h) .nil))
 intro _
 refine clf [] rfl rfl A2 ?_ (hb:=hcv (.cons (bw_fr2 rfl FrV.h) .nil))
 intro _
 refine Exists.intro [.rowb lo _ b2 r2] (And.intro (rwT_at t2) ?_)
 intro _
 refine clf [] rfl rfl A1 ?_ (hb:=hcv (.cons (bw_fr2 rfl FrV.h) .nil))
 intro _
 refine pr ?_
 refine pr ?_
 refine⟨fun _=>⟨by kernel_rfl,by kernel_rfl,by kernel_rfl⟩,?_⟩
 intro w0 X m a w hrep
 refine set_tail rfl rfl rfl rfl rfl rfl rfl rfl rfl rfl rfl rfl rfl rfl rfl rfl rfl rfl rfl rfl rfl rfl rfl hn hr t1 t2 g0 g1 g2 g3 hrep (fun m' a' w' hr'=>?_)
 exact⟨⟨.pim (cT z lo (setT (setT T ia.toNat ib.toNat) ib.toNat ia.toNat)) 0 :: List.replicate 31 .dead,_⟩,m',rfl,⟨.inl rfl,rfl⟩,hr'⟩
def okF (t:GTask)(R:List (List Bool))(p:List Fact):Bool:=p.all fun a=>p.all fun b=>isF t R a b
theorem okF_iff {t:GTask}{R:List (List Bool)}{p:List Fact}:okF t R p=true↔∀ a∈p,∀ b∈p,isF t R a b=true:=by simp[okF]
def prefF (t:GTask)(R:List (List Bool))(p:List Fact):List Fact→Nat→Bool
 | [],_=>true
 | a :: r,n=>(p.take (n+1)).all (isF t R a)&&prefF t R p r (n+1)
theorem prefF_iff {t:GTask}{R:List (List Bool)}{p:List Fact}:∀ (r:List Fact)(n:Nat),p.drop n=r→(prefF t R p r n=true↔∀ i,n≤i→∀ a,p[i]?=some a→∀ b∈p.take (i+1),isF t R a b=true)
 | [],n,hd=>by
  rw[prefF]
  refine⟨fun _ i hi a ha=>?_,fun _=>rfl⟩
  have h1:=List.drop_eq_nil_iff.1 hd
  have h2:=lt_some ha
  omega
 | a :: r,n,hd=>by
  obtain⟨h1,h2,h3⟩:=drop_cons hd
  rw[prefF,bA_,List.all_eq_true,prefF_iff r (n+1) h2]
  constructor
  ·rintro⟨g1,g2⟩ i hi x hx b hb
   by_cases e:i=n
   ·subst e
    rw[h1]at hx
    obtain rfl:=sI_ hx
    exact g1 b hb
   ·exact g2 i (by omega) x hx b hb
  ·intro h
   exact⟨fun b hb=>h n (Nat.le_refl _) a h1 b hb,fun i hi x hx b hb=>h i (by omega) x hx b hb⟩
def SyR (t:GTask)(R:List (List Bool)):Prop:=∀ a b,InV t.Vars a→InV t.Vars b→isF t R a b=isF t R b a
theorem prefF_all {t:GTask}{R:List (List Bool)}(hs:SyR t R){p:List Fact}(hp:∀ f∈p,InV t.Vars f):prefF t R p p 0=okF t R p:=by
 rw[Bool.eq_iff_iff,okF_iff,prefF_iff p 0 (List.drop_zero ..)]
 constructor
 ·intro h a ha b hb
  obtain⟨i,hi⟩:=List.mem_iff_getElem?.1 ha
  obtain⟨j,hj⟩:=List.mem_iff_getElem?.1 hb
  rcases Nat.le_total j i with hji|hji
  ·exact h i (Nat.zero_le _) a hi b (List.mem_iff_getElem?.2 ⟨j,by rw[List.getElem?_take_of_lt (by omega)];exact hj⟩)
  ·rw[hs a b (hp a ha) (hp b hb)]
   exact h j (Nat.zero_le _) b hj a (List.mem_iff_getElem?.2 ⟨i,by rw[List.getElem?_take_of_lt (by omega)];exact hi⟩)
 ·intro h i _ a ha b hb
  exact h a (mG_ ha) b (List.mem_of_mem_take hb)
theorem mholds_loop {t:GTask}{z:GTable}(h:Tb t z)(p:List Fact)(hp:∀ f∈p,InV t.Vars f)(hl:p.length≤1000):∀ (r:List Fact)(n:Nat),p.drop n=r→Rg (M_stratagem_mutex_Table_holds_L2_B z p) (M_stratagem_mutex_Table_holds_L2_E z p) r n ()=some (prefF t z.reached p r n)
 | [],n,_=>rfl
 | a :: r,n,hd=>by
  obtain⟨h1,h2,h3⟩:=drop_cons hd
  have hw:IntKind.i64.wrap ((n:Int)+1)=((n+1:Nat):Int):=w64s (by omega)
  have hcur:(p.take ((IntKind.i64.wrap ((n:Int)+1)).toNat)).drop 0=p.take (n+1):=by rw[hw,Int.toNat_natCast,List.drop_zero]
  have e:=M_stratagem_mutex_Table_holds_L1_eq z p n a (by rw[hcur,List.length_take];omega)
  have ha:=hp a (mG_ h1)
  rw[Rg,M_stratagem_mutex_Table_holds_L2_B,ixv,grd_t (by rw[hw];omega),grd_t (by omega),grd_t (by rw[hw,lM_];omega),e,hcur,rg_all (p:=isF t z.reached a) (c:=some (.inr false)),prefF]
  ·cases hb:(p.take (n+1)).all (isF t z.reached a)with
   | true =>
    rw[if_pos rfl,M_stratagem_mutex_Table_holds_L1_E,ob1_some,osum_inl,Bool.true_and]
    exact mholds_loop h p hp hl r (n+1) h2
   | false=>rfl
  ·intro b hb i rc
   rw[M_stratagem_mutex_Table_holds_L1_B,ixv,is_eq h ha (hp b (List.mem_of_mem_take hb)),ob1_some]
   cases isF t z.reached a b <;> rfl
theorem mholds_eq {t:GTask}{z:GTable}(h:Tb t z)(hs:SyR t z.reached){p:List Fact}(hp:∀ f∈p,InV t.Vars f)(hl:p.length≤1000):M_stratagem_mutex_Table_holds z p=some (okF t z.reached p):=by
 rw[M_stratagem_mutex_Table_holds,M_stratagem_mutex_Table_holds_L2_eq z p (by omega),← prefF_all hs hp]
 exact mholds_loop h p hp hl p 0 (List.drop_zero ..)
def cellN (R:List (List Bool))(i j:Nat):Bool:=(R.getD i []).getD j false
theorem cell_set {R:List (List Bool)}{i j:Nat}(hi:i<R.length)(hj:j<(R.getD i []).length)(x y:Nat):cellN (setR R i j) x y=(cellN R x y||(decide (x=i)&&decide (y=j))):=by
 unfold cellN setR
 have h:R[i]?=some (R[i]):=gE_ hi
 rw[gD_,h,Option.getD_some]at hj
 rw[h]
 by_cases hx:x=i
 ·subst hx
  rw[gD_ (l:=R.set _ _),List.getElem?_set_self hi,Option.getD_some,gD_ (l:=R),h,Option.getD_some]
  by_cases hy:y=j
  ·subst hy
   rw[gD_,List.getElem?_set_self hj]
   simp
  ·rw[gD_,List.getElem?_set_ne (by omega),← gD_]
   simp[hy]
 ·rw[gD_ (l:=R.set _ _),List.getElem?_set_ne (by omega),← gD_]
  simp[hx]
structure RkR (t:GTask)(R:List (List Bool)):Prop where
 len:(R.length:Int)=sumI t.Vars
 row:∀ r∈R,r.length=R.length
theorem RkR.at {t:GTask}{R:List (List Bool)}(h:RkR t R){i:Nat}(hi:i<R.length):(R.getD i []).length=R.length:=by
 rw[gD_,gE_ hi,Option.getD_some]
 exact h.row _ (List.getElem_mem hi)
theorem RkR.set {t:GTask}{R:List (List Bool)}(h:RkR t R)(i j:Nat):RkR t (setR R i j):=by
 refine⟨by rw[setR_len];exact h.len,fun r hr=>?_⟩
 rw[setR_len]
 unfold setR at hr
 split at hr
 ·rename_i q hq
  rcases List.mem_or_eq_of_mem_set hr with h1|h1
  ·exact h.row r h1
  ·rw[h1,List.length_set];exact h.row q (mG_ hq)
 ·exact h.row r hr
def putF (t:GTask)(R:List (List Bool))(a b:Fact):List (List Bool):=setR (setR R (numF t.Vars a).toNat (numF t.Vars b).toNat) (numF t.Vars b).toNat (numF t.Vars a).toNat
theorem RkR.put {t:GTask}{R:List (List Bool)}(h:RkR t R)(a b:Fact):RkR t (putF t R a b):=(h.set _ _).set _ _
theorem put_is {t:GTask}{R:List (List Bool)}(h:RkR t R)(hv:∀ k∈t.Vars,1≤k){a b c d:Fact}(ha:InV t.Vars a)(hb:InV t.Vars b)(hc:InV t.Vars c)(hd:InV t.Vars d):isF t (putF t R a b) c d=true↔isF t R c d=true∨(c=a∧d=b)∨(c=b∧d=a):=by
 have ia:=numF_at hv ha
 have ib:=numF_at hv hb
 have ic:=numF_at hv hc
 have id:=numF_at hv hd
 have hl:=h.len
 have e:∀ {x y:Fact},InV t.Vars x→InV t.Vars y→((numF t.Vars x).toNat=(numF t.Vars y).toNat↔x=y):=fun {x y} hx hy=>by
  have:=numF_at hv hx
  have:=numF_at hv hy
  exact⟨fun h=>numF_inj hv hx hy (by omega),fun h=>by rw[h]⟩
 have h1:=cell_set (R:=setR R (numF t.Vars a).toNat (numF t.Vars b).toNat) (i:=(numF t.Vars b).toNat) (j:=(numF t.Vars a).toNat) (by rw[setR_len];omega) (by rw[(h.set _ _).at (by rw[setR_len];omega),setR_len];omega) (numF t.Vars c).toNat (numF t.Vars d).toNat
 rw[cell_set (R:=R) (i:=(numF t.Vars a).toNat) (j:=(numF t.Vars b).toNat) (by omega) (by rw[h.at (by omega)];omega)]at h1
 have h2:isF t (putF t R a b) c d=cellN (setR (setR R (numF t.Vars a).toNat (numF t.Vars b).toNat) (numF t.Vars b).toNat (numF t.Vars a).toNat) (numF t.Vars c).toNat (numF t.Vars d).toNat:=rfl
 have h3:isF t R c d=cellN R (numF t.Vars c).toNat (numF t.Vars d).toNat:=rfl
 rw[h2,h1,h3]
 simp only[Bool.or_eq_true,bA_,decide_eq_true_iff,e hc ha,e hd hb,e hc hb,e hd ha,or_assoc]
theorem put_sym {t:GTask}{R:List (List Bool)}(h:RkR t R)(hv:∀ k∈t.Vars,1≤k)(hs:SyR t R){a b:Fact}(ha:InV t.Vars a)(hb:InV t.Vars b):SyR t (putF t R a b):=fun c d hc hd=>by
 rw[Bool.eq_iff_iff,put_is h hv ha hb hc hd,put_is h hv ha hb hd hc,hs c d hc hd]
 constructor
 ·rintro(g|⟨g1,g2⟩|⟨g1,g2⟩)
  ·exact .inl g
  ·exact .inr (.inr ⟨g2,g1⟩)
  ·exact .inr (.inl ⟨g2,g1⟩)
 ·rintro(g|⟨g1,g2⟩|⟨g1,g2⟩)
  ·exact .inl g
  ·exact .inr (.inr ⟨g2,g1⟩)
  ·exact .inr (.inl ⟨g2,g1⟩)
theorem set_eq {t:GTask}{z:GTable}(h:Tb t z){a b:Fact}(ha:InV t.Vars a)(hb:InV t.Vars b):M_set z a b=some (putF t z.reached a b):=by
 have ia:=numF_at h.pos ha
 have ib:=numF_at h.pos hb
 have hl:=h.len
 rw[M_set,number_eq h ha,ob1_some,number_eq h hb,ob1_some,grd_t ⟨ia.1,by omega,ib.1,by omega,h.row⟩]
 rfl
def tbl (t:GTask)(R:List (List Bool)):GTable:={ t:=t,first:=offG 0 t.Vars,reached:=R }
structure Sz (t:GTask):Prop where
 pos:∀ k∈t.Vars,1≤k
 small:sumI t.Vars≤512
 vlen:t.Vars.length≤64
theorem tb_of {t:GTask}(hz:Sz t){R:List (List Bool)}(h:RkR t R):Tb t (tbl t R):=⟨rfl,rfl,h.len,h.row,hz.pos,hz.small,hz.vlen⟩
theorem capO_of {l:List (List Fact)}(h:l.length≤1024):capO l=some l:=if_pos h
theorem joinX_le' (x:List Fact):∀ (b out:List (List Fact)),(joinX x b out).length+(b.filter fun y=>(joinO x y).isNone).length≤out.length+b.length
 | [],out=>by rw[joinX];simp
 | y :: r,out=>by
  have h:=joinX_le' x r
  rw[joinX,lC_,List.filter_cons]
  cases hj:joinO x y with
  | none =>
   have:=h out
   simp only[Option.isNone_none,if_true,lC_]
   omega
  | some z =>
   have h1:=h (addN out z)
   have h2:(addN out z).length≤out.length+1:=by unfold addN;split <;> simp
   simp only[Option.isNone_some,Bool.false_eq_true,if_false]
   omega
def badX (b:List (List Fact))(x:List Fact):Bool:=b.any fun y=>(joinO x y).isNone
theorem joinXX_le' : ∀ (a b out:List (List Fact)),(joinXX a b out).length+(a.filter (badX b)).length≤out.length+a.length*b.length
 | [],b,out=>by rw[joinXX];simp
 | x :: r,b,out=>by
  have h1:=joinXX_le' r b (joinX x b out)
  have h2:=joinX_le' x b out
  have h3:(if badX b x=true then 1 else 0)≤(b.filter fun y=>(joinO x y).isNone).length:=by
   split
   ·rename_i hb
    unfold badX at hb
    obtain⟨y,hy,e⟩:=List.any_eq_true.1 hb
    exact List.length_pos_of_mem (List.mem_filter.2 ⟨hy,e⟩)
   ·exact Nat.zero_le _
  rw[joinXX,lC_,Nat.add_mul,List.filter_cons]
  split at h3
  ·rename_i hb
   rw[if_pos hb,lC_]
   omega
  ·rename_i hb
   rw[if_neg hb]
   omega
theorem joinLL_bad (a b:List (List Fact)):(joinLL a b).length+(a.filter (badX b)).length≤a.length*b.length:=by
 have:=joinXX_le' a b []
 rw[lN_,Nat.zero_add]at this
 exact this
theorem joinLL_le (a b:List (List Fact)):(joinLL a b).length≤a.length*b.length:=by
 have:=joinLL_bad a b
 omega
theorem joinLL_one (x:List Fact)(b:List (List Fact)):(joinLL [x] b).length+(b.filter fun y=>(joinO x y).isNone).length≤b.length:=by
 have:=joinX_le' x b []
 rw[lN_,Nat.zero_add]at this
 exact this
theorem silOne_len' (f:Fact):∀ (m:Nat)(i:Int),i≤f.2→f.2<i+m→(silOne f m i).length+1≤m
 | 0,i,h1,h2=>by omega
 | m+1,i,h1,h2=>by
  rw[silOne,lA_]
  by_cases hi:i=f.2
  ·have:=silOne_len f m (i+1)
   rw[if_neg (by simpa using hi),lN_]
   omega
  ·have:=silOne_len' f m (i+1) (by omega) (by omega)
   rw[if_pos hi,List.length_singleton]
   omega
theorem silF_dom {vars:List Int}:∀ (w:List Fact),(∀ f∈w,0≤f.2∧f.2<vars.getD f.1.toNat 0∧vars.getD f.1.toNat 0≤4)→(silF vars w).length≤3*w.length∧((silF vars w).length=3*w.length→∀ f∈w,vars.getD f.1.toNat 0=4)
 | [],_=>⟨Nat.le_refl _,fun _ f hf=>nomatch hf⟩
 | f :: r,h=>by
  obtain⟨i1,i2⟩:=silF_dom r fun g hg=>h g (mC_ _ hg)
  obtain⟨h1,h2,h3⟩:=h f (mS_ ..)
  have:=silOne_len' f (vars.getD f.1.toNat 0).toNat 0 h1 (by omega)
  unfold silF at i1 i2 ⊢
  rw[List.flatMap_cons,lA_,lC_]
  refine⟨by omega,fun e g hg=>?_⟩
  rcases List.mem_cons.1 hg with rfl|hg
  ·omega
  ·exact i2 (by omega) g hg
def condE (f:Fact)(e:GEffect):Bool:=decide (e.Val≠f.2)&&decide (0<e.When.length)
def condS (f:Fact)(e:GEffect):Bool:=decide (e.Val=f.2)&&decide (0<e.When.length)
def prodS (vars:List Int):List (List Fact)→List GEffect→List (List Fact)
 | l,[]=>l
 | l,e :: K=>prodS vars (joinLL l (silF vars e.When)) K
def Six (vars:List Int)(es:List GEffect):Prop:=∀ e∈es,(silF vars e.When).length≤6
theorem prodS_le {vars:List Int}:∀ (K:List GEffect)(l:List (List Fact)),Six vars K→(prodS vars l K).length≤l.length*6 ^ K.length
 | [],l,_=>by simp[prodS]
 | e :: K,l,h=>by
  have h1:=prodS_le K (joinLL l (silF vars e.When)) fun u hu=>h u (mC_ _ hu)
  have h2:=joinLL_le l (silF vars e.When)
  have h3:=Nat.mul_le_mul_left l.length (h e (mS_ ..))
  rw[prodS,lC_,Nat.pow_succ,Nat.mul_comm (6 ^ K.length),← Nat.mul_assoc]
  exact Nat.le_trans h1 (Nat.mul_le_mul_right _ (Nat.le_trans h2 h3))
theorem quiet_nil {vars:List Int}{f:Fact}:∀ (es:List GEffect),Six vars es→quietG vars f es []=some []
 | [],_=>rfl
 | e :: r,h=>by
  have hr:=quiet_nil (f:=f) r fun u hu=>h u (mC_ _ hu)
  have he:=h e (mS_ ..)
  rw[quietG]
  split
  ·exact hr
  ·have:joinLL [] (silF vars e.When)=[]:=rfl
   rw[capO_of (by omega),oB_,this,capO_of (by decide),oB_,hr]
theorem joinLL_nil' (a:List (List Fact)):joinLL a []=[]:=by
 have:=joinLL_le a []
 rw[lN_,Nat.mul_zero]at this
 exact List.length_eq_zero_iff.1 (Nat.le_zero.1 this)
theorem quiet_sub {vars:List Int}{f:Fact}:∀ (es:List GEffect)(l:List (List Fact)),Six vars es→l.length*6 ^ (es.filter (condE f)).length≤1024→∃ j,quietG vars f es l=some j∧∀ z∈j,z∈prodS vars l (es.filter (condE f))
 | [],l,_,_=>⟨l,rfl,fun z hz=>hz⟩
 | e :: r,l,h,hl=>by
  have hr:Six vars r:=fun u hu=>h u (mC_ _ hu)
  have he:=h e (mS_ ..)
  rw[quietG]
  by_cases hv:e.Val=f.2
  ·have hc:condE f e=false:=by simp[condE,hv]
   rw[if_pos hv]
   rw[List.filter_cons,hc,if_neg (by decide)]at hl ⊢
   exact quiet_sub r l hr hl
  ·rw[if_neg hv]
   by_cases hw:e.When=[]
   ·have e1:silF vars []=[]:=rfl
    rw[hw,e1,capO_of (by decide),oB_,joinLL_nil',capO_of (by decide),oB_]
    exact⟨[],quiet_nil r hr,fun z hz=>nomatch hz⟩
   ·have hp:=List.length_pos_iff.2 hw
    have hc:condE f e=true:=by simp[condE,hv,hp]
    rw[List.filter_cons,hc,if_pos rfl]at hl ⊢
    rw[lC_,Nat.pow_succ]at hl
    have h2:=joinLL_le l (silF vars e.When)
    have h3:=Nat.mul_le_mul_left l.length he
    have h4:(joinLL l (silF vars e.When)).length*6 ^ (r.filter (condE f)).length≤1024:=by
     refine Nat.le_trans (Nat.mul_le_mul_right _ (Nat.le_trans h2 h3)) ?_
     rw[Nat.mul_assoc,Nat.mul_comm 6]
     exact hl
    have h5:(joinLL l (silF vars e.When)).length≤1024:=Nat.le_trans (Nat.le_mul_of_pos_right _ (Nat.pow_pos (by decide))) h4
    rw[capO_of (by omega),oB_,capO_of h5,oB_,prodS]
    exact quiet_sub r _ hr h4
def casA (vars:List Int):List GEffect→List (List Fact)
 | []=>[[]]
 | e :: K=>prodS vars [[]] (e :: K)++casA vars K
def casB (vars:List Int)(f:Fact):List GEffect→List (List Fact)
 | []=>[]
 | e :: r=>(if condS f e=true then prodS vars [e.When] (r.filter (condE f))else[])++casB vars f r
theorem casA_in (vars:List Int):∀ (K:List GEffect)(z:List Fact),z∈prodS vars [[]] K→z∈casA vars K
 | [],z,h=>h
 | e :: K,z,h=>List.mem_append.2 (.inl h)
theorem casA_up (vars:List Int)(f:Fact)(e:GEffect)(r:List GEffect)(z:List Fact)(h:z∈casA vars (r.filter (condE f))):z∈casA vars ((e :: r).filter (condE f)):=by
 rw[List.filter_cons]
 split
 ·exact List.mem_append.2 (.inr h)
 ·exact h
theorem pow6 {k:Nat}(h:k≤3):1*6 ^ k≤1024:=by
 have:k=0∨k=1∨k=2∨k=3:=by omega
 rcases this with rfl|rfl|rfl|rfl <;> decide
theorem condLen (f:Fact)(e:GEffect)(r:List GEffect):(r.filter (condE f)).length≤((e :: r).filter (condE f)).length:=by
 rw[List.filter_cons]
 split <;> simp
theorem cases_sub {vars:List Int}{f:Fact}:∀ (es:List GEffect),Six vars es→(es.filter (condE f)).length≤3→∃ out,casesG vars f es=some out∧out.Nodup∧∀ z∈out,z∈casA vars (es.filter (condE f))∨z∈casB vars f es
 | [],_,_=>⟨[],rfl,List.nodup_nil,fun z hz=>nomatch hz⟩
 | e :: r,h,hk=>by
  have hr:Six vars r:=fun u hu=>h u (mC_ _ hu)
  have hk':=Nat.le_trans (condLen f e r) hk
  obtain⟨out,ho,hn,hz⟩:=cases_sub r hr hk'
  have up:∀ z∈out,z∈casA vars ((e :: r).filter (condE f))∨z∈casB vars f (e :: r):=fun z hzm=>by
   rcases hz z hzm with g|g
   ·exact .inl (casA_up vars f e r z g)
   ·exact .inr (List.mem_append.2 (.inr g))
  rw[casesG,ho,oB_]
  split
  ·rename_i hv
   obtain⟨j,hj,hj2⟩:=quiet_sub (f:=f) r [e.When] hr (by rw[List.length_singleton];exact pow6 hk')
   rw[hj,Option.map_some]
   refine⟨_,rfl,foldT_nodup _ _ hn,fun z hzm=>?_⟩
   rcases(foldN_mem z j out).1 hzm with g|g
   ·exact up z g
   ·by_cases hw:e.When=[]
    ·have:=hj2 z g
     rw[hw]at this
     exact .inl (casA_up vars f e r z (casA_in vars _ z this))
    ·have hp:=List.length_pos_iff.2 hw
     refine .inr (List.mem_append.2 (.inl ?_))
     rw[if_pos (by simp[condS,hv,hp])]
     exact hj2 z g
  ·exact⟨out,rfl,hn,up⟩
def casN : Nat→Nat
 | 0=>1
 | k+1=>6 ^ (k+1)+casN k
theorem casA_le {vars:List Int}:∀ (K:List GEffect),Six vars K→(casA vars K).length≤casN K.length
 | [],_=>Nat.le_refl _
 | e :: K,h=>by
  have h1:=prodS_le (e :: K) [[]] h
  have h2:=casA_le K fun u hu=>h u (mC_ _ hu)
  rw[List.length_singleton,Nat.one_mul]at h1
  rw[casA,lA_,lC_,casN]
  rw[lC_]at h1
  omega
theorem six_filter {vars:List Int}{es:List GEffect}(h:Six vars es)(p:GEffect→Bool):Six vars (es.filter p):=fun e he=>h e (List.mem_filter.1 he).1
theorem casB_le {vars:List Int}{f:Fact}{k:Nat}:∀ (es:List GEffect),Six vars es→(es.filter (condE f)).length≤k→(casB vars f es).length≤(es.filter (condS f)).length*6 ^ k
 | [],_,_=>Nat.zero_le _
 | e :: r,h,hk=>by
  have hr:Six vars r:=fun u hu=>h u (mC_ _ hu)
  have hk':=Nat.le_trans (condLen f e r) hk
  have ih:=casB_le r hr hk'
  have h1:=prodS_le (r.filter (condE f)) [e.When] (six_filter hr _)
  rw[List.length_singleton,Nat.one_mul]at h1
  have h2:=Nat.pow_le_pow_right (show 0<6 by decide) hk'
  rw[casB,lA_,List.filter_cons]
  split
  ·rw[lC_,Nat.succ_mul]
   omega
  ·rw[lN_]
   omega
def casL (vars:List Int)(f:Fact)(es:List GEffect):List (List Fact):=casA vars (es.filter (condE f))++casB vars f es++prodS vars [[f]] (es.filter (condE f))
def casM (k j:Nat):Nat:=casN k+j*6 ^ k+6 ^ k
theorem casL_le {vars:List Int}{f:Fact}{es:List GEffect}(h:Six vars es):(casL vars f es).length≤casM (es.filter (condE f)).length (es.filter (condS f)).length:=by
 have h1:=casA_le (es.filter (condE f)) (six_filter h _)
 have h2:=casB_le (f:=f) es h (Nat.le_refl _)
 have h3:=prodS_le (es.filter (condE f)) [[f]] (six_filter h _)
 rw[List.length_singleton,Nat.one_mul]at h3
 unfold casL casM
 rw[lA_,lA_]
 omega
theorem casM_le {k j:Nat}(h:k+j≤3):casM k j≤475:=by
 have:k=0∨k=1∨k=2∨k=3:=by omega
 rcases this with rfl|rfl|rfl|rfl <;> simp only[casM,casN,Nat.reducePow] <;> omega
theorem casesO_sub {vars:List Int}{f:Fact}{o:GOp}{es:List GEffect}(he:o.Effs.filter (fun e=>e.Var == f.1)=es)(h:Six vars es)(hk:(es.filter (condE f)).length+(es.filter (condS f)).length≤3):∃ c,casesO vars o f=some c∧c.Nodup∧∀ z∈c,z∈casL vars f es:=by
 obtain⟨out,ho,hn,hz⟩:=cases_sub (f:=f) es h (by omega)
 obtain⟨j,hj,hj2⟩:=quiet_sub (f:=f) es [[f]] h (by rw[List.length_singleton];exact pow6 (by omega))
 have hm:∀ z∈j.foldl addN out,z∈casL vars f es:=fun z hzm=>by
  unfold casL
  rcases(foldN_mem z j out).1 hzm with g|g
  ·exact List.mem_append.2 (.inl (List.mem_append.2 (hz z g)))
  ·exact List.mem_append.2 (.inr (hj2 z g))
 have hl:=nodupT_le _ _ (foldT_nodup j _ hn) hm
 have:=casL_le (f:=f) h
 have:=casM_le hk
 refine⟨j.foldl addN out,?_,foldT_nodup _ _ hn,hm⟩
 rw[casesO,casesE,he,ho,oB_,hj,Option.map_some,oB_,capO_of (by omega)]
theorem nodup_full {α:Type} [DecidableEq α]:∀ (l u:List α),l.Nodup→(∀ x∈l,x∈u)→u.length≤l.length→∀ x∈u,x∈l
 | [],u,_,_,h,x,hx=>by have:=List.length_pos_of_mem hx;simp at h;subst h;cases hx
 | y :: l,u,hn,hs,h,x,hx=>by
  rw[List.nodup_cons]at hn
  by_cases e:x=y
  ·rw[e];exact mS_ ..
  ·have hy:=hs y (mS_ ..)
   have hl:=List.length_erase_of_mem hy
   have hp:=List.length_pos_of_mem hy
   rw[lC_]at h
   refine mC_ _ (nodup_full l (u.erase y) hn.2 (fun z hz=>(List.mem_erase_of_ne (fun e=>hn.1 (by rw[← e];exact hz))).2 (hs z (mC_ _ hz))) (by omega) x ((List.mem_erase_of_ne e).2 hx))
def Has (c:List (List Fact))(u w:Int):Prop:=∀ y:Int,0≤y→y<4→y≠w→∃ x∈c,(u,y)∈x
theorem has_bad {vars:List Int}{pre:List Fact}{c1 c2:List (List Fact)}{u w1 w2:Int}(hpre:propF vars (-1) pre=true)(h1:PropL vars c1)(hw1:0≤w1∧w1<4)(H1:Has c1 u w1)(H2:Has c2 u w2)(hl:(joinLL [pre] c1).length=c1.length):3≤((joinLL [pre] c1).filter (badX c2)).length:=by
 have hone:=joinLL_one pre c1
 have hall:∀ x∈c1,∃ z,joinO pre x=some z:=fun x hx=>by
  cases e:joinO pre x with
  | some z=>exact⟨z,rfl⟩
  | none =>
   have hm:x∈c1.filter fun y=>(joinO pre y).isNone:=List.mem_filter.2 ⟨hx,by simp[e]⟩
   have:=List.length_pos_of_mem hm
   omega
 have hp:PropL vars (joinLL [pre] c1):=joinLL_prop (fun x hx=>by rw[mI_.1 hx];exact hpre) h1
 have key:∀ y:Int,0≤y→y<4→y≠w1→∃ z∈(joinLL [pre] c1).filter (badX c2),(u,y)∈z:=fun y y0 y1 y2=>by
  obtain⟨x,hx,hu⟩:=H1 y y0 y1 y2
  obtain⟨z,hz⟩:=hall x hx
  have hzu:=((joinO_some hz).2 (u,y)).2 (.inr hu)
  obtain⟨y',a0,a1,a2,a3⟩:∃ y':Int,0≤y'∧y'<4∧y'≠w2∧y'≠y:=by
   by_cases e0:(0:Int)≠w2∧(0:Int)≠y
   ·exact⟨0,by decide,by decide,e0.1,e0.2⟩
   ·by_cases e1:(1:Int)≠w2∧(1:Int)≠y
    ·exact⟨1,by decide,by decide,e1.1,e1.2⟩
    ·exact⟨2,by decide,by decide,by omega,by omega⟩
  obtain⟨x2,hx2,hu2⟩:=H2 y' a0 a1 a2
  refine⟨z,List.mem_filter.2 ⟨(joinLL_mem z _ _).2 ⟨pre,mI_.2 rfl,x,hx,hz⟩,?_⟩,hzu⟩
  exact List.any_eq_true.2 ⟨x2,hx2,by rw[joinO_not hzu hu2 rfl (fun e=>a3 e.symm)];rfl⟩
 have hne:∀ {z z':List Fact} {y y':Int},z∈(joinLL [pre] c1).filter (badX c2)→(u,y)∈z→(u,y')∈z'→y≠y'→z≠z':=fun {z z' y y'} hz hy hy' hne e=>by
  subst e
  have ha:=((vF_iff' z).1 (propF_vF' (hp z (List.mem_filter.1 hz).1))).2
  have:=asc_inj ha hy hy' rfl
  exact hne (congrArg Prod.snd this)
 obtain⟨a,b,c,ha,hb,hc,n1,n2,n3⟩:∃ a b c:Int,(0≤a∧a<4∧a≠w1)∧(0≤b∧b<4∧b≠w1)∧(0≤c∧c<4∧c≠w1)∧a≠b∧a≠c∧b≠c:=by
  have:w1=0∨w1=1∨w1=2∨w1=3:=by omega
  rcases this with rfl|rfl|rfl|rfl
  ·exact⟨1,2,3,by decide⟩
  ·exact⟨0,2,3,by decide⟩
  ·exact⟨0,1,3,by decide⟩
  ·exact⟨0,1,2,by decide⟩
 obtain⟨za,ma,ua⟩:=key a ha.1 ha.2.1 ha.2.2
 obtain⟨zb,mb,ub⟩:=key b hb.1 hb.2.1 hb.2.2
 obtain⟨zc,mc,uc⟩:=key c hc.1 hc.2.1 hc.2.2
 have:=nodupT_le [za,zb,zc] _ (by
  have e1:=hne ma ua ub n1
  have e2:=hne ma ua uc n2
  have e3:=hne mb ub uc n3
  simp[e1,e2,e3]) (fun x hx=>by
   simp only[List.mem_cons,List.not_mem_nil,or_false]at hx
   rcases hx with rfl|rfl|rfl
   ·exact ma
   ·exact mb
   ·exact mc)
 exact this
theorem four_prod : ∀ (vars:List Int)(I:List Nat),(∀ k∈vars,1≤k)→I.Nodup→(∀ i∈I,vars.getD i 0=4)→4 ^ I.length≤prodN vars
 | [],I,_,_,hI=>by
  cases I with
  | nil=>exact Nat.le_refl _
  | cons i r=>have:=hI i (mS_ ..);simp at this
 | k :: r,I,hv,hn,hI=>by
  have hk:=hv k (mS_ ..)
  have hn2:((I.erase 0).map (· - 1)).Nodup:=by
   refine List.pairwise_map.2 ((List.Nodup.erase 0 hn).imp_of_mem fun {a b} ha hb hab e=>hab ?_)
   have:=((List.Nodup.mem_erase_iff hn).1 ha).1
   have:=((List.Nodup.mem_erase_iff hn).1 hb).1
   omega
  have ih:=four_prod r ((I.erase 0).map (· - 1)) (fun x hx=>hv x (mC_ _ hx)) hn2 (fun i hi=>by
   obtain⟨j,hj,rfl⟩:=List.mem_map.1 hi
   obtain⟨h1,h2⟩:=(List.Nodup.mem_erase_iff hn).1 hj
   have:=hI j h2
   obtain⟨q,rfl⟩:∃ q,j=q+1:=⟨j-1,by omega⟩
   simpa using this)
  rw[lM_]at ih
  rw[prodN]
  by_cases h0:0∈I
  ·have h4:=hI 0 h0
   simp at h4
   have hl:=List.length_erase_of_mem h0
   have hp:=List.length_pos_of_mem h0
   rw[hl]at ih
   obtain⟨m,hm⟩:∃ m,I.length=m+1:=⟨I.length-1,by omega⟩
   rw[hm]at ih ⊢
   rw[Nat.pow_succ,Nat.mul_comm,h4]
   exact Nat.mul_le_mul_left 4 ih
  ·rw[List.erase_of_not_mem h0]at ih
   exact Nat.le_trans ih (Nat.le_mul_of_pos_left _ (by omega))
theorem len_two {α:Type}:∀ {l:List α},l.length=2→∃ a b,l=[a,b]
 | [],h=>by simp at h
 | [_],h=>by simp at h
 | [a,b],_=>⟨a,b,rfl⟩
 | _ :: _ :: _ :: _,h=>by simp at h
theorem casM_all : ∀ k1:Fin 4,∀ j1:Fin 4,∀ k2:Fin 4,∀ j2:Fin 4,k1.val+j1.val+(k2.val+j2.val)≤3→casM k1 j1*casM k2 j2≤1024∨(k1.val=2∧j1.val=0∧k2.val=1∧j2.val=0)∨(k1.val=1∧j1.val=0∧k2.val=2∧j2.val=0):=by decide
theorem casM_two {k1 j1 k2 j2:Nat}(h:k1+j1+(k2+j2)≤3):casM k1 j1*casM k2 j2≤1024∨(k1=2∧j1=0∧k2=1∧j2=0)∨(k1=1∧j1=0∧k2=2∧j2=0) :=
 casM_all ⟨k1,by omega⟩ ⟨j1,by omega⟩ ⟨k2,by omega⟩ ⟨j2,by omega⟩ h
structure WhenT (vars:List Int)(w:List Fact):Prop where
 prop:propF vars (-1) w=true
 two:w.length≤2
 dom:∀ n∈vars,n≤4
theorem WhenT.fact {vars:List Int}{w:List Fact}(h:WhenT vars w):∀ f∈w,0≤f.1∧f.1<vars.length∧0≤f.2∧f.2<vars.getD f.1.toNat 0∧vars.getD f.1.toNat 0≤4:=fun f hf=>by
 obtain⟨hv,hr⟩:=(propF_iff vars w (-1)).1 h.prop
 have hn:=((vF_iff' w).1 hv).1 f hf
 have h1:=hr f hf
 refine⟨hn.1,h1.1,hn.2,h1.2,?_⟩
 rw[gD_]
 cases hg:vars[f.1.toNat]? with
 | none=>simp
 | some n=>exact h.dom n (mG_ hg)
theorem WhenT.sil {vars:List Int}{w:List Fact}(h:WhenT vars w):(silF vars w).length≤6∧(6≤(silF vars w).length→w.length=2∧∀ f∈w,vars.getD f.1.toNat 0=4):=by
 obtain⟨h1,h2⟩:=silF_dom w fun f hf=>(h.fact f hf).2.2
 have:=h.two
 exact⟨by omega,fun h6=>⟨by omega,h2 (by omega)⟩⟩
theorem joinO_nil {vars:List Int}{y:List Fact}(h:propF vars (-1) y=true):joinO [] y=some y:=joinO_is rfl (propF_vF' h) (propF_vF' h) (fun x=>by simp)
theorem sil_one {vars:List Int}{w:List Fact}{g:Fact}(hg:g∈w)(h4:vars.getD g.1.toNat 0=4){y:Int}(y0:0≤y)(y1:y<4)(y2:y≠g.2):[(g.1,y)]∈silF vars w:=silF_mem.2 ⟨g,hg,y,y0,by rw[h4];exact y1,y2,rfl⟩
theorem sil_nil {vars:List Int}{w:List Fact}(h:propF vars (-1) w=true){z:List Fact}(hz:z∈silF vars w):z∈joinLL [[]] (silF vars w):=(joinLL_mem z _ _).2 ⟨[],mI_.2 rfl,z,hz,joinO_nil (silF_prop h z hz)⟩
theorem full_one {vars:List Int}{f:Fact}{es:List GEffect}{e3:GEffect}{c:List (List Fact)}(hs:Six vars es)(hK:es.filter (condE f)=[e3])(hj:(es.filter (condS f)).length=0)(w3:WhenT vars e3.When)(hn:c.Nodup)(hc:∀ z∈c,z∈casL vars f es)(hl:13≤c.length):e3.When.length=2∧∀ g∈e3.When,vars.getD g.1.toNat 0=4∧Has c g.1 g.2:=by
 have hB:=casB_le (f:=f) es hs (Nat.le_refl _)
 rw[hj,Nat.zero_mul]at hB
 have hlen:=nodupT_le _ _ hn hc
 have s3:=w3.sil
 have p1:=joinLL_le [[]] (silF vars e3.When)
 have p2:=joinLL_le [[f]] (silF vars e3.When)
 rw[List.length_singleton,Nat.one_mul]at p1 p2
 have hL:(casL vars f es).length=(joinLL [[]] (silF vars e3.When)).length+1+(casB vars f es).length+(joinLL [[f]] (silF vars e3.When)).length:=by
  unfold casL
  rw[hK,lA_,lA_]
  simp only[casA,prodS,lA_,List.length_singleton]
 obtain⟨g1,g2⟩:=s3.2 (by omega)
 refine⟨g1,fun g hg=>⟨g2 g hg,fun y y0 y1 y2=>⟨[(g.1,y)],?_,mI_.2 rfl⟩⟩⟩
 refine nodup_full _ _ hn hc (by omega) _ ?_
 unfold casL
 rw[hK]
 refine List.mem_append.2 (.inl (List.mem_append.2 (.inl (List.mem_append.2 (.inl ?_)))))
 exact sil_nil w3.prop (sil_one hg (g2 g hg) y0 y1 y2)
theorem full_two {vars:List Int}{f:Fact}{es:List GEffect}{e1 e2:GEffect}{c:List (List Fact)}(hs:Six vars es)(hK:es.filter (condE f)=[e1,e2])(hj:(es.filter (condS f)).length=0)(w1:WhenT vars e1.When)(w2:WhenT vars e2.When)(hn:c.Nodup)(hc:∀ z∈c,z∈casL vars f es)(hl:79≤c.length):e1.When.length=2∧e2.When.length=2∧(∀ g∈e1.When,vars.getD g.1.toNat 0=4∧Has c g.1 g.2)∧(∀ g∈e2.When,vars.getD g.1.toNat 0=4∧Has c g.1 g.2)∧∀ g∈e1.When,∀ h∈e2.When,g.1≠h.1:=by
 have hB:=casB_le (f:=f) es hs (Nat.le_refl _)
 rw[hj,Nat.zero_mul]at hB
 have hlen:=nodupT_le _ _ hn hc
 have s1:=w1.sil
 have s2:=w2.sil
 have p1:=joinLL_le [[]] (silF vars e1.When)
 have p2:=joinLL_le [[]] (silF vars e2.When)
 have p3:=joinLL_bad (joinLL [[]] (silF vars e1.When)) (silF vars e2.When)
 have p4:=joinLL_le [[f]] (silF vars e1.When)
 have p5:=joinLL_le (joinLL [[f]] (silF vars e1.When)) (silF vars e2.When)
 rw[List.length_singleton,Nat.one_mul]at p1 p2 p4
 have hL:(casL vars f es).length=(joinLL (joinLL [[]] (silF vars e1.When)) (silF vars e2.When)).length+((joinLL [[]] (silF vars e2.When)).length+1)+(casB vars f es).length+(joinLL (joinLL [[f]] (silF vars e1.When)) (silF vars e2.When)).length:=by
  unfold casL
  rw[hK,lA_,lA_]
  simp only[casA,prodS,lA_,List.length_singleton]
 have q3:(joinLL [[]] (silF vars e1.When)).length*(silF vars e2.When).length≤6*6:=Nat.mul_le_mul (by omega) (by omega)
 have q5:(joinLL [[f]] (silF vars e1.When)).length*(silF vars e2.When).length≤6*6:=Nat.mul_le_mul (by omega) (by omega)
 have hb:((joinLL [[]] (silF vars e1.When)).filter (badX (silF vars e2.When))).length=0:=by omega
 have h36:36≤(joinLL [[]] (silF vars e1.When)).length*(silF vars e2.When).length:=by omega
 have h6a:6≤(joinLL [[]] (silF vars e1.When)).length:=by
  refine Nat.le_of_not_lt fun h=>?_
  have:(joinLL [[]] (silF vars e1.When)).length*(silF vars e2.When).length≤5*6:=Nat.mul_le_mul (by omega) (by omega)
  omega
 have h6b:6≤(silF vars e2.When).length:=by
  refine Nat.le_of_not_lt fun h=>?_
  have:(joinLL [[]] (silF vars e1.When)).length*(silF vars e2.When).length≤6*5:=Nat.mul_le_mul (by omega) (by omega)
  omega
 obtain⟨g1,d1⟩:=s1.2 (by omega)
 obtain⟨g2,d2⟩:=s2.2 h6b
 have hgood:∀ x∈joinLL [[]] (silF vars e1.When),∀ y∈silF vars e2.When,∃ z,joinO x y=some z:=fun x hx y hy=>by
  cases e:joinO x y with
  | some z=>exact⟨z,rfl⟩
  | none =>
   have:=List.length_pos_of_mem (List.mem_filter.2 ⟨hx,show badX (silF vars e2.When) x=true from List.any_eq_true.2 ⟨y,hy,by rw[e];rfl⟩⟩)
   omega
 have hfull:=nodup_full _ _ hn hc (by omega)
 refine⟨g1,g2,fun g hg=>⟨d1 g hg,fun y y0 y1 y2=>?_⟩,fun g hg=>⟨d2 g hg,fun y y0 y1 y2=>⟨[(g.1,y)],?_,mI_.2 rfl⟩⟩,fun g hg h hh e=>?_⟩
 ·have hx:=sil_nil w1.prop (sil_one hg (d1 g hg) y0 y1 y2)
  obtain⟨s,hsm⟩:∃ s,s∈silF vars e2.When:=by
   cases hq:silF vars e2.When with
   | nil=>rw[hq]at h6b;simp at h6b
   | cons s r=>exact⟨s,mS_ ..⟩
  obtain⟨z,hz⟩:=hgood _ hx s hsm
  refine⟨z,hfull z ?_,((joinO_some hz).2 _).2 (.inl (mI_.2 rfl))⟩
  unfold casL
  rw[hK]
  refine List.mem_append.2 (.inl (List.mem_append.2 (.inl (List.mem_append.2 (.inl ?_)))))
  exact(joinLL_mem z _ _).2 ⟨_,hx,s,hsm,hz⟩
 ·refine hfull _ ?_
  unfold casL
  rw[hK]
  refine List.mem_append.2 (.inl (List.mem_append.2 (.inl (List.mem_append.2 (.inr (List.mem_append.2 (.inl ?_)))))))
  exact sil_nil w2.prop (sil_one hg (d2 g hg) y0 y1 y2)
 ·obtain⟨y,y',a0,a1,a2,b0,b1,b2,hne⟩:∃ y y':Int,0≤y∧y<4∧y≠g.2∧0≤y'∧y'<4∧y'≠h.2∧y≠y':=by
   obtain⟨y,c0,c1,c2⟩:∃ y:Int,0≤y∧y<2∧y≠g.2:=by
    by_cases e0:(0:Int)≠g.2
    ·exact⟨0,by decide,by decide,e0⟩
    ·exact⟨1,by decide,by decide,by omega⟩
   by_cases e0:(2:Int)≠h.2
   ·exact⟨y,2,c0,by omega,c2,by decide,by decide,e0,by omega⟩
   ·exact⟨y,3,c0,by omega,c2,by decide,by decide,by omega,by omega⟩
  obtain⟨z,hz⟩:=hgood _ (sil_nil w1.prop (sil_one hg (d1 g hg) a0 a1 a2)) _ (sil_one hh (d2 h hh) b0 b1 b2)
  rw[joinO_not (x:=(g.1,y)) (y:=(h.1,y')) (mI_.2 rfl) (mI_.2 rfl) e hne]at hz
  cases hz
theorem common {vars:List Int}{a b c:List Fact}(hv:∀ k∈vars,1≤k)(hp:prodN vars≤512)(wa:WhenT vars a)(wb:WhenT vars b)(wc:WhenT vars c)(la:a.length=2)(lb:b.length=2)(lc:c.length=2)(da:∀ g∈a,vars.getD g.1.toNat 0=4)(db:∀ g∈b,vars.getD g.1.toNat 0=4)(dc:∀ g∈c,vars.getD g.1.toNat 0=4)(hab:∀ g∈a,∀ h∈b,g.1≠h.1):∃ g∈c,∃ h∈a++b,g.1=h.1:=by
 obtain⟨a1,a2,rfl⟩:=len_two la
 obtain⟨b1,b2,rfl⟩:=len_two lb
 obtain⟨c1,c2,rfl⟩:=len_two lc
 refine Classical.byContradiction fun hno=>?_
 have hc:∀ h∈[a1,a2]++[b1,b2],c1.1≠h.1:=fun h hh e=>hno ⟨c1,by simp,h,hh,e⟩
 have A:=((vF_iff' _).1 (propF_vF' wa.prop)).2
 have B:=((vF_iff' _).1 (propF_vF' wb.prop)).2
 have A1:a1.1<a2.1:=by simpa [Asc] using A
 have B1:b1.1<b2.1:=by simpa [Asc] using B
 have fa1:=wa.fact a1 (by simp)
 have fa2:=wa.fact a2 (by simp)
 have fb1:=wb.fact b1 (by simp)
 have fb2:=wb.fact b2 (by simp)
 have fc1:=wc.fact c1 (by simp)
 have x1:=hab a1 (by simp) b1 (by simp)
 have x2:=hab a1 (by simp) b2 (by simp)
 have x3:=hab a2 (by simp) b1 (by simp)
 have x4:=hab a2 (by simp) b2 (by simp)
 have y1:=hc a1 (by simp)
 have y2:=hc a2 (by simp)
 have y3:=hc b1 (by simp)
 have y4:=hc b2 (by simp)
 have hne:∀ {x y:Fact},0≤x.1→0≤y.1→x.1≠y.1→x.1.toNat≠y.1.toNat:=fun h1 h2 h e=>h (by omega)
 have h5:=four_prod vars [c1.1.toNat,a1.1.toNat,a2.1.toNat,b1.1.toNat,b2.1.toNat] hv (by
  have z1:=hne fc1.1 fa1.1 y1
  have z2:=hne fc1.1 fa2.1 y2
  have z3:=hne fc1.1 fb1.1 y3
  have z4:=hne fc1.1 fb2.1 y4
  have z5:=hne fa1.1 fa2.1 (by omega)
  have z6:=hne fa1.1 fb1.1 x1
  have z7:=hne fa1.1 fb2.1 x2
  have z8:=hne fa2.1 fb1.1 x3
  have z9:=hne fa2.1 fb2.1 x4
  have z0:=hne fb1.1 fb2.1 (by omega)
  simp[z1,z2,z3,z4,z5,z6,z7,z8,z9,z0]) (fun i hi=>by
  simp only[List.mem_cons,List.not_mem_nil,or_false]at hi
  rcases hi with rfl|rfl|rfl|rfl|rfl
  ·exact dc c1 (by simp)
  ·exact da a1 (by simp)
  ·exact da a2 (by simp)
  ·exact db b1 (by simp)
  ·exact db b2 (by simp))
 have:(4:Nat) ^ 5=1024:=rfl
 simp only[lC_,lN_]at h5
 omega
theorem cond_cnt (f:Fact):∀ es:List GEffect,(es.filter (condE f)).length+(es.filter (condS f)).length=condN es
 | []=>rfl
 | e :: r=>by
  have ih:=cond_cnt f r
  rw[condN_cons,List.filter_cons,List.filter_cons]
  unfold condE condS at ih ⊢
  by_cases hw:0<e.When.length
  ·by_cases hv:e.Val=f.2
   ·simp[hw,hv];simp at ih;omega
   ·simp[hw,hv];simp at ih;omega
  ·simp[hw];simp at ih;omega
theorem cond_two {v1 v2:Int}(h:v1≠v2):∀ es:List GEffect,condN (es.filter fun e=>e.Var == v1)+condN (es.filter fun e=>e.Var == v2)≤condN es
 | []=>Nat.le_refl _
 | e :: r=>by
  have ih:=cond_two h r
  rw[condN_cons,List.filter_cons,List.filter_cons]
  by_cases e1:e.Var=v1
  ·have e2:¬ e.Var=v2:=fun e=>h (e1.symm.trans e)
   rw[if_pos (by simpa using e1),if_neg (by simpa using e2),condN_cons]
   omega
  ·by_cases e2:e.Var=v2
   ·rw[if_neg (by simpa using e1),if_pos (by simpa using e2),condN_cons]
    omega
   ·rw[if_neg (by simpa using e1),if_neg (by simpa using e2)]
    omega
theorem cond_sub (p:GEffect→Bool):∀ es:List GEffect,condN (es.filter p)≤condN es
 | []=>Nat.le_refl _
 | e :: r=>by
  have ih:=cond_sub p r
  rw[condN_cons,List.filter_cons]
  split
  ·rw[condN_cons];omega
  ·omega
structure TameO (vars:List Int)(o:GOp):Prop where
 dom:∀ n∈vars,1≤n∧n≤4
 prod:prodN vars≤512
 when:WhenP vars o.Effs
 two:∀ e∈o.Effs,e.When.length≤2
 three:condN o.Effs≤3
 pre:propF vars (-1) o.Pre=true
section
variable {vars : List Int} {o : GOp} (T : TameO vars o)
include T
theorem TameO.whenT {e:GEffect}(he:e∈o.Effs):WhenT vars e.When:=⟨T.when e he,T.two e he,fun n hn=>(T.dom n hn).2⟩
theorem TameO.six (p:GEffect→Bool):Six vars (o.Effs.filter p):=fun _ he=>(T.whenT (List.mem_filter.1 he).1).sil.1
theorem reg_one' (f:Fact):∃ j,regG vars o [f] [o.Pre]=some j:=by
 have hk:=cond_cnt f (o.Effs.filter fun e=>e.Var == f.1)
 have hs:=cond_sub (fun e=>e.Var == f.1) o.Effs
 have:=T.three
 obtain⟨c,h1,h2,h3⟩:=casesO_sub (vars:=vars) (f:=f) rfl (T.six _) (by omega)
 have hl:=nodupT_le _ _ h2 h3
 have hL:=casL_le (f:=f) (T.six (fun e=>e.Var == f.1))
 have hM:=casM_le (k:=((o.Effs.filter fun e=>e.Var == f.1).filter (condE f)).length) (j:=((o.Effs.filter fun e=>e.Var == f.1).filter (condS f)).length) (by omega)
 have hj:=joinLL_le [o.Pre] c
 rw[List.length_singleton,Nat.one_mul]at hj
 exact⟨joinLL [o.Pre] c,by rw[regG,h1,oB_,capO_of (by omega),oB_,regG]⟩
theorem reg_two {f1 f2:Fact}(hf1:propF vars (-1) [f1]=true)(hne:f1.1≠f2.1):∃ j,regG vars o [f1,f2] [o.Pre]=some j:=by
 have hk1:=cond_cnt f1 (o.Effs.filter fun e=>e.Var == f1.1)
 have hk2:=cond_cnt f2 (o.Effs.filter fun e=>e.Var == f2.1)
 have hs:=cond_two hne o.Effs
 have h3:=T.three
 have S1:=T.six fun e=>e.Var == f1.1
 have S2:=T.six fun e=>e.Var == f2.1
 obtain⟨c1,a1,a2,a3⟩:=casesO_sub (vars:=vars) (f:=f1) rfl S1 (by omega)
 obtain⟨c2,b1,b2,b3⟩:=casesO_sub (vars:=vars) (f:=f2) rfl S2 (by omega)
 have l1:=Nat.le_trans (nodupT_le _ _ a2 a3) (casL_le (f:=f1) S1)
 have l2:=Nat.le_trans (nodupT_le _ _ b2 b3) (casL_le (f:=f2) S2)
 have hM:=casM_le (k:=((o.Effs.filter fun e=>e.Var == f1.1).filter (condE f1)).length) (j:=((o.Effs.filter fun e=>e.Var == f1.1).filter (condS f1)).length) (by omega)
 have hj:=joinLL_le [o.Pre] c1
 rw[List.length_singleton,Nat.one_mul]at hj
 have hJ:=joinLL_bad (joinLL [o.Pre] c1) c2
 have hp1:=(casesO_prop T.when hf1 a1).1
 have memW:∀ {p q:GEffect→Bool} {e:GEffect},e∈(o.Effs.filter p).filter q→WhenT vars e.When:=fun he=>T.whenT (List.mem_filter.1 (List.mem_filter.1 he).1).1
 suffices h:(joinLL (joinLL [o.Pre] c1) c2).length≤1024 by
  exact⟨_,by rw[regG,a1,oB_,capO_of (by omega),oB_,regG,b1,oB_,capO_of h,oB_,regG]⟩
 rcases casM_two (k1:=((o.Effs.filter fun e=>e.Var == f1.1).filter (condE f1)).length) (j1:=((o.Effs.filter fun e=>e.Var == f1.1).filter (condS f1)).length) (k2:=((o.Effs.filter fun e=>e.Var == f2.1).filter (condE f2)).length) (j2:=((o.Effs.filter fun e=>e.Var == f2.1).filter (condS f2)).length) (by omega)with h|⟨h1,h2,h4,h5⟩|⟨h1,h2,h4,h5⟩
 ·refine Nat.le_trans ?_ h
  refine Nat.le_trans (joinLL_le _ _) (Nat.mul_le_mul (Nat.le_trans hj l1) l2)
 ·rw[h1,h2]at l1
  rw[h4,h5]at l2
  replace l1:c1.length≤79:=l1
  replace l2:c2.length≤13:=l2
  obtain⟨e1,e2,hK⟩:=len_two h1
  obtain⟨e3,hK3⟩:=List.length_eq_one_iff.1 h4
  by_cases c7:(joinLL [o.Pre] c1).length≤78
  ·have:=Nat.mul_le_mul c7 l2
   omega
  ·by_cases c8:c2.length≤12
   ·have:(joinLL [o.Pre] c1).length*c2.length≤79*12:=Nat.mul_le_mul (by omega) c8
    omega
   ·have W1:WhenT vars e1.When:=memW (by rw[hK];simp)
    have W2:WhenT vars e2.When:=memW (by rw[hK];simp)
    have W3:WhenT vars e3.When:=memW (by rw[hK3];simp)
    obtain⟨u1,u2,u3,u4,u5⟩:=full_two S1 hK h2 W1 W2 a2 a3 (by omega)
    obtain⟨v1,v2⟩:=full_one S2 hK3 h5 W3 b2 b3 (by omega)
    obtain⟨g,hg,h,hh,e⟩:=common (fun k hk=>(T.dom k hk).1) T.prod W1 W2 W3 u1 u2 v1 (fun g hg=>(u3 g hg).1) (fun g hg=>(u4 g hg).1) (fun g hg=>(v2 g hg).1) u5
    have H2:=(v2 g hg).2
    obtain⟨H1,H4,hr⟩:Has c1 h.1 h.2∧vars.getD h.1.toNat 0=4∧(0≤h.2∧h.2<vars.getD h.1.toNat 0):=by
     rcases List.mem_append.1 hh with hh|hh
     ·exact⟨(u3 h hh).2,(u3 h hh).1,(W1.fact h hh).2.2.1,(W1.fact h hh).2.2.2.1⟩
     ·exact⟨(u4 h hh).2,(u4 h hh).1,(W2.fact h hh).2.2.1,(W2.fact h hh).2.2.2.1⟩
    rw[e]at H2
    have hb:=has_bad T.pre hp1 (by omega) H1 H2 (by omega)
    have:(joinLL [o.Pre] c1).length*c2.length≤79*13:=Nat.mul_le_mul (by omega) l2
    omega
 ·rw[h1,h2]at l1
  rw[h4,h5]at l2
  replace l1:c1.length≤13:=l1
  replace l2:c2.length≤79:=l2
  obtain⟨e1,e2,hK⟩:=len_two h4
  obtain⟨e3,hK3⟩:=List.length_eq_one_iff.1 h1
  by_cases c7:(joinLL [o.Pre] c1).length≤12
  ·have:=Nat.mul_le_mul c7 l2
   omega
  ·by_cases c8:c2.length≤78
   ·have:(joinLL [o.Pre] c1).length*c2.length≤13*78:=Nat.mul_le_mul (by omega) c8
    omega
   ·have W1:WhenT vars e1.When:=memW (by rw[hK];simp)
    have W2:WhenT vars e2.When:=memW (by rw[hK];simp)
    have W3:WhenT vars e3.When:=memW (by rw[hK3];simp)
    obtain⟨u1,u2,u3,u4,u5⟩:=full_two S2 hK h5 W1 W2 b2 b3 (by omega)
    obtain⟨v1,v2⟩:=full_one S1 hK3 h2 W3 a2 a3 (by omega)
    obtain⟨g,hg,h,hh,e⟩:=common (fun k hk=>(T.dom k hk).1) T.prod W1 W2 W3 u1 u2 v1 (fun g hg=>(u3 g hg).1) (fun g hg=>(u4 g hg).1) (fun g hg=>(v2 g hg).1) u5
    have H1:=(v2 g hg).2
    have H4:=(v2 g hg).1
    have hr:=(W3.fact g hg).2.2
    have H2:Has c2 h.1 h.2:=by
     rcases List.mem_append.1 hh with hh|hh
     ·exact(u3 h hh).2
     ·exact(u4 h hh).2
    rw[← e]at H2
    have hb:=has_bad T.pre hp1 (by omega) H1 H2 (by omega)
    have:(joinLL [o.Pre] c1).length*c2.length≤13*79:=Nat.mul_le_mul (by omega) (by omega)
    omega
end
end Go.Proofs.YtinnphmnhmdcgaaGreat.Am
namespace Go.Proofs.YtinnphmnhmdcgaaGreat.Am
section
variable {κ ν : Type} [DecidableEq κ]
def getM : List (κ×ν)→κ→Option ν
 | [],_=>none
 | (b,u) :: r,a=>if b=a then some u else getM r a
def setM : List (κ×ν)→κ→ν→List (κ×ν)
 | [],a,v=>[(a,v)]
 | (b,u) :: r,a,v=>if b=a then(a,v) :: r else(b,u) :: setM r a v
theorem getM_none {a:κ}:∀ {M:List (κ×ν)},(∀ p∈M,p.1≠a)→getM M a=none
 | [],_=>rfl
 | (b,u) :: r,h=>by rw[getM,if_neg (h _ (mS_ ..))];exact getM_none fun p hp=>h p (mC_ _ hp)
theorem getM_at {a:κ}:∀ {M:List (κ×ν)}{j:Nat}{v:ν},M[j]?=some (a,v)→(∀ i,i<j→∀ p,M[i]?=some p→p.1≠a)→getM M a=some v
 | [],j,v,h,_=>by simp at h
 | (b,u) :: r,0,v,h,_=>by simp at h;obtain⟨rfl,rfl⟩:=h;rw[getM,if_pos rfl]
 | (b,u) :: r,j+1,v,h,hne=>by
  rw[getM,if_neg (hne 0 (Nat.zero_lt_succ _) (b,u) rfl)]
  exact getM_at (by simpa using h) fun i hi p hp=>hne (i+1) (Nat.succ_lt_succ hi) p (by simpa using hp)
theorem setM_none {a:κ}{v:ν}:∀ {M:List (κ×ν)},(∀ p∈M,p.1≠a)→setM M a v=M++[(a,v)]
 | [],_=>rfl
 | (b,u) :: r,h=>by rw[setM,if_neg (h _ (mS_ ..)),setM_none fun p hp=>h p (mC_ _ hp)];rfl
theorem setM_at {a:κ}{v:ν}:∀ {M:List (κ×ν)}{j:Nat}{u:ν},M[j]?=some (a,u)→(∀ i,i<j→∀ p,M[i]?=some p→p.1≠a)→setM M a v=M.set j (a,v)
 | [],j,v,h,_=>by simp at h
 | (b,u) :: r,0,_,h,_=>by simp at h;obtain⟨rfl,rfl⟩:=h;rw[setM,if_pos rfl];rfl
 | (b,u) :: r,j+1,_,h,hne=>by
  rw[setM,if_neg (hne 0 (Nat.zero_lt_succ _) (b,u) rfl),setM_at (by simpa using h) fun i hi p hp=>hne (i+1) (Nat.succ_lt_succ hi) p (by simpa using hp)]
  rfl
end
end Go.Proofs.YtinnphmnhmdcgaaGreat.Am
namespace Go.Proofs.YtinnphmnhmdcgaaGreat.Am
open Go.RowKit Go.MapKept
def KvA (x:AV)(v:Value):Prop:=∀ w vs m u,RV w vs m x u→u=v
structure KeyA (P:Program)(k:TypeId)(K:Value→Prop):Prop where
 check:∀ (w:World) (em:Bool) (v:Value),K v→(Instr.checkKey em 10000 k v).run P w=.ok () w
 find:∀ (w:World) (x:Value),K x→∀ es:List MapEntry,(∀ e∈es,K e.key) →
  ((Instr.findKey k x es).run P w=.ok none w∧∀ e∈es,e.key≠x)∨∃ j e,(Instr.findKey k x es).run P w=.ok (some (j,e.val)) w∧es[j]?=some e∧e.key=x
 stays:∀ (w:World) (v:Value),K v→(Instr.keyThatStays v v).run P w=.ok v w
def mE {κ ν:Type}(ek:κ→Value)(ev:ν→AV)(M:List (κ×ν)):List (List AV):=M.map fun p=>[.c (ek p.1),ev p.2]
def mB {κ ν:Type}(ek:κ→Value)(ev:ν→AV)(M:List (κ×ν)):Blk:=⟨1000000,2,true,mE ek ev M⟩
theorem flatE_at : ∀ (es:List MapEntry)(k:Nat)(e:MapEntry),es[k]?=some e→(flatE es)[k*2]?=some e.key∧(flatE es)[k*2+1]?=some e.val
 | [],k,e,h=>by simp at h
 | x :: r,0,e,h=>by simp at h;subst h;exact⟨rfl,rfl⟩
 | x :: r,k+1,e,h=>by
  have:=flatE_at r k e (by simpa using h)
  rw[show(k+1)*2=k*2+1+1 from by omega]
  exact this
theorem flatE_len (es:List MapEntry):(flatE es).length=es.length*2:=by
 induction es with
 | nil=>rfl
 | cons x r ih=>show(x.key :: x.val :: flatE r).length=_;simp[ih];omega
section
variable {C : Cx} {n : Nat} {w0 : World} {X : XX} {τ : Nat → AV} {η : Nat → Ent} {m : MM} {a : Act} {w : World} {κ ν : Type} {ek : κ → Value} {ev : ν → AV} {M : List (κ × ν)}
theorem Rep.mapAt (h:Rep C n w0 X τ η m a w){i ver:Nat}(hi:η i=⟨ver,some (mB ek ev M)⟩){v:Value}(hv:RV w (shp η) m (.mp i ver) v) :
  ∃ b es clock,v=.map (some b)∧m i=some b∧w.heap[b]?=some (.map es clock)∧es.toList.Pairwise (fun x y=>x.key≠y.key)∧es.size=M.length ∧
   ∀ (j:Nat) (p:κ×ν),M[j]?=some p→∃ e,es[j]?=some e∧e.key=ek p.1∧RV w (shp η) m (ev p.2) e.val:=by
 obtain⟨b,e1,rfl⟩:=rv_mp hv hi
 have hok:=h.mem.ok i _ (by rw[hi])
 rw[e1]at hok
 obtain⟨arr,a1,a2,a3⟩:=hok
 obtain⟨es,c,h1,h2,h3,_,h5⟩:=a1.2 rfl
 have hl:es.size=M.length:=by rw[← h3];simp[mB,mE]
 refine⟨b,es,c,rfl,e1,h1,h5,hl,fun j p hp=>?_⟩
 have hlt:j<es.size:=by rw[hl];exact(gS_.1 hp).1
 have hej:=aE_ hlt
 refine⟨es[j],hej,?_⟩
 obtain⟨f1,f2⟩:=flatE_at es.toList j es[j] (by simp)
 have hel:(mB ek ev M).els[j]?=some [.c (ek p.1),ev p.2]:=by simp[mB,mE,hp]
 obtain⟨_,q⟩:=a3 j _ hel
 obtain⟨u,u1,_,u3⟩:=q 0 (.c (ek p.1)) rfl
 obtain⟨u',u1',_,u3'⟩:=q 1 (ev p.2) rfl
 subst h2
 have hk:(mB ek ev M).sz=2:=rfl
 rw[hk]at u1 u1'
 simp only[Nat.add_zero,List.getElem?_toArray]at u1 u1'
 rw[f1]at u1
 rw[f2]at u1'
 injection u1 with u1
 injection u1' with u1'
 rw[u1,u1']
 exact⟨rv_c u3,u3'⟩
theorem map_find [DecidableEq κ]{K:Value→Prop}{k:TypeId}(hK:KeyA C.P k K)(hinj:∀ x y:κ,ek x=ek y→x=y)(hKe:∀ x:κ,K (ek x)){es:Array MapEntry}(hpw:es.toList.Pairwise (fun x y=>x.key≠y.key))(hl:es.size=M.length)
  (hrd:∀ (j:Nat) (p:κ×ν),M[j]?=some p→∃ e,es[j]?=some e∧e.key=ek p.1∧RV w (shp η) m (ev p.2) e.val) (x:κ) :
  ((Instr.findKey k (ek x) es.toList).run C.P w=.ok none w∧getM M x=none∧(∀ p∈M,p.1≠x)∧∀ e∈es.toList,e.key≠ek x) ∨
   ∃ j e u,(Instr.findKey k (ek x) es.toList).run C.P w=.ok (some (j,e.val)) w∧es[j]?=some e∧e.key=ek x∧M[j]?=some (x,u)∧RV w (shp η) m (ev u) e.val∧getM M x=some u∧∀ i,i<j→∀ p,M[i]?=some p→p.1≠x:=by
 have hkeys:∀ (j:Nat) (e:MapEntry),es[j]?=some e→∃ p,M[j]?=some p∧e.key=ek p.1∧RV w (shp η) m (ev p.2) e.val:=fun j e he=>by
  have hlt:j<M.length:=by rw[← hl];exact(Array.getElem?_eq_some_iff.1 he).1
  obtain⟨e',g1,g2,g3⟩:=hrd j _ (gE_ hlt)
  rw[he]at g1
  injection g1 with g1
  subst g1
  exact⟨_,gE_ hlt,g2,g3⟩
 have hall:∀ e∈es.toList,K e.key:=fun e he=>by
  obtain⟨j,hj⟩:=List.getElem?_of_mem he
  obtain⟨p,_,q,_⟩:=hkeys j e (by simpa using hj)
  rw[q]
  exact hKe _
 rcases hK.find w (ek x) (hKe x) es.toList hall with⟨h1,h2⟩|⟨j,e,h1,h2,h3⟩
 ·have hne:∀ p∈M,p.1≠x:=fun p hp e=>by
   obtain⟨j,hj⟩:=List.getElem?_of_mem hp
   obtain⟨e',g1,g2,_⟩:=hrd j p hj
   exact h2 e' (mG_ (by simpa using g1)) (by rw[g2,e])
  exact .inl ⟨h1,getM_none hne,hne,h2⟩
 ·have h2':es[j]?=some e:=by simpa using h2
  obtain⟨⟨x',u⟩,g1,g2,g3⟩:=hkeys j e h2'
  have:=hinj x' x (by rw[← g2,h3])
  subst this
  have hfirst:∀ i,i<j→∀ p,M[i]?=some p→p.1≠x':=fun i hij p hp e0=>by
   obtain⟨e',q1,q2,_⟩:=hrd i p hp
   have hi':es.toList[i]?=some e':=by simpa using q1
   have:=List.pairwise_iff_getElem.1 hpw i j (gS_.1 hi').1 (gS_.1 h2).1 hij
   rw[(gS_.1 hi').2,(gS_.1 h2).2,q2,h3,e0]at this
   exact this rfl
  exact .inr ⟨j,e,u,h1,h2',h3,g1,g3,getM_at g1 hfirst,hfirst⟩
end
section
variable {C : Cx} {n : Nat} {o : Oper} {τ : Nat → AV} {η : Nat → Ent} {κ ν : Type} [DecidableEq κ] {ek : κ → Value} {ev : ν → AV} {M : List (κ × ν)} {t k e : TypeId} {K : Value → Prop}
theorem lf_mapget {x y:Operand}{i ver:Nat}{q:κ}{te:TI}(z:ν)(hK:KeyA C.P k K)(hinj:∀ x y:κ,ek x=ek y→x=y)(hKe:∀ x:κ,K (ek x))
  (ho:o.op=.lookup t x y false) (hd:InB n o.dst) (hx:evA τ x=.mp i ver) (hi:η i=⟨ver,some (mB ek ev M)⟩) (hy:KvA (evA τ y) (ek q)) (ht:C.P.underlying t=some (.map k e)) (hte:TyOk C.P e te) (hz:∀ w vs m,RV w vs m (ev z) te.zero) :
  LF C n o τ η ⟨ev ((getM M q).getD z),[],[i]⟩:=by
 refine lf_pure hd (fun τ' η' g1 g2=>?_)
 intro w0 X mm a w h
 have hi':η' i=⟨ver,some (mB ek ev M)⟩:=(g2 i (mI_.2 rfl)).trans hi
 have e1:=h.ev x
 have e2:=h.ev y
 rw[g1 x (by simp[ho,Op.operands]),hx]at e1
 rw[g1 y (by simp[ho,Op.operands])]at e2
 obtain⟨b,es,clock,hu,hb,hh,hpw,hl,hrd⟩:=h.mapAt hi' e1
 have hy':=hy _ _ _ _ e2
 have hchk:=hK.check w es.isEmpty (ek q) (hKe q)
 rcases map_find (C:=C) hK hinj hKe hpw hl hrd q with⟨h1,h2,_,_⟩|⟨j,e',u,h1,_,_,_,h5,h6,_⟩
 ·refine⟨te.zero,?_,by rw[h2];exact hz _ _ _⟩
  simp[execOp,ho,hu,hy',Instr.lookup,run_underlying ht,MapKept.run_getObj_map hh,hchk,h1,hte.zeroV,Result.andThen]
 ·refine⟨e'.val,?_,by rw[h6];exact h5⟩
  simp[execOp,ho,hu,hy',Instr.lookup,run_underlying ht,MapKept.run_getObj_map hh,hchk,h1,Result.andThen]
end
section
variable {C : Cx} {n : Nat} {w0 : World} {X : XX} {τ : Nat → AV} {η : Nat → Ent} {m : MM} {a : Act} {w : World}
theorem Rep.wr (h:Rep C n w0 X τ η m a w){i ver b:Nat}{B:Blk}{els':List (List AV)}{w':World}(hi:η i=⟨ver,some B⟩)(hb:m i=some b)(hg:w.grownBy w' (some b))(hsh:∀ b',w'.shape? b'=w.shape? b')
  (hnew:Mono w (shp η) m w' (shp η) m→BlkOk w' (shp η) m { B with els:=els' } (some b)):Rep C n w0 X τ (updE η i ⟨ver,some { B with els:=els' }⟩) m a w':=by
 have hl:(η i).blk≠none:=by rw[hi];simp
 have hs:shp (updE η i ⟨ver,some { B with els:=els' }⟩)=shp η:=shp_upd hi rfl
 have hm0:Mono w (shp η) m w' (shp η) m:=by
  refine⟨hg.size,fun b' hb' ho=>hg.block b' hb' (fun e=>?_),fun _ _ h=>h,fun _=>Nat.le_refl _,fun _ _=>⟨rfl,fun _=>⟨rfl,fun b' _=>hsh b'⟩⟩⟩
  injection e with e
  subst e
  exact ho (.inr ⟨i,blk_live.2 hl,hb⟩)
 have hm:Mono w (shp η) m w' (shp (updE η i ⟨ver,some { B with els:=els' }⟩)) m:=by rw[hs];exact hm0
 refine h.move hm (h.mem.upd hm (fun _ _=>rfl) (fun i' b' hi' hl' hb'=>hg.block b' (h.mem.lt hl' hb') (fun e=>?_)) (fun B' hB'=>?_) (fun i' b' hi' hl' hb' _ e=>?_) (fun b' _ hb'=>h.mem.low i b' hl hb') rfl (fun b' _ hb'=>h.mem.sep i b' hl hb')) (h.kin.grown hg (fun b' e=>?_)) rfl (fun i' b' hl' hb'=>?_) (fun k _=>by by_cases e:k=i <;> simp[updE,e,hi])
 ·injection e with e
  subst e
  exact hi' (h.mem.inj i' i b' hl' hl hb' hb)
 ·injection hB' with hB'
  subst hB'
  rw[hb,hs]
  exact hnew hm0
 ·exact hi' (h.mem.inj i' i b' hl' hl hb' e)
 ·injection e with e
  subst e
  exact h.own i b hl hb
 ·by_cases e:i'=i
  ·subst e;exact h.own i' b' hl hb'
  ·exact h.own i' b' (by simpa [updE,e] using hl') hb'
theorem Rep.freshM (h:Rep C n w0 X τ η m a w){i ver:Nat}(hin:i<n)(hv:(η i).ver<ver) :
  Rep C n w0 X τ (updE η i ⟨ver,some ⟨1000000,2,true,[]⟩⟩) (newM m i (some w.heap.size)) a (w.alloc (.map #[] 0)):=by
 have hg:=World.grownBy_alloc w (.map #[] 0) none
 have hm:Mono w (shp η) m (w.alloc (.map #[] 0)) (shp (updE η i ⟨ver,some ⟨1000000,2,true,[]⟩⟩)) (newM m i (some w.heap.size)):=mono_fresh h.mem hg hv (fun b e=>by injection e with e;omega)
 refine h.move hm (h.mem.upd hm (fun i' hi=>newM_other _ _ hi) (fun i' b _ hl hb=>hg.block b (h.mem.lt hl hb) (by simp)) (fun B' hB'=>?_) (fun i' b _ hl hb _=>?_) (fun b _ hb=>?_) rfl (fun b _ hb ho=>?_)) (h.kin.grown hg (fun b e=>by cases e)) rfl (fun i' b hl hb=>?_) (fun k hk=>by simp[updE,show k≠i from by omega])
 ·injection hB' with hB'
  subst hB'
  rw[newM_same]
  exact⟨#[],⟨fun e=>(by cases e),fun _=>⟨#[],0,heap_alloc_new w _,rfl,rfl,rfl,List.Pairwise.nil⟩⟩,by simp,fun k e he=>by simp at he⟩
 ·rw[newM_same]
  intro e
  injection e with e
  have:=h.mem.lt hl hb
  omega
 ·rw[newM_same]at hb
  injection hb with hb
  have:=h.mem.big
  omega
 ·rw[newM_same]at hb
  injection hb with hb
  have:=(h.mem.olt b ho).1
  omega
 ·by_cases hi:i'=i
  ·subst hi
   rw[newM_same]at hb
   injection hb with hb
   have:=h.kin.size
   exact .inr (by omega)
  ·rw[newM_other _ _ hi]at hb
   exact h.own i' b (by simpa [updE,hi] using hl) hb
end
section
variable {C : Cx} {n : Nat} {o : Oper} {τ : Nat → AV} {η : Nat → Ent} {κ ν : Type} {ek : κ → Value} {ev : ν → AV} {M : List (κ × ν)} {t k e : TypeId} {K : Value → Prop}
theorem lf_mapnew {d ver:Nat}(ek:κ→Value)(ev:ν→AV)(ho:o.op=.makeMap t none)(hd:o.dst=some d)(hn:d<n)(hv:(η d).ver=ver):LF C n o τ η ⟨.mp d (ver+1),[(d,⟨ver+1,some (mB ek ev [])⟩)],[]⟩:=by
 intro τ' η' g1 g2
 have hv':(η' d).ver=ver:=by rw[g2 d (.inr (by simp[Foot.ids]))];exact hv
 intro w0 X m a w h
 have hr:=h.freshM (i:=d) (ver:=ver+1) hn (by omega)
 have hrun:(execOp a.eval o).run C.P w=.ok (.value (.map (some w.heap.size))) (w.alloc (.map #[] 0)):=by
  simp[execOp,ho,Instr.makeMap,newObj,Sem.run]
 unfold Oper.wp
 rw[hrun]
 refine⟨_,hr.put (by rw[hd];exact hn) ?_⟩
 exact .mp (sz:=2) (by simp[shp,updE]) (newM_same _ _ _)
theorem lf_mapset [DecidableEq κ]{x y z:Operand}{i ver:Nat}{q:κ}{v:ν}(hK:KeyA C.P k K)(hinj:∀ x y:κ,ek x=ek y→x=y)(hKe:∀ x:κ,K (ek x))
  (ho:o.op=.mapUpdate t x y z) (hd:o.dst=none) (hx:evA τ x=.mp i ver) (hi:η i=⟨ver,some (mB ek ev M)⟩) (hy:KvA (evA τ y) (ek q)) (hz:evA τ z=ev v) (ht:C.P.underlying t=some (.map k e)) :
  LF C n o τ η ⟨.dead,[(i,⟨ver,some (mB ek ev (setM M q v))⟩)],[]⟩:=by
 intro τ' η' g1 g2
 intro w0 X mm a w h
 have hi':η' i=⟨ver,some (mB ek ev M)⟩:=(g2 i (.inr (by simp[Foot.ids]))).trans hi
 have e1:=h.ev x
 have e2:=h.ev y
 have e3:=h.ev z
 rw[g1 x (by simp[ho,Op.operands]),hx]at e1
 rw[g1 y (by simp[ho,Op.operands])]at e2
 rw[g1 z (by simp[ho,Op.operands]),hz]at e3
 obtain⟨b,es,clock,hu,hb,hh,hpw,hl,hrd⟩:=h.mapAt hi' e1
 have hy':=hy _ _ _ _ e2
 have hchk:=hK.check w false (ek q) (hKe q)
 have fin:∀ (es':Array MapEntry) (c':Nat),(execOp a.eval o).run C.P w=.ok .skip { w with heap:=w.heap.setIfInBounds b (.map es' c') }→es'.toList.Pairwise (fun x y=>x.key≠y.key)→es'.size=(setM M q v).length →
   (∀ (j:Nat) (p:κ×ν),(setM M q v)[j]?=some p→∃ e,es'[j]?=some e∧e.key=ek p.1∧RV w (shp η') mm (ev p.2) e.val) →
   o.wp C.P a w (fun a' w'=>∃ m',Rep C n w0 X (putA τ' o.dst .dead) (updAll η' [(i,⟨ver,some (mB ek ev (setM M q v))⟩)]) m' a' w') (fun _ _ _=>False):=by
  intro es' c' hrun hpw' hl' hrd'
  obtain⟨s1,s2⟩:=heap_set (o':=.map es' c') hh
  have hg:w.grownBy { w with heap:=w.heap.setIfInBounds b (.map es' c') } (some b):=⟨rfl,rfl,rfl,by simp,fun i _ hi=>s2 i (fun e=>hi (by rw[e]))⟩
  have hr:=h.wr (els':=mE ek ev (setM M q v)) hi' hb hg (fun b'=>by
   unfold World.shape?
   by_cases eb:b'=b
   ·subst eb;simp only[s1,hh]
   ·simp only[s2 b' eb]) (fun hm=>by
   refine⟨(flatE es'.toList).toArray,⟨fun e=>(by cases e),fun _=>⟨es',c',s1,rfl,by simp[mE,hl'],rfl,hpw'⟩⟩,by simp[mE,mB,flatE_len,hl'],fun j e he=>?_⟩
   have he':((setM M q v).map fun p=>[AV.c (ek p.1),ev p.2])[j]?=some e:=he
   rw[List.getElem?_map]at he'
   obtain⟨p,hp,hpe⟩:=Option.map_eq_some_iff.1 he'
   subst hpe
   obtain⟨e',q1,q2,q3⟩:=hrd' j p hp
   obtain⟨f1,f2⟩:=flatE_at es'.toList j e' (by simpa using q1)
   refine⟨rfl,fun c y hc=>?_⟩
   match c with
   | 0=>simp at hc;subst hc;exact⟨e'.key,by simpa [mB] using f1,fun e=>(by cases e),by rw[q2];exact .c _⟩
   | 1=>simp at hc;subst hc;exact⟨e'.val,by simpa [mB] using f2,fun e=>(by cases e),q3.mono hm⟩
   | c+2=>simp at hc)
  unfold Oper.wp
  rw[hrun]
  refine⟨mm,?_⟩
  rw[hd]
  exact hr
 rcases map_find (C:=C) hK hinj hKe hpw hl hrd q with⟨h1,_,hne,hne2⟩|⟨j,e',u,h1,h2,h3,h4,h5,_,h7⟩
 ·refine fin (es.push ⟨ek q,a.eval z,clock⟩) (clock+1) ?_ ?_ ?_ ?_
  ·simp[execOp,ho,hu,hy',Instr.mapUpdate,run_underlying ht,MapKept.run_getObj_map hh,hchk,h1,MapKept.run_setObj_map _ hh,Result.andThen]
  ·rw[Array.toList_push]
   exact List.pairwise_append.2 ⟨hpw,List.pairwise_singleton _ _,fun x hx y hy=>by rw[mI_.1 hy];exact hne2 x hx⟩
  ·rw[setM_none hne];simp[hl]
  ·intro j p hp
   rw[setM_none hne]at hp
   rcases Nat.lt_or_ge j M.length with hj|hj
   ·rw[List.getElem?_append_left hj]at hp
    obtain⟨e',q1,q2,q3⟩:=hrd j p hp
    have hjs:j<es.size:=by rw[hl];exact hj
    exact⟨e',by rw[Array.getElem?_push,if_neg (by omega)];exact q1,q2,q3⟩
   ·rw[List.getElem?_append_right hj]at hp
    have hj0:j-M.length=0:=by
     have:=(gS_.1 hp).1
     simp at this
     omega
    rw[hj0]at hp
    simp at hp
    subst hp
    exact⟨⟨ek q,a.eval z,clock⟩,by rw[Array.getElem?_push,if_pos (by omega)],rfl,e3⟩
 ·have hjl:j<es.size:=(Array.getElem?_eq_some_iff.1 h2).1
  refine fin (es.modify j (fun x=>{ x with key:=ek q,val:=a.eval z })) clock ?_ ?_ ?_ ?_
  ·have hst:=hK.stays w (ek q) (hKe q)
   simp[execOp,ho,hu,hy',Instr.mapUpdate,run_underlying ht,MapKept.run_getObj_map hh,hchk,h1,h2,h3,hst,MapKept.run_setObj_map _ hh,Result.andThen]
  ·have:((es.modify j (fun x=>{ x with key:=ek q,val:=a.eval z })).toList.map (·.key))=es.toList.map (·.key):=by
    apply List.ext_getElem?
    intro i
    simp only[List.getElem?_map,Array.getElem?_toList,Array.getElem?_modify]
    by_cases hij:j=i
    ·subst hij
     rw[if_pos rfl,h2]
     simp[h3]
    ·rw[if_neg hij]
   have h8:(es.toList.map (·.key)).Pairwise (·≠·):=List.pairwise_map.2 hpw
   rw[← this]at h8
   exact List.pairwise_map.1 h8
  ·rw[setM_at h4 h7];simp[hl]
  ·intro i p hp
   rw[setM_at h4 h7]at hp
   by_cases hij:j=i
   ·subst hij
    rw[List.getElem?_set_self (by omega)]at hp
    simp at hp
    subst hp
    exact⟨{ e' with key:=ek q,val:=a.eval z },by rw[Array.getElem?_modify,if_pos rfl,h2];rfl,rfl,e3⟩
   ·rw[List.getElem?_set_ne hij]at hp
    obtain⟨e'',q1,q2,q3⟩:=hrd i p hp
    exact⟨e'',by rw[Array.getElem?_modify,if_neg hij];exact q1,q2,q3⟩
end
def vI (x:Int):AV:=.c (.int .i64 x)
def vB (x:Bool):AV:=.c (.bool x)
def vS (x:ByteArray):AV:=.c (.string x)
class FrM {ν:Type}(ev:ν→AV):Prop where
 h:∀ x,Fr (ev x)
instance : FrM vI:=⟨fun _=>.c _⟩
instance : FrM vB:=⟨fun _=>.c _⟩
instance : FrM vS:=⟨fun _=>.c _⟩
theorem FrL_mE {κ ν:Type}{ek:κ→Value}{ev:ν→AV}(hv:∀ x,Fr (ev x))(M:List (κ×ν)):FrL (mE ek ev M):=by
 intro e he x hx
 obtain⟨p,_,rfl⟩:=List.mem_map.1 he
 rcases List.mem_cons.1 hx with rfl|hx
 ·exact .c _
 ·rw[mI_.1 hx];exact hv _
instance {κ ν:Type}{ek:κ→Value}{ev:ν→AV}[a:FrM ev]{M:List (κ×ν)}:FrI (mE ek ev M):=⟨FrL_mE a.h M⟩
instance {κ ν:Type}{ek:κ→Value}{ev:ν→AV}[a:FrM ev]{M:List (κ×ν)}:FrI (mB ek ev M).els:=⟨FrL_mE a.h M⟩
end Go.Proofs.YtinnphmnhmdcgaaGreat.Am
namespace Go.Proofs.YtinnphmnhmdcgaaGreat.Am
open Go.RowKit Go.MapKept Go.WideShapes
def K3 (v:Value):Prop:=∃ a b c:Int,v=.agg #[.int .i64 a,.int .i64 b,.int .i64 c]
section
variable {P : Program} {k e : TypeId} {te : TI}
theorem run_part3 (hte:TyOk P e te)(hk:te.kind=.int .i64)(w:World)(xs:Array Value)(i:Nat)(x:Value)(hx:xs[i]?=some x):(part e xs i).run P w=.ok x w:=by
 have ha:=hte.isAgg (w:=w)
 rw[hk]at ha
 simp[part,ha,TK.agg,hx]
theorem run_check3 (hu:P.underlying k=some (.array 3 e))(he:P.underlying e=some (.int .i64))(hte:TyOk P e te)(hk:te.kind=.int .i64)(hsz:te.sz=1)(em:Bool)(n:Nat)(w:World)(a b c:Int):(Instr.checkKey em (n+1+1) k (.agg #[.int .i64 a,.int .i64 b,.int .i64 c])).run P w=.ok () w:=by
 have p0:(part e #[.int .i64 a,.int .i64 b,.int .i64 c] 0).run P w=.ok (.int .i64 a) w:=run_part3 hte hk w _ _ _ rfl
 have p1:(part e #[.int .i64 a,.int .i64 b,.int .i64 c] 1).run P w=.ok (.int .i64 b) w:=run_part3 hte hk w _ _ _ rfl
 have p2:(part e #[.int .i64 a,.int .i64 b,.int .i64 c] 2).run P w=.ok (.int .i64 c) w:=run_part3 hte hk w _ _ _ rfl
 have hs:=hte.size (w:=w)
 rw[hsz]at hs
 have hin:∀ x:Int,(Instr.checkKey em (n+1) e (.int .i64 x)).run P w=.ok () w:=fun x=>by
  rw[Instr.checkKey]
  simp[run_underlying he]
 rw[Instr.checkKey]
 simp[run_underlying hu,p0,p1,p2,hs,hin,Std.Legacy.Range.forIn_eq_forIn_range',Std.Legacy.Range.size,List.range',List.forIn_cons]
theorem run_eq3 (hu:P.underlying k=some (.array 3 e))(he:P.underlying e=some (.int .i64))(hte:TyOk P e te)(hk:te.kind=.int .i64)(hsz:te.sz=1)(n:Nat)(w:World)(a b c a' b' c':Int):(Op.equalIn (n+1+1) k (.agg #[.int .i64 a,.int .i64 b,.int .i64 c]) (.agg #[.int .i64 a',.int .i64 b',.int .i64 c'])).run P w=.ok (a == a'&&(b == b'&&c == c')) w:=by
 have p0:(part e #[.int .i64 a,.int .i64 b,.int .i64 c] 0).run P w=.ok (.int .i64 a) w:=run_part3 hte hk w _ _ _ rfl
 have p1:(part e #[.int .i64 a,.int .i64 b,.int .i64 c] 1).run P w=.ok (.int .i64 b) w:=run_part3 hte hk w _ _ _ rfl
 have p2:(part e #[.int .i64 a,.int .i64 b,.int .i64 c] 2).run P w=.ok (.int .i64 c) w:=run_part3 hte hk w _ _ _ rfl
 have q0:(part e #[.int .i64 a',.int .i64 b',.int .i64 c'] 0).run P w=.ok (.int .i64 a') w:=run_part3 hte hk w _ _ _ rfl
 have q1:(part e #[.int .i64 a',.int .i64 b',.int .i64 c'] 1).run P w=.ok (.int .i64 b') w:=run_part3 hte hk w _ _ _ rfl
 have q2:(part e #[.int .i64 a',.int .i64 b',.int .i64 c'] 2).run P w=.ok (.int .i64 c') w:=run_part3 hte hk w _ _ _ rfl
 have hs:=hte.size (w:=w)
 rw[hsz]at hs
 have hin:∀ x y:Int,(Op.equalIn (n+1) e (.int .i64 x) (.int .i64 y)).run P w=.ok (x == y) w:=fun x y=>by
  rw[Op.equalIn]
  simp[run_underlying he]
 rw[Op.equalIn]
 have i0:=hin a a'
 have i1:=hin b b'
 have i2:=hin c c'
 cases h0:(a == a') <;> cases h1:(b == b') <;> cases h2:(c == c') <;> rw[h0]at i0 <;> rw[h1]at i1 <;> rw[h2]at i2 <;>
  simp[run_underlying hu,p0,p1,p2,q0,q1,q2,hs,i0,i1,i2,Std.Legacy.Range.forIn_eq_forIn_range',Std.Legacy.Range.size,List.range',List.forIn_cons]
theorem keyA_int3 (hu:P.underlying k=some (.array 3 e))(he:P.underlying e=some (.int .i64))(hte:TyOk P e te)(hk:te.kind=.int .i64)(hsz:te.sz=1):KeyA P k K3 where
 check w em v h:=by
  obtain⟨a,b,c,rfl⟩:=h
  exact run_check3 hu he hte hk hsz em 9998 w a b c
 find w x h es hes:=by
  have hwide:(match P.underlying k with|some (.array _ _)|some (.struct _)=>true|_=>false)=true:=by rw[hu]
  rw[run_findKey_eq w hwide]
  have go:∀ (es:List MapEntry) (i:Nat),(∀ e∈es,K3 e.key)→((Instr.findAsking k x es i).run P w=.ok none w∧∀ e∈es,e.key≠x)∨∃ j e,(Instr.findAsking k x es i).run P w=.ok (some (i+j,e.val)) w∧es[j]?=some e∧e.key=x:=by
   intro es
   induction es with
   | nil=>intro i _;exact .inl ⟨rfl,fun e he=>by cases he⟩
   | cons y r ih =>
    intro i hes
    obtain⟨a,b,c,rfl⟩:=h
    obtain⟨a',b',c',hy⟩:=hes y (mS_ ..)
    have heq:(Op.equal k (.agg #[.int .i64 a,.int .i64 b,.int .i64 c]) y.key).run P w=.ok (a == a'&&(b == b'&&c == c')) w:=by rw[hy];exact run_eq3 hu he hte hk hsz 9998 w a b c a' b' c'
    rw[Instr.findAsking]
    simp only[Sem.run_bind,heq,Result.andThen_ok]
    cases ht:(a == a'&&(b == b'&&c == c'))with
    | true =>
     simp only[bA_,beq_iff_eq]at ht
     obtain⟨rfl,rfl,rfl⟩:=ht
     exact .inr ⟨0,y,rfl,rfl,hy⟩
    | false =>
     rcases ih (i+1) (fun e he=>hes e (mC_ _ he))with⟨h1,h2⟩|⟨j,e0,h1,h2,h3⟩
     ·refine .inl ⟨h1,fun e he=>?_⟩
      rcases List.mem_cons.1 he with rfl|he
      ·rw[hy]
       intro e2
       injection e2 with e2
       injection e2 with e2
       simp at e2
       obtain⟨rfl,rfl,rfl⟩:=e2
       simp at ht
      ·exact h2 e he
     ·exact .inr ⟨j+1,e0,by rw[show i+(j+1)=i+1+j from by omega];exact h1,h2,h3⟩
  rcases go es 0 hes with h1|⟨j,e0,h1,h2,h3⟩
  ·exact .inl h1
  ·exact .inr ⟨j,e0,by rw[Nat.zero_add]at h1;exact h1,h2,h3⟩
 stays w v h:=by
  obtain⟨a,b,c,rfl⟩:=h
  have hs:∀ n:Nat,Instr.sameBits (n+1) (.agg #[.int .i64 a,.int .i64 b,.int .i64 c]) (.agg #[.int .i64 a,.int .i64 b,.int .i64 c])=true:=fun n=>by
   rw[Instr.sameBits]
   simp[Instr.sameBits]
  have:=hs 9999
  simp[Instr.keyThatStays,this]
end
def k3 (q:Int×Int×Int):Value:=.agg #[.int .i64 q.1,.int .i64 q.2.1,.int .i64 q.2.2]
theorem k3_inj (x y:Int×Int×Int)(h:k3 x=k3 y):x=y:=by
 obtain⟨a,b,c⟩:=x
 obtain⟨a',b',c'⟩:=y
 unfold k3 at h
 injection h with h
 simp at h
 obtain⟨rfl,rfl,rfl⟩:=h
 rfl
theorem k3_is (x:Int×Int×Int):K3 (k3 x):=⟨_,_,_,rfl⟩
theorem kv3 {a b c:Int}:KvA (.agg [.c (.int .i64 a),.c (.int .i64 b),.c (.int .i64 c)]) (k3 (a,b,c)):=by
 intro w vs m u h
 obtain⟨us,rfl,hl,hr⟩:=rv_agg h
 have hs:us.size=3:=hl.symm
 have h0:=rv_c (hr 0 _ (us[0]'(by omega)) rfl (aE_ (by omega)))
 have h1:=rv_c (hr 1 _ (us[1]'(by omega)) rfl (aE_ (by omega)))
 have h2:=rv_c (hr 2 _ (us[2]'(by omega)) rfl (aE_ (by omega)))
 have:us=#[.int .i64 a,.int .i64 b,.int .i64 c]:=by
  apply Array.ext
  ·rw[hs];rfl
  ·intro i g1 g2
   have g3:i<3:=by omega
   match i,g3 with
   | 0,_=>exact h0
   | 1,_=>exact h1
   | 2,_=>exact h2
 rw[this]
 rfl
end Go.Proofs.YtinnphmnhmdcgaaGreat.Am
namespace Go.Proofs.YtinnphmnhmdcgaaGreat.Am
open Go.RowKit
def oGCause : Option GCause→AV
 | none=>.c (.pointer none)
 | some x=>.pim [.sl 1 (x.states.map cL_cF)] 0
instance {z:Option GCause}:FrV (oGCause z):=⟨by cases z with
 | none=>exact .c _
 | some x=>exact FrV.h (x:=.pim [.sl 1 (x.states.map cL_cF)] 0)⟩
instance : FrM oGCause:=⟨fun _=>FrV.h⟩
def M_stratagem_mutex_Table_made_L1 (a0:GTable)(a1:List Fact)(g:Nat):Nat→Int→(List ((Int×Int×Int)×(Option GCause)))→Option (Bool×Er×(List ((Int×Int×Int)×(Option GCause))))|0,_,_=>none|k47+1,v45,v46=>sel (decide (v45<((a0.t.Ops.map cGOp).length:Int))) (ix a0.t.Ops v45 (fun y48=>ob1 (M_mutex_touches y48 a1) (fun z49=>sel (!z49) (M_stratagem_mutex_Table_made_L1 a0 a1 g k47 (IntKind.i64.wrap (v45+1)) v46) (ix a1 0 (fun y50=>ob1 (M_stratagem_mutex_Table_number a0 y50) (fun z51=>ix a1 (IntKind.i64.wrap (((a1.map cF).length:Int)-1)) (fun y52=>ob1 (M_stratagem_mutex_Table_number a0 y52) (fun z53=>ob1 (opM ((getM v46 (z51,z53,v45)).getD none) (ob2 (M_g_Regress g a0.t v45 a1) (fun z65 z66=>erM z66 (some (.inl (({ states:=z65:GCause }).states,(setM v46 (z51,z53,v45) (some ({ states:=z65:GCause })))))) (fun e67=>some (.inr (false,(Er.no e67),v46))))) (fun z64=>some (.inl (z64.states,v46))):Option (((List (List Fact))×(List ((Int×Int×Int)×(Option GCause))))⊕(Bool×Er×(List ((Int×Int×Int)×(Option GCause)))))) (osum (fun(v58,v59)=>ob1 (M_s_ContainsFunc_Fact v58 (M_stratagem_mutex_Table_holds a0)) (fun z68=>sel z68 (some (true,Er.nil,v59)) (M_stratagem_mutex_Table_made_L1 a0 a1 g k47 (IntKind.i64.wrap (v45+1)) v59))) (fun(r60,r61,r62)=>some (r60,r61,r62))))))))))) (some (false,Er.nil,v46))
def M_stratagem_mutex_Table_made (g:Nat)(a0:GTable)(a1:List Fact)(a2:List ((Int×Int×Int)×(Option GCause))):Option (Bool×Er×(List ((Int×Int×Int)×(Option GCause)))):=M_stratagem_mutex_Table_made_L1 a0 a1 g ((((a0.t.Ops.map cGOp).length:Int)).toNat+1) 0 a2
set_option maxHeartbeats 16000000 in
set_option maxRecDepth 100000 in
theorem A_stratagem_mutex_Table_made (g:Nat)(a0:GTable)(a1:List Fact)(a2:List ((Int×Int×Int)×(Option GCause))){r1:Bool}{r2:Er}{r3:List ((Int×Int×Int)×(Option GCause))}(h:M_stratagem_mutex_Table_made g a0 a1 a2=some (r1,r2,r3)):ACallG cx 44 [.pim [.sl 1 (a0.t.Vars.map cI),.sl 1 (a0.t.Init.map cI),.sl 2 (a0.t.Goal.map cF),.sl 4 (a0.t.Ops.map cGOp),.sl 1 (a0.first.map cI),.sl 1 (a0.reached.map cL_cB)] 0,.sl 2 (a1.map cF),.mp 78 0] [(78,mB k3 oGCause a2)] [78] (.tup [.c (.bool r1),eA r2]) [(78,mB k3 oGCause r3)]:=by
 refine acallg_of 79 Tryz.func44 rfl (by decide) rfl (bT2 rfl) rfl rfl ?_;intro _;unfold M_stratagem_mutex_Table_made at h;refine aSR ?_;intro _;refine dr (aSq (aSR ?_));intro _;refine dr (aBk ?_);refine awp_loop (α:=Nat×Int×(List ((Int×Int×Int)×(Option GCause)))) (fun x=>mkG 76 79 [(0,.pim [.sl 1 (a0.t.Vars.map cI),.sl 1 (a0.t.Init.map cI),.sl 2 (a0.t.Goal.map cF),.sl 4 (a0.t.Ops.map cGOp),.sl 1 (a0.first.map cI),.sl 1 (a0.reached.map cL_cB)] 0),(1,.sl 2 (a1.map cF)),(2,.mp 78 0),(18,.sl 4 (a0.t.Ops.map cGOp)),(19,.c (.int .i64 ((a0.t.Ops.map cGOp).length:Int))),(20,.c (.int .i64 x.2.1))] [(78,mB k3 oGCause x.2.2)]) (fun x=>M_stratagem_mutex_Table_made_L1 a0 a1 g x.1 x.2.1 x.2.2=some (r1,r2,r3)) (fun x=>x.1) ((((a0.t.Ops.map cGOp).length:Int)).toNat+1,0,a2) h ?_ ?_
 ·exact ca_0
 ·intro x1 h;intro _;obtain⟨k47,m2,h⟩:=succ_of (f:=fun n=>M_stratagem_mutex_Table_made_L1 a0 a1 g n x1.2.1 x1.2.2) rfl h;replace h:M_stratagem_mutex_Table_made_L1 a0 a1 g (k47+1) x1.2.1 x1.2.2=some (r1,r2,r3):=h;rw[M_stratagem_mutex_Table_made_L1]at h;refine aSR ?_;intro _;refine dr (aSq (aCd ?_));intro _;refine spl h (fun c3 h=>?_) (fun c3 h=>?_)
  ·refine aSk (aSq (aBk (aSR ?_)));intro _;obtain⟨y48,w4,q5,h⟩:=ix_ok h;refine Exists.intro (cGOp y48) (And.intro (map_at' w4) ?_);intro _;refine pr (dr (aSq (aSR ?_)));intro _;obtain⟨z49,u6,h⟩:=ob1_ok h;refine cl rfl (A_mutex_touches y48 a1 u6) ?_;intro _;refine dr (aCd ?_);intro _;refine spl h (fun c7 h=>?_) (fun c7 h=>?_)
   ·refine aEx (aRg ?_);intro _;refine dr ?_;refine⟨(k47,(IntKind.i64.wrap (x1.2.1+1)),x1.2.2),h,ltS m2,?_⟩;exact ca_0
   ·refine aSk (aSR ?_);intro _;obtain⟨y50,w8,q9,h⟩:=ix_ok h;refine Exists.intro (cF y50) (And.intro (map_at' w8) ?_);intro _;obtain⟨z51,u10,h⟩:=ob1_ok h;refine cl rfl (A_stratagem_mutex_Table_number a0 y50 u10) ?_;intro _;obtain⟨y52,w11,q12,h⟩:=ix_ok h;refine Exists.intro (cF y52) (And.intro (map_at' w11) ?_);intro _;obtain⟨z53,u13,h⟩:=ob1_ok h;refine cl rfl (A_stratagem_mutex_Table_number a0 y52 u13) ?_;intro _;refine pr (pr (dr (aSR ?_)));intro _;refine⟨_,lf_mapget (q:=(z51,z53,x1.2.1)) none (keyA_int3 Tryz.underlying111 Tryz.underlying3 (tyTab_ok 3 _ rfl) rfl rfl) k3_inj k3_is rfl (bT2 rfl) rfl rfl kv3 Tryz.underlying82 (tyTab_ok 112 _ rfl) (fun _ _ _=>.c _),?_⟩;intro _;refine dr ?_;obtain⟨o14,h,hK15⟩:=ob1_ok h;refine awp_cut (α:=(List (List Fact))×(List ((Int×Int×Int)×(Option GCause)))) (fun(v58,v59)=>mkG 76 79 [(0,.pim [.sl 1 (a0.t.Vars.map cI),.sl 1 (a0.t.Init.map cI),.sl 2 (a0.t.Goal.map cF),.sl 4 (a0.t.Ops.map cGOp),.sl 1 (a0.first.map cI),.sl 1 (a0.reached.map cL_cB)] 0),(1,.sl 2 (a1.map cF)),(2,.mp 78 0),(11,.pim [.sl 1 (v58.map cL_cF)] 0),(18,.sl 4 (a0.t.Ops.map cGOp)),(19,.c (.int .i64 ((a0.t.Ops.map cGOp).length:Int))),(20,.c (.int .i64 x1.2.1))] [(78,mB k3 oGCause v59)]) (fun v=>o14=(.inl v)) ?_ ?_
    ·refine aSq ?_;rcases hz16:((getM x1.2.2 (z51,z53,x1.2.1)).getD none)with _|z64
     ·rw[hz16]at h;replace h:=opM_none h;refine aRg ?_;intro _;refine⟨_,lf_nilQ rfl (bT2 rfl) rfl (by kernel_rfl) (.inl ⟨rfl,rfl⟩),?_⟩;intro _;refine dr (aCd ?_);intro _;refine litT (aSR ?_);intro _;obtain⟨z65,z66,u17,h⟩:=ob2_ok h;refine cl rfl (A_g_Regress g a0.t x1.2.1 a1 u17) ?_;intro _;refine dr (aSq (aSq ?_));rcases z66 with _|e67
      ·replace h:=erM_nil h;refine aRg ?_;intro _;refine dr (aCd ?_);intro _;refine litF (aSk (aSR ?_));intro _;refine dr ?_;refine awp_wk (mkG 76 79 [(0,.pim [.sl 1 (a0.t.Vars.map cI),.sl 1 (a0.t.Init.map cI),.sl 2 (a0.t.Goal.map cF),.sl 4 (a0.t.Ops.map cGOp),.sl 1 (a0.first.map cI),.sl 1 (a0.reached.map cL_cB)] 0),(1,.sl 2 (a1.map cF)),(2,.mp 78 0),(10,.ptr 10 0 0 0),(11,.pim [.sl 1 ((({ states:=z65:GCause }).states).map cL_cF)] 0),(18,.sl 4 (a0.t.Ops.map cGOp)),(19,.c (.int .i64 ((a0.t.Ops.map cGOp).length:Int))),(20,.c (.int .i64 x1.2.1))] [(10,⟨111,3,true,[[.c (.int .i64 z51),.c (.int .i64 z53),.c (.int .i64 x1.2.1)]]⟩),(78,mB k3 oGCause x1.2.2)]) ?_ ?_
       ·exact ca_0
       ·intro _;refine aRg ?_;intro _;refine⟨_,lf_mapset (q:=(z51,z53,x1.2.1)) (v:=(some ({ states:=z65:GCause }))) (keyA_int3 Tryz.underlying111 Tryz.underlying3 (tyTab_ok 3 _ rfl) rfl rfl) k3_inj k3_is rfl rfl rfl rfl kv3 rfl Tryz.underlying82,?_⟩;intro _;refine dr ?_;refine⟨(({ states:=z65:GCause }).states,(setM x1.2.2 (z51,z53,x1.2.1) (some ({ states:=z65:GCause })))),(sI_ h).symm,?_⟩;exact ca_0
      ·replace h:=erM_no h;refine aRg ?_;intro _;refine dr (aCd ?_);intro _;refine litT (aSR ?_);intro _;refine dr (aRt ?_);have j18:=sI_ h;subst j18;replace h:=(osum_r hK15);intro _;obtain⟨rfl,rfl,rfl⟩:=inj3 h;all_goals (refine Exists.intro [] (And.intro rfl (And.intro ?_ ?_)));all_goals (exact zg_0)
     ·rw[hz16]at h;replace h:=opM_some h;refine aRg ?_;intro _;refine⟨_,lf_nilP rfl (bT2 rfl) rfl (by kernel_rfl) (.inl ⟨rfl,rfl⟩),?_⟩;intro _;refine dr (aCd ?_);intro _;refine litF (aSk ?_);refine⟨(z64.states,x1.2.2),(sI_ h).symm,?_⟩;exact ca_0
    ·rintro⟨v58,v59⟩ ho;have ho:=ho.symm;subst ho;intro _;replace h:=(osum_l hK15);refine aSR ?_;intro _;refine⟨_,lf_func rfl (bT2 rfl) rfl rfl,?_⟩;intro _;obtain⟨z68,u19,h⟩:=ob1_ok h;refine clb [] rfl rfl (A_s_ContainsFunc_Fact v58 (M_stratagem_mutex_Table_holds a0) (.clo (.func 78) [.pim [.sl 1 (a0.t.Vars.map cI),.sl 1 (a0.t.Init.map cI),.sl 2 (a0.t.Goal.map cF),.sl 4 (a0.t.Ops.map cGOp),.sl 1 (a0.first.map cI),.sl 1 (a0.reached.map cL_cB)] 0] []) (Fr.clo FrE.h FrE.h) ⟨_,_,_,rfl⟩ (fun x0 y0 hx=>⟨78,_,_,rfl,A_stratagem_mutex_Table_holds a0 x0 hx⟩) u19) ?_;intro _;refine dr (aCd ?_);intro _;refine spl h (fun c20 h=>?_) (fun c20 h=>?_)
     ·refine aSR ?_;intro _;refine dr (aRt ?_);intro _;obtain⟨rfl,rfl,rfl⟩:=inj3 h;all_goals (refine Exists.intro [] (And.intro rfl (And.intro ?_ ?_)));all_goals (exact zg_0)
     ·refine aSk (aRg ?_);intro _;refine dr ?_;refine⟨(k47,(IntKind.i64.wrap (x1.2.1+1)),v59),h,ltS m2,?_⟩;exact ca_0
  ·refine aEx (aSR ?_);intro _;refine dr (aRt ?_);intro _;obtain⟨rfl,rfl,rfl⟩:=inj3 h;all_goals (refine Exists.intro [] (And.intro rfl (And.intro ?_ ?_)));all_goals (exact zg_0)
end Go.Proofs.YtinnphmnhmdcgaaGreat.Am
namespace Go.Proofs.YtinnphmnhmdcgaaGreat.Am
def M_stratagem_mutex_Table_made_L1_B (a0:GTable)(a1:List Fact)(g:Nat)(_y48:GOp)(v45:Int):((List ((Int×Int×Int)×(Option GCause))))→(((List ((Int×Int×Int)×(Option GCause))))→Option (Bool×Er×(List ((Int×Int×Int)×(Option GCause)))))→Option (Bool×Er×(List ((Int×Int×Int)×(Option GCause)))):=fun v46 rc=>ixv _y48 (fun y48=>ob1 (M_mutex_touches y48 a1) (fun z49=>sel (!z49) (rc (v46)) (ix a1 0 (fun y50=>ob1 (M_stratagem_mutex_Table_number a0 y50) (fun z51=>ix a1 (IntKind.i64.wrap (((a1.map cF).length:Int)-1)) (fun y52=>ob1 (M_stratagem_mutex_Table_number a0 y52) (fun z53=>ob1 (opM ((getM v46 (z51,z53,v45)).getD none) (ob2 (M_g_Regress g a0.t v45 a1) (fun z65 z66=>erM z66 (some (.inl (({ states:=z65:GCause }).states,(setM v46 (z51,z53,v45) (some ({ states:=z65:GCause })))))) (fun e67=>some (.inr (false,(Er.no e67),v46))))) (fun z64=>some (.inl (z64.states,v46))):Option (((List (List Fact))×(List ((Int×Int×Int)×(Option GCause))))⊕(Bool×Er×(List ((Int×Int×Int)×(Option GCause)))))) (osum (fun(v58,v59)=>ob1 (M_s_ContainsFunc_Fact v58 (M_stratagem_mutex_Table_holds a0)) (fun z68=>sel z68 (some (true,Er.nil,v59)) (rc (v59)))) (fun(r60,r61,r62)=>some (r60,r61,r62))))))))))
def M_stratagem_mutex_Table_made_L1_E (_:GTable)(_:List Fact)(_:Nat):((List ((Int×Int×Int)×(Option GCause))))→Option (Bool×Er×(List ((Int×Int×Int)×(Option GCause)))):=fun v46=>some (false,Er.nil,v46)
theorem M_stratagem_mutex_Table_made_L1_eq (a0:GTable)(a1:List Fact)(g:Nat)(v46:List ((Int×Int×Int)×(Option GCause)))(hl:a0.t.Ops.length<9223372036854775807):M_stratagem_mutex_Table_made_L1 a0 a1 g (((a0.t.Ops.map cGOp).length:Int).toNat+1) 0 v46=Rg (M_stratagem_mutex_Table_made_L1_B a0 a1 g) (M_stratagem_mutex_Table_made_L1_E a0 a1 g) a0.t.Ops 0 v46:=rg_e1 (L:=fun k i v46=>M_stratagem_mutex_Table_made_L1 a0 a1 g k i v46) hl (fun _ _ _=>rfl) v46
end Go.Proofs.YtinnphmnhmdcgaaGreat.Am
namespace Go.Proofs.YtinnphmnhmdcgaaGreat.Am
open Go.RowKit
theorem cfEff {l:List GEffect}{f:GEffect→Option Bool}{p:GEffect→Bool}(hl:Sh l)(h:∀ y∈l,f y=some (p y)):M_s_ContainsFunc_Effect l f=some (l.any p):=by
 have key:∀ (r:List GEffect) (n:Nat),(∀ y∈r,f y=some (p y))→∃ z,Rg (M_s_IndexFunc_Effect_L1_B l f) (M_s_IndexFunc_Effect_L1_E l f) r n ()=some z∧(0≤z↔r.any p=true):=by
  intro r
  induction r with
  | nil=>intro n _;exact⟨-1,rfl,by simp⟩
  | cons y r ih =>
   intro n hr
   rw[Rg]
   simp only[M_s_IndexFunc_Effect_L1_B,ixv,hr y (by simp),ob1_some]
   cases hp:p y
   ·obtain⟨z,h1,h2⟩:=ih (n+1) (fun w hw=>hr w (by simp[hw]))
    exact⟨z,h1,by rw[h2,List.any_cons,hp,Bool.false_or]⟩
   ·exact⟨n,rfl,by simp[hp]⟩
 obtain⟨z,h1,h2⟩:=key l 0 h
 rw[M_s_ContainsFunc_Effect,M_s_IndexFunc_Effect,M_s_IndexFunc_Effect_L1_eq _ _ hl.lt]
 rw[show((0:Nat):Int)=0 from rfl]at h1
 rw[h1,ob1_some]
 congr 1
 rw[Bool.eq_iff_iff,decide_eq_true_iff,ge_iff_le,h2]
theorem cfFact {l:List Fact}{f:Fact→Option Bool}{p:Fact→Bool}(hl:Sh l)(h:∀ y∈l,f y=some (p y)):M_s_ContainsFunc_FactL l f=some (l.any p):=by
 have key:∀ (r:List Fact) (n:Nat),(∀ y∈r,f y=some (p y))→∃ z,Rg (M_s_IndexFunc_FactL_L1_B l f) (M_s_IndexFunc_FactL_L1_E l f) r n ()=some z∧(0≤z↔r.any p=true):=by
  intro r
  induction r with
  | nil=>intro n _;exact⟨-1,rfl,by simp⟩
  | cons y r ih =>
   intro n hr
   rw[Rg]
   simp only[M_s_IndexFunc_FactL_L1_B,ixv,hr y (by simp),ob1_some]
   cases hp:p y
   ·obtain⟨z,h1,h2⟩:=ih (n+1) (fun w hw=>hr w (by simp[hw]))
    exact⟨z,h1,by rw[h2,List.any_cons,hp,Bool.false_or]⟩
   ·exact⟨n,rfl,by simp[hp]⟩
 obtain⟨z,h1,h2⟩:=key l 0 h
 rw[M_s_ContainsFunc_FactL,M_s_IndexFunc_FactL,M_s_IndexFunc_FactL_L1_eq _ _ hl.lt]
 rw[show((0:Nat):Int)=0 from rfl]at h1
 rw[h1,ob1_some]
 congr 1
 rw[Bool.eq_iff_iff,decide_eq_true_iff,ge_iff_le,h2]
def touchF (o:GOp)(p:List Fact):Bool:=o.Effs.any fun e=>p.any fun f=>f.1 == e.Var
theorem touches_eq (o:GOp)(p:List Fact)(ho:Sh o.Effs)(hp:Sh p):M_mutex_touches o p=some (touchF o p):=by
 rw[M_mutex_touches,cfEff (p:=fun e=>p.any fun f=>f.1 == e.Var) ho fun e _=>?_,ob1_some]
 ·rfl
 ·rw[M_mutex_touches_1,cfFact (f:=M_mutex_touches_1_1 e) (p:=fun f=>f.1 == e.Var) hp fun f _=>rfl,ob1_some]
def pset (a b:Fact):List Fact:=if a=b then[a]else[a,b]
theorem pset_0 {β:Type}(a b:Fact)(k:Fact→Option β):ix (pset a b) 0 k=k a:=by
 unfold pset
 split <;> exact ix_at (n:=0) rfl
theorem pset_1 {β:Type}(a b:Fact)(k:Fact→Option β):ix (pset a b) (IntKind.i64.wrap ((((pset a b).map cF).length:Int)-1)) k=k b:=by
 unfold pset
 split
 ·rename_i h
  subst h
  exact ix_at (n:=0) rfl
 ·exact ix_at (n:=1) rfl
theorem pset_mem {a b x:Fact}:x∈pset a b↔x=a∨x=b:=by
 unfold pset
 split
 ·rename_i h;simp[h]
 ·simp
structure SetP (t:GTask)(a b:Fact):Prop where
 ia:InV t.Vars a
 ib:InV t.Vars b
 le:a=b∨a.1<b.1
theorem inV_at {vars:List Int}{p:List Fact}(h:propF vars (-1) p=true):∀ f∈p,InV vars f:=fun _ hf=>inV_iff.1 (propF_one h hf)
theorem SetP.prop {t:GTask}{a b:Fact}(h:SetP t a b):propF t.Vars (-1) (pset a b)=true:=by
 obtain⟨a0,a1,a2,a3⟩:=h.ia
 obtain⟨b0,b1,b2,b3⟩:=h.ib
 rw[propF_iff,vF_iff']
 refine⟨⟨fun x hx=>?_,?_⟩,fun x hx=>?_⟩
 ·rcases pset_mem.1 hx with rfl|rfl
  ·exact⟨a0,a2⟩
  ·exact⟨b0,b2⟩
 ·unfold pset
  split
  ·exact List.pairwise_singleton ..
  ·rename_i hne
   have:=h.le.resolve_left hne
   simp[Asc,this]
 ·rcases pset_mem.1 hx with rfl|rfl
  ·exact⟨a1,a3⟩
  ·exact⟨b1,b3⟩
theorem SetP.sh {t:GTask}{a b:Fact}(_:SetP t a b):(pset a b).length≤2:=by
 unfold pset
 split <;> simp
structure Fit3 (t:GTask):Prop where
 good:goodF t=true
 small:smallF t=true
 ops:t.Ops.length≤10
 vlen:t.Vars.length≤6
 dom:∀ k∈t.Vars,2≤k∧k≤4
 prod:prodN t.Vars≤512
 tame:∀ o∈t.Ops,(∀ e∈o.Effs,e.When.length≤2)∧condN o.Effs≤3
theorem sumI_le {m:Int}:∀ {r:List Int},(∀ k∈r,k≤m)→sumI r≤m*r.length
 | [],_=>by simp[sumI]
 | k :: r,h=>by
  have:=sumI_le (r:=r) fun k hk=>h k (mC_ _ hk)
  have:=h k (by simp)
  rw[sumI,lC_,Int.natCast_succ,Int.mul_add]
  omega
theorem Fit3.sz {t:GTask}(F:Fit3 t):Sz t:=by
 have:=sumI_le (r:=t.Vars) (m:=4) fun k hk=>(F.dom k hk).2
 have:=F.vlen
 exact⟨fun k hk=>by have:=F.dom k hk;omega,by omega,by omega⟩
theorem Fit3.op {t:GTask}(F:Fit3 t){o:GOp}(ho:o∈t.Ops):TameO t.Vars o:=by
 have oo:=good_op F.good ho
 exact⟨fun n hn=>by have:=F.dom n hn;omega,F.prod,oo.when,(F.tame o ho).1,(F.tame o ho).2,oo.pre⟩
def regS (t:GTask)(o:GOp)(p:List Fact):List (List Fact):=(regO t.Vars o p).getD []
theorem reg_ok {t:GTask}(F:Fit3 t){a b:Fact}(h:SetP t a b){o:GOp}(ho:o∈t.Ops):regO t.Vars o (pset a b)=some (regS t o (pset a b))∧PropL t.Vars (regS t o (pset a b))∧(regS t o (pset a b)).length≤1024:=by
 obtain⟨j,hj⟩:∃ j,regG t.Vars o (pset a b) [o.Pre]=some j:=by
  unfold pset
  split
  ·exact reg_one' (F.op ho) a
  ·rename_i hne
   have:=h.le.resolve_left hne
   exact reg_two (F.op ho) (inV_iff.2 h.ia) (by omega)
 obtain⟨l1,_,l3⟩:=pre_prop F.good h.prop ho hj
 have e:regO t.Vars o (pset a b)=some (sortLL (minF j)):=by rw[regO,hj,Option.map_some]
 have e2:regS t o (pset a b)=sortLL (minF j):=by rw[regS,e,Option.getD_some]
 rw[e2]
 refine⟨e,fun z hz=>l1 z (List.mem_filter.1 ((sortLL_mem z _).1 hz)).1,?_⟩
 rw[sortLL_length]
 exact Nat.le_trans (List.length_filter_le _ _) l3
def madeO (t:GTask)(R:List (List Bool))(p:List Fact)(o:GOp):Bool:=touchF o p&&(regS t o p).any (okF t R)
def madeF (t:GTask)(R:List (List Bool))(p:List Fact):Bool:=t.Ops.any (madeO t R p)
abbrev Cau := List ((Int×Int×Int)×Option GCause)
def CauP (t:GTask)(M:Cau):Prop:=∀ (a b:Fact) (n:Nat) (o:GOp) (c:GCause),SetP t a b→t.Ops[n]?=some o→(getM M (numF t.Vars a,numF t.Vars b,(n:Int))).getD none=some c→c.states=regS t o (pset a b)
theorem getM_setM {κ ν:Type} [DecidableEq κ](a k:κ)(v:ν):∀ M:List (κ×ν),getM (setM M a v) k=if a=k then some v else getM M k
 | []=>by rw[setM,getM,getM,getM]
 | (b,u) :: r=>by
  rw[setM]
  by_cases e:b=a
  ·rw[if_pos e,getM,getM]
   by_cases e2:a=k
   ·rw[if_pos e2,if_pos e2]
   ·rw[if_neg e2,if_neg e2,if_neg (fun h=>e2 (e.symm.trans h))]
  ·rw[if_neg e,getM,getM_setM a k v r,getM]
   by_cases e2:b=k
   ·rw[if_pos e2,if_pos e2,if_neg (fun h=>e (e2.trans h.symm))]
   ·rw[if_neg e2,if_neg e2]
theorem cau_set {t:GTask}(hv:∀ k∈t.Vars,1≤k){M:Cau}(h:CauP t M){a b:Fact}(hs:SetP t a b){n:Nat}{o:GOp}(ho:t.Ops[n]?=some o):CauP t (setM M (numF t.Vars a,numF t.Vars b,(n:Int)) (some { states:=regS t o (pset a b) })):=fun a' b' n' o' c' hs' ho' e=>by
 rw[getM_setM]at e
 split at e
 ·rename_i hk
  have h1:numF t.Vars a=numF t.Vars a':=congrArg Prod.fst hk
  have h2:numF t.Vars b=numF t.Vars b':=congrArg (fun q=>q.2.1) hk
  have h3:(n:Int)=(n':Int):=congrArg (fun q=>q.2.2) hk
  obtain rfl:=numF_inj hv hs.ia hs'.ia h1
  obtain rfl:=numF_inj hv hs.ib hs'.ib h2
  obtain rfl:n=n':=by omega
  rw[ho]at ho'
  obtain rfl:=sI_ ho'
  rw[Option.getD_some]at e
  rw[← sI_ e]
 ·exact h a' b' n' o' c' hs' ho' e
section
variable {t : GTask} (F : Fit3 t) (ht : ShT t) {R : List (List Bool)} (hR : RkR t R) (hS : SyR t R) (g : Nat) (hg : 70 ≤ g)
include F ht hR hS hg
theorem made_loop {a b:Fact}(hs:SetP t a b):∀ (r:List GOp)(n:Nat)(M:Cau),t.Ops.drop n=r→CauP t M→∃ M',CauP t M'∧Rg (M_stratagem_mutex_Table_made_L1_B (tbl t R) (pset a b) g) (M_stratagem_mutex_Table_made_L1_E (tbl t R) (pset a b) g) r n M=some (r.any (madeO t R (pset a b)),Er.nil,M')
 | [],n,M,_,hM=>⟨M,hM,rfl⟩
 | o :: r,n,M,hd,hM=>by
  obtain⟨h1,h2,h3⟩:=drop_cons hd
  have hom:=mG_ h1
  have oo:=good_op F.good hom
  have hp2:=hs.sh
  have hT:=tb_of F.sz hR
  have ih:=fun M' hM'=>made_loop hs r (n+1) M' h2 hM'
  obtain⟨r1,r2,r3⟩:=reg_ok F hs hom
  have hoe:=oo.effs
  rw[List.any_cons]
  rw[Rg,M_stratagem_mutex_Table_made_L1_B,ixv,touches_eq o _ (by omega) (by omega),ob1_some]
  cases htc:touchF o (pset a b)with
  | false =>
   have e:madeO t R (pset a b) o=false:=by rw[madeO,htc,Bool.false_and]
   rw[Bool.not_false,sel_tt,e,Bool.false_or]
   exact ih M hM
  | true =>
   have hmade:madeO t R (pset a b) o=(regS t o (pset a b)).any (okF t R):=by rw[madeO,htc,Bool.true_and]
   have hany:M_s_ContainsFunc_Fact (regS t o (pset a b)) (M_stratagem_mutex_Table_holds (tbl t R))=some ((regS t o (pset a b)).any (okF t R)) :=
    containsFunc_eq (by omega) fun z hz=>by
     have hz1:=r2 z hz
     have:=propF_len' hz1
     have:=F.vlen
     exact mholds_eq hT hS (inV_at hz1) (by omega)
   rw[Bool.not_true,sel_ff,pset_0,number_eq hT hs.ia,ob1_some,pset_1,number_eq hT hs.ib,ob1_some]
   cases hc:(getM M (numF t.Vars a,numF t.Vars b,(n:Int))).getD none with
   | some c =>
    have hst:=hM a b n o c hs h1 hc
    rw[opM,ob1_some,osum_inl,hst]
    dsimp only
    rw[hany,ob1_some,hmade]
    cases hb:(regS t o (pset a b)).any (okF t R)with
    | true=>exact⟨M,hM,rfl⟩
    | false=>rw[sel_ff,Bool.false_or];exact ih M hM
   | none =>
    have hreg:M_g_Regress g (tbl t R).t n (pset a b)=some (regS t o (pset a b),Er.nil):=by
     rw[show(tbl t R).t=t from rfl,regress_eq t ht F.good (pset a b) hs.prop g hg n o (by omega) (by rw[Int.toNat_natCast];exact h1),r1]
     rfl
    rw[opM,hreg,ob2_some]
    have hM':=cau_set F.sz.pos hM hs h1
    show ∃ M',CauP t M'∧ob1 (some (Sum.inl _)) _=_
    rw[ob1_some,osum_inl]
    dsimp only
    rw[hany,ob1_some,hmade]
    cases hb:(regS t o (pset a b)).any (okF t R)with
    | true=>exact⟨_,hM',rfl⟩
    | false=>rw[sel_ff,Bool.false_or];exact ih _ hM'
theorem made_eq {a b:Fact}(hs:SetP t a b)(M:Cau)(hM:CauP t M):∃ M',CauP t M'∧M_stratagem_mutex_Table_made g (tbl t R) (pset a b) M=some (madeF t R (pset a b),Er.nil,M'):=by
 obtain⟨M',h1,h2⟩:=made_loop F ht hR hS g hg hs t.Ops 0 M rfl hM
 have ho:=F.ops
 refine⟨M',h1,?_⟩
 rw[M_stratagem_mutex_Table_made,M_stratagem_mutex_Table_made_L1_eq _ _ _ _ (by show t.Ops.length<_;omega)]
 exact h2
end
theorem rv_ownsRow {α:Type}{sz ty:Nat}{f:α→List AV}{vals:α→List Value}{l:List α}{w w':World}{O:Nat→Prop}{v:Value}(hO:∀ b,O b→b<w.heap.size)(hsz:0<sz)(hf:∀ x,f x=(vals x).map .c)(hv:∀ x,(vals x).length=sz)(h1:∀ x,∀ u∈vals x,u.oneCell'=true)
  (ho:w'.ownsRow w.heap.size ty sz v l.length (l.map vals).flatten) (hl:l.length≤140737488355328):RV w' nov (mO O) (.sl sz (l.map f)) v:=by
 rcases ho.2 with⟨rfl,h0⟩|⟨g,cp,cur,rfl,hg,hh,hn,_,hcs,htake⟩
 ·have hl:l=[]:=List.length_eq_zero_iff.1 h0
  subst hl
  exact RV.sl (f:=fun _ _=>.nilIface) (b:=0) (off:=0) (fun h=>absurd rfl h) (by simp) (by simp) (fun k e he=>by simp at he) (fun k j e x he=>by simp at he) (fun k j e x he=>by simp at he) (fun e he=>by simp at he)
 ·have hlt:g<w'.heap.size:=lt_of_block hh
  have hcell:∀ (k j:Nat) (x:α) (u:Value),l[k]?=some x→(vals x)[j]?=some u→w'.cell? ⟨g,0+(k*sz+j),none⟩=some u:=by
   intro k j x u hx hu
   have hk:k<l.length:=(gS_.1 hx).1
   have hj:j<sz:=by rw[← hv x];exact(gS_.1 hu).1
   have hat:(l.map vals).flatten[k*sz+j]?=some u:=by
    rw[flatten_get (l.map vals) (fun e he=>by obtain⟨y,_,rfl⟩:=List.mem_map.1 he;exact hv y) k (vals x) j (by rw[List.getElem?_map,hx];rfl) hj,hu]
   have hlen:k*sz+j<l.length*sz:=by
    have:(k+1)*sz≤l.length*sz:=Nat.mul_le_mul_right _ hk
    rw[Nat.succ_mul]at this
    omega
   have:=ho.cellAt (k*sz+j) hlen
   rw[Nat.zero_add]
   rw[this]
   exact hat
  have:=RV.sl (w:=w') (vs:=nov) (m:=mO O) (sz:=sz) (l:=l.map f) (A:=some ⟨g,0,none⟩) (cap:=cp) (b:=g) (off:=0) (f:=fun k j=>(l[k]?.bind (fun x=>(vals x)[j]?)).getD .nilIface)
   (fun _=>⟨rfl,fun ho'=>by have:=hO _ (owned_nov.1 ho');omega,hlt⟩) (by simp;omega) (by simp;omega)
   (fun k e he=>by obtain⟨x,_,rfl⟩:=get_map he;rw[hf,lM_,hv])
   (fun k j e x he hx=>by
    obtain⟨y,hy,rfl⟩:=get_map he
    rw[hf,List.getElem?_map]at hx
    obtain⟨u,hu,rfl⟩:=Option.map_eq_some_iff.1 hx
    refine⟨?_,?_⟩
    ·rw[hcell k j y u hy hu]
     simp only[hy,oB_,hu,Option.getD_some]
    ·simp only[hy,oB_,hu,Option.getD_some]
     exact h1 y u (mG_ hu))
   (fun k j e x he hx=>by
    obtain⟨y,hy,rfl⟩:=get_map he
    rw[hf,List.getElem?_map]at hx
    obtain⟨u,hu,rfl⟩:=Option.map_eq_some_iff.1 hx
    simp only[hy,oB_,hu,Option.getD_some]
    exact .c _) (FrL_map (fun x _=>by
     rw[hf]
     intro y hy
     obtain⟨u,_,rfl⟩:=List.mem_map.1 hy
     exact .c _))
  simp only[lM_]at this
  exact this
theorem acall_bl {f:FuncId}{fn:Func}{c:Code}{args:List AV}{r:AV}(hf:Tryz.prog.funcs[f]?=some fn)(hb:fn.body=some c)(hname:(fn.name == "runtime.NumGoroutine")=false)
  (h:∀ (w:World) (O:Nat→Prop) (cargs:Array Value),(∀ b,O b→b<w.heap.size)→cargs.size=args.length→(∀ (j:Nat) (x:AV) (v:Value),args[j]?=some x→cargs[j]?=some v→RV w nov (mO O) x v) →
   Calls Tryz.prog f cargs w (fun e w'=>∃ v,e=.returned v∧RV w' nov (mO O) r v∧Below w.heap.size w w')):ACall cx f args r:=by
 refine⟨enter_g hf hb hname,fun w O cargs _ _ hO hs hr=>?_⟩
 refine Calls.mono (h w O cargs (fun b hb=>(hO b hb).1) hs hr) ?_
 rintro e w' ⟨v,h1,h2,h3⟩
 exact⟨v,h1,h2,⟨h3.os,h3.tape,h3.output,h3.size,fun b hb _=>h3.block b hb⟩,trivial⟩
def M_cloneI (l:List Int):Option (List Int):=grd (l.length*8≤140737488355328) (some l)
theorem int_flat (l:List Int):(l.map (fun x=>[Value.int .i64 x])).flatten=l.map (Value.int .i64):=by
 induction l with
 | nil=>rfl
 | cons x r ih=>rw[List.map_cons,List.flatten_cons,ih];rfl
theorem A_cloneI (l:List Int){r:List Int}(h:M_cloneI l=some r):ACall cx 71 [.sl 1 (l.map cI)] (.sl 1 (r.map cI)):=by
 obtain⟨h0,h⟩:=grd_ok h
 obtain rfl:=sI_ h
 refine acall_bl Tryz.func71 rfl (by decide) (fun w O cargs hO hs hr=>?_)
 obtain⟨v,rfl⟩:=cargs1 hs
 obtain⟨A,cap,b,off,f,rfl,hA,hcap,_,_,hc,hv,_⟩:=rv_sl (hr 0 _ v rfl rfl)
 have done:∀ (w':World) (v':Value),w'.ownsRow w.heap.size 3 1 v' l.length (l.map (Value.int .i64))→RV w' nov (mO O) (.sl 1 (l.map cI)) v':=fun w' v' ho =>
  rv_ownsRow (vals:=fun x=>[Value.int .i64 x]) hO (by decide) (fun x=>rfl) (fun x=>rfl) (fun x u hu=>by simp at hu;subst hu;rfl) (by rw[int_flat];exact ho) (by omega)
 have hlen:(l.map cI).length=l.length:=lM_ _
 by_cases hl:l=[]
 ·subst hl
  cases A with
  | none =>
   refine(Tryz.slices_Clone_int_nil _ cap w).mono ?_
   rintro e w' ⟨rfl,rfl⟩
   exact⟨_,rfl,done _ _ ⟨rfl,.inl ⟨rfl,rfl⟩⟩,Below.refl _ _⟩
  | some a =>
   refine(Tryz.slices_Clone_int_zero a cap w).mono ?_
   rintro e w' ⟨v',rfl,ho,_,hb⟩
   exact⟨v',rfl,done _ _ ho,hb⟩
 ·obtain⟨rfl,_,_⟩:=hA (by simpa using hl)
  rw[hlen]
  refine(Tryz.slices_Clone_int b off l.length cap l w (Nat.le_refl _) h0 (fun j hj=>?_)).mono ?_
  ·have hx:=gE_ hj
   have:=(hc j 0 _ _ (map_at' hx) rfl).1
   rw[rv_c (hv j 0 _ _ (map_at' hx) rfl)]at this
   simpa [gD_,hx] using this
  ·rintro e w' ⟨v',rfl,ho,_,hb⟩
   rw[tL_ (Nat.le_refl _)]at ho
   exact⟨v',rfl,done _ _ ho,hb⟩
def M_mutex_copied_L1 (y145:GOp):Nat→Int→(List GEffect)→Option (List GEffect)|0,_,_=>none|k168+1,v166,v167=>sel (decide (v166<((y145.Effs.map cGEffect).length:Int))) (ix y145.Effs v166 (fun y169=>ob1 (M_cloneF y169.When) (fun z170=>grd ((v167.length+1)*40≤140737488355328) (grd (z170.length≤140737488355328) (M_mutex_copied_L1 y145 k168 (IntKind.i64.wrap (v166+1)) (v167++[{ When:=z170,Var:=y169.Var,Val:=y169.Val:GEffect }])))))) (some v167)
def M_mutex_copied_L2 (a0:GTask)(z1:List Int)(z2:List Int)(z3:List Fact):Nat→Int→(List GOp)→Option (GTask)|0,_,_=>none|k116+1,v114,v115=>sel (decide (v114<((a0.Ops.map cGOp).length:Int))) (ob1 (ix a0.Ops v114 (fun y145=>ob1 (M_cloneF y145.Pre) (fun z146=>ob1 (M_mutex_copied_L1 y145 ((((y145.Effs.map cGEffect).length:Int)).toNat+1) 0 []:Option (List GEffect)) (fun v158=>grd ((v115.length+1)*72≤140737488355328) (grd (z146.length≤140737488355328) (grd (v158.length≤140737488355328) (some (v115++[{ Name:=y145.Name,Cost:=y145.Cost,Pre:=z146,Effs:=v158:GOp }]))))))):Option (List GOp)) (fun v143=>M_mutex_copied_L2 a0 z1 z2 z3 k116 (IntKind.i64.wrap (v114+1)) v143)) (grd (z3.length≤140737488355328) (grd (v115.length≤140737488355328) (some ({ Vars:=z1,Init:=z2,Goal:=z3,Ops:=v115:GTask }))))
def M_mutex_copied (a0:GTask):Option (GTask):=ob1 (M_cloneI a0.Vars) (fun z1=>ob1 (M_cloneI a0.Init) (fun z2=>ob1 (M_cloneF a0.Goal) (fun z3=>M_mutex_copied_L2 a0 z1 z2 z3 ((((a0.Ops.map cGOp).length:Int)).toNat+1) 0 [])))
set_option maxHeartbeats 16000000 in
set_option maxRecDepth 100000 in
theorem A_mutex_copied (a0:GTask){r1:GTask}(h:M_mutex_copied a0=some r1):ACall cx 41 [.agg [.sl 1 (a0.Vars.map cI),.sl 1 (a0.Init.map cI),.sl 2 (a0.Goal.map cF),.sl 4 (a0.Ops.map cGOp)]] (.agg [.sl 1 (r1.Vars.map cI),.sl 1 (r1.Init.map cI),.sl 2 (r1.Goal.map cF),.sl 4 (r1.Ops.map cGOp)]):=by
 refine aOf Tryz.func41 rfl (by decide) rfl (bT2 rfl) ?_;intro _;unfold M_mutex_copied at h;refine aSR ?_;intro _;refine dr (aSR ?_);intro _;obtain⟨z1,u1,h⟩:=ob1_ok h;refine cl rfl (A_cloneI a0.Vars u1) ?_;intro _;obtain⟨z2,u2,h⟩:=ob1_ok h;refine cl rfl (A_cloneI a0.Init u2) ?_;intro _;obtain⟨z3,u3,h⟩:=ob1_ok h;refine clg [(0,17)] [] [] [(17,⟨2,some ⟨39,2,false,z3.map cF⟩⟩)] (.own 17 2 0 z3.length) rfl rfl (A_cloneF a0.Goal u3) ?_;intro _;refine dr (aSq (aSR ?_));intro _;refine dr (aBk ?_);refine awp_loop (α:=Nat×Int×(List GOp)) (fun x=>mkS 56 [(2,.ptr 2 0 0 0),(3,.ptr 3 0 0 0),(20,.sl 4 (a0.Ops.map cGOp)),(21,.c (.int .i64 ((a0.Ops.map cGOp).length:Int))),(22,.c (.int .i64 x.2.1))] [(2,⟨26,4,true,[[.c (.slice none 0 0),.c (.slice none 0 0),.c (.slice none 0 0),.c (.slice none 0 0)]]⟩),(3,⟨26,4,true,[[.sl 1 (z1.map cI),.sl 1 (z2.map cI),.own 17 0 0 z3.length,.own 52 0 0 x.2.2.length]]⟩),(17,⟨39,2,false,z3.map cF⟩),(52,⟨60,4,false,x.2.2.map cGOp⟩)]) (fun x=>M_mutex_copied_L2 a0 z1 z2 z3 x.1 x.2.1 x.2.2=some r1) (fun x=>x.1) ((((a0.Ops.map cGOp).length:Int)).toNat+1,0,[]) h ?_ ?_
 ·exact ca_0
 ·intro x4 h;intro _;obtain⟨k116,m5,h⟩:=succ_of (f:=fun n=>M_mutex_copied_L2 a0 z1 z2 z3 n x4.2.1 x4.2.2) rfl h;replace h:M_mutex_copied_L2 a0 z1 z2 z3 (k116+1) x4.2.1 x4.2.2=some r1:=h;rw[M_mutex_copied_L2]at h;refine aSR ?_;intro _;refine dr (aSq (aCd ?_));intro _;refine spl h (fun c6 h=>?_) (fun c6 h=>?_)
  ·refine aSk ?_;obtain⟨o7,h,hK8⟩:=ob1_ok h;refine awp_cut (α:=List GOp) (fun v143=>mkS 56 [(2,.ptr 2 0 0 0),(3,.ptr 3 0 0 0),(20,.sl 4 (a0.Ops.map cGOp)),(21,.c (.int .i64 ((a0.Ops.map cGOp).length:Int))),(22,.c (.int .i64 x4.2.1))] [(2,⟨26,4,true,[[.c (.slice none 0 0),.c (.slice none 0 0),.c (.slice none 0 0),.c (.slice none 0 0)]]⟩),(3,⟨26,4,true,[[.sl 1 (z1.map cI),.sl 1 (z2.map cI),.own 17 0 0 z3.length,.own 52 0 0 v143.length]]⟩),(17,⟨39,2,false,z3.map cF⟩),(52,⟨60,4,false,v143.map cGOp⟩)]) (fun v=>o7=v) ?_ ?_
   ·refine aBk (aSR ?_);intro _;obtain⟨y145,w9,q10,h⟩:=ix_ok h;refine Exists.intro (cGOp y145) (And.intro (map_at' w9) ?_);intro _;refine pr (dr (aSR ?_));intro _;obtain⟨z146,u11,h⟩:=ob1_ok h;refine clg [(0,28)] [] [] [(28,⟨2,some ⟨39,2,false,z146.map cF⟩⟩)] (.own 28 2 0 z146.length) rfl rfl (A_cloneF y145.Pre u11) ?_;intro _;refine dr (aSR ?_);intro _;refine dr ?_;obtain⟨o12,h,hK13⟩:=ob1_ok h;refine awp_cut (α:=List GEffect) (fun v158=>mkS 56 [(2,.ptr 2 0 0 0),(3,.ptr 3 0 0 0),(5,.ptr 5 0 0 0),(6,.own 44 0 0 v158.length),(20,.sl 4 (a0.Ops.map cGOp)),(21,.c (.int .i64 ((a0.Ops.map cGOp).length:Int))),(22,.c (.int .i64 x4.2.1))] [(2,⟨26,4,true,[[.c (.slice none 0 0),.c (.slice none 0 0),.c (.slice none 0 0),.c (.slice none 0 0)]]⟩),(3,⟨26,4,true,[[.sl 1 (z1.map cI),.sl 1 (z2.map cI),.own 17 0 0 z3.length,.own 52 0 0 x4.2.2.length]]⟩),(5,⟨60,4,true,[[.c (.string y145.Name),.c (.int .i64 y145.Cost),.own 28 0 0 z146.length,.sl 3 (y145.Effs.map cGEffect)]]⟩),(17,⟨39,2,false,z3.map cF⟩),(28,⟨39,2,false,z146.map cF⟩),(44,⟨76,3,false,v158.map cGEffect⟩),(52,⟨60,4,false,x4.2.2.map cGOp⟩)]) (fun v=>o12=v) ?_ ?_
    ·refine aSR ?_;intro _;refine dr (aBk ?_);refine awp_loop (α:=Nat×Int×(List GEffect)) (fun x=>mkS 56 [(2,.ptr 2 0 0 0),(3,.ptr 3 0 0 0),(5,.ptr 5 0 0 0),(6,.own 44 0 0 x.2.2.length),(20,.sl 4 (a0.Ops.map cGOp)),(21,.c (.int .i64 ((a0.Ops.map cGOp).length:Int))),(22,.c (.int .i64 x4.2.1)),(31,.sl 3 (y145.Effs.map cGEffect)),(32,.c (.int .i64 ((y145.Effs.map cGEffect).length:Int))),(33,.c (.int .i64 x.2.1))] [(2,⟨26,4,true,[[.c (.slice none 0 0),.c (.slice none 0 0),.c (.slice none 0 0),.c (.slice none 0 0)]]⟩),(3,⟨26,4,true,[[.sl 1 (z1.map cI),.sl 1 (z2.map cI),.own 17 0 0 z3.length,.own 52 0 0 x4.2.2.length]]⟩),(5,⟨60,4,true,[[.c (.string y145.Name),.c (.int .i64 y145.Cost),.own 28 0 0 z146.length,.sl 3 (y145.Effs.map cGEffect)]]⟩),(17,⟨39,2,false,z3.map cF⟩),(28,⟨39,2,false,z146.map cF⟩),(44,⟨76,3,false,x.2.2.map cGEffect⟩),(52,⟨60,4,false,x4.2.2.map cGOp⟩)]) (fun x=>M_mutex_copied_L1 y145 x.1 x.2.1 x.2.2=some o12) (fun x=>x.1) ((((y145.Effs.map cGEffect).length:Int)).toNat+1,0,[]) h ?_ ?_
     ·exact ca_0
     ·intro x14 h;intro _;obtain⟨k168,m15,h⟩:=succ_of (f:=fun n=>M_mutex_copied_L1 y145 n x14.2.1 x14.2.2) rfl h;replace h:M_mutex_copied_L1 y145 (k168+1) x14.2.1 x14.2.2=some o12:=h;rw[M_mutex_copied_L1]at h;refine aSR ?_;intro _;refine dr (aSq (aCd ?_));intro _;refine spl h (fun c16 h=>?_) (fun c16 h=>?_)
      ·refine aSk (aSq (aBk (aSR ?_)));intro _;obtain⟨y169,w17,q18,h⟩:=ix_ok h;refine Exists.intro (cGEffect y169) (And.intro (map_at' w17) ?_);intro _;refine pr (dr (aSR ?_));intro _;obtain⟨z170,u19,h⟩:=ob1_ok h;refine clg [(0,39)] [] [] [(39,⟨2,some ⟨39,2,false,z170.map cF⟩⟩)] (.own 39 2 0 z170.length) rfl rfl (A_cloneF y169.When u19) ?_;intro _;refine dr (aRg ?_);intro _;obtain⟨q20,h⟩:=grd_ok h;refine pl (pl ?_);refine And.intro (by first|with_reducible assumption|(show(x14.2.2.length+1)*40≤140737488355328;with_reducible assumption)|omega|(simp;omega)) ?_;refine pe (dr (aRg ?_));intro _;refine dr ?_;obtain⟨q21,h⟩:=grd_ok h;refine⟨(k168,(IntKind.i64.wrap (x14.2.1+1)),(x14.2.2++[{ When:=z170,Var:=y169.Var,Val:=y169.Val:GEffect }])),h,ltS m15,?_⟩;exact ca_0
      ·refine aEx ?_;refine⟨x14.2.2,(sI_ h).symm,?_⟩;exact ca_0
    ·rintro v158 ho;have ho:=ho.symm;subst ho;intro _;replace h:=hK13;refine aSR ?_;intro _;refine dr (aRg ?_);intro _;obtain⟨q22,h⟩:=grd_ok h;refine pl (pl ?_);refine And.intro (by first|with_reducible assumption|(show(x4.2.2.length+1)*72≤140737488355328;with_reducible assumption)|omega|(simp;omega)) ?_;refine pe (dr ?_);obtain⟨q23,h⟩:=grd_ok h;obtain⟨q24,h⟩:=grd_ok h;refine⟨(x4.2.2++[{ Name:=y145.Name,Cost:=y145.Cost,Pre:=z146,Effs:=v158:GOp }]),(sI_ h).symm,?_⟩;exact ca_0
   ·rintro v143 ho;have ho:=ho.symm;subst ho;intro _;replace h:=hK8;refine aRg ?_;intro _;refine dr ?_;refine⟨(k116,(IntKind.i64.wrap (x4.2.1+1)),v143),h,ltS m5,?_⟩;exact ca_0
  ·refine aEx (aSR ?_);intro _;refine dr (aRt ?_);obtain⟨q25,h⟩:=grd_ok h;obtain⟨q26,h⟩:=grd_ok h;intro _;obtain rfl:=inj1 h;exact ca_0
end Go.Proofs.YtinnphmnhmdcgaaGreat.Am
namespace Go.Proofs.YtinnphmnhmdcgaaGreat.Am
def M_mutex_copied_L1_B (_:GOp)(_y169:GEffect)(_:Int):((List GEffect))→(((List GEffect))→Option (List GEffect))→Option (List GEffect):=fun v167 rc=>ixv _y169 (fun y169=>ob1 (M_cloneF y169.When) (fun z170=>grd ((v167.length+1)*40≤140737488355328) (grd (z170.length≤140737488355328) (rc ((v167++[{ When:=z170,Var:=y169.Var,Val:=y169.Val:GEffect }]))))))
def M_mutex_copied_L1_E (_:GOp):((List GEffect))→Option (List GEffect):=fun v167=>some v167
theorem M_mutex_copied_L1_eq (y145:GOp)(v167:List GEffect)(hl:y145.Effs.length<9223372036854775807):M_mutex_copied_L1 y145 (((y145.Effs.map cGEffect).length:Int).toNat+1) 0 v167=Rg (M_mutex_copied_L1_B y145) (M_mutex_copied_L1_E y145) y145.Effs 0 v167:=rg_e1 (L:=fun k i v167=>M_mutex_copied_L1 y145 k i v167) hl (fun _ _ _=>rfl) v167
def M_mutex_copied_L2_B (_:GTask)(_:List Int)(_:List Int)(_:List Fact)(_y145:GOp)(_:Int):((List GOp))→(((List GOp))→Option (GTask))→Option (GTask):=fun v115 rc=>ob1 (ixv _y145 (fun y145=>ob1 (M_cloneF y145.Pre) (fun z146=>ob1 (M_mutex_copied_L1 y145 ((((y145.Effs.map cGEffect).length:Int)).toNat+1) 0 []:Option (List GEffect)) (fun v158=>grd ((v115.length+1)*72≤140737488355328) (grd (z146.length≤140737488355328) (grd (v158.length≤140737488355328) (some (v115++[{ Name:=y145.Name,Cost:=y145.Cost,Pre:=z146,Effs:=v158:GOp }]))))))):Option (List GOp)) (fun v143=>rc (v143))
def M_mutex_copied_L2_E (_:GTask)(z1:List Int)(z2:List Int)(z3:List Fact):((List GOp))→Option (GTask):=fun v115=>grd (z3.length≤140737488355328) (grd (v115.length≤140737488355328) (some ({ Vars:=z1,Init:=z2,Goal:=z3,Ops:=v115:GTask })))
theorem M_mutex_copied_L2_eq (a0:GTask)(z1:List Int)(z2:List Int)(z3:List Fact)(v115:List GOp)(hl:a0.Ops.length<9223372036854775807):M_mutex_copied_L2 a0 z1 z2 z3 (((a0.Ops.map cGOp).length:Int).toNat+1) 0 v115=Rg (M_mutex_copied_L2_B a0 z1 z2 z3) (M_mutex_copied_L2_E a0 z1 z2 z3) a0.Ops 0 v115:=rg_e2 (L:=fun k i v115=>M_mutex_copied_L2 a0 z1 z2 z3 k i v115) hl (fun k n p y hy h1 h2=>by first|(simp only[M_mutex_copied_L2,M_mutex_copied_L2_B,lM_,decide_lt h1,sel,ix_at hy,ixv,h2];done)|(simp only[lM_]at h1 hy;(simp only[M_mutex_copied_L2,M_mutex_copied_L2_B,lM_,decide_lt h1,sel,ix_at hy,ixv,h2];done))) (fun k p=>by simp only[M_mutex_copied_L2,M_mutex_copied_L2_E,lM_,decide_ge,sel]) v115
end Go.Proofs.YtinnphmnhmdcgaaGreat.Am
namespace Go.Proofs.YtinnphmnhmdcgaaGreat.Am
open Go.RowKit
section
variable {C : Cx} {n : Nat}
theorem lf_makeX {o:Oper}{tm:List AV}{hp:List Ent}{t e:TypeId}{ti te:TI}{x y:Operand}{kx ky:IntKind}{p:Int}{d ver:Nat}{z:List AV}(ho:o.op=.makeSlice t x y)(hdd:o.dst=some d)(hdn:d<n)(ht:TyOk C.P t ti)(hk:ti.kind=.slice e)(hte:TyOk C.P e te)
  (hx:evA (tmF tm) x=.c (.int kx p)) (hy:evA (tmF tm) y=.c (.int ky p)) (hver:(hpF hp d).ver=ver) (h0:0≤p) (hb:p*te.bytes≤281474976710656) (h63:p≤140737488355328)
  (hz:te.zero.cells.toList.map AV.c=z) (hone:∀ u∈te.zero.cells.toList,u.oneCell'=true) (_hpos:0<te.sz) :
  LF C n o (tmF tm) (hpF hp) ⟨.ownx d (ver+1) p.toNat,[(d,⟨ver+1,some ⟨e,te.sz,false,List.replicate p.toNat z⟩⟩)],[]⟩:=by
 intro τ' η' hτ hη w0 X m a w h
 have hη':(η' d).ver=ver:=by rw[hη d (.inr (by simp[Foot.ids]))];exact hver
 have h1:=h.ev x
 have h2:=h.ev y
 rw[hτ x (by simp[ho,Op.operands]),hx]at h1
 rw[hτ y (by simp[ho,Op.operands]),hy]at h2
 obtain⟨i,hi,hiz⟩:∃ i,C.P.info? e=some i∧i.zero=some te.zero∧i.size=te.sz∧i.bytes=te.bytes:=by
  have:=hte.info
  cases hh:C.P.info? e with
  | none=>rw[hh]at this;cases this
  | some i=>rw[hh]at this;simp at this;exact⟨i,rfl,this.1,this.2.1,this.2.2⟩
 obtain⟨hi1,hi2,hi3⟩:=hiz
 have hr:=run_make (P:=C.P) w t e i te.zero (ht.sliceU hk) hi hi1 kx ky p p h0 (Int.le_refl _) (by rw[hi3,Int.mul_comm];exact hb) (by omega)
 have hzl:z.length=te.sz:=by rw[← hz,lM_,← hte.cells];simp
 have hflat:Flat w (shp η') m te.sz (List.replicate p.toNat z) (madeCells te.zero.cells (p.toNat*i.size)):=by
  refine⟨by simp[hi2,madeCells],fun k q hq=>?_⟩
  obtain⟨hk1,rfl⟩:k<p.toNat∧z=q:=by
   rw[List.getElem?_replicate]at hq
   split at hq
   ·exact⟨by assumption,by injection hq⟩
   ·cases hq
  refine⟨hzl,fun j v hj=>?_⟩
  have hjlt:j<te.sz:=by rw[← hzl];exact(gS_.1 hj).1
  have hjc:j<te.zero.cells.size:=by rw[hte.cells];exact hjlt
  have hmod:(k*te.sz+j) % te.sz=j:=by rw[Nat.mul_comm,Nat.mul_add_mod];exact Nat.mod_eq_of_lt hjlt
  have hlt:k*te.sz+j<p.toNat*te.sz:=by
   calc k*te.sz+j<k*te.sz+te.sz:=by omega
    _=(k+1)*te.sz:=by rw[Nat.add_mul];omega
    _≤p.toNat*te.sz:=Nat.mul_le_mul_right _ hk1
  refine⟨te.zero.cells[j],?_,hone _ (by simp),?_⟩
  ·simp only[madeCells,hi2,Array.getElem?_map]
   rw[Array.getElem?_range,if_pos hlt]
   simp only[Option.map_some,hte.cells,hmod,Option.some.injEq]
   exact getElem!_pos te.zero.cells j hjc
  ·rw[← hz,List.getElem?_map]at hj
   simp[hjc]at hj
   rw[← hj]
   exact .c _
 have hfr:=h.fresh (i:=d) (ver:=(η' d).ver+1) (B:=⟨e,te.sz,false,List.replicate p.toNat z⟩) rfl hdn (Nat.lt_succ_self _) hflat
 have hrun:(execOp a.eval o).run C.P w=.ok (.value (.slice (some ⟨w.heap.size,0,none⟩) p.toNat p.toNat)) (w.alloc (.cells (madeCells te.zero.cells (p.toNat*i.size)) e)):=by
  simp only[execOp,ho,rv_c h1,rv_c h2,Sem.run_bind,hr,Result.andThen_ok,Sem.run_pure]
 unfold Oper.wp
 rw[hrun]
 rw[hη']at hfr
 refine⟨_,hfr.put (by rw[hdd];exact hdn) ?_⟩
 refine .ownx (b:=w.heap.size) (sz:=te.sz) (ty:=e) ?_ ?_ ?_ ?_
 ·simp[shp,updE]
 ·simp[newM]
 ·omega
 ·have:=heap_alloc_new w (.cells (madeCells te.zero.cells (p.toNat*i.size)) e)
  simp only[World.shape?,this]
  simp[madeCells,hi2]
theorem wpOps_set {ops:Array Oper}{Q:Exit→Act→World→Prop}{i:Nat}{rest:List Nat}{o:Oper}{τ τ':Nat→AV}{η:Nat→Ent}{w0:World}{X:XX}{m:MM}{a:Act}{w:World}{f:FuncId}{os:Array Operand}{ats:Array TypeId}{args:List AV}{ch:Chg}(hi:ops[i]?=some o)(hg:o.guard=none)(h:Rep C n w0 X τ η m a w)
  (ho:o.op=.call ⟨.value (.func f),os,ats⟩) (hd:InB n o.dst) (hargs:os.toList.map (evA τ)=args) (hc:ASet C f args ch) (hfr:frs args) (hN:C.N=0) (hno:∀ b∈ch.map (·.1),¬ Owned (shp η) m b) (hX:∀ b∈ch.map (·.1),X b∨w0.heap.size≤b)
  (hτ:∀ t,US ch (τ t) (τ' t)) (hη:∀ i B,(η i).blk=some B→∀ e∈B.els,∀ x∈e,US ch x x) (hk:∀ a' w',Rep C n w0 X (putA τ' o.dst .dead) η m a' w'→wpOps C.P ops Q rest a' w'):wpOps C.P ops Q (i :: rest) a w:=by
 refine wpOps_at hi hg ?_
 subst hargs
 obtain⟨hen,hcall⟩:=hc
 have hrun:(execOp a.eval o).run C.P w=.ok (.enter f (os.map a.eval)) w:=by
  simp[execOp,ho,resolve,Act.eval,Deferred.ofValue,invoke,hen]
 have hO:∀ b,Owned (shp η) m b→b<w.heap.size∧C.N≤b:=by
  rintro b (h1|⟨i,h1,h2⟩)
  ·exact h.mem.olt b h1
  ·exact⟨h.mem.lt (blk_live.1 h1) h2,h.mem.low i b (blk_live.1 h1) h2⟩
 have:=hcall w (Owned (shp η) m) (os.map a.eval) h.gl h.mem.big hO (by simp) (fun j x v hx hv=>by
  refine rv_fr1 (frs_at hfr hx) (fun b hb=>owned_nov.1 hb) ?_ (vs:=shp η) (m:=m)
  rw[List.getElem?_map]at hx
  rw[Array.getElem?_map]at hv
  cases hj:os[j]? with
  | none=>rw[hj]at hv;cases hv
  | some q =>
   have hj':os.toList[j]?=some q:=by simpa using hj
   rw[hj']at hx
   rw[hj]at hv
   simp at hx hv
   rw[← hx,← hv]
   exact h.ev q)
 unfold Oper.wp
 rw[hrun]
 refine Calls.mono this ?_
 rintro e w' ⟨⟨v,rfl⟩,h2,h3⟩
 exact hk _ _ ((h.rows h2 hno hX hN hτ hη).put hd (.dead v))
end
noncomputable def cxL (C:Cx)(lo:Nat):Cx:={ C with Pw:=fun w X=>w.heap.size=lo∧∀ b,¬ X.X b }
theorem acall_ofL {C:Cx}{n:Nat}{f:FuncId}{fn:Func}{c:Code}{args:List AV}{r:AV}(hf:C.P.funcs[f]?=some fn)(hb:fn.body=some c)(hname:(fn.name == "runtime.NumGoroutine")=false)(hn:fn.ntmps=n)(ha:args.length≤n)
  (h:∀ lo,forceK (args++List.replicate (n-args.length) .dead) (fun tm=>forceK (List.replicate n ⟨0,none⟩) (fun hp=>True→AWP (cxL C lo) c (retK (cxL C lo) fn.results.toList r) ⟨tm,hp⟩))):ACall C f args r:=by
 refine⟨fun vs w=>?_,fun w O cargs hg hN hO hsz hargs=>?_⟩
 ·simp only[callFunc,Sem.run_bind,program,Sem.run,Result.andThen_ok,hf,hname,hb]
  rfl
 ·exact acall_at (C:=cxL C w.heap.size) hf hb hn ha hg hN hO hsz hargs (forceK_ok (forceK_ok (h w.heap.size)) trivial) ⟨rfl,fun b hb=>hb⟩
theorem toL {C:Cx}{lo:Nat}{f:FuncId}{args:List AV}{bs bs':List (Nat×Blk)}{ks:List Nat}{r:AV}(h:ACallG C f args bs ks r bs'):ACallG (cxL C lo) f args bs ks r bs':=by
 refine⟨h.1,fun w m cargs hg hm hs hr=>Calls.mono (h.2 w m cargs hg hm hs hr) ?_⟩
 rintro e w' ⟨v,m',e1,g⟩
 exact⟨v,m',e1,⟨g.rv,g.mem,g.oo,g.kin,g.own,g.ks,g.gl⟩⟩
theorem rv_ownx {w:World}{vs:Shp}{m:MM}{i ver len:Nat}{v:Value}(h:RV w vs m (.ownx i ver len) v):ver<(vs i).1∨∃ sz b ty,vs i=(ver,some sz)∧m i=some b∧len≤140737488355328∧w.shape? b=some (ty,len*sz)∧v=.slice (some ⟨b,0,none⟩) len len:=by
 cases h with
 | ownxS h1=>exact .inl h1
 | ownx h1 h2 h3 h4=>exact .inr ⟨_,_,_,h1,h2,h3,h4,rfl⟩
theorem rwT_at1 {lo ty k:Nat}{q:Nat×List Bool}{T:Tab}(h:T[k]?=some q):(rwT lo ty T)[k]?=some [.rowb lo ty q.1 q.2]:=by
 unfold rwT
 rw[List.getElem?_map,h]
 rfl
theorem rwT_app {lo ty:Nat}{T U:Tab}:rwT lo ty (T++U)=rwT lo ty T++rwT lo ty U:=by unfold rwT;rw[List.map_append]
theorem rwT_len {lo ty:Nat}{T:Tab}:(rwT lo ty T).length=T.length:=by unfold rwT;rw[lM_]
theorem Rep.reveal {C:Cx}{n:Nat}{w0:World}{X:XX}{τ:Nat→AV}{η:Nat→Ent}{m:MM}{a:Act}{w:World}{lo i j ver v ty ety len:Nat}{T:Tab}(h:Rep C n w0 X τ η m a w)(hC:C.Pw w0 X→w0.heap.size=lo∧∀ b,¬ X.X b)
  (hi:η i=⟨ver,some ⟨ty,1,false,List.replicate len [.c (.bool false)]⟩⟩) (hj:η j=⟨v,some ⟨ety,1,false,rwT lo ty T++[[.ownx i ver len]]⟩⟩) (hne:i≠j) (hin:i<n) :
  ∃ b,b∉T.map (·.1)∧Rep C n w0 X τ (updE (updE η i ⟨ver+1,none⟩) j ⟨v,some ⟨ety,1,false,rwT lo ty (T++[(b,List.replicate len false)])⟩⟩) m a w:=by
 obtain⟨hlo,hX⟩:=hC h.pw
 have okj:=h.mem.ok j _ (by rw[hj])
 have oki:=h.mem.ok i _ (by rw[hi])
 have si:shp η i=(ver,some 1):=by simp[shp,hi]
 cases hmj:m j with
 | none =>
  rw[hmj]at okj
  have:=okj.1
  simp at this
 | some bj =>
  rw[hmj]at okj
  obtain⟨arr,c1,c2,c3⟩:=okj
  have hlast:(rwT lo ty T++[[AV.ownx i ver len]])[T.length]?=some [.ownx i ver len]:=by
   rw[List.getElem?_append_right (by rw[rwT_len];exact Nat.le_refl _),rwT_len,Nat.sub_self]
   rfl
  obtain⟨val,v1,v2,v3⟩:=(c3 T.length _ hlast).2 0 _ rfl
  rcases rv_ownx v3 with hst|⟨sz,b,ty',x1,x2,x3,x4,rfl⟩
  ·rw[si]at hst
   exact absurd hst (Nat.lt_irrefl _)
  ·rw[si]at x1
   injection x1 with _ x1
   injection x1 with x1
   subst x1
   rw[Nat.mul_one]at x4
   rw[x2]at oki
   obtain⟨arri,d1,d2,d3⟩:=oki
   have hb:=d1.shape x4
   have hsz:arri.size=len:=by
    have:=x4
    simp only[World.shape?,hb]at this
    injection this with this
    injection this
   have harr:arri=((List.replicate len false).map Value.bool).toArray:=by
    apply Array.ext
    ·simp[hsz]
    ·intro k k1 k2
     have hk:k<len:=by omega
     obtain⟨u,u1,_,u3⟩:=(d3 k [.c (.bool false)] (by simp[hk])).2 0 _ rfl
     have:=rv_c u3
     subst this
     simp only[Nat.mul_one,Nat.add_zero]at u1
     rw[aE_ k1]at u1
     injection u1 with u1
     rw[u1]
     simp
   rw[harr]at hb
   have hlivei:(η i).blk≠none:=by rw[hi];simp
   have hlivej:(η j).blk≠none:=by rw[hj];simp
   have hown:Owned (shp η) m b:=.inr ⟨i,blk_live.2 hlivei,x2⟩
   have hnb:b∉T.map (·.1):=by
    intro hm
    obtain⟨q,hq,rfl⟩:=List.mem_map.1 hm
    obtain⟨k,hk⟩:=List.mem_iff_getElem?.1 hq
    have hkl:=(gS_.1 hk).1
    have:(rwT lo ty T++[[AV.ownx i ver len]])[k]?=some [.rowb lo ty q.1 q.2]:=by
     rw[List.getElem?_append_left (by rw[rwT_len];exact hkl)]
     exact rwT_at1 hk
    obtain⟨u,_,_,u3⟩:=(c3 k _ this).2 0 _ rfl
    exact(rv_rowb u3).2.1 hown
   refine⟨b,hnb,?_⟩
   generalize hη':(updE (updE η i ⟨ver+1,none⟩) j ⟨v,some ⟨ety,1,false,rwT lo ty (T++[(b,List.replicate len false)])⟩⟩)=η'
   have ei:η' i=⟨ver+1,none⟩:=by rw[← hη'];simp[updE,hne]
   have ej:η' j=⟨v,some ⟨ety,1,false,rwT lo ty (T++[(b,List.replicate len false)])⟩⟩:=by rw[← hη'];simp[updE]
   have eo:∀ k,k≠i→k≠j→η' k=η k:=fun k k1 k2=>by rw[← hη'];simp[updE,k1,k2]
   have live:∀ k,(η' k).blk≠none→(η k).blk≠none∧k≠i:=fun k hk=>by
    by_cases k1:k=i
    ·subst k1;rw[ei]at hk;exact absurd rfl hk
    ·by_cases k2:k=j
     ·subst k2;exact⟨hlivej,k1⟩
     ·rw[eo k k1 k2]at hk;exact⟨hk,k1⟩
   have hm:Mono w (shp η) m w (shp η') m:=by
    refine⟨Nat.le_refl _,fun _ _ _=>rfl,fun b' _ hno ho=>hno ?_,fun k=>?_,fun k hk=>?_⟩
    ·rcases ho with ho|⟨k,k1,k2⟩
     ·exact .inl ho
     ·exact .inr ⟨k,blk_live.2 (live k (blk_live.1 k1)).1,k2⟩
    ·by_cases k1:k=i
     ·subst k1;simp[shp,ei,hi]
     ·by_cases k2:k=j
      ·subst k2;simp[shp,ej,hj]
      ·simp[shp,eo k k1 k2]
    ·by_cases k1:k=i
     ·subst k1;simp[shp,ei,hi]at hk
     ·by_cases k2:k=j
      ·subst k2;exact⟨by simp[shp,ej,hj],fun _=>⟨rfl,fun _ _=>rfl⟩⟩
      ·exact⟨by simp[shp,eo k k1 k2],fun _=>⟨rfl,fun _ _=>rfl⟩⟩
   have hnob:¬ Owned (shp η') m b:=by
    rintro(ho|⟨k,k1,k2⟩)
    ·exact h.mem.sep i b hlivei x2 ho
    ·obtain⟨l1,l2⟩:=live k (blk_live.1 k1)
     exact l2 (h.mem.inj k i b l1 hlivei k2 x2)
   have hlob:lo≤b:=by
    rcases h.own i b hlivei x2 with ho|ho
    ·exact absurd ho (hX b)
    ·omega
   refine h.move hm ⟨fun k B hB=>?_,fun k k' b' l1 l2=>h.mem.inj k k' b' (live k l1).1 (live k' l2).1,fun k b' l1=>h.mem.low k b' (live k l1).1,fun k b' l1=>h.mem.sep k b' (live k l1).1,h.mem.olt,h.mem.big⟩ h.kin rfl (fun k b' l1=>h.own k b' (live k l1).1) (fun k hk=>?_)
   ·by_cases k1:k=i
    ·subst k1;rw[ei]at hB;cases hB
    ·by_cases k2:k=j
     ·subst k2
      rw[ej]at hB
      injection hB with hB
      subst hB
      rw[hmj]
      refine⟨arr,c1.congr rfl rfl (by simp[rwT_len]) rfl,by simpa [rwT_len] using c2,fun q e he=>?_⟩
      rw[rwT_app]at he
      rcases Nat.lt_or_ge q T.length with hq|hq
      ·rw[List.getElem?_append_left (by rw[rwT_len];exact hq)]at he
       have he':(rwT lo ty T++[[AV.ownx i ver len]])[q]?=some e:=by rw[List.getElem?_append_left (by rw[rwT_len];exact hq)];exact he
       refine⟨(c3 q e he').1,fun jj x hx=>?_⟩
       obtain⟨u,u1,u2,u3⟩:=(c3 q e he').2 jj x hx
       exact⟨u,u1,u2,u3.mono hm⟩
      ·rw[List.getElem?_append_right (by rw[rwT_len];exact hq),rwT_len]at he
       obtain⟨hq',he'⟩:=gS_.1 he
       have hq0:q=T.length:=by simp[rwT]at hq';omega
       subst hq0
       have hee:e=[.rowb lo ty b (List.replicate len false)]:=by rw[← he'];simp[rwT]
       subst hee
       refine⟨rfl,fun jj x hx=>?_⟩
       cases jj with
       | succ jj=>simp at hx
       | zero =>
        simp at hx
        subst hx
        refine⟨_,v1,v2,?_⟩
        have:=RV.rowb (w:=w) (vs:=shp η') (m:=m) (lo:=lo) (ty:=ty) (b:=b) (r:=List.replicate len false) hnob hlob hb (by simpa using x3)
        simpa using this
     ·rw[eo k k1 k2]at hB
      exact(h.mem.ok k B hB).mono hm (fun _ _=>rfl)
   ·have k1:k≠i:=by omega
    by_cases k2:k=j
    ·subst k2;rw[ej,hj]
    ·rw[eo k k1 k2]
theorem hpF_setU {hp:List Ent}{i:Nat}{e:Ent}(h:i<hp.length):hpF (hp.set i e)=updE (hpF hp) i e:=by
 funext k
 show(hp.set i e).getD k _=if k=i then e else hp.getD k _
 rw[gD_,gD_,List.getElem?_set]
 by_cases hk:i=k
 ·subst hk;simp[h]
 ·rw[if_neg hk,if_neg (fun e=>hk e.symm)]
theorem awp_reveal {C:Cx}{c:Code}{Q:Exit→St→Prop}{tm:List AV}{hp:List Ent}{lo ver v ty ety len:Nat}{T:Tab}(i j:Nat)(hC:∀ w0 X,C.Pw w0 X→w0.heap.size=lo∧∀ b,¬ X.X b)(hi:hp[i]?=some ⟨ver,some ⟨ty,1,false,List.replicate len [.c (.bool false)]⟩⟩)
  (hj:hp[j]?=some ⟨v,some ⟨ety,1,false,rwT lo ty T++[[.ownx i ver len]]⟩⟩) (hne:i≠j) (hin:i<tm.length) (h:∀ b,b∉T.map (·.1)→forceK ((hp.set i ⟨ver+1,none⟩).set j ⟨v,some ⟨ety,1,false,rwT lo ty (T++[(b,List.replicate len false)])⟩⟩) (fun hp'=>True→AWP C c Q ⟨tm,hp'⟩)):AWP C c Q ⟨tm,hp⟩:=by
 unfold AWP at h ⊢
 intro w0 X m a w hr
 have li:=(gS_.1 hi).1
 have lj:=(gS_.1 hj).1
 obtain⟨b,hb,hr'⟩:=Rep.reveal (C:=C) (n:=tm.length) (lo:=lo) (T:=T) hr (hC w0 X) (hp_get hi) (hp_get hj) hne hin
 refine forceK_ok (h b hb) trivial w0 X m a w ?_
 unfold RepS
 show Rep C tm.length w0 X (tmF tm) (hpF _) m a w
 rw[hpF_setU (by simpa using lj),hpF_setU li]
 exact hr'
theorem fr0_fr {x:AV}(h:Fr x):fr0 x:=by cases x <;> first|trivial|exact h
section
variable {ch : Chg}
inductive USL (ch:Chg):List AV→List AV→Prop
 | nil:USL ch [] []
 | cons {x y:AV} {r s:List AV}:US ch x y→USL ch r s→USL ch (x :: r) (y :: s)
theorem USL.len {r s:List AV}(h:USL ch r s):s.length=r.length:=by
 induction h with
 | nil=>rfl
 | cons _ _ ih=>simp[ih]
theorem USL.at_ {r s:List AV}(h:USL ch r s):∀ t,US ch (tmF r t) (tmF s t):=by
 induction h with
 | nil=>intro t;exact .dead
 | cons h1 _ ih =>
  intro t
  cases t with
  | zero=>exact h1
  | succ t=>exact ih t
inductive UHL (ch:Chg):List Ent→Prop
 | nil:UHL ch []
 | none {v:Nat} {r:List Ent}:UHL ch r→UHL ch (⟨v,none⟩ :: r)
 | some {v:Nat} {B:Blk} {r:List Ent}:(∀ e∈B.els,∀ x∈e,US ch x x)→UHL ch r→UHL ch (⟨v,some B⟩ :: r)
theorem UHL.at_ {r:List Ent}(h:UHL ch r):∀ i B,(hpF r i).blk=.some B→∀ e∈B.els,∀ x∈e,US ch x x:=by
 induction h with
 | nil=>intro i B hB;cases hB
 | none _ ih =>
  intro i B hB
  cases i with
  | zero=>cases hB
  | succ i=>exact ih i B hB
 | some h1 _ ih =>
  intro i B hB
  cases i with
  | zero =>
   have:B=_:=(sI_ hB).symm
   rw[this]
   exact h1
  | succ i=>exact ih i B hB
theorem ub_tabs {lo ty:Nat}{T T2:Tab}(h:T2.map (·.1)=T.map (·.1)):UB (chT T T2) (.sl 1 (rwT lo ty T)) (.sl 1 (rwT lo ty T2)):=by
 have hl:T2.length=T.length:=by have:=congrArg List.length h;simpa using this
 refine .sl (by decide) (by simp[rwT,hl]) (fun k e e' h1 h2=>?_) (fun k e e' h1 h2=>?_) FrI.h
 ·unfold rwT at h1 h2
  rw[List.getElem?_map]at h1 h2
  obtain⟨q,_,rfl⟩:=Option.map_eq_some_iff.1 h1
  obtain⟨q',_,rfl⟩:=Option.map_eq_some_iff.1 h2
  rfl
 ·unfold rwT at h1 h2
  rw[List.getElem?_map]at h1 h2
  obtain⟨q,hq,rfl⟩:=Option.map_eq_some_iff.1 h1
  obtain⟨q',hq',rfl⟩:=Option.map_eq_some_iff.1 h2
  intro j x x' g1 g2
  cases j with
  | succ j=>simp at g1
  | zero =>
   simp at g1 g2
   subst g1 g2
   have e1:q'.1=q.1:=by
    have:=congrArg (fun l=>l[k]?) h
    simp only[List.getElem?_map,hq,hq',Option.map_some]at this
    injection this
   rw[e1]
   refine .row ?_
   unfold chT
   refine List.mem_map.2 ⟨(q,q'),mG_ (i:=k) (List.getElem?_zip_eq_some.2 ⟨hq,hq'⟩),rfl⟩
theorem us_zT {z:GTable}{lo:Nat}{T T2:Tab}(h:T2.map (·.1)=T.map (·.1)):US (chT T T2) (.pim (cT z lo T) 0) (.pim (cT z lo T2) 0):=by
 refine .ub (.pim (by simp[cT]) rfl (fun k x x' h1 h2=>?_))
 match k,h1,h2 with
 | 0,h1,h2=>simp[cT]at h1 h2;subst h1 h2;exact ub_cI _
 | 1,h1,h2=>simp[cT]at h1 h2;subst h1 h2;exact ub_cI _
 | 2,h1,h2=>simp[cT]at h1 h2;subst h1 h2;exact ub_cF _
 | 3,h1,h2=>simp[cT]at h1 h2;subst h1 h2;exact ub_cO _
 | 4,h1,h2=>simp[cT]at h1 h2;subst h1 h2;exact ub_cI _
 | 5,h1,h2=>simp[cT]at h1 h2;subst h1 h2;exact ub_tabs h
 | k+6,h1,_=>simp[cT]at h1
theorem us_lf {l:List (List Fact)}:US ch (.sl 1 (l.map cL_cF)) (.sl 1 (l.map cL_cF)):=.ub (ub_map (by decide) (fun x y hy=>by
 simp only[cL_cF,List.mem_cons,List.not_mem_nil,or_false]at hy
 subst hy
 exact ub_cF _) FrI.h)
theorem us_i {l:List Int}:US ch (.sl 1 (l.map cI)) (.sl 1 (l.map cI)):=.ub (ub_cI _)
theorem us_f {l:List Fact}:US ch (.sl 2 (l.map cF)) (.sl 2 (l.map cF)):=.ub (ub_cF _)
theorem us_o {l:List GOp}:US ch (.sl 4 (l.map cGOp)) (.sl 4 (l.map cGOp)):=.ub (ub_cO _)
end
theorem us_box {ch:Chg}{z:GTask}:∀ e∈[[AV.sl 1 (z.Vars.map cI),.sl 1 (z.Init.map cI),.sl 2 (z.Goal.map cF),.sl 4 (z.Ops.map cGOp)]],∀ x∈e,US ch x x:=by
 intro e he x hx
 simp only[List.mem_cons,List.not_mem_nil,or_false]at he
 subst he
 simp only[List.mem_cons,List.not_mem_nil,or_false]at hx
 rcases hx with rfl|rfl|rfl|rfl
 ·exact us_i
 ·exact us_i
 ·exact us_f
 ·exact us_o
theorem us_map {ch:Chg}{M:List ((Int×Int×Int)×Option GCause)}:∀ e∈(mB k3 oGCause M).els,∀ x∈e,US ch x x:=by
 intro e he x hx
 obtain⟨q,_,rfl⟩:=List.mem_map.1 he
 simp only[List.mem_cons,List.not_mem_nil,or_false]at hx
 rcases hx with rfl|rfl
 ·exact .c
 ·cases q.2 with
  | none=>exact .c
  | some y=>exact .ub (.pim (by simp) rfl (fun j x x' g1 g2=>by
    rw[g1]at g2
    injection g2 with g2
    subst g2
    cases j with
    | zero =>
     simp at g1
     subst g1
     exact ub_map (by decide) (fun x y hy=>by
      simp only[cL_cF,List.mem_cons,List.not_mem_nil,or_false]at hy
      subst hy
      exact ub_cF _) FrI.h
    | succ j=>simp at g1))
theorem M_set_some {z:GTable}{a b:Fact}{R:List (List Bool)}(h:M_set z a b=some R):∃ ia ib,M_stratagem_mutex_Table_number z a=some ia∧M_stratagem_mutex_Table_number z b=some ib∧0≤ia∧ia<z.reached.length∧0≤ib∧ib<z.reached.length∧(∀ r∈z.reached,r.length=z.reached.length)∧R=setR (setR z.reached ia.toNat ib.toNat) ib.toNat ia.toNat:=by
 unfold M_set at h
 obtain⟨ia,h1,h⟩:=ob1_ok h
 obtain⟨ib,h2,h⟩:=ob1_ok h
 obtain⟨⟨g0,g1,g2,g3,g4⟩,h⟩:=grd_ok h
 exact⟨ia,ib,h1,h2,g0,g1,g2,g3,g4,(sI_ h).symm⟩
theorem set_call {lo:Nat}{z:GTable}{T:Tab}{a b:Fact}{R:List (List Bool)}{tm:List AV}{hp:List Ent}{ops:Array Oper}{Q:Exit→Act→World→Prop}{i d:Nat}{o:Oper}{w0:World}{X:XX}{m:MM}{act:Act}{w:World}{os:Array Operand}{ats:Array TypeId}(k:Nat)(hk:k<tm.length)
  (hrep:RepS (cxL cx lo) w0 X ⟨tm,hp⟩ m act w) (hi:ops[i]?=some o) (hg:o.guard=none) (ho:o.op=.call ⟨.value (.func 42),os,ats⟩) (hd:o.dst=some d) (hdn:d<tm.length)
  (hargs:os.toList.map (evA (tmF tm))=[.pim (cT z lo T) 0,.agg [.c (.int .i64 a.1),.c (.int .i64 a.2)],.agg [.c (.int .i64 b.1),.c (.int .i64 b.2)]]) (h5:tmF tm k=.pim (cT z lo T) 0) (hz:z.reached=T.map (·.2)) (hM:M_set z a b=some R) (hn:(T.map (·.1)).Nodup)
  (h:∀ T2:Tab,T2.map (·.2)=R→T2.map (·.1)=T.map (·.1)→UHL (chT T T2) hp∧∃ tm',USL (chT T T2) tm tm'∧tmF tm' d=.dead∧∀ m' a' w',RepS (cxL cx lo) w0 X ⟨tm',hp⟩ m' a' w'→Q .normal a' w'):wpOps (cxL cx lo).P ops Q [i] act w:=by
 obtain⟨ia,ib,u1,u2,g0,g1,g2,g3,g4,hR⟩:=M_set_some hM
 have hlen:z.reached.length=T.length:=by rw[hz,lM_]
 have hr:∀ (k:Nat) (q:Nat×List Bool),T[k]?=some q→q.2.length=T.length:=fun k q hq=>by
  rw[← hlen]
  exact g4 _ (by rw[hz];exact List.mem_map.2 ⟨q,mG_ hq,rfl⟩)
 rw[hlen]at g1 g3
 have hA:ASet (cxL cx lo) _ _ _:=A_set z lo T a b hz u1 u2 hn rfl hr g0 g1 g2 g3
 have e1:(setT (setT T ia.toNat ib.toNat) ib.toNat ia.toNat).map (·.1)=T.map (·.1):=by rw[setT_fst,setT_fst]
 have e2:(setT (setT T ia.toNat ib.toNat) ib.toNat ia.toNat).map (·.2)=R:=by rw[setT_snd,setT_snd,hR,hz]
 obtain⟨hU,tm',hL,hdd,hQ⟩:=h _ e2 e1
 generalize setT (setT T ia.toNat ib.toNat) ib.toNat ia.toNat=T2 at *
 have hrep':Rep (cxL cx lo) tm.length w0 X (tmF tm) (hpF hp) m act w:=hrep
 have hpw:w0.heap.size=lo∧∀ b,¬ X.X b:=hrep'.pw
 have hrow:=rv_tab (k:=5) (by have:=hrep'.tm k;rw[h5]at this;exact this) (show(cT z lo T)[5]?=some (.sl 1 (rwT lo 4 T))from rfl)
 have hmem:∀ b∈(chT T T2).map (·.1),∃ q∈T,q.1=b:=fun b hb=>by
  rw[chT_fst e1]at hb
  obtain⟨q,h1,h2⟩:=List.mem_map.1 hb
  exact⟨q,h1,h2⟩
 refine wpOps_set hi hg hrep' ho (by rw[hd];exact hdn) hargs hA ?_ rfl (fun b hb=>?_) (fun b hb=>?_) hL.at_ hU.at_ (fun a' w' hr'=>?_)
 ·have fz:Fr (.pim (cT z lo T) 0):=by unfold cT;exact FrV.h
  exact⟨fr1_fr fz,fr1_fr FrV.h,fr1_fr FrV.h,trivial⟩
 ·obtain⟨q,h1,rfl⟩:=hmem b hb
  exact(hrow q h1).2.1
 ·obtain⟨q,h1,rfl⟩:=hmem b hb
  exact .inr (by rw[hpw.1];exact(hrow q h1).2.2)
 ·refine hQ m a' w' ?_
  unfold RepS
  show Rep (cxL cx lo) tm'.length w0 X (tmF tm') (hpF hp) m a' w'
  rw[hL.len]
  have:putA (tmF tm') o.dst .dead=tmF tm':=by
   rw[hd]
   funext t
   simp only[putA]
   split
   ·rename_i e;rw[e,hdd]
   ·rfl
  rw[this]at hr'
  exact hr'
theorem zb_XNew {P:Prop}(h:P:=by repeat (first|exact BWL.nil|exact bwll_nil|exact bw_c|exact BW.sl|exact BW.nil|exact bwll_same rfl FrI.h|refine BWL.cons ?_ ?_|refine bwll_cons ?_ ?_|(refine bw_own3 rfl rfl rfl FrI.h ?_ ?_ ?_)|exact BW.fr FrV.h|exact bw_fr2 rfl FrV.h|exact BW.fr (by assumption)|refine bw_agg ?_|refine bw_clo ?_|refine bw_ptr rfl rfl rfl ?_|(refine bw_own rfl rfl rfl ?_ FrI.h ?_ ?_)|assumption|omega|rfl|(rw[lM_,← lA_];assumption)|(refine bwll_same ?_ FrI.h;(simp[cGTask,cI,cF,cGOp,cGEffect,cGTable,cB,cL_cB,cGCause,cL_cF] <;> fail))|(rw[List.map_set];refine bwll_set (by first|rfl|omega|simp) ?_ ?_)|refine bwll_set (by first|rfl|omega|simp) ?_ ?_|(rw[List.map_replicate];refine bwll_rep ?_)|refine bwll_rep ?_|(rw[List.map_append];refine bwll_append ?_ ?_)|refine bwll_append ?_ ?_|(simp[cGTask,cI,cF,cGOp,cGEffect,cGTable,cB,cL_cB,cGCause,cL_cF,take_len_map] <;> fail)|(rw[List.drop_zero,tL_] <;> first|rfl|(simp[cGTask,cI,cF,cGOp,cGEffect,cGTable,cB,cL_cB,cGCause,cL_cF] <;> fail))|(simp;omega)|(simp only[lM_,lA_,List.drop_zero,lC_,lN_,Nat.zero_add,Nat.add_zero]at *;omega))):P:=h
theorem zg_XNew {P:Prop}(h:P:=by repeat (first|exact True.intro|exact gb_nil rfl rfl|refine gb_some ⟨rfl,rfl,rfl⟩ ?_|refine And.intro ?_ ?_|refine gw_ren rfl rfl rfl rfl rfl ?_|exact gw_oren rfl rfl rfl rfl rfl|exact gw_opren rfl rfl rfl rfl rfl|exact gw_onil rfl rfl|exact gw_mren rfl rfl rfl rfl|refine gw_pren rfl rfl rfl rfl rfl|exact gw_thaw rfl rfl rfl|refine gw_tup ?_|exact GWL.nil|exact gwll_nil|exact gw_c|exact GW.sl|exact GW.nil|exact gwll_same rfl FrI.h|refine GWL.cons ?_ ?_|refine gwll_cons ?_ ?_|(refine gw_own3 rfl rfl rfl FrI.h ?_ ?_ ?_)|exact GW.fr FrV.h|exact gw_fr2 rfl FrV.h|exact GW.fr (by assumption)|refine gw_agg ?_|refine gw_clo ?_|refine gw_ptr rfl rfl rfl ?_|(refine gw_own rfl rfl rfl ?_ FrI.h ?_ ?_)|assumption|omega|rfl|(rw[lM_,← lA_];assumption)|(refine gwll_same ?_ FrI.h;(simp[cGTask,cI,cF,cGOp,cGEffect,cGTable,cB,cL_cB,cGCause,cL_cF] <;> fail))|(rw[List.map_set];refine gwll_set (by first|rfl|omega|simp) ?_ ?_)|refine gwll_set (by first|rfl|omega|simp) ?_ ?_|(rw[List.map_replicate];refine gwll_rep ?_)|refine gwll_rep ?_|(rw[List.map_append];refine gwll_append ?_ ?_)|refine gwll_append ?_ ?_|(simp[cGTask,cI,cF,cGOp,cGEffect,cGTable,cB,cL_cB,cGCause,cL_cF,take_len_map] <;> fail)|(rw[List.drop_zero,tL_] <;> first|rfl|(simp[cGTask,cI,cF,cGOp,cGEffect,cGTable,cB,cL_cB,cGCause,cL_cF] <;> fail))|(simp;omega)|(simp only[lM_,lA_,List.drop_zero,lC_,lN_,Nat.zero_add,Nat.add_zero]at *;omega))):P:=h
theorem ci_XNew {p K:Prop}(k:K)(h:p:=by first|rfl|exact⟨rfl,rfl⟩|exact BW.fr FrV.h|exact bw_fr2 rfl FrV.h|(refine BW.fr ?_;assumption)|(refine⟨rfl,?_⟩;(simp[cGTask,cI,cF,cGOp,cGEffect,cGTable,cB,cL_cB,cGCause,cL_cF,take_len_map];done))|(refine RowK.same ?_ FrI.h;first|rfl|(simp[cGTask,cI,cF,cGOp,cGEffect,cGTable,cB,cL_cB,cGCause,cL_cF,take_len_map];done))|(refine row_part1 ?_;(exact zb_XNew);done)|((exact zb_XNew);done)|(simp[cGTask,cI,cF,cGOp,cGEffect,cGTable,cB,cL_cB,cGCause,cL_cF,take_len_map];done)):p∧K:=⟨h,k⟩
theorem ca_XNew {P:Prop}(h:P:=by repeat (first|exact True.intro|refine ci_XNew ?_)):P:=h
theorem pr_XNew {p K:Prop}(k:K)(h:p:=by first|assumption|exact Int.natCast_nonneg _|exact Nat.le_refl _|exact Nat.zero_le _|omega|(simp;done)|(simp;omega)):p∧K:=⟨h,k⟩
theorem pl_XNew {p K:Prop}(k:K)(h:p:=by first|rfl|exact lM_ _|(simp;done)|(simp;omega)):p∧K:=⟨h,k⟩
theorem pe_XNew {p K:Prop}(k:K)(h:p:=by first|omega|(simp;omega)|(simp only[lM_,lC_,lN_,lA_];omega)|(simp only[lM_,List.drop_zero,lC_,lN_,Nat.zero_add,Nat.add_zero]at *;omega)):p∧K:=⟨h,k⟩
theorem dr_XNew {b:Bool}{p K:Prop}(k:K)(h:b=true→p:=by intro h;first|(cases h;done)|exact⟨by kernel_rfl,by kernel_rfl⟩):(b=true→p)∧K:=⟨h,k⟩
theorem cl_XNew {C:Cx}{n:Nat}{o:Oper}{τ:Nat→AV}{η:Nat→Ent}{f:FuncId}{os:Array Operand}{ats:Array TypeId}{r:AV}{args:List AV}{K:Foot→Prop}(ho:o.op=.call ⟨.value (.func f),os,ats⟩)(hc:ACall C f args r)(k:K ⟨r,[],[]⟩)
  (hd:InB n o.dst:=by exact bT2 rfl) (hargs:os.toList.map (evA τ)=args:=by first|rfl|(simp[cGTask,cI,cF,cGOp,cGEffect,cGTable,cB,cL_cB,cGCause,cL_cF];done)|(repeat (first|exact rfl|refine cons_eq ?_ ?_|exact sl_dt rfl))) (hfr:frs args:=by repeat (first|exact trivial|exact fr1_eA _|exact fr0_eA _|exact fr1_fr (by assumption)|exact FrV.h|exact fr1_fr FrV.h|refine And.intro ?_ ?_)) (hr:fr1 r:=by repeat (first|exact trivial|exact fr1_eA _|exact fr0_eA _|exact fr1_fr (by assumption)|exact FrV.h|exact fr1_fr FrV.h|refine And.intro ?_ ?_)):∃ f:Foot,LF C n o τ η f∧K f:=⟨_,lf_call ho hd hargs hc hfr hr,k⟩
theorem clf_XNew {C:Cx}{n:Nat}{o:Oper}{τ:Nat→AV}{η:Nat→Ent}{f:FuncId}{os:Array Operand}{ats:Array TypeId}{r:AV}{xs ys:List AV}{K:Foot→Prop}(us:List (Nat×Ent))(ho:o.op=.call ⟨.value (.func f),os,ats⟩)(hargs:os.toList.map (evA τ)=xs)(hc:ACall C f ys r)(k:K ⟨r,us,[]⟩)
  (hus:allUs η us:=by repeat (first|exact trivial|refine And.intro rfl ?_)) (hul:ltUs n us:=by repeat (first|exact trivial|refine And.intro (bT2 rfl) ?_)) (hd:InB n o.dst:=by exact bT2 rfl) (hb:BWL η (dropB η (us.map (·.1))) xs ys:=by exact zb_XNew) (hr:fr1 r:=by repeat (first|exact trivial|exact fr1_eA _|exact fr0_eA _|exact fr1_fr (by assumption)|exact FrV.h|exact fr1_fr FrV.h|refine And.intro ?_ ?_)):∃ f:Foot,LF C n o τ η f∧K f:=⟨_,lf_callF us (allUs_at hus) (ltUs_at hul) ho hd hargs hb hc hr,k⟩
theorem clg_XNew {C:Cx}{n:Nat}{o:Oper}{τ:Nat→AV}{η:Nat→Ent}{f:FuncId}{os:Array Operand}{ats:Array TypeId}{r:AV}{xs ys:List AV}{bs bs':List (Nat×Blk)}{ks:List Nat}{K:Foot→Prop}(ρ:List (Nat×Nat))(fz:List Nat)(go nb:List (Nat×Ent))(r':AV)(ho:o.op=.call ⟨.value (.func f),os,ats⟩)(hargs:os.toList.map (evA τ)=xs)
  (hc:ACallG C f ys bs ks r bs') (k:K ⟨r',go++nb,[]⟩) (hd:InB n o.dst:=by exact bT2 rfl) (hok:okC ρ fz bs ks bs' (idsE go)=true:=by rfl) (hgo:allUs η go:=by repeat (first|exact trivial|refine And.intro rfl ?_)) (hgl:ltUs n go:=by repeat (first|exact trivial|refine And.intro (bT2 rfl) ?_))
  (hw:GWL η (fE bs) (lk ρ) (fun i=>inB fz i=true) (fun i=>inB (keys bs) i=true) xs ys:=by exact zg_XNew) (hb:GBL η (fE bs) (lk ρ) (fun i=>inB fz i=true) (fun i=>inB (keys bs) i=true) bs:=by exact zg_XNew)
  (hr:GW (fE bs') (updAll η (go++nb)) (lk (backN ρ bs')) (fun _=>False) (fun i=>inB (idsE nb) i=true) r r':=by exact zg_XNew)
  (hnb:nbOk n η (updAll η (go++nb)) ρ ks (fE bs') (lk (backN ρ bs')) (fun i=>inB (idsE nb) i=true) bs' nb:=by repeat (first|exact True.intro|rfl|exact bT2 rfl|exact gb_nil rfl rfl|refine gb_some ⟨rfl,rfl,rfl⟩ ?_|refine And.intro ?_ ?_|refine gw_ren rfl rfl rfl rfl rfl ?_|exact gw_oren rfl rfl rfl rfl rfl|exact gw_opren rfl rfl rfl rfl rfl|exact gw_onil rfl rfl|exact gw_mren rfl rfl rfl rfl|refine gw_pren rfl rfl rfl rfl rfl|exact gw_thaw rfl rfl rfl|refine gw_tup ?_|exact GWL.nil|exact gwll_nil|exact gw_c|exact GW.sl|exact GW.nil|exact gwll_same rfl FrI.h|refine GWL.cons ?_ ?_|refine gwll_cons ?_ ?_|(refine gw_own3 rfl rfl rfl FrI.h ?_ ?_ ?_)|exact GW.fr FrV.h|exact gw_fr2 rfl FrV.h|exact GW.fr (by assumption)|refine gw_agg ?_|refine gw_clo ?_|refine gw_ptr rfl rfl rfl ?_|(refine gw_own rfl rfl rfl ?_ FrI.h ?_ ?_)|assumption|omega|rfl|(rw[lM_,← lA_];assumption)|(refine gwll_same ?_ FrI.h;(simp[cGTask,cI,cF,cGOp,cGEffect,cGTable,cB,cL_cB,cGCause,cL_cF] <;> fail))|(rw[List.map_set];refine gwll_set (by first|rfl|omega|simp) ?_ ?_)|refine gwll_set (by first|rfl|omega|simp) ?_ ?_|(rw[List.map_replicate];refine gwll_rep ?_)|refine gwll_rep ?_|(rw[List.map_append];refine gwll_append ?_ ?_)|refine gwll_append ?_ ?_|(simp[cGTask,cI,cF,cGOp,cGEffect,cGTable,cB,cL_cB,cGCause,cL_cF,take_len_map] <;> fail)|(rw[List.drop_zero,tL_] <;> first|rfl|(simp[cGTask,cI,cF,cGOp,cGEffect,cGTable,cB,cL_cB,cGCause,cL_cF] <;> fail))|(simp;omega)|(simp only[lM_,lA_,List.drop_zero,lC_,lN_,Nat.zero_add,Nat.add_zero]at *;omega))):∃ f:Foot,LF C n o τ η f∧K f:=⟨_,lf_callG ρ fz go nb ho hd hargs hc hok hgo hgl hw hb hr hnb,k⟩
def M_mutex_New_L1 (a0:GTask):Nat→Int→Int→(List Int)→Option (Int×(List Int))|0,_,_,_=>none|k25+1,v22,v23,v24=>sel (decide (v23<((a0.Vars.map cI).length:Int))) (ix a0.Vars v23 (fun y26=>grd ((v24.length+1)*8≤140737488355328) (M_mutex_New_L1 a0 k25 (IntKind.i64.wrap (v22+y26)) (IntKind.i64.wrap (v23+1)) (v24++[v22])))) (some (v22,v24))
def M_mutex_New_L2 (v14:Int):Nat→Int→(List (List Bool))→Option (List (List Bool))|0,_,_=>none|k38+1,v36,v37=>sel (decide (v36<v14)) (grd (0≤v14) (grd (v14*1≤281474976710656) (grd ((v37.length+1)*24≤140737488355328) (grd (v14.toNat≤140737488355328) (M_mutex_New_L2 v14 k38 (IntKind.i64.wrap (v36+1)) (v37++[(List.replicate v14.toNat false)])))))) (some v37)
def M_mutex_New_L3 (a0:GTask)(v15:List Int)(v32:List (List Bool))(v179:Int)(y195:Int)(z3:GTask):Nat→(List (List Bool))→Int→Option (List (List Bool))|0,_,_=>none|k204+1,v202,v203=>sel (decide (v203<((a0.Init.map cI).length:Int))) (ix a0.Init v203 (fun y205=>ob1 (M_set ({ t:=z3,first:=v15,reached:=v202:GTable }) (v179,y195) (v203,y205)) (fun z206=>M_mutex_New_L3 a0 v15 v32 v179 y195 z3 k204 z206 (IntKind.i64.wrap (v203+1))))) (some v202)
def M_mutex_New_L4 (a0:GTask)(v15:List Int)(v32:List (List Bool))(z3:GTask):Nat→(List (List Bool))→Int→Option (List (List Bool))|0,_,_=>none|k180+1,v178,v179=>sel (decide (v179<((a0.Init.map cI).length:Int))) (ob1 (ix a0.Init v179 (fun y195=>M_mutex_New_L3 a0 v15 v32 v179 y195 z3 ((((a0.Init.map cI).length:Int)).toNat+1) v178 0):Option (List (List Bool))) (fun v193=>M_mutex_New_L4 a0 v15 v32 z3 k180 v193 (IntKind.i64.wrap (v179+1)))) (some v178)
def M_mutex_New_L5 (g:Nat)(v15:List Int)(v32:List (List Bool))(z3:GTask)(z360:List (List Fact)):Nat→(List (List Bool))→Bool→Int→(List ((Int×Int×Int)×(Option GCause)))→Option (((List (List Bool))×Bool×(List ((Int×Int×Int)×(Option GCause))))⊕((Option GTable)×Er))|0,_,_,_,_=>none|k424+1,v420,v421,v422,v423=>sel (decide (v422<((z360.map cL_cF).length:Int))) (ix z360 v422 (fun y425=>ob3 (M_stratagem_mutex_Table_made g ({ t:=z3,first:=v15,reached:=v420:GTable }) y425 v423) (fun z426 z427 c428=>erM z427 (sel z426 (ix y425 0 (fun y430=>ix y425 (IntKind.i64.wrap (((y425.map cF).length:Int)-1)) (fun y431=>ob1 (M_set ({ t:=z3,first:=v15,reached:=v420:GTable }) y430 y431) (fun z432=>M_mutex_New_L5 g v15 v32 z3 z360 k424 z432 true (IntKind.i64.wrap (v422+1)) c428)))) (M_mutex_New_L5 g v15 v32 z3 z360 k424 v420 v421 (IntKind.i64.wrap (v422+1)) c428)) (fun e429=>some (.inr (none,(Er.no e429))))))) (some (.inl (v420,v421,v423)))
def M_mutex_New_L6 (g:Nat)(v15:List Int)(v32:List (List Bool))(z3:GTask):Nat→(List (List Bool))→Bool→(List ((Int×Int×Int)×(Option GCause)))→Option ((Option GTable)×Er)|0,_,_,_=>none|k359+1,v356,v357,v358=>sel v357 (ob1 (M_stratagem_mutex_Table_open ({ t:=z3,first:=v15,reached:=v356:GTable })) (fun z360=>ob1 (M_mutex_New_L5 g v15 v32 z3 z360 ((((z360.map cL_cF).length:Int)).toNat+1) v356 false 0 v358:Option (((List (List Bool))×Bool×(List ((Int×Int×Int)×(Option GCause))))⊕((Option GTable)×Er))) (osum (fun(v394,v395,v396)=>M_mutex_New_L6 g v15 v32 z3 k359 v394 v395 v396) (fun(r397,r398)=>some (r397,r398))))) (some ((some ({ t:=z3,first:=v15,reached:=v356:GTable })),Er.nil))
def M_mutex_New (g:Nat)(a0:GTask):Option ((Option GTable)×Er):=ob1 (M_task_Check a0) (fun z1=>erM z1 (ob1 (M_mutex_copied a0) (fun z3=>ob1 (M_mutex_New_L1 a0 ((((a0.Vars.map cI).length:Int)).toNat+1) 0 0 []:Option (Int×(List Int))) (fun(v14,v15)=>sel (decide (v14>512)) (some (none,(Er.no 5))) (ob1 (M_mutex_New_L2 v14 ((v14).toNat+1) 0 []:Option (List (List Bool))) (fun v32=>ob1 (grd (v15.length≤140737488355328) (grd (v32.length≤140737488355328) (M_mutex_New_L4 a0 v15 v32 z3 ((((a0.Init.map cI).length:Int)).toNat+1) v32 0)):Option (List (List Bool))) (fun v122=>M_mutex_New_L6 g v15 v32 z3 g v122 true [])))))) (fun e2=>some (none,(Er.no e2))))
set_option maxHeartbeats 16000000 in
set_option maxRecDepth 100000 in
theorem A_mutex_New (g:Nat)(a0:GTask){r1:Option GTable}{r2:Er}(h:M_mutex_New g a0=some (r1,r2)):ACall cx 13 [.agg [.sl 1 (a0.Vars.map cI),.sl 1 (a0.Init.map cI),.sl 2 (a0.Goal.map cF),.sl 4 (a0.Ops.map cGOp)]] (.tup [oGTable r1,eA r2]):=by
 refine acall_ofL Tryz.func13 rfl (by decide) rfl (bT2 rfl) (fun lo=>?_);intro _;unfold M_mutex_New at h;refine aSR ?_;intro _;refine dr_XNew (aSq (aSR ?_));intro _;obtain⟨z1,u1,h⟩:=ob1_ok h;refine cl_XNew rfl (A_task_Check a0 u1) ?_;intro _;refine dr_XNew (aSq ?_);rcases z1 with _|e2
 ·replace h:=erM_nil h;refine aRg ?_;intro _;refine dr_XNew (aCd ?_);intro _;refine litF (aSk (aSR ?_));intro _;obtain⟨z3,u2,h⟩:=ob1_ok h;refine cl_XNew rfl (A_mutex_copied a0 u2) ?_;intro _;refine dr_XNew (aSR ?_);intro _;refine dr_XNew ?_;obtain⟨o3,h,hK4⟩:=ob1_ok h;refine awp_cut (α:=Int×(List Int)) (fun(v14,v15)=>mkS 126 [(1,.ptr 1 0 0 0),(5,.ptr 27 0 0 0),(6,.c (.int .i64 v14))] [(1,⟨26,4,true,[[.sl 1 (a0.Vars.map cI),.sl 1 (a0.Init.map cI),.sl 2 (a0.Goal.map cF),.sl 4 (a0.Ops.map cGOp)]]⟩),(27,⟨80,6,true,[[.sl 1 (z3.Vars.map cI),.sl 1 (z3.Init.map cI),.sl 2 (z3.Goal.map cF),.sl 4 (z3.Ops.map cGOp),.own 42 0 0 v15.length,.c (.slice none 0 0)]]⟩),(42,⟨3,1,false,v15.map cI⟩)]) (fun v=>o3=v) ?_ ?_
  ·refine aSR ?_;intro _;refine dr_XNew (aBk ?_);refine awp_loop (α:=Nat×Int×Int×(List Int)) (fun x=>mkS 126 [(1,.ptr 1 0 0 0),(5,.ptr 27 0 0 0),(6,.c (.int .i64 x.2.1)),(29,.sl 1 (a0.Vars.map cI)),(30,.c (.int .i64 ((a0.Vars.map cI).length:Int))),(31,.c (.int .i64 x.2.2.1))] [(1,⟨26,4,true,[[.sl 1 (a0.Vars.map cI),.sl 1 (a0.Init.map cI),.sl 2 (a0.Goal.map cF),.sl 4 (a0.Ops.map cGOp)]]⟩),(27,⟨80,6,true,[[.sl 1 (z3.Vars.map cI),.sl 1 (z3.Init.map cI),.sl 2 (z3.Goal.map cF),.sl 4 (z3.Ops.map cGOp),.own 42 0 0 x.2.2.2.length,.c (.slice none 0 0)]]⟩),(42,⟨3,1,false,x.2.2.2.map cI⟩)]) (fun x=>M_mutex_New_L1 a0 x.1 x.2.1 x.2.2.1 x.2.2.2=some o3) (fun x=>x.1) ((((a0.Vars.map cI).length:Int)).toNat+1,0,0,[]) h ?_ ?_
   ·exact ca_XNew
   ·intro x5 h;intro _;obtain⟨k25,m6,h⟩:=succ_of (f:=fun n=>M_mutex_New_L1 a0 n x5.2.1 x5.2.2.1 x5.2.2.2) rfl h;replace h:M_mutex_New_L1 a0 (k25+1) x5.2.1 x5.2.2.1 x5.2.2.2=some o3:=h;rw[M_mutex_New_L1]at h;refine aSR ?_;intro _;refine dr_XNew (aSq (aCd ?_));intro _;refine spl h (fun c7 h=>?_) (fun c7 h=>?_)
    ·refine aSk (aSq (aBk (aSR ?_)));intro _;obtain⟨y26,w8,q9,h⟩:=ix_ok h;refine Exists.intro (cI y26) (And.intro (map_at' w8) ?_);intro _;refine pr_XNew (dr_XNew (aSR ?_));intro _;obtain⟨q10,h⟩:=grd_ok h;refine pl_XNew (pl_XNew ?_);refine And.intro (by first|with_reducible assumption|(show(x5.2.2.2.length+1)*8≤140737488355328;with_reducible assumption)|omega|(simp;omega)) ?_;refine pe_XNew (dr_XNew (aRg ?_));intro _;refine dr_XNew (aRg ?_);intro _;refine dr_XNew ?_;refine⟨(k25,(IntKind.i64.wrap (x5.2.1+y26)),(IntKind.i64.wrap (x5.2.2.1+1)),(x5.2.2.2++[x5.2.1])),h,ltS m6,?_⟩;exact ca_XNew
    ·refine aEx ?_;refine⟨(x5.2.1,x5.2.2.2),(sI_ h).symm,?_⟩;exact ca_XNew
  ·rintro⟨v14,v15⟩ ho;have ho:=ho.symm;subst ho;intro _;replace h:=hK4;refine aSq (aSR ?_);intro _;refine dr_XNew (aCd ?_);intro _;refine spl h (fun c11 h=>?_) (fun c11 h=>?_)
   ·refine aSR ?_;intro _;refine dr_XNew (aRt ?_);intro _;obtain⟨rfl,rfl⟩:=inj2 h;exact ca_XNew
   ·refine aSk ?_;obtain⟨o12,h,hK13⟩:=ob1_ok h;refine awp_cut (α:=Tab) (fun v32=>mkS 126 [(1,.ptr 1 0 0 0),(5,.ptr 27 0 0 0)] [(1,⟨26,4,true,[[.sl 1 (a0.Vars.map cI),.sl 1 (a0.Init.map cI),.sl 2 (a0.Goal.map cF),.sl 4 (a0.Ops.map cGOp)]]⟩),(27,⟨80,6,true,[[.sl 1 (z3.Vars.map cI),.sl 1 (z3.Init.map cI),.sl 2 (z3.Goal.map cF),.sl 4 (z3.Ops.map cGOp),.own 42 0 0 v15.length,.own 63 0 0 v32.length]]⟩),(42,⟨3,1,false,v15.map cI⟩),(63,⟨41,1,false,rwT lo 4 v32⟩)]) (fun v=>o12=v.map (·.2)∧((v).map (·.1)).Nodup) ?_ ?_
    ·refine aSR ?_;intro _;refine dr_XNew (aBk ?_);refine awp_loop (α:=Nat×Int×Tab) (fun x=>mkS 126 [(1,.ptr 1 0 0 0),(5,.ptr 27 0 0 0),(6,.c (.int .i64 v14)),(52,.c (.int .i64 v14)),(53,.c (.int .i64 x.2.1))] [(1,⟨26,4,true,[[.sl 1 (a0.Vars.map cI),.sl 1 (a0.Init.map cI),.sl 2 (a0.Goal.map cF),.sl 4 (a0.Ops.map cGOp)]]⟩),(27,⟨80,6,true,[[.sl 1 (z3.Vars.map cI),.sl 1 (z3.Init.map cI),.sl 2 (z3.Goal.map cF),.sl 4 (z3.Ops.map cGOp),.own 42 0 0 v15.length,.own 63 0 0 x.2.2.length]]⟩),(42,⟨3,1,false,v15.map cI⟩),(63,⟨41,1,false,rwT lo 4 x.2.2⟩)]) (fun x=>M_mutex_New_L2 v14 x.1 x.2.1 (x.2.2.map (·.2))=some o12∧((x.2.2).map (·.1)).Nodup) (fun x=>x.1) ((v14).toNat+1,0,[]) ⟨h,List.nodup_nil⟩ ?_ ?_
     ·exact ca_XNew
     ·intro x14 ⟨h,n2⟩;intro _;obtain⟨k38,m15,h⟩:=succ_of (f:=fun n=>M_mutex_New_L2 v14 n x14.2.1 (x14.2.2.map (·.2))) rfl h;replace h:M_mutex_New_L2 v14 (k38+1) x14.2.1 (x14.2.2.map (·.2))=some o12:=h;rw[M_mutex_New_L2]at h;refine aSR ?_;intro _;refine dr_XNew (aSq (aCd ?_));intro _;refine spl h (fun c16 h=>?_) (fun c16 h=>?_)
      ·refine aSk (aSq (aBk ?_));refine awp_regionO [6] ?_;intro _;intro _;obtain⟨q17,h⟩:=grd_ok h;obtain⟨q18,h⟩:=grd_ok h;obtain⟨q19,h⟩:=grd_ok h;obtain⟨q20,h⟩:=grd_ok h;rw[lM_]at q19;refine⟨rfl,_,lf_makeX rfl rfl (bT2 rfl) (tyTab_ok 41 _ rfl) rfl (tyTab_ok 4 _ rfl) rfl rfl rfl q17 (by show _*(1:Int)≤_;omega) (by omega) rfl (by simp only[Value.cells];simp[Value.oneCell']) (by decide),?_⟩;intro _;refine pl_XNew (pl_XNew ?_);refine And.intro (by first|with_reducible assumption|omega|(simp;omega)) ?_;refine pe_XNew (dr_XNew ?_);refine awp_reveal (lo:=lo) (T:=x14.2.2) 61 63 (fun w0 X h=>h) rfl rfl (by decide) (bT2 rfl) (fun b hb=>?_);intro _;refine aRg ?_;intro _;refine dr_XNew ?_;refine⟨(k38,(IntKind.i64.wrap (x14.2.1+1)),(x14.2.2++[(b,List.replicate v14.toNat false)])),⟨by rw[List.map_append];exact h,by rw[List.map_append,List.nodup_append];exact⟨n2,by simp,by intro a ha c hc;simp at hc;subst hc;intro e;subst e;exact hb ha⟩⟩,ltS m15,?_⟩;exact ca_XNew
      ·refine aEx ?_;refine⟨x14.2.2,⟨(sI_ h).symm,n2⟩,?_⟩;exact ca_XNew
    ·rintro T32 ⟨ho32,n32⟩;have e32:T32.length=o12.length:=(by rw[ho32,lM_]);intro _;replace h:=hK13;obtain⟨o21,h,hK22⟩:=ob1_ok h;refine awp_cut (α:=Tab) (fun v122=>mkS 126 [(5,.pim [.sl 1 ((z3.Vars).map cI),.sl 1 ((z3.Init).map cI),.sl 2 ((z3.Goal).map cF),.sl 4 ((z3.Ops).map cGOp),.sl 1 (v15.map cI),.sl 1 (rwT lo 4 v122)] 0)] []) (fun v=>o21=v.map (·.2)∧((v).map (·.1)).Nodup) ?_ ?_
     ·refine aSR ?_;intro _;refine dr_XNew (aBk ?_);obtain⟨q23,h⟩:=grd_ok h;obtain⟨q24,h⟩:=grd_ok h;refine awp_wk (mkS 126 [(1,.ptr 1 0 0 0),(5,.pim [.sl 1 ((z3.Vars).map cI),.sl 1 ((z3.Init).map cI),.sl 2 ((z3.Goal).map cF),.sl 4 ((z3.Ops).map cGOp),.sl 1 (v15.map cI),.sl 1 (rwT lo 4 T32)] 0),(68,.sl 1 (a0.Init.map cI)),(69,.c (.int .i64 ((a0.Init.map cI).length:Int))),(70,.c (.int .i64 0))] [(1,⟨26,4,true,[[.sl 1 (a0.Vars.map cI),.sl 1 (a0.Init.map cI),.sl 2 (a0.Goal.map cF),.sl 4 (a0.Ops.map cGOp)]]⟩)]) ?_ ?_
      ·repeat (first|exact True.intro|refine(ci_XNew ?_));refine And.intro (bw_ptr rfl rfl rfl (.cons (.fr FrV.h) (.cons (.fr FrV.h) (.cons (.fr FrV.h) (.cons (.fr FrV.h) (.cons (bw_own3 rfl rfl rfl FrI.h (bwll_same rfl FrI.h) (by simp) q23) (.cons (bw_own3 rfl rfl rfl FrI.h (bwll_same rfl FrI.h) (by rw[rwT_len]) (by omega)) .nil))))))) ?_;exact ca_XNew
      ·intro _;refine awp_loop (α:=Nat×Tab×Int) (fun x=>mkS 126 [(1,.ptr 1 0 0 0),(5,.pim [.sl 1 ((z3.Vars).map cI),.sl 1 ((z3.Init).map cI),.sl 2 ((z3.Goal).map cF),.sl 4 ((z3.Ops).map cGOp),.sl 1 (v15.map cI),.sl 1 (rwT lo 4 x.2.1)] 0),(68,.sl 1 (a0.Init.map cI)),(69,.c (.int .i64 ((a0.Init.map cI).length:Int))),(70,.c (.int .i64 x.2.2))] [(1,⟨26,4,true,[[.sl 1 (a0.Vars.map cI),.sl 1 (a0.Init.map cI),.sl 2 (a0.Goal.map cF),.sl 4 (a0.Ops.map cGOp)]]⟩)]) (fun x=>M_mutex_New_L4 a0 v15 o12 z3 x.1 (x.2.1.map (·.2)) x.2.2=some o21∧((x.2.1).map (·.1)).Nodup) (fun x=>x.1) ((((a0.Init.map cI).length:Int)).toNat+1,T32,0) ⟨by rw[← ho32];exact h,n32⟩ ?_ ?_
       ·exact ca_XNew
       ·intro x25 ⟨h,nx25⟩;intro _;obtain⟨k180,m26,h⟩:=succ_of (f:=fun n=>M_mutex_New_L4 a0 v15 o12 z3 n (x25.2.1.map (·.2)) x25.2.2) rfl h;replace h:M_mutex_New_L4 a0 v15 o12 z3 (k180+1) (x25.2.1.map (·.2)) x25.2.2=some o21:=h;rw[M_mutex_New_L4]at h;refine aSR ?_;intro _;refine dr_XNew (aSq (aCd ?_));intro _;refine spl h (fun c27 h=>?_) (fun c27 h=>?_)
        ·refine aSk ?_;obtain⟨o28,h,hK29⟩:=ob1_ok h;refine awp_cut (α:=Tab) (fun v193=>mkS 126 [(1,.ptr 1 0 0 0),(5,.pim [.sl 1 ((z3.Vars).map cI),.sl 1 ((z3.Init).map cI),.sl 2 ((z3.Goal).map cF),.sl 4 ((z3.Ops).map cGOp),.sl 1 (v15.map cI),.sl 1 (rwT lo 4 v193)] 0),(68,.sl 1 (a0.Init.map cI)),(69,.c (.int .i64 ((a0.Init.map cI).length:Int))),(70,.c (.int .i64 x25.2.2))] [(1,⟨26,4,true,[[.sl 1 (a0.Vars.map cI),.sl 1 (a0.Init.map cI),.sl 2 (a0.Goal.map cF),.sl 4 (a0.Ops.map cGOp)]]⟩)]) (fun v=>o28=v.map (·.2)∧((v).map (·.1)).Nodup) ?_ ?_
         ·refine aBk (aSR ?_);intro _;obtain⟨y195,w30,q31,h⟩:=ix_ok h;refine Exists.intro (cI y195) (And.intro (map_at' w30) ?_);intro _;refine pr_XNew (dr_XNew (aSR ?_));intro _;refine dr_XNew (aBk ?_);refine awp_loop (α:=Nat×Tab×Int) (fun x=>mkS 126 [(1,.ptr 1 0 0 0),(5,.pim [.sl 1 ((z3.Vars).map cI),.sl 1 ((z3.Init).map cI),.sl 2 ((z3.Goal).map cF),.sl 4 ((z3.Ops).map cGOp),.sl 1 (v15.map cI),.sl 1 (rwT lo 4 x.2.1)] 0),(9,.c (.int .i64 x25.2.2)),(10,.c (.int .i64 y195)),(68,.sl 1 (a0.Init.map cI)),(69,.c (.int .i64 ((a0.Init.map cI).length:Int))),(70,.c (.int .i64 x25.2.2)),(76,.sl 1 (a0.Init.map cI)),(77,.c (.int .i64 ((a0.Init.map cI).length:Int))),(78,.c (.int .i64 x.2.2))] [(1,⟨26,4,true,[[.sl 1 (a0.Vars.map cI),.sl 1 (a0.Init.map cI),.sl 2 (a0.Goal.map cF),.sl 4 (a0.Ops.map cGOp)]]⟩)]) (fun x=>M_mutex_New_L3 a0 v15 o12 x25.2.2 y195 z3 x.1 (x.2.1.map (·.2)) x.2.2=some o28∧((x.2.1).map (·.1)).Nodup) (fun x=>x.1) ((((a0.Init.map cI).length:Int)).toNat+1,x25.2.1,0) ⟨h,nx25⟩ ?_ ?_
          ·exact ca_XNew
          ·intro x32 ⟨h,nx32⟩;intro _;obtain⟨k204,m33,h⟩:=succ_of (f:=fun n=>M_mutex_New_L3 a0 v15 o12 x25.2.2 y195 z3 n (x32.2.1.map (·.2)) x32.2.2) rfl h;replace h:M_mutex_New_L3 a0 v15 o12 x25.2.2 y195 z3 (k204+1) (x32.2.1.map (·.2)) x32.2.2=some o28:=h;rw[M_mutex_New_L3]at h;refine aSR ?_;intro _;refine dr_XNew (aSq (aCd ?_));intro _;refine spl h (fun c34 h=>?_) (fun c34 h=>?_)
           ·refine aSk (aSq (aBk (aSR ?_)));intro _;obtain⟨y205,w35,q36,h⟩:=ix_ok h;refine Exists.intro (cI y205) (And.intro (map_at' w35) ?_);intro _;refine pr_XNew (dr_XNew ?_);refine awp_regionS [] 7 rfl ?_;intro _;obtain⟨z206,u37,h⟩:=ob1_ok h;refine And.intro (by intro h;first|(cases h;done)|exact⟨by kernel_rfl,by kernel_rfl,by kernel_rfl⟩) ?_;intro w0 X m a w hr;refine set_call (lo:=lo) (z:=({ t:=z3,first:=v15,reached:=x32.2.1.map (·.2):GTable })) (T:=x32.2.1) (a:=(x25.2.2,y195)) (b:=(x32.2.2,y205)) 5 (bT2 rfl) hr rfl rfl rfl rfl (bT2 rfl) rfl rfl rfl u37 nx32 (fun T2 e2 e1=>⟨?_,mkT 0 126 [(1,.ptr 1 0 0 0),(5,.pim [.sl 1 ((z3.Vars).map cI),.sl 1 ((z3.Init).map cI),.sl 2 ((z3.Goal).map cF),.sl 4 ((z3.Ops).map cGOp),.sl 1 (v15.map cI),.sl 1 (rwT lo 4 T2)] 0),(9,.c (.int .i64 x25.2.2)),(10,.c (.int .i64 y195)),(68,.sl 1 (a0.Init.map cI)),(69,.c (.int .i64 ((a0.Init.map cI).length:Int))),(70,.c (.int .i64 x25.2.2)),(76,.sl 1 (a0.Init.map cI)),(77,.c (.int .i64 ((a0.Init.map cI).length:Int))),(78,.c (.int .i64 x32.2.2))],?_,rfl,?_⟩)
            ·repeat (first|exact UHL.nil|refine UHL.none ?_|refine UHL.some (by first|exact us_box|exact us_map) ?_)
            ·repeat (first|exact USL.nil|refine USL.cons US.dead ?_|refine USL.cons US.c ?_|refine USL.cons (us_zT (z:=({ t:=z3,first:=v15,reached:=x32.2.1.map (·.2):GTable })) (lo:=lo) e1) ?_|refine USL.cons us_i ?_|refine USL.cons us_f ?_|refine USL.cons us_o ?_|refine USL.cons us_lf ?_|refine USL.cons (.ub .mp) ?_|refine USL.cons (.ub .ptr) ?_)
            intro m' a' w' hr';refine⟨⟨mkT 0 126 [(1,.ptr 1 0 0 0),(5,.pim [.sl 1 ((z3.Vars).map cI),.sl 1 ((z3.Init).map cI),.sl 2 ((z3.Goal).map cF),.sl 4 ((z3.Ops).map cGOp),.sl 1 (v15.map cI),.sl 1 (rwT lo 4 T2)] 0),(9,.c (.int .i64 x25.2.2)),(10,.c (.int .i64 y195)),(68,.sl 1 (a0.Init.map cI)),(69,.c (.int .i64 ((a0.Init.map cI).length:Int))),(70,.c (.int .i64 x25.2.2)),(76,.sl 1 (a0.Init.map cI)),(77,.c (.int .i64 ((a0.Init.map cI).length:Int))),(78,.c (.int .i64 x32.2.2))],_⟩,m',rfl,?_,hr'⟩;refine awp_wk (mkS 126 [(1,.ptr 1 0 0 0),(5,.pim [.sl 1 ((z3.Vars).map cI),.sl 1 ((z3.Init).map cI),.sl 2 ((z3.Goal).map cF),.sl 4 ((z3.Ops).map cGOp),.sl 1 (v15.map cI),.sl 1 (rwT lo 4 T2)] 0),(9,.c (.int .i64 x25.2.2)),(10,.c (.int .i64 y195)),(68,.sl 1 (a0.Init.map cI)),(69,.c (.int .i64 ((a0.Init.map cI).length:Int))),(70,.c (.int .i64 x25.2.2)),(76,.sl 1 (a0.Init.map cI)),(77,.c (.int .i64 ((a0.Init.map cI).length:Int))),(78,.c (.int .i64 x32.2.2))] [(1,⟨26,4,true,[[.sl 1 (a0.Vars.map cI),.sl 1 (a0.Init.map cI),.sl 2 (a0.Goal.map cF),.sl 4 (a0.Ops.map cGOp)]]⟩)]) ?_ ?_
            ·exact ca_XNew
            intro _;refine aRg ?_;intro _;refine dr_XNew ?_;refine⟨(k204,T2,(IntKind.i64.wrap (x32.2.2+1))),⟨by rw[e2];exact h,by rw[e1];exact nx32⟩,ltS m33,?_⟩;exact ca_XNew
           ·refine aEx ?_;refine⟨x32.2.1,⟨(sI_ h).symm,nx32⟩,?_⟩;exact ca_XNew
         ·rintro T193 ⟨ho193,n193⟩;intro _;replace h:=hK29;refine aRg ?_;intro _;refine dr_XNew ?_;refine⟨(k180,T193,(IntKind.i64.wrap (x25.2.2+1))),⟨by rw[← ho193];exact h,n193⟩,ltS m26,?_⟩;exact ca_XNew
        ·refine aEx ?_;refine⟨x25.2.1,⟨(sI_ h).symm,nx25⟩,?_⟩;exact ca_XNew
     ·rintro T122 ⟨ho122,n122⟩;intro _;replace h:=hK22;refine aSR ?_;intro _;refine⟨_,lf_mapnew k3 oGCause rfl rfl (bT2 rfl) rfl,?_⟩;intro _;refine dr_XNew (aSq (aSR ?_));intro _;refine dr_XNew (aBk ?_);refine awp_loop (α:=Nat×Tab×Bool×(List ((Int×Int×Int)×(Option GCause)))) (fun x=>mkS 126 [(5,.pim [.sl 1 ((z3.Vars).map cI),.sl 1 ((z3.Init).map cI),.sl 2 ((z3.Goal).map cF),.sl 4 ((z3.Ops).map cGOp),.sl 1 (v15.map cI),.sl 1 (rwT lo 4 x.2.1)] 0),(13,.mp 93 0),(14,.c (.bool x.2.2.1))] [(93,mB k3 oGCause x.2.2.2)]) (fun x=>M_mutex_New_L6 g v15 o12 z3 x.1 (x.2.1.map (·.2)) x.2.2.1 x.2.2.2=some (r1,r2)∧((x.2.1).map (·.1)).Nodup) (fun x=>x.1) (g,T122,true,[]) ⟨by rw[← ho122];exact h,n122⟩ ?_ ?_
      ·exact ca_XNew
      ·intro x38 ⟨h,nx38⟩;intro _;obtain⟨k359,m39,h⟩:=succ_of (f:=fun n=>M_mutex_New_L6 g v15 o12 z3 n (x38.2.1.map (·.2)) x38.2.2.1 x38.2.2.2) rfl h;replace h:M_mutex_New_L6 g v15 o12 z3 (k359+1) (x38.2.1.map (·.2)) x38.2.2.1 x38.2.2.2=some (r1,r2):=h;rw[M_mutex_New_L6]at h;refine aSq (aSR ?_);intro _;refine dr_XNew (aCd ?_);intro _;refine spl h (fun c40 h=>?_) (fun c40 h=>?_)
       ·refine aSk (aBk (aSR ?_));intro _;refine dr_XNew (aSR ?_);intro _;obtain⟨z360,u41,h⟩:=ob1_ok h;have cvo:∀ {η η':Nat→Ent},BWL η η' [.pim (cT ({ t:=z3,first:=v15,reached:=x38.2.1.map (·.2):GTable }) lo x38.2.1) 0] _:=.cons (.cv (cv_z rfl) FrV.h) .nil;refine clf_XNew [] rfl rfl (A_stratagem_mutex_Table_open ({ t:=z3,first:=v15,reached:=x38.2.1.map (·.2):GTable }) u41) ?_ (hb:=cvo);intro _;refine dr_XNew ?_;obtain⟨o42,h,hK43⟩:=ob1_ok h;refine awp_cutT (α:=Tab×Bool×(List ((Int×Int×Int)×(Option GCause)))) (fun(v394,v395,v396)=>mkS 126 [(5,.pim [.sl 1 ((z3.Vars).map cI),.sl 1 ((z3.Init).map cI),.sl 2 ((z3.Goal).map cF),.sl 4 ((z3.Ops).map cGOp),.sl 1 (v15.map cI),.sl 1 (rwT lo 4 v394)] 0),(13,.mp 93 0),(14,.c (.bool v395))] [(93,mB k3 oGCause v396)]) (fun v=>o42=(.inl (v.1.map (·.2),v.2.1,v.2.2))∧((v.1).map (·.1)).Nodup) ?_ ?_
        ·refine aBk ?_;refine awp_loop (α:=Nat×Tab×Bool×Int×(List ((Int×Int×Int)×(Option GCause)))) (fun x=>mkS 126 [(5,.pim [.sl 1 ((z3.Vars).map cI),.sl 1 ((z3.Init).map cI),.sl 2 ((z3.Goal).map cF),.sl 4 ((z3.Ops).map cGOp),.sl 1 (v15.map cI),.sl 1 (rwT lo 4 x.2.1)] 0),(13,.mp 93 0),(14,.c (.bool x.2.2.1)),(96,.sl 1 (z360.map cL_cF)),(97,.c (.int .i64 ((z360.map cL_cF).length:Int))),(98,.c (.int .i64 x.2.2.2.1))] [(93,mB k3 oGCause x.2.2.2.2)]) (fun x=>M_mutex_New_L5 g v15 o12 z3 z360 x.1 (x.2.1.map (·.2)) x.2.2.1 x.2.2.2.1 x.2.2.2.2=some o42∧((x.2.1).map (·.1)).Nodup) (fun x=>x.1) ((((z360.map cL_cF).length:Int)).toNat+1,x38.2.1,false,0,x38.2.2.2) ⟨h,nx38⟩ ?_ ?_
         ·exact ca_XNew
         ·intro x44 ⟨h,nx44⟩;intro _;obtain⟨k424,m45,h⟩:=succ_of (f:=fun n=>M_mutex_New_L5 g v15 o12 z3 z360 n (x44.2.1.map (·.2)) x44.2.2.1 x44.2.2.2.1 x44.2.2.2.2) rfl h;replace h:M_mutex_New_L5 g v15 o12 z3 z360 (k424+1) (x44.2.1.map (·.2)) x44.2.2.1 x44.2.2.2.1 x44.2.2.2.2=some o42:=h;rw[M_mutex_New_L5]at h;refine aSR ?_;intro _;refine dr_XNew (aSq (aCd ?_));intro _;refine spl h (fun c46 h=>?_) (fun c46 h=>?_)
          ·refine aSk (aSq (aBk (aSR ?_)));intro _;obtain⟨y425,w47,q48,h⟩:=ix_ok h;refine Exists.intro (cL_cF y425) (And.intro (map_at' w47) ?_);intro _;refine pr_XNew (dr_XNew (aSR ?_));intro _;obtain⟨z426,z427,c428,u49,h⟩:=ob3_ok h;have cvm:Cv (.pim (cT ({ t:=z3,first:=v15,reached:=x44.2.1.map (·.2):GTable }) lo x44.2.1) 0) _:=cv_z rfl;have mA:ACallG (cxL cx lo) _ _ _ _ _ _:=toL (A_stratagem_mutex_Table_made g ({ t:=z3,first:=v15,reached:=x44.2.1.map (·.2):GTable }) y425 x44.2.2.2.2 u49);refine clg_XNew [(78,93)] [] [] [(93,⟨0,some (mB k3 oGCause c428)⟩)] (.tup [.c (.bool z426),eA z427]) rfl rfl mA ?_ (hw:=by refine GWL.cons (.cv cvm FrV.h) ?_;refine GWL.cons (gw_fr2 rfl FrV.h) ?_;refine GWL.cons (gw_mren rfl rfl rfl rfl) ?_;exact GWL.nil);intro _;refine dr_XNew (aSq (aSq ?_));rcases z427 with _|e429
           ·replace h:=erM_nil h;refine aRg ?_;intro _;refine dr_XNew (aCd ?_);intro _;refine litF (aSk (aSR ?_));intro _;refine dr_XNew (aCd ?_);intro _;refine spl h (fun c50 h=>?_) (fun c50 h=>?_)
            ·refine aSq ?_;refine awp_regionS [] 10 rfl ?_;intro _;obtain⟨y430,w51,q52,h⟩:=ix_ok h;refine Exists.intro (cF y430) (And.intro (map_at' w51) ?_);intro _;obtain⟨y431,w53,q54,h⟩:=ix_ok h;refine Exists.intro (cF y431) (And.intro (map_at' w53) ?_);intro _;obtain⟨z432,u55,h⟩:=ob1_ok h;refine pr_XNew (pr_XNew ?_);refine And.intro (by intro h;first|(cases h;done)|exact⟨by kernel_rfl,by kernel_rfl,by kernel_rfl⟩) ?_;intro w0 X m a w hr;refine set_call (lo:=lo) (z:=({ t:=z3,first:=v15,reached:=x44.2.1.map (·.2):GTable })) (T:=x44.2.1) (a:=y430) (b:=y431) 5 (bT2 rfl) hr rfl rfl rfl rfl (bT2 rfl) rfl rfl rfl u55 nx44 (fun T2 e2 e1=>⟨?_,mkT 0 126 [(5,.pim [.sl 1 ((z3.Vars).map cI),.sl 1 ((z3.Init).map cI),.sl 2 ((z3.Goal).map cF),.sl 4 ((z3.Ops).map cGOp),.sl 1 (v15.map cI),.sl 1 (rwT lo 4 T2)] 0),(13,.mp 93 0),(96,.sl 1 (z360.map cL_cF)),(97,.c (.int .i64 ((z360.map cL_cF).length:Int))),(98,.c (.int .i64 x44.2.2.2.1))],?_,rfl,?_⟩)
             ·repeat (first|exact UHL.nil|refine UHL.none ?_|refine UHL.some (by first|exact us_box|exact us_map) ?_)
             ·repeat (first|exact USL.nil|refine USL.cons US.dead ?_|refine USL.cons US.c ?_|refine USL.cons (us_zT (z:=({ t:=z3,first:=v15,reached:=x44.2.1.map (·.2):GTable })) (lo:=lo) e1) ?_|refine USL.cons us_i ?_|refine USL.cons us_f ?_|refine USL.cons us_o ?_|refine USL.cons us_lf ?_|refine USL.cons (.ub .mp) ?_|refine USL.cons (.ub .ptr) ?_)
             intro m' a' w' hr';refine⟨⟨mkT 0 126 [(5,.pim [.sl 1 ((z3.Vars).map cI),.sl 1 ((z3.Init).map cI),.sl 2 ((z3.Goal).map cF),.sl 4 ((z3.Ops).map cGOp),.sl 1 (v15.map cI),.sl 1 (rwT lo 4 T2)] 0),(13,.mp 93 0),(96,.sl 1 (z360.map cL_cF)),(97,.c (.int .i64 ((z360.map cL_cF).length:Int))),(98,.c (.int .i64 x44.2.2.2.1))],_⟩,m',rfl,?_,hr'⟩;refine awp_wk (mkS 126 [(5,.pim [.sl 1 ((z3.Vars).map cI),.sl 1 ((z3.Init).map cI),.sl 2 ((z3.Goal).map cF),.sl 4 ((z3.Ops).map cGOp),.sl 1 (v15.map cI),.sl 1 (rwT lo 4 T2)] 0),(13,.mp 93 0),(96,.sl 1 (z360.map cL_cF)),(97,.c (.int .i64 ((z360.map cL_cF).length:Int))),(98,.c (.int .i64 x44.2.2.2.1))] [(93,mB k3 oGCause c428)]) ?_ ?_
             ·exact ca_XNew
             intro _;refine aRg ?_;intro _;refine dr_XNew (aRg ?_);intro _;refine dr_XNew ?_;refine⟨(k424,T2,true,(IntKind.i64.wrap (x44.2.2.2.1+1)),c428),⟨by rw[e2];exact h,by rw[e1];exact nx44⟩,ltS m45,?_⟩;exact ca_XNew
            ·refine aSk (aRg ?_);intro _;refine dr_XNew ?_;refine⟨(k424,x44.2.1,x44.2.2.1,(IntKind.i64.wrap (x44.2.2.2.1+1)),c428),⟨h,nx44⟩,ltS m45,?_⟩;exact ca_XNew
           ·replace h:=erM_no h;refine aRg ?_;intro _;refine dr_XNew (aCd ?_);intro _;refine litT (aSR ?_);intro _;refine dr_XNew (aRt ?_);have j56:=sI_ h;subst j56;replace h:=(osum_r hK43);intro _;obtain⟨rfl,rfl⟩:=inj2 h;exact ca_XNew
          ·refine aEx ?_;refine⟨(x44.2.1,x44.2.2.1,x44.2.2.2.2),⟨(sI_ h).symm,nx44⟩,?_⟩;exact ca_XNew
        ·rintro⟨v394,v395,v396⟩ ⟨ho,n394⟩;have ho:=ho.symm;subst ho;intro _;replace h:=(osum_l hK43);refine⟨(k359,v394,v395,v396),⟨h,n394⟩,ltS m39,?_⟩;exact ca_XNew
       ·refine aEx (aSR ?_);intro _;refine dr_XNew (aRt ?_);intro _;obtain⟨rfl,rfl⟩:=inj2 h;repeat (first|exact True.intro|refine And.intro (BW.cv (cv_z (z:=({ t:=z3,first:=v15,reached:=x38.2.1.map (·.2):GTable })) (lo:=lo) (T:=x38.2.1) rfl) FrV.h) ?_|refine ci_XNew ?_)
 ·replace h:=erM_no h;refine aRg ?_;intro _;refine dr_XNew (aCd ?_);intro _;refine litT (aSR ?_);intro _;refine dr_XNew (aRt ?_);intro _;obtain⟨rfl,rfl⟩:=inj2 h;exact ca_XNew
end Go.Proofs.YtinnphmnhmdcgaaGreat.Am
namespace Go.Proofs.YtinnphmnhmdcgaaGreat.Am
def M_mutex_New_L1_B (_:GTask)(_y26:Int)(_:Int):((Int)×(List Int))→(((Int)×(List Int))→Option (Int×(List Int)))→Option (Int×(List Int)):=fun(v22,v24) rc=>ixv _y26 (fun y26=>grd ((v24.length+1)*8≤140737488355328) (rc ((IntKind.i64.wrap (v22+y26)),(v24++[v22]))))
def M_mutex_New_L1_E (_:GTask):((Int)×(List Int))→Option (Int×(List Int)):=fun(v22,v24)=>some (v22,v24)
theorem M_mutex_New_L1_eq (a0:GTask)(v22:Int)(v24:List Int)(hl:a0.Vars.length<9223372036854775807):M_mutex_New_L1 a0 (((a0.Vars.map cI).length:Int).toNat+1) v22 0 v24=Rg (M_mutex_New_L1_B a0) (M_mutex_New_L1_E a0) a0.Vars 0 (v22,v24):=rg_e1 (L:=fun k i p=>match p with|(v22,v24)=>M_mutex_New_L1 a0 k v22 i v24) hl (fun _ _ ⟨_,_⟩=>rfl) (v22,v24)
def M_mutex_New_L2_B (v14:Int)(_:Int):((List (List Bool)))→(((List (List Bool)))→Option (List (List Bool)))→Option (List (List Bool)):=fun v37 rc=>grd (0≤v14) (grd (v14*1≤281474976710656) (grd ((v37.length+1)*24≤140737488355328) (grd (v14.toNat≤140737488355328) (rc ((v37++[(List.replicate v14.toNat false)]))))))
def M_mutex_New_L2_E (_:Int):((List (List Bool)))→Option (List (List Bool)):=fun v37=>some v37
theorem M_mutex_New_L2_eq (v14:Int)(v37:List (List Bool)){m:Nat}(hm:v14=(m:Int))(hl:m<9223372036854775807):M_mutex_New_L2 v14 ((v14).toNat+1) 0 v37=Rn (M_mutex_New_L2_B v14) (M_mutex_New_L2_E v14) m 0 v37:=rn_e (L:=fun k i v37=>M_mutex_New_L2 v14 k i v37) hm hl (fun _ _ _=>rfl) v37
def M_mutex_New_L3_B (_:GTask)(v15:List Int)(v32:List (List Bool))(v179:Int)(y195:Int)(z3:GTask)(_y205:Int)(v203:Int):((List (List Bool)))→(((List (List Bool)))→Option (List (List Bool)))→Option (List (List Bool)):=fun v202 rc=>ixv _y205 (fun y205=>ob1 (M_set ({ t:=(({ t:=z3,first:=v15,reached:=v32:GTable }).t),first:=({ t:=z3,first:=v15,reached:=v32:GTable }).first,reached:=v202:GTable }) (v179,y195) (v203,y205)) (fun z206=>rc (z206)))
def M_mutex_New_L3_E (_:GTask)(_:List Int)(_:List (List Bool))(_:Int)(_:Int)(_:GTask):((List (List Bool)))→Option (List (List Bool)):=fun v202=>some v202
theorem M_mutex_New_L3_eq (a0:GTask)(v15:List Int)(v32:List (List Bool))(v179:Int)(y195:Int)(z3:GTask)(v202:List (List Bool))(hl:a0.Init.length<9223372036854775807):M_mutex_New_L3 a0 v15 v32 v179 y195 z3 (((a0.Init.map cI).length:Int).toNat+1) v202 0=Rg (M_mutex_New_L3_B a0 v15 v32 v179 y195 z3) (M_mutex_New_L3_E a0 v15 v32 v179 y195 z3) a0.Init 0 v202:=rg_e1 (L:=fun k i v202=>M_mutex_New_L3 a0 v15 v32 v179 y195 z3 k v202 i) hl (fun _ _ _=>rfl) v202
def M_mutex_New_L4_B (a0:GTask)(v15:List Int)(v32:List (List Bool))(z3:GTask)(_y195:Int)(v179:Int):((List (List Bool)))→(((List (List Bool)))→Option (List (List Bool)))→Option (List (List Bool)):=fun v178 rc=>ob1 (ixv _y195 (fun y195=>M_mutex_New_L3 a0 v15 v32 v179 y195 z3 ((((a0.Init.map cI).length:Int)).toNat+1) v178 0):Option (List (List Bool))) (fun v193=>rc (v193))
def M_mutex_New_L4_E (_:GTask)(_:List Int)(_:List (List Bool))(_:GTask):((List (List Bool)))→Option (List (List Bool)):=fun v178=>some v178
theorem M_mutex_New_L4_eq (a0:GTask)(v15:List Int)(v32:List (List Bool))(z3:GTask)(v178:List (List Bool))(hl:a0.Init.length<9223372036854775807):M_mutex_New_L4 a0 v15 v32 z3 (((a0.Init.map cI).length:Int).toNat+1) v178 0=Rg (M_mutex_New_L4_B a0 v15 v32 z3) (M_mutex_New_L4_E a0 v15 v32 z3) a0.Init 0 v178:=rg_e2 (L:=fun k i v178=>M_mutex_New_L4 a0 v15 v32 z3 k v178 i) hl (fun k n p y hy h1 h2=>by first|(simp only[M_mutex_New_L4,M_mutex_New_L4_B,lM_,decide_lt h1,sel,ix_at hy,ixv,h2];done)|(simp only[lM_]at h1 hy;(simp only[M_mutex_New_L4,M_mutex_New_L4_B,lM_,decide_lt h1,sel,ix_at hy,ixv,h2];done))) (fun k p=>by simp only[M_mutex_New_L4,M_mutex_New_L4_E,lM_,decide_ge,sel]) v178
def M_mutex_New_L5_B (g:Nat)(v15:List Int)(v32:List (List Bool))(z3:GTask)(_:List (List Fact))(_y425:List Fact)(_:Int):((List (List Bool))×(Bool)×(List ((Int×Int×Int)×(Option GCause))))→(((List (List Bool))×(Bool)×(List ((Int×Int×Int)×(Option GCause))))→Option (((List (List Bool))×Bool×(List ((Int×Int×Int)×(Option GCause))))⊕((Option GTable)×Er)))→Option (((List (List Bool))×Bool×(List ((Int×Int×Int)×(Option GCause))))⊕((Option GTable)×Er)):=fun(v420,v421,v423) rc=>ixv _y425 (fun y425=>ob3 (M_stratagem_mutex_Table_made g ({ t:=(({ t:=z3,first:=v15,reached:=v32:GTable }).t),first:=({ t:=z3,first:=v15,reached:=v32:GTable }).first,reached:=v420:GTable }) y425 v423) (fun z426 z427 c428=>erM z427 (sel z426 (ix y425 0 (fun y430=>ix y425 (IntKind.i64.wrap (((y425.map cF).length:Int)-1)) (fun y431=>ob1 (M_set ({ t:=(({ t:=z3,first:=v15,reached:=v32:GTable }).t),first:=({ t:=z3,first:=v15,reached:=v32:GTable }).first,reached:=v420:GTable }) y430 y431) (fun z432=>rc (z432,true,c428))))) (rc (v420,v421,c428))) (fun e429=>some (.inr (none,(Er.no e429))))))
def M_mutex_New_L5_E (_:Nat)(_:List Int)(_:List (List Bool))(_:GTask)(_:List (List Fact)):((List (List Bool))×(Bool)×(List ((Int×Int×Int)×(Option GCause))))→Option (((List (List Bool))×Bool×(List ((Int×Int×Int)×(Option GCause))))⊕((Option GTable)×Er)):=fun(v420,v421,v423)=>some (.inl (v420,v421,v423))
theorem M_mutex_New_L5_eq (g:Nat)(v15:List Int)(v32:List (List Bool))(z3:GTask)(z360:List (List Fact))(v420:List (List Bool))(v421:Bool)(v423:List ((Int×Int×Int)×(Option GCause)))(hl:z360.length<9223372036854775807):M_mutex_New_L5 g v15 v32 z3 z360 (((z360.map cL_cF).length:Int).toNat+1) v420 v421 0 v423=Rg (M_mutex_New_L5_B g v15 v32 z3 z360) (M_mutex_New_L5_E g v15 v32 z3 z360) z360 0 (v420,v421,v423):=rg_e1 (L:=fun k i p=>match p with|(v420,v421,v423)=>M_mutex_New_L5 g v15 v32 z3 z360 k v420 v421 i v423) hl (fun _ _ ⟨_,_,_⟩=>rfl) (v420,v421,v423)
end Go.Proofs.YtinnphmnhmdcgaaGreat.Am
namespace Go.Proofs.YtinnphmnhmdcgaaGreat.Am
open Go.RowKit
theorem cloneF_eq {l:List Fact}(h:l.length≤1000):M_cloneF l=some l:=grd_t (by omega)
theorem cloneI_eq {l:List Int}(h:l.length≤1000):M_cloneI l=some l:=grd_t (by omega)
theorem cop1 (o:GOp):∀ (r:List GEffect)(i:Int)(v:List GEffect),(∀ e∈r,e.When.length≤64)→v.length+r.length≤100000→Rg (M_mutex_copied_L1_B o) (M_mutex_copied_L1_E o) r i v=some (v++r)
 | [],_,v,_,_=>by simp[Rg,M_mutex_copied_L1_E]
 | e :: r,i,v,h,hl=>by
  rw[lC_]at hl
  have he:=h e (mS_ ..)
  rw[Rg,M_mutex_copied_L1_B,ixv,cloneF_eq (by omega),ob1_some,grd_t (by omega),grd_t (by omega),cop1 o r (i+1) _ (fun u hu=>h u (mC_ _ hu)) (by rw[lA_,List.length_singleton];omega),List.append_assoc]
  rfl
theorem cop2 (t:GTask)(z1 z2:List Int)(z3:List Fact)(h3:z3.length≤1000):∀ (r:List GOp)(i:Int)(v:List GOp),(∀ o∈r,o.Pre.length≤64∧o.Effs.length≤64∧∀ e∈o.Effs,e.When.length≤64)→v.length+r.length≤100000→Rg (M_mutex_copied_L2_B t z1 z2 z3) (M_mutex_copied_L2_E t z1 z2 z3) r i v=some { Vars:=z1,Init:=z2,Goal:=z3,Ops:=v++r }
 | [],_,v,_,hl=>by
  rw[lN_]at hl
  rw[Rg,M_mutex_copied_L2_E,grd_t (by omega),grd_t (by omega),List.append_nil]
 | o :: r,i,v,h,hl=>by
  rw[lC_]at hl
  obtain⟨h1,h2,h4⟩:=h o (mS_ ..)
  rw[Rg,M_mutex_copied_L2_B,ixv,cloneF_eq (by omega),ob1_some,M_mutex_copied_L1_eq o [] (by omega),cop1 o o.Effs 0 [] h4 (by rw[lN_];omega),ob1_some,List.nil_append,grd_t (by omega),grd_t (by omega),grd_t (by omega),ob1_some,cop2 t z1 z2 z3 h3 r (i+1) _ (fun u hu=>h u (mC_ _ hu)) (by rw[lA_,List.length_singleton];omega),List.append_assoc]
  rfl
theorem copied_eq {t:GTask}(hg:goodF t=true):M_mutex_copied t=some t:=by
 have ok:=good_ok hg
 have hg2:=hg
 unfold goodF at hg2
 simp only[bA_,decide_eq_true_iff]at hg2
 obtain⟨⟨g1,g2⟩,-,g3,g4,-⟩:=hg2
 have hi:t.Init.length=t.Vars.length:=Decidable.byContradiction fun h=>by rw[stateF_len (fun e=>h e.symm)]at g3;cases g3
 have hgl:=propF_len' g4
 rw[M_mutex_copied,cloneI_eq (by omega),ob1_some,cloneI_eq (by omega),ob1_some,cloneF_eq (by omega),ob1_some,M_mutex_copied_L2_eq _ _ _ _ _ (by omega),cop2 t _ _ _ (by omega) t.Ops 0 [] (fun o ho=>by
  have oo:=good_op hg ho
  have:=propF_len' oo.pre
  refine⟨by omega,oo.effs,fun e he=>?_⟩
  have:=propF_len' (oo.when e he)
  omega) (by rw[lN_];omega),List.nil_append]
theorem new1 (t:GTask):∀ (r:List Int)(i v22:Int)(v24:List Int),(∀ k∈r,1≤k∧k≤64)→0≤v22→v22+64*r.length≤100000→v24.length+r.length≤1000→Rg (M_mutex_New_L1_B t) (M_mutex_New_L1_E t) r i (v22,v24)=some (v22+sumI r,v24++offG v22 r)
 | [],i,v22,v24,_,_,_,_=>by simp[Rg,M_mutex_New_L1_E,sumI,offG]
 | k :: r,i,v22,v24,h,h0,h1,h2=>by
  rw[lC_]at h1 h2
  have hk:=h k (mS_ ..)
  rw[Rg,M_mutex_New_L1_B,ixv,grd_t (by omega),wrap_eq (by omega) (by omega),new1 t r (i+1) (v22+k) _ (fun u hu=>h u (mC_ _ hu)) (by omega) (by omega) (by rw[lA_,List.length_singleton];omega),sumI,offG,List.append_assoc,Int.add_assoc]
  rfl
theorem new2 (m:Nat)(hm:m≤512):∀ (k:Nat)(i:Int)(v:List (List Bool)),v.length+k≤1000→Rn (M_mutex_New_L2_B (m:Int)) (M_mutex_New_L2_E (m:Int)) k i v=some (v++List.replicate k (List.replicate m false))
 | 0,i,v,_=>by simp[Rn,M_mutex_New_L2_E]
 | k+1,i,v,h=>by
  rw[Rn,M_mutex_New_L2_B,grd_t (by omega),grd_t (by omega),grd_t (by omega),grd_t (by omega),new2 m hm k (i+1) _ (by rw[lA_,List.length_singleton];omega),Int.toNat_natCast,List.append_assoc,List.replicate_succ]
  rfl
def zeroR (t:GTask):List (List Bool):=List.replicate (sumI t.Vars).toNat (List.replicate (sumI t.Vars).toNat false)
theorem zero_rk {t:GTask}(hz:Sz t):RkR t (zeroR t):=by
 have:=sumI_nn hz.pos
 refine⟨by rw[zeroR,lR_];omega,fun r hr=>?_⟩
 rw[List.eq_of_mem_replicate hr,zeroR,lR_,lR_]
theorem zero_is (t:GTask)(a b:Fact):isF t (zeroR t) a b=false:=by
 unfold isF atR zeroR
 rw[gD_,gD_,List.getElem?_replicate]
 split
 ·rw[Option.getD_some,List.getElem?_replicate]
  split <;> rfl
 ·simp
theorem zero_sy (t:GTask):SyR t (zeroR t):=fun a b _ _=>by rw[zero_is,zero_is]
def stG : List Int→Int→List Fact
 | [],_=>[]
 | x :: r,i=>(i,x) :: stG r (i+1)
theorem stG_mem {f:Fact}:∀ (r:List Int)(i:Int),f∈stG r i↔i≤f.1∧f.1<i+r.length∧r.getD (f.1-i).toNat 0=f.2
 | [],i=>by simp[stG] <;> (intros;omega)
 | x :: r,i=>by
  rw[stG,List.mem_cons,stG_mem r (i+1),lC_]
  by_cases he:f.1=i
  ·rw[show(f.1-i).toNat=0 from by omega,List.getD_cons_zero]
   constructor
   ·rintro(h|h)
    ·rw[h];exact⟨by simp,by simp;omega,rfl⟩
    ·omega
   ·rintro⟨_,_,h⟩
    exact .inl (Prod.ext he h.symm)
  ·constructor
   ·rintro(h|⟨h1,h2,h3⟩)
    ·exact absurd (congrArg Prod.fst h) he
    ·rw[show(f.1-i).toNat=(f.1-(i+1)).toNat+1 from by omega,List.getD_cons_succ]
     exact⟨by omega,by omega,h3⟩
   ·rintro⟨h1,h2,h3⟩
    rw[show(f.1-i).toNat=(f.1-(i+1)).toNat+1 from by omega,List.getD_cons_succ]at h3
    exact .inr ⟨by omega,by omega,h3⟩
theorem stG_hold {s:List Int}{f:Fact}:f∈stG s 0↔hold1 s f=true:=by
 rw[stG_mem,hold1_iff,Int.sub_zero,Int.zero_add]
theorem hold_in {vars s:List Int}(hs:StP vars s){f:Fact}(h:hold1 s f=true):InV vars f:=by
 obtain⟨h1,h2,h3⟩:=hold1_iff.1 h
 have hl:=hs.len
 obtain⟨r1,r2⟩:=hs.rng f.1.toNat (by omega)
 exact⟨h1,by omega,by omega,by omega⟩
theorem drop_hold {s r:List Int}{n:Nat}(hd:s.drop n=r):∀ f∈stG r n,f∈stG s 0:=fun f hf=>by
 rw[stG_mem]at hf ⊢
 obtain⟨h1,h2,h3⟩:=hf
 have hl:r.length=s.length-n:=by rw[← hd,List.length_drop]
 refine⟨by omega,by omega,?_⟩
 rw[← h3,← hd,gD_,gD_,List.getElem?_drop]
 congr 2
 omega
section
variable {t : GTask} (hz : Sz t) (hst : StP t.Vars t.Init)
include hz hst
theorem new3 (v32:List (List Bool)){a:Fact}(ha:InV t.Vars a):∀ (r:List Int)(n:Nat)(R:List (List Bool)),t.Init.drop n=r→RkR t R→SyR t R→∃ R',Rg (M_mutex_New_L3_B t (offG 0 t.Vars) v32 a.1 a.2 t) (M_mutex_New_L3_E t (offG 0 t.Vars) v32 a.1 a.2 t) r n R=some R'∧RkR t R'∧SyR t R'∧∀ c d,InV t.Vars c→InV t.Vars d→(isF t R' c d=true↔isF t R c d=true∨(c=a∧d∈stG r n)∨(d=a∧c∈stG r n))
 | [],n,R,_,hR,hS=>⟨R,rfl,hR,hS,fun c d _ _=>by simp[stG]⟩
 | x :: r,n,R,hd,hR,hS=>by
  obtain⟨h1,h2,h3⟩:=drop_cons hd
  have hb:InV t.Vars ((n:Int),x):=hold_in hst (stG_hold.1 (drop_hold hd _ (mS_ ..)))
  obtain⟨R',e,k1,k2,k3⟩:=new3 v32 ha r (n+1) (putF t R a ((n:Int),x)) h2 (hR.put _ _) (put_sym hR hz.pos hS ha hb)
  refine⟨R',?_,k1,k2,fun c d hc hd'=>?_⟩
  ·have hset:M_set (tbl t R) a ((n:Int),x)=some (putF t R a ((n:Int),x)):=set_eq (tb_of hz hR) ha hb
   rw[Rg,M_mutex_New_L3_B,ixv]
   show ob1 (M_set (tbl t R) a ((n:Int),x)) _=_
   rw[hset,ob1_some]
   exact e
  ·rw[k3 c d hc hd',put_is hR hz.pos ha hb hc hd',stG,List.mem_cons,List.mem_cons]
   constructor
   ·rintro((h|⟨h,h'⟩|⟨h,h'⟩)|⟨h,h'⟩|⟨h,h'⟩)
    ·exact .inl h
    ·exact .inr (.inl ⟨h,.inl h'⟩)
    ·exact .inr (.inr ⟨h',.inl h⟩)
    ·exact .inr (.inl ⟨h,.inr h'⟩)
    ·exact .inr (.inr ⟨h,.inr h'⟩)
   ·rintro(h|⟨h,h'|h'⟩|⟨h,h'|h'⟩)
    ·exact .inl (.inl h)
    ·exact .inl (.inr (.inl ⟨h,h'⟩))
    ·exact .inr (.inl ⟨h,h'⟩)
    ·exact .inl (.inr (.inr ⟨h',h⟩))
    ·exact .inr (.inr ⟨h,h'⟩)
theorem new4 (v32:List (List Bool)):∀ (r:List Int)(n:Nat)(R:List (List Bool)),t.Init.drop n=r→RkR t R→SyR t R→∃ R',Rg (M_mutex_New_L4_B t (offG 0 t.Vars) v32 t) (M_mutex_New_L4_E t (offG 0 t.Vars) v32 t) r n R=some R'∧RkR t R'∧SyR t R'∧∀ c d,InV t.Vars c→InV t.Vars d→(isF t R' c d=true↔isF t R c d=true∨(c∈stG r n∧d∈stG t.Init 0)∨(d∈stG r n∧c∈stG t.Init 0))
 | [],n,R,_,hR,hS=>⟨R,rfl,hR,hS,fun c d _ _=>by simp[stG]⟩
 | x :: r,n,R,hd,hR,hS=>by
  obtain⟨h1,h2,h3⟩:=drop_cons hd
  have hl:=hst.len
  have hv:=hz.vlen
  have hb:InV t.Vars ((n:Int),x):=hold_in hst (stG_hold.1 (drop_hold hd _ (mS_ ..)))
  obtain⟨R1,e1,p1,p2,p3⟩:=new3 hz hst v32 hb t.Init 0 R rfl hR hS
  obtain⟨R',e,k1,k2,k3⟩:=new4 v32 r (n+1) R1 h2 p1 p2
  refine⟨R',?_,k1,k2,fun c d hc hd'=>?_⟩
  ·rw[Rg,M_mutex_New_L4_B,ixv,M_mutex_New_L3_eq t (offG 0 t.Vars) v32 n x t R (by omega)]
   rw[show((0:Nat):Int)=0 from rfl]at e1
   rw[e1,ob1_some]
   exact e
  ·rw[k3 c d hc hd',p3 c d hc hd',stG,List.mem_cons,List.mem_cons]
   rw[show((0:Nat):Int)=0 from rfl]
   constructor
   ·rintro((h|⟨h,h'⟩|⟨h,h'⟩)|⟨h,h'⟩|⟨h,h'⟩)
    ·exact .inl h
    ·exact .inr (.inl ⟨.inl h,h'⟩)
    ·exact .inr (.inr ⟨.inl h,h'⟩)
    ·exact .inr (.inl ⟨.inr h,h'⟩)
    ·exact .inr (.inr ⟨.inr h,h'⟩)
   ·rintro(h|⟨h|h,h'⟩|⟨h|h,h'⟩)
    ·exact .inl (.inl h)
    ·exact .inl (.inr (.inl ⟨h,h'⟩))
    ·exact .inr (.inl ⟨h,h'⟩)
    ·exact .inl (.inr (.inr ⟨h,h'⟩))
    ·exact .inr (.inr ⟨h,h'⟩)
end
theorem rowG_le (v:Int):∀ (m:Nat)(x:Int),∀ f∈rowG v m x,f.1=v:=fun m x f hf=>((rowG_mem v f m x).1 hf).1
theorem rowG_asc (v:Int):∀ (m:Nat)(x:Int),(rowG v m x).Pairwise fun a b=>a.1≤b.1∧a≠b
 | 0,_=>List.Pairwise.nil
 | m+1,x=>by
  rw[rowG,List.pairwise_cons]
  refine⟨fun f hf=>?_,rowG_asc v m (x+1)⟩
  have:=(rowG_mem v f m (x+1)).1 hf
  refine⟨Int.le_of_eq this.1.symm,fun e=>?_⟩
  have:=congrArg Prod.snd e
  dsimp only at this
  omega
theorem factsG_asc : ∀ (r:List Int)(v:Int),(factsG v r).Pairwise fun a b=>a.1≤b.1∧a≠b
 | [],_=>List.Pairwise.nil
 | k :: r,v=>by
  rw[factsG,List.pairwise_append]
  refine⟨rowG_asc v _ _,factsG_asc r (v+1),fun a ha b hb=>?_⟩
  have h1:=rowG_le v _ _ a ha
  have h2:=((factsG_mem b r (v+1)).1 hb).1
  refine⟨by omega,fun e=>?_⟩
  rw[e]at h1
  omega
theorem pairG_mem {t:GTask}{R:List (List Bool)}{p:List Fact}:∀ {l:List Fact},(l.Pairwise fun a b=>a.1≤b.1∧a≠b)→(p∈pairG t R l↔∃ a b,a∈l∧b∈l∧a.1<b.1∧p=[a,b]∧isF t R a a=true∧isF t R b b=true∧isF t R a b=false)
 | [],_=>by simp[pairG]
 | x :: r,h=>by
  obtain⟨h1,h2⟩:=List.pairwise_cons.1 h
  rw[pairG,List.mem_append,pairG_mem h2,List.mem_map]
  constructor
  ·rintro(⟨b,hb,rfl⟩|⟨a,b,ha,hb,e⟩)
   ·obtain⟨hb1,hb2⟩:=List.mem_filter.1 hb
    unfold opP at hb2
    simp only[bA_,bne_iff_ne,ne_eq,Bool.not_eq_true']at hb2
    have:=(h1 b hb1).1
    exact⟨x,b,mS_ ..,mC_ _ hb1,by omega,rfl,hb2.2.1,hb2.2.2.1,hb2.2.2.2⟩
   ·exact⟨a,b,mC_ _ ha,mC_ _ hb,e⟩
  ·rintro⟨a,b,ha,hb,hlt,e,e1,e2,e3⟩
   rcases List.mem_cons.1 hb with hb'|hb'
   ·rcases List.mem_cons.1 ha with ha'|ha'
    ·rw[ha',hb']at hlt;omega
    ·have:=(h1 a ha').1;rw[hb']at hlt;omega
   ·rcases List.mem_cons.1 ha with ha'|ha'
    ·refine .inl ⟨b,List.mem_filter.2 ⟨hb',?_⟩,by rw[e,ha']⟩
     rw[← ha']
     unfold opP
     simp only[bA_,bne_iff_ne,ne_eq,Bool.not_eq_true']
     exact⟨by omega,e1,e2,e3⟩
    ·exact .inr ⟨a,b,ha',hb',hlt,e,e1,e2,e3⟩
theorem open_mem {t:GTask}{R:List (List Bool)}{p:List Fact}:p∈openF t R↔∃ a b,SetP t a b∧p=pset a b∧isF t R a b=false∧(a=b∨(isF t R a a=true∧isF t R b b=true)):=by
 unfold openF
 rw[List.mem_append,pairG_mem (show(allL t.Vars).Pairwise _ from factsG_asc t.Vars 0)]
 unfold oneF
 rw[List.mem_map]
 constructor
 ·rintro(⟨a,ha,rfl⟩|⟨a,b,ha,hb,hlt,rfl,e1,e2,e3⟩)
  ·obtain⟨h1,h2⟩:=List.mem_filter.1 ha
   exact⟨a,a,⟨allL_mem.1 h1,allL_mem.1 h1,.inl rfl⟩,by rw[pset,if_pos rfl],by simpa using h2,.inl rfl⟩
  ·have hne:a≠b:=fun e=>by rw[e]at hlt;omega
   exact⟨a,b,⟨allL_mem.1 ha,allL_mem.1 hb,.inr hlt⟩,by rw[pset,if_neg hne],e3,.inr ⟨e1,e2⟩⟩
 ·rintro⟨a,b,hs,rfl,h,ho⟩
  by_cases e:a=b
  ·subst e
   refine .inl ⟨a,List.mem_filter.2 ⟨allL_mem.2 hs.ia,by rw[h];rfl⟩,by rw[pset,if_pos rfl]⟩
  ·obtain⟨e1,e2⟩:=ho.resolve_left e
   exact .inr ⟨a,b,allL_mem.2 hs.ia,allL_mem.2 hs.ib,hs.le.resolve_left e,by rw[pset,if_neg e],e1,e2,h⟩
def Pres (t:GTask)(Q:List (List Bool)→Prop):Prop:=∀ R a b,RkR t R→SyR t R→Q R→SetP t a b→madeF t R (pset a b)=true→Q (putF t R a b)
def pairs (t:GTask):List (Fact×Fact):=(allL t.Vars).flatMap fun a=>(allL t.Vars).map fun b=>(a,b)
theorem pairs_mem {t:GTask}{a b:Fact}:(a,b)∈pairs t↔InV t.Vars a∧InV t.Vars b:=by
 unfold pairs
 rw[List.mem_flatMap]
 constructor
 ·rintro⟨x,hx,h⟩
  obtain⟨y,hy,e⟩:=List.mem_map.1 h
  have e1:x=a:=congrArg Prod.fst e
  have e2:y=b:=congrArg Prod.snd e
  rw[← e1,← e2]
  exact⟨allL_mem.1 hx,allL_mem.1 hy⟩
 ·rintro⟨h1,h2⟩
  exact⟨a,allL_mem.2 h1,List.mem_map.2 ⟨b,allL_mem.2 h2,rfl⟩⟩
def restN (t:GTask)(R:List (List Bool)):Nat:=((pairs t).filter fun q=>!isF t R q.1 q.2).length
theorem filter_lt {α:Type}{p q:α→Bool}:∀ {l:List α},(∀ x∈l,q x=true→p x=true)→(l.filter q).length≤(l.filter p).length∧((∃ x∈l,p x=true∧q x=false)→(l.filter q).length<(l.filter p).length)
 | [],_=>⟨Nat.le_refl _,fun⟨_,h,_⟩=>nomatch h⟩
 | x :: l,h=>by
  obtain⟨i1,i2⟩:=filter_lt (p:=p) (q:=q) (l:=l) fun y hy=>h y (mC_ _ hy)
  have hx:=h x (mS_ ..)
  rw[List.filter_cons,List.filter_cons]
  cases hq:q x with
  | true =>
   rw[if_pos rfl,if_pos (hx hq),lC_,lC_]
   refine⟨by omega,fun⟨y,hy,h1,h2⟩=>?_⟩
   rcases List.mem_cons.1 hy with rfl|hy
   ·rw[hq]at h2;cases h2
   ·have:=i2 ⟨y,hy,h1,h2⟩;omega
  | false =>
   rw[if_neg (by decide)]
   cases hp:p x with
   | true =>
    rw[if_pos rfl,lC_]
    exact⟨by omega,fun _=>by omega⟩
   | false =>
    rw[if_neg (by decide)]
    refine⟨i1,fun⟨y,hy,h1,h2⟩=>?_⟩
    rcases List.mem_cons.1 hy with rfl|hy
    ·rw[hp]at h1;cases h1
    ·exact i2 ⟨y,hy,h1,h2⟩
theorem flatN_len {α β:Type}(f:α→List β)(m:Nat):∀ l:List α,(∀ a∈l,(f a).length=m)→(l.flatMap f).length=l.length*m
 | [],_=>by simp
 | a :: l,h=>by
  rw[List.flatMap_cons,lA_,flatN_len f m l fun x hx=>h x (mC_ _ hx),h a (mS_ ..),lC_,Nat.succ_mul]
  omega
theorem rest_le {t:GTask}(hz:Sz t)(R:List (List Bool)):restN t R≤262144:=by
 refine Nat.le_trans (List.length_filter_le _ _) ?_
 unfold pairs
 rw[flatN_len _ (allL t.Vars).length _ fun a _=>lM_ ..]
 have h:(allL t.Vars).length≤512:=by
  have:=factsG_len t.Vars 0 hz.pos
  have:=hz.small
  unfold allL
  omega
 exact Nat.mul_le_mul h h
theorem pairG_len {t:GTask}{R:List (List Bool)}:∀ l:List Fact,(pairG t R l).length≤l.length*l.length
 | []=>Nat.le_refl _
 | a :: r=>by
  have ih:=pairG_len (t:=t) (R:=R) r
  have:=List.length_filter_le (opP t R a) r
  rw[pairG,lA_,lM_,lC_,Nat.add_mul,Nat.mul_add]
  omega
theorem openF_len {t:GTask}(hz:Sz t)(R:List (List Bool)):(openF t R).length≤1000000:=by
 have h:(allL t.Vars).length≤512:=by
  have:=factsG_len t.Vars 0 hz.pos
  have:=hz.small
  unfold allL
  omega
 have h1:=oneF_len (t:=t) R (allL t.Vars)
 have h2:=pairG_len (t:=t) (R:=R) (allL t.Vars)
 have h3:=Nat.mul_le_mul h h
 unfold openF
 rw[lA_]
 omega
def ClosedM (t:GTask)(R:List (List Bool)):Prop:=∀ p∈openF t R,madeF t R p=false
def MonoM (t:GTask)(R R':List (List Bool)):Prop:=∀ a b,InV t.Vars a→InV t.Vars b→isF t R a b=true→isF t R' a b=true
section
variable {t : GTask} (F : Fit3 t) (ht : ShT t) (g : Nat) (hg : 70 ≤ g) {Q : List (List Bool) → Prop} (hQ : Pres t Q)
include F ht hg hQ
theorem new5 (v32:List (List Bool))(L:List (List Fact))(R0:List (List Bool)):∀ (r:List (List Fact))(n:Nat)(R:List (List Bool))(ch:Bool)(M:Cau),RkR t R→SyR t R→Q R→CauP t M→(∀ p∈r,∃ a b,SetP t a b∧p=pset a b∧isF t R0 a b=false) →
  ∃ R' ch' M',Rg (M_mutex_New_L5_B g (offG 0 t.Vars) v32 t L) (M_mutex_New_L5_E g (offG 0 t.Vars) v32 t L) r n (R,ch,M)=some (.inl (R',ch',M'))∧RkR t R'∧SyR t R'∧Q R'∧CauP t M'∧MonoM t R R'∧(ch'=false→ch=false∧R'=R∧∀ p∈r,madeF t R p=false)∧(ch'=true→ch=true∨∃ a b,SetP t a b∧isF t R0 a b=false∧isF t R' a b=true)
 | [],n,R,ch,M,hR,hS,hq,hM,_=>⟨R,ch,M,rfl,hR,hS,hq,hM,fun _ _ _ _ h=>h,fun h=>⟨h,rfl,fun _ hp=>nomatch hp⟩,fun h=>.inl h⟩
 | p :: r,n,R,ch,M,hR,hS,hq,hM,hr=>by
  obtain⟨a,b,hs,rfl,h0⟩:=hr _ (mS_ ..)
  have hr':∀ p∈r,∃ a b,SetP t a b∧p=pset a b∧isF t R0 a b=false:=fun p hp=>hr p (mC_ _ hp)
  obtain⟨M1,m1,m2⟩:=made_eq F ht hR hS g hg hs M hM
  have hstep:Rg (M_mutex_New_L5_B g (offG 0 t.Vars) v32 t L) (M_mutex_New_L5_E g (offG 0 t.Vars) v32 t L) (pset a b :: r) n (R,ch,M)=sel (madeF t R (pset a b)) (Rg (M_mutex_New_L5_B g (offG 0 t.Vars) v32 t L) (M_mutex_New_L5_E g (offG 0 t.Vars) v32 t L) r ((n+1:Nat):Int) (putF t R a b,true,M1)) (Rg (M_mutex_New_L5_B g (offG 0 t.Vars) v32 t L) (M_mutex_New_L5_E g (offG 0 t.Vars) v32 t L) r ((n+1:Nat):Int) (R,ch,M1)):=by
   have hset:M_set (tbl t R) a b=some (putF t R a b):=set_eq (tb_of F.sz hR) hs.ia hs.ib
   rw[Rg,M_mutex_New_L5_B]
   dsimp only[ixv]
   have m3:M_stratagem_mutex_Table_made g { t:=t,first:=offG 0 t.Vars,reached:=R } (pset a b) M=some (madeF t R (pset a b),Er.nil,M1):=m2
   have hset2:M_set { t:=t,first:=offG 0 t.Vars,reached:=R } a b=some (putF t R a b):=hset
   rw[m3,ob3_some,erM,pset_0,pset_1,hset2,ob1_some]
   rfl
  rw[hstep]
  cases hm:madeF t R (pset a b)with
  | true =>
   have hS':=put_sym hR F.sz.pos hS hs.ia hs.ib
   have hq':=hQ R a b hR hS hq hs hm
   obtain⟨R',ch',M',e,k1,k2,k3,k4,k5,k6,k7⟩:=new5 v32 L R0 r (n+1) (putF t R a b) true M1 (hR.put _ _) hS' hq' m1 hr'
   refine⟨R',ch',M',by rw[sel_tt];exact e,k1,k2,k3,k4,fun c d hc hd h=>k5 c d hc hd ((put_is hR F.sz.pos hs.ia hs.ib hc hd).2 (.inl h)),fun h=>absurd (k6 h).1 (by decide),fun _=>.inr ⟨a,b,hs,h0,k5 a b hs.ia hs.ib ((put_is hR F.sz.pos hs.ia hs.ib hs.ia hs.ib).2 (.inr (.inl ⟨rfl,rfl⟩)))⟩⟩
  | false =>
   obtain⟨R',ch',M',e,k1,k2,k3,k4,k5,k6,k7⟩:=new5 v32 L R0 r (n+1) R ch M1 hR hS hq m1 hr'
   refine⟨R',ch',M',by rw[sel_ff];exact e,k1,k2,k3,k4,k5,fun h=>?_,k7⟩
   obtain⟨j1,j2,j3⟩:=k6 h
   refine⟨j1,j2,fun p hp=>?_⟩
   rcases List.mem_cons.1 hp with rfl|hp
   ·exact hm
   ·exact j3 p hp
theorem new6 (v32:List (List Bool)):∀ (N k:Nat)(R:List (List Bool))(M:Cau),RkR t R→SyR t R→Q R→CauP t M→restN t R≤N→N+2≤k →
  ∃ R',M_mutex_New_L6 g (offG 0 t.Vars) v32 t k R true M=some (some (tbl t R'),Er.nil)∧RkR t R'∧SyR t R'∧Q R'∧MonoM t R R'∧ClosedM t R'
 | N,k,R,M,hR,hS,hq,hM,hn,hk=>by
  obtain⟨k,rfl⟩:∃ q,k=q+1:=⟨k-1,by omega⟩
  have hopen:M_stratagem_mutex_Table_open (tbl t R)=some (openF t R):=open_eq (tb_of F.sz hR)
  obtain⟨R1,ch,M1,e,k1,k2,k3,k4,k5,k6,k7⟩:=new5 F ht g hg hQ v32 (openF t R) R (openF t R) 0 R false M hR hS hq hM fun p hp=>by
   obtain⟨a,b,h1,h2,h3,-⟩:=open_mem.1 hp
   exact⟨a,b,h1,h2,h3⟩
  have hstep:M_mutex_New_L6 g (offG 0 t.Vars) v32 t (k+1) R true M=M_mutex_New_L6 g (offG 0 t.Vars) v32 t k R1 ch M1:=by
   have e5:=M_mutex_New_L5_eq g (offG 0 t.Vars) v32 t (openF t R) R false M (by have:=openF_len F.sz R;omega)
   have hopen2:M_stratagem_mutex_Table_open { t:=t,first:=offG 0 t.Vars,reached:=R }=some (openF t R):=hopen
   rw[show((0:Nat):Int)=0 from rfl]at e
   rw[e]at e5
   rw[M_mutex_New_L6,sel_tt,hopen2,ob1_some,e5,ob1_some,osum_inl]
  rw[hstep]
  obtain⟨k,rfl⟩:∃ q,k=q+1:=⟨k-1,by omega⟩
  cases ch with
  | false =>
   obtain⟨-,rfl,h⟩:=k6 rfl
   refine⟨R1,by rw[M_mutex_New_L6,sel_ff];rfl,k1,k2,k3,k5,h⟩
  | true =>
   obtain⟨a,b,hs,h1,h2⟩:=(k7 rfl).resolve_left (by decide)
   have hlt:restN t R1<restN t R:=by
    refine(filter_lt fun q hq hf=>?_).2 ⟨(a,b),pairs_mem.2 ⟨hs.ia,hs.ib⟩,by simp[h1],by simp[h2]⟩
    obtain⟨c,d⟩:=q
    obtain⟨hc,hd⟩:=pairs_mem.1 hq
    cases hb:isF t R c d with
    | false=>rfl
    | true=>rw[k5 c d hc hd hb]at hf;cases hf
   obtain⟨N,rfl⟩:∃ q,N=q+1:=⟨N-1,by omega⟩
   obtain⟨R',f,j1,j2,j3,j4,j5⟩:=new6 v32 N (k+1) R1 M1 k1 k2 k3 k4 (by omega) (by omega)
   exact⟨R',f,j1,j2,j3,fun c d hc hd h=>j4 c d hc hd (k5 c d hc hd h),j5⟩
end
structure MxR (t:GTask)(R:List (List Bool)):Prop where
 rk:RkR t R
 sy:SyR t R
 init:∀ c d,hold1 t.Init c=true→hold1 t.Init d=true→isF t R c d=true
 closed:ClosedM t R
theorem good_init {t:GTask}(hg:goodF t=true):stateF t.Vars t.Init=true:=by
 unfold goodF at hg
 simp only[bA_]at hg
 exact hg.2.2.1
theorem good_vars {t:GTask}(hg:goodF t=true):t.Vars.length≤64∧t.Ops.length≤4096∧∀ k∈t.Vars,1≤k∧k≤64:=by
 unfold goodF at hg
 simp only[bA_,decide_eq_true_iff,List.all_eq_true]at hg
 exact⟨hg.1.1,hg.1.2,hg.2.1⟩
theorem new_first {t:GTask}(ht:ShT t)(hg:goodF t=true)(g:Nat):M_mutex_New g t=if sumI t.Vars>512 then some (none,Er.no 5)else ob1 (M_mutex_New_L4 t (offG 0 t.Vars) (zeroR t) t ((((t.Init.map cI).length:Int)).toNat+1) (zeroR t) 0) (fun v122=>M_mutex_New_L6 g (offG 0 t.Vars) (zeroR t) t g v122 true []):=by
 obtain⟨h1,h2,h3⟩:=good_vars hg
 have e1:=M_mutex_New_L1_eq t 0 [] (by omega)
 have e2:=new1 t t.Vars 0 0 [] h3 (by decide) (by omega) (by rw[lN_];omega)
 rw[Int.zero_add,List.nil_append]at e2
 rw[M_mutex_New,check_eq t ht,(good_check t).1 hg,ob1_some,erM,copied_eq hg,ob1_some,e1,e2,ob1_some]
 dsimp only
 rw[sel_dec]
 split
 ·rfl
 ·rename_i hs
  have hp:∀ k∈t.Vars,1≤k:=fun k hk=>(h3 k hk).1
  have hn:=sumI_nn hp
  have hm:sumI t.Vars=((sumI t.Vars).toNat:Int):=by omega
  have e3:=M_mutex_New_L2_eq (sumI t.Vars) [] hm (by omega)
  have e4:=new2 (sumI t.Vars).toNat (by omega) (sumI t.Vars).toNat 0 [] (by rw[lN_];omega)
  rw[← hm,List.nil_append]at e4
  have hl:(zeroR t).length≤512:=by rw[zeroR,lR_];omega
  have e5:M_mutex_New_L2 (sumI t.Vars) ((sumI t.Vars).toNat+1) 0 []=some (zeroR t):=by rw[e3];exact e4
  rw[e5,ob1_some,offG_len,grd_t (by omega),grd_t (by omega)]
theorem new_eq {t:GTask}(F:Fit3 t)(ht:ShT t)(g:Nat)(hg:1000000≤g){Q:List (List Bool)→Prop}(hQ:Pres t Q)(hQ0:∀ R,RkR t R→SyR t R→(∀ c d,InV t.Vars c→InV t.Vars d→(isF t R c d=true↔hold1 t.Init c=true∧hold1 t.Init d=true))→Q R):∃ R,M_mutex_New g t=some (some (tbl t R),Er.nil)∧MxR t R∧Q R:=by
 have hz:=F.sz
 have hst:=stateF_st (good_init F.good)
 have hl:=hst.len
 have hv:=F.vlen
 have hsm:=hz.small
 obtain⟨R1,e1,k1,k2,k3⟩:=new4 hz hst (zeroR t) t.Init 0 (zeroR t) rfl (zero_rk hz) (zero_sy t)
 rw[show((0:Nat):Int)=0 from rfl]at e1
 have hi:∀ c d,InV t.Vars c→InV t.Vars d→(isF t R1 c d=true↔hold1 t.Init c=true∧hold1 t.Init d=true):=fun c d hc hd=>by
  rw[k3 c d hc hd,zero_is,show((0:Nat):Int)=0 from rfl,stG_hold,stG_hold]
  simp only[Bool.false_eq_true,false_or]
  constructor
  ·rintro(h|⟨h1,h2⟩)
   ·exact h
   ·exact⟨h2,h1⟩
  ·exact .inl
 have hq:=hQ0 R1 k1 k2 hi
 obtain⟨R,f1,f2,f3,f4,f5,f6⟩:=new6 F ht g (by omega) hQ (zeroR t) 262144 g R1 [] k1 k2 hq (fun _ _ _ _ _ _ _ h=>by simp[getM]at h) (rest_le hz R1) (by omega)
 refine⟨R,?_,⟨f2,f3,fun c d hc hd=>?_,f6⟩,f4⟩
 ·rw[new_first ht F.good g,if_neg (by omega),M_mutex_New_L4_eq t (offG 0 t.Vars) (zeroR t) t (zeroR t) (by omega),e1,ob1_some]
  exact f1
 ·have hc':=hold_in hst hc
  have hd':=hold_in hst hd
  exact f5 c d hc' hd' ((hi c d hc' hd').2 ⟨hc,hd⟩)
def reaF (t:GTask)(R:List (List Bool))(f:Fact):Bool:=propF t.Vars (-1) [f]&&isF t R f f
def togF (t:GTask)(R:List (List Bool))(a b:Fact):Bool:=reaF t R a&&(reaF t R b&&(decide (a=b)||(a.1 != b.1&&isF t R a b)))
section
variable {t : GTask} (hz : Sz t) {R : List (List Bool)} (hR : RkR t R)
include hz hR
theorem reached_eq (f:Fact):M_stratagem_mutex_Table_Reached (some (tbl t R)) f=some (reaF t R f):=by
 rw[M_stratagem_mutex_Table_Reached,opM,M_stratagem_mutex_Table_has,show(tbl t R).t=t from rfl,facts_eq t.Vars [f] (by show 1≤_;decide),ob1_some,ob1_some,reaF]
 cases h:propF t.Vars (-1) [f]with
 | false=>rfl
 | true =>
  have hf:=inV_iff.1 h
  rw[sel_tt,is_eq (tb_of hz hR) hf hf]
  rfl
omit hz hR in
theorem reaF_in {f:Fact}(h:reaF t R f=true):InV t.Vars f:=by
 unfold reaF at h
 rw[bA_]at h
 exact inV_iff.1 h.1
theorem together_eq (a b:Fact):M_stratagem_mutex_Table_Together (some (tbl t R)) a b=some (togF t R a b):=by
 rw[M_stratagem_mutex_Table_Together,opM,reached_eq hz hR,ob1_some,togF]
 cases ha:reaF t R a with
 | false=>rfl
 | true =>
  rw[sel_tt,reached_eq hz hR,ob1_some]
  cases hb:reaF t R b with
  | false=>rfl
  | true =>
   rw[sel_tt,fact_beq]
   by_cases e:a=b
   ·rw[decide_eq_true e];rfl
   ·rw[decide_eq_false e,sel_ff]
    cases hv:(a.1 != b.1)with
    | false=>rfl
    | true =>
     rw[sel_tt,is_eq (tb_of hz hR) (reaF_in ha) (reaF_in hb)]
     rfl
omit hz hR in
theorem ng_loop (z:List (List Fact)):∀ (r:List (List Fact))(i:Int)(v:List Nogood),v.length+r.length≤1000000→Rg (M_stratagem_mutex_Table_Nogoods_L1_B z) (M_stratagem_mutex_Table_Nogoods_L1_E z) r i v=some (v++r.map fun p=>(p,(0:Int)))
 | [],i,v,h=>by
  rw[lN_]at h
  rw[Rg,M_stratagem_mutex_Table_Nogoods_L1_E,grd_t (by omega),List.map_nil,List.append_nil]
 | p :: r,i,v,h=>by
  rw[lC_]at h
  rw[Rg,M_stratagem_mutex_Table_Nogoods_L1_B,ixv,grd_t (by omega),ng_loop z r (i+1) _ (by rw[lA_,List.length_singleton];omega),List.append_assoc]
  rfl
def ngF (t:GTask)(R:List (List Bool)):List Nogood:=(openF t R).map fun p=>(p,(0:Int))
theorem nogoods_eq : M_stratagem_mutex_Table_Nogoods (some (tbl t R))=some (ngF t R):=by
 have hl:=openF_len hz R
 rw[M_stratagem_mutex_Table_Nogoods,opM,open_eq (tb_of hz hR),ob1_some,M_stratagem_mutex_Table_Nogoods_L1_eq _ _ (by show(openF t R).length<_;omega)]
 exact ng_loop _ _ 0 [] (by rw[lN_];show 0+(openF t R).length≤_;omega)
end
def Alive (t:GTask)(R:List (List Bool))(s:List Int):Prop:=∀ a b,hold1 s a=true→hold1 s b=true→isF t R a b=true
theorem touch_not {o:GOp}{p:List Fact}(h:touchF o p=false){s:List Int}{f:Fact}(hf:f∈p):valF s o f.1=s.getD f.1.toNat 0:=by
 have:o.Effs.filter (fun e=>e.Var == f.1)=[]:=List.filter_eq_nil_iff.2 fun e he hv=>by
  unfold touchF at h
  rw[List.any_eq_false]at h
  refine h e he (List.any_eq_true.2 ⟨f,hf,?_⟩)
  simp only[beq_iff_eq]at hv ⊢
  exact hv.symm
 unfold valF
 rw[this]
 rfl
theorem alive_step {t:GTask}(F:Fit3 t){R:List (List Bool)}(hc:ClosedM t R){s:List Int}(hs:StP t.Vars s)(ha:Alive t R s){o:GOp}(ho:o∈t.Ops)(hp:holdsF s o.Pre=true){a b:Fact}(hab:SetP t a b)(h1:hold1 (nextF s o) a=true)(h2:hold1 (nextF s o) b=true)(h3:a=b∨(isF t R a a=true∧isF t R b b=true)):isF t R a b=true:=by
 refine Decidable.byContradiction fun hf=>?_
 have hf:isF t R a b=false:=Bool.eq_false_iff.2 hf
 have hm:=hc _ (open_mem.2 ⟨a,b,hab,rfl,hf,h3⟩)
 have hnext:holdsF (nextF s o) (pset a b)=true:=holdsF_iff.2 fun x hx=>by
  rcases pset_mem.1 hx with rfl|rfl
  ·exact h1
  ·exact h2
 have hval:=(holds_next F.good hs ho hab.prop).1 hnext
 cases ht:touchF o (pset a b)with
 | false =>
  have hk:∀ x∈pset a b,hold1 s x=true:=fun x hx=>by
   have e:=hval x hx
   rw[touch_not ht hx]at e
   have hin:InV t.Vars x:=by
    rcases pset_mem.1 hx with rfl|rfl
    ·exact hab.ia
    ·exact hab.ib
   have hl:=hs.len
   exact hold1_iff.2 ⟨hin.1,by have:=hin.2.1;omega,e⟩
  rw[ha a b (hk a (pset_mem.2 (.inl rfl))) (hk b (pset_mem.2 (.inr rfl)))]at hf
  cases hf
 | true =>
  obtain⟨r1,r2,-⟩:=reg_ok F hab ho
  obtain⟨z,hz,hzs⟩:=(some_regO F.good ho hs hab.prop r1).2 ⟨hp,hval⟩
  have hok:okF t R z=true:=okF_iff.2 fun x hx y hy=>ha x y (holdsF_iff.1 hzs x hx) (holdsF_iff.1 hzs y hy)
  have:madeF t R (pset a b)=true:=List.any_eq_true.2 ⟨o,ho,by rw[madeO,ht,Bool.true_and];exact List.any_eq_true.2 ⟨z,hz,hok⟩⟩
  rw[this]at hm
  cases hm
def clashP (p x:List Fact):Bool:=x.any fun f=>decide (0≤findF p f.1)&&decide (findF p f.1≠f.2)
def lowF (p:List Fact):List Fact→Int→Int
 | [],v=>v
 | f :: r,v=>lowF p r (if f.1<v∧findF p f.1<0 then f.1 else v)
def lowL (p:List Fact):List (List Fact)→Int→Int
 | [],v=>v
 | x :: r,v=>lowL p r (lowF p x v)
def restP (p:List Fact)(l:List (List Fact)):List (List Fact):=l.filter fun x=>!clashP p x
theorem lowF_spec (p:List Fact):∀ (l:List Fact)(v:Int),lowF p l v≤v∧(∀ f∈l,findF p f.1<0→lowF p l v≤f.1)∧(lowF p l v=v∨∃ f∈l,f.1=lowF p l v∧findF p f.1<0)
 | [],v=>⟨Int.le_refl _,(nofun),.inl rfl⟩
 | f :: r,v=>by
  rw[lowF]
  by_cases h:f.1<v∧findF p f.1<0
  ·rw[if_pos h]
   obtain⟨h1,h2,h3⟩:=lowF_spec p r f.1
   refine⟨by omega,fun u hu hn=>?_,?_⟩
   ·rcases List.mem_cons.1 hu with rfl|hu
    ·exact h1
    ·exact h2 u hu hn
   ·rcases h3 with h3|⟨u,hu,e⟩
    ·exact .inr ⟨f,mS_ ..,h3.symm,h.2⟩
    ·exact .inr ⟨u,mC_ _ hu,e⟩
  ·rw[if_neg h]
   obtain⟨h1,h2,h3⟩:=lowF_spec p r v
   refine⟨h1,fun u hu hn=>?_,?_⟩
   ·rcases List.mem_cons.1 hu with rfl|hu
    ·have:¬ u.1<v:=fun hlt=>h ⟨hlt,hn⟩
     omega
    ·exact h2 u hu hn
   ·rcases h3 with h3|⟨u,hu,e⟩
    ·exact .inl h3
    ·exact .inr ⟨u,mC_ _ hu,e⟩
theorem lowL_spec (p:List Fact):∀ (l:List (List Fact))(v:Int),lowL p l v≤v∧(∀ x∈l,∀ f∈x,findF p f.1<0→lowL p l v≤f.1)∧(lowL p l v=v∨∃ x∈l,∃ f∈x,f.1=lowL p l v∧findF p f.1<0)
 | [],v=>⟨Int.le_refl _,(nofun),.inl rfl⟩
 | x :: r,v=>by
  rw[lowL]
  obtain⟨g1,g2,g3⟩:=lowF_spec p x v
  obtain⟨h1,h2,h3⟩:=lowL_spec p r (lowF p x v)
  refine⟨by omega,fun y hy f hf hn=>?_,?_⟩
  ·rcases List.mem_cons.1 hy with rfl|hy
   ·have:=g2 f hf hn;omega
   ·exact h2 y hy f hf hn
  ·rcases h3 with h3|⟨y,hy,f,hf,e⟩
   ·rcases g3 with g3|⟨f,hf,e,hn⟩
    ·exact .inl (by omega)
    ·exact .inr ⟨x,mS_ ..,f,hf,by omega,hn⟩
   ·exact .inr ⟨y,mC_ _ hy,f,hf,e⟩
theorem prop_vf {vars:List Int}{p:List Fact}(h:propF vars (-1) p=true):Nonneg p∧Asc p∧∀ x∈p,x.1<vars.length∧x.2<vars.getD x.1.toNat 0:=by
 obtain⟨hv,hr⟩:=(propF_iff vars p (-1)).1 h
 obtain⟨hn,ha⟩:=(vF_iff' p).1 hv
 exact⟨hn,ha,hr⟩
structure DecP (vars:List Int)(d:Nat)(p:List Fact)(l:List (List Fact)):Prop where
 dom:∀ n∈vars,1≤n
 prop:propF vars (-1) p=true
 all:PropL vars l
 deep:vars.length<d+p.length
theorem DecP.low {vars:List Int}{d:Nat}{p:List Fact}{l:List (List Fact)}(h:DecP vars d p l)(hl:lowL p (restP p l) vars.length≠vars.length):0≤lowL p (restP p l) vars.length∧lowL p (restP p l) vars.length<vars.length∧findF p (lowL p (restP p l) vars.length)<0:=by
 obtain⟨h1,-,h3⟩:=lowL_spec p (restP p l) vars.length
 rcases h3 with h3|⟨x,hx,f,hf,e,hn⟩
 ·exact absurd h3 hl
 ·obtain⟨hxn,-,-⟩:=prop_vf (h.all x (List.mem_filter.1 hx).1)
  have:=(hxn f hf).1
  exact⟨by omega,by omega,by rw[← e];exact hn⟩
theorem DecP.zero {vars:List Int}{p:List Fact}{l:List (List Fact)}(h:DecP vars 0 p l):False:=by
 have h1:=propF_len' h.prop
 have h2:=h.deep
 omega
end Go.Proofs.YtinnphmnhmdcgaaGreat.Am
namespace Go.Proofs.YtinnphmnhmdcgaaGreat.Am
end Go.Proofs.YtinnphmnhmdcgaaGreat.Am
namespace Go.Proofs.YtinnphmnhmdcgaaGreat.Am
open Go.RowKit
structure DomP (vars:List Int):Prop where
 len:vars.length≤64
 dom:∀ n∈vars,1≤n∧n≤64
end Go.Proofs.YtinnphmnhmdcgaaGreat.Am
namespace Go.Proofs.YtinnphmnhmdcgaaGreat.Am
end Go.Proofs.YtinnphmnhmdcgaaGreat.Am
namespace Go.Proofs.YtinnphmnhmdcgaaGreat.Am
open Go.RowKit
def limF (l:List Fact):Bool:=l.all fun x=>decide (x.1<64∧x.2<64)
def frmF (l:List Fact):Bool:=vF (-1) l&&limF l
structure ShC (c:GCertificate):Prop where
 list:Sh c.Nogoods
 each:∀ n∈c.Nogoods,Sh n.1
structure CertP (vars:List Int)(c:GCertificate):Prop where
 b0:-1≤c.Bound
 b1:c.Bound≤1099511627776
 len:c.Nogoods.length≤4096
 prop:∀ n∈c.Nogoods,propF vars (-1) n.1=true
 frm:∀ n∈c.Nogoods,frmF n.1=true
 d0:∀ n∈c.Nogoods,0≤n.2
 d1:∀ n∈c.Nogoods,0≤c.Bound→n.2<c.Bound
 d2:∀ n∈c.Nogoods,c.Bound<0→n.2=0
def distO (c:GCertificate)(n:Nogood)(o:GOp):Int:=if 0≤c.Bound then n.2+o.Cost else 0
def skipO (c:GCertificate)(n:Nogood)(o:GOp):Bool:=decide (0≤c.Bound∧c.Bound≤n.2+o.Cost)
def claimsF (ns:List Nogood)(s:List Int)(d:Int):Bool:=ns.any fun n=>decide (n.2≤d)&&holdsF s n.1
def inF (o:GOp)(p:List Fact)(s:List Int):Bool:=holdsF s o.Pre&&holdsF (nextF s o) p
structure Acc (t:GTask)(c:GCertificate):Prop where
 init:∀ n∈c.Nogoods,holdsF t.Init n.1=false
 goal:c.Bound≠0→∀ s∈allF t,holdsF s t.Goal=true→claimsF c.Nogoods s 0=true
 step:∀ n∈c.Nogoods,∀ o∈t.Ops,skipO c n o=false→∀ s∈allF t,inF o n.1 s=true→claimsF c.Nogoods s (distO c n o)=true
end Go.Proofs.YtinnphmnhmdcgaaGreat.Am
