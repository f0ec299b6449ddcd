/- stratagemlaw33.MutexCertificate returns true for every input. No condition beyond the row's own. -/
import Derived.Test.YtinnphmnhmdcgaaGreatB2
import Derived.Test.YtinnphmnhmdcgaaGreatB7
import Derived.Test.YtinnphmnhmdcgaaGreatB1
import Derived.Below
import Derived.ChangeSame
import Derived.OpenShut
import Derived.Carry
import Derived.Test.YtinnphmnhmdcgaaGreatB5
import Derived.Test.YtinnphmnhmdcgaaGreatRows
import Derived.Deep.DeepHandedRow
import Derived.Lib.LaidTab
set_option linter.unusedVariables false
set_option linter.unusedSectionVars false
open List renaming getElem?_eq_getElem→gE_
namespace Go.Proofs.YtinnphmnhmdcgaaGreat.Am
open Go.RowKit Go.ChangeShapes Go.WideShapes Go.Deep Go.Joins
abbrev mZ : MM:=mO (fun _=>False)
theorem noZ (b:Nat):¬ Owned nov mZ b:=fun h=>owned_nov.1 h
section
variable {H : Type} {enc : TypeId × Value → H} {P : Program} {w : World} {base : Nat} {spare : Nat → Bool} {held : Bool}
def CellsRv (w:World)(es:List AV)(cs:List Value):Prop:=es.length=cs.length∧(∀ (j:Nat) (y:AV) (u:Value),es[j]?=some y→cs[j]?=some u→RV w nov mZ y u∧u.oneCell'=true)∧∀ y∈es,Fr y
def Opens (enc:TypeId×Value→H)(P:Program)(w:World)(base:Nat)(spare:Nat→Bool)(held:Bool)(t:TypeId){α:Type}(en:α→List AV)(R:α→Prop):Prop :=
 ∀ (fuel:Nat) (cs:List Value) (x:DataW H×List MemPlace),DataW.trod enc P w base spare held fuel t cs=some x→Sized P t x.1→∃ a,R a∧CellsRv w (en a) cs
theorem cells_one1 {y:AV}{u:Value}(h:RV w nov mZ y u)(h1:u.oneCell'=true)(hf:Fr y):CellsRv w [y] [u]:=by
 refine⟨rfl,fun j z v hz hv=>?_,fun z hz=>by simp at hz;subst hz;exact hf⟩
 cases j with
 | zero=>simp at hz hv;subst hz hv;exact⟨h,h1⟩
 | succ j=>simp at hz
theorem opens_int {t:TypeId}{k:IntKind}(ht:P.underlying t=some (.int k)):Opens enc P w base spare held t (fun z:Int=>[.c (.int k z)]) (fun z=>(Lit.int k z).wf=true):=by
 intro fuel cs x h _
 obtain⟨z,rfl,_,wz⟩:=DataW.trod_int ht h
 exact⟨z,wz,cells_one1 (.c _) rfl (.c _)⟩
theorem opens_slice {t e:TypeId}{α:Type}{en:α→List AV}{R:α→Prop}{sz by_:Nat}(ht:P.underlying t=some (.slice e))(hc:P.cellsOf e=sz)(hb:P.bytesOf e=by_)(hby:0<by_)(hsz:0<sz)(he:Opens enc P w base spare held e en R) :
  Opens enc P w base spare held t (fun l:List α=>[.sl sz (l.map en)]) (fun l=>l.length*by_≤140737488355328∧∀ x∈l,R x):=by
 intro fuel cs x h hs
 rcases open_slice ht h with⟨rfl,_⟩|⟨a,len,cap,m,n,D,Pl,rfl,_,hl,hm,hmm,rfl,hi⟩
 ·refine⟨[],⟨by simp,by simp⟩,cells_one1 ?_ rfl (.sl (fun e he=>by cases he))⟩
  exact RV.sl (l:=[]) (b:=0) (off:=0) (f:=fun _ _=>undef) (fun h=>absurd rfl h) (Nat.zero_le _) (by simp) (fun k e h=>by simp at h) (fun k j e x h=>by simp at h) (fun k j e x h=>by simp at h) (fun e he=>by cases he)
 ·have hlen:=sized_len hs ht
  rw[hb]at hlen
  simp only[List.length_map,List.length_range]at hlen
  have hml:len≤m:=by rw[hmm];split <;> omega
  have hcell:∀ i,i<len→∃ z:α,R z∧∃ cs',CellsRv w (en z) cs'∧cs'.length=sz∧∀ j,j<sz→w.cell? (a.add (i*sz+j))=cs'[j]?:=by
   intro i hi'
   obtain⟨cs',hcc,ht'⟩:=hi i (by omega)
   rw[hc]at hcc
   obtain⟨z,hz,hcr⟩:=he n cs' _ ht' (sized_elem hs ht (List.mem_map.2 ⟨i,by simpa using hi',rfl⟩))
   obtain⟨_,hcl',hat⟩:=World.cells?_some hcc
   exact⟨z,hz,cs',hcr,hcl',fun j hj=>by rw[← hat j hj,Go.Deep.add_add]⟩
  obtain⟨l,hl',hat⟩:=list_of len _ hcell
  have hR:∀ x∈l,R x:=fun x hx=>by
   obtain⟨k,hk⟩:=List.getElem?_of_mem hx
   exact(hat k x hk).1
  have hfr:FrL (l.map en):=by
   intro e he
   obtain⟨x,hx,rfl⟩:=List.mem_map.1 he
   obtain⟨k,hk⟩:=List.getElem?_of_mem hx
   obtain⟨_,cs',hcr,_⟩:=hat k x hk
   exact hcr.2.2
  refine⟨l,⟨by rw[hl'];exact hlen,hR⟩,cells_one1 ?_ rfl (.sl hfr)⟩
  have key:∀ (k j:Nat) (e:List AV) (y:AV),(l.map en)[k]?=some e→e[j]?=some y→e.length=sz∧∃ u,w.cell? ⟨a.block,a.off+(k*sz+j),none⟩=some u∧u.oneCell'=true∧RV w nov mZ y u∧a=⟨a.block,a.off,none⟩∧a.block<w.heap.size:=by
   intro k j e y hk hj
   rw[List.getElem?_map]at hk
   cases hx:l[k]? with
   | none=>rw[hx]at hk;cases hk
   | some z =>
    rw[hx]at hk
    simp at hk
    subst hk
    obtain⟨_,cs',⟨c1,c2,_⟩,c4,c5⟩:=hat k z hx
    have hjl:j<sz:=by rw[← c4,← c1];exact(List.getElem?_eq_some_iff.1 hj).1
    have hcj:=c5 j hjl
    have hget:cs'[j]?=some (cs'[j]'(by omega)):=gE_ _
    rw[hget]at hcj
    obtain⟨r1,r2⟩:=c2 j y _ hj hget
    have h0:0<len:=by have:=(List.getElem?_eq_some_iff.1 hx).1;omega
    obtain⟨_,_,cs0,⟨_,_,_⟩,d4,d5⟩:=hcell 0 h0
    have hz0:=d5 0 hsz
    rw[gE_ (by omega)]at hz0
    obtain⟨e1,e2⟩:=addr_of_cell ⟨_,by simpa using hz0⟩ hcj
    exact⟨by rw[c1,c4],_,e2,r2,r1,e1,lt_of_cell (p:=⟨a.block,a.off+(k*sz+j),none⟩) e2⟩
  have hlen2:(l.map en).length=len:=by simp[hl']
  have:=RV.sl (w:=w) (vs:=nov) (m:=mZ) (sz:=sz) (l:=l.map en) (A:=some a) (cap:=cap) (b:=a.block) (off:=a.off) (f:=fun k j=>(w.cell? ⟨a.block,a.off+(k*sz+j),none⟩).getD undef)
   (fun hne=>?_) (by omega) (by rw[hlen2];exact Nat.le_trans (Nat.le_mul_of_pos_right _ hby) hlen) (fun k e hk=>?_) (fun k j e y hk hj=>?_) (fun k j e y hk hj=>?_) hfr
  ·rw[hlen2]at this
   exact this
  ·have h0:0<(l.map en).length:=List.length_pos_iff.2 hne
   have hk:=gE_ h0
   obtain⟨x0,hx0,hx0'⟩:∃ x0,l[0]?=some x0∧(l.map en)[0]=en x0:=by
    have h1:0<l.length:=by simpa using h0
    exact⟨l[0],gE_ h1,by simp⟩
   obtain⟨_,cs',⟨c1,_,_⟩,c4,_⟩:=hat 0 x0 hx0
   have hel:0<((l.map en)[0]).length:=by rw[hx0',c1,c4];exact hsz
   obtain⟨_,_,_,_,_,q1,q2⟩:=key 0 0 _ _ hk (gE_ hel)
   exact⟨by rw[← q1],noZ _,q2⟩
  ·rw[List.getElem?_map]at hk
   cases hx:l[k]? with
   | none=>rw[hx]at hk;cases hk
   | some z =>
    rw[hx]at hk
    simp at hk
    subst hk
    obtain⟨_,cs',⟨c1,_,_⟩,c4,_⟩:=hat k z hx
    rw[c1,c4]
  ·obtain⟨_,u,q1,q2,_⟩:=key k j e y hk hj
   rw[q1]
   exact⟨rfl,q2⟩
  ·obtain⟨_,u,q1,_,q3,_⟩:=key k j e y hk hj
   rw[q1]
   exact q3
def OpensF (enc:TypeId×Value→H)(P:Program)(w:World)(base:Nat)(spare:Nat→Bool)(held:Bool)(fs:List Field)(off tot:Nat){α:Type}(en:α→List AV)(R:α→Prop):Prop :=
 ∀ (fuel:Nat) (cs:List Value) (xs:List (DataW H×List MemPlace)),cs.length=tot→xs.length=fs.length→(∀ (i:Nat) (f:Field),fs[i]?=some f→DataW.trod enc P w base spare held fuel f.type ((cs.drop f.offset).take (P.cellsOf f.type))=xs[i]?) →
  (∀ (i:Nat) (f:Field) (x:DataW H×List MemPlace),fs[i]?=some f→xs[i]?=some x→Sized P f.type x.1)→∃ a,R a∧CellsRv w (en a) (cs.drop off)
theorem cells_append {a b:List AV}{xs ys:List Value}(h1:CellsRv w a xs)(h2:CellsRv w b ys):CellsRv w (a++b) (xs++ys):=by
 refine⟨by rw[List.length_append,List.length_append,h1.1,h2.1],fun j y u hy hu=>?_,fun y hy=>?_⟩
 ·rcases Nat.lt_or_ge j a.length with hlt|hge
  ·rw[List.getElem?_append_left hlt]at hy
   rw[List.getElem?_append_left (by rw[← h1.1];exact hlt)]at hu
   exact h1.2.1 j y u hy hu
  ·rw[List.getElem?_append_right hge]at hy
   rw[List.getElem?_append_right (by rw[← h1.1];exact hge)]at hu
   rw[h1.1]at hy
   exact h2.2.1 _ y u hy hu
 ·rcases List.mem_append.1 hy with h|h
  ·exact h1.2.2 y h
  ·exact h2.2.2 y h
theorem opensF_last {f:Field}{off tot:Nat}{α:Type}{en:α→List AV}{R:α→Prop}(ho:f.offset=off)(htot:off+P.cellsOf f.type=tot)(h:Opens enc P w base spare held f.type en R):OpensF enc P w base spare held [f] off tot en R:=by
 intro fuel cs xs hcl hx ht hs
 obtain⟨x,rfl⟩:=List.length_eq_one_iff.1 hx
 have h1:=ht 0 f rfl
 obtain⟨a,ha,hc⟩:=h fuel _ x h1 (hs 0 f x rfl rfl)
 refine⟨a,ha,?_⟩
 rw[ho,List.take_of_length_le (by simp;omega)]at hc
 exact hc
theorem opensF_cons {f:Field}{fs:List Field}{off off' tot:Nat}{α β:Type}{en:α→List AV}{R:α→Prop}{en':β→List AV}{R':β→Prop}(ho:f.offset=off)(hoff:off+P.cellsOf f.type=off')(h:Opens enc P w base spare held f.type en R)(h':OpensF enc P w base spare held fs off' tot en' R') :
  OpensF enc P w base spare held (f :: fs) off tot (fun p:α×β=>en p.1++en' p.2) (fun p=>R p.1∧R' p.2):=by
 intro fuel cs xs hcl hx ht hs
 cases xs with
 | nil=>simp at hx
 | cons x xs =>
  obtain⟨a,ha,hc⟩:=h fuel _ x (ht 0 f rfl) (hs 0 f x rfl rfl)
  obtain⟨b,hb,hc'⟩:=h' fuel cs xs hcl (by simpa using hx) (fun i g hg=>by simpa using ht (i+1) g (by simpa using hg)) (fun i g y hg hy=>hs (i+1) g y (by simpa using hg) (by simpa using hy))
  refine⟨(a,b),⟨ha,hb⟩,?_⟩
  rw[ho]at hc
  have:cs.drop off=(cs.drop off).take (P.cellsOf f.type)++cs.drop off':=by
   rw[← hoff,← List.drop_drop,List.take_append_drop]
  rw[this]
  exact cells_append hc hc'
theorem opens_struct {t:TypeId}{fs:Array Field}{α:Type}{en:α→List AV}{R:α→Prop}(ht:P.underlying t=some (.struct fs))(h:OpensF enc P w base spare held fs.toList 0 (P.cellsOf t) en R):Opens enc P w base spare held t en R:=by
 intro fuel cs x hx hs
 obtain⟨xs,n,_,rfl,hcl,hxl,hf⟩:=DataW.trod_struct ht hx
 obtain⟨a,ha,hc⟩:=h n cs xs hcl (by simpa using hxl) (fun i f hi=>hf i f (by simpa using hi)) (fun i f y hi hy=>sized_field hs ht (j:=i) (by simpa using hi) (by simp[List.getElem?_map,hy]))
 exact⟨a,ha,by simpa using hc⟩
theorem agg_rv {es:List AV}{us:Array Value}(h:CellsRv w es us.toList):RV w nov mZ (.agg es) (.agg us) :=
 .agg (by rw[h.1];simp) (fun j y u hy hu=>(h.2.1 j y u hy (by simpa using hu)).1)
end
end Go.Proofs.YtinnphmnhmdcgaaGreat.Am
namespace Go.Proofs.YtinnphmnhmdcgaaGreat
open Go.RowKit Go.WideShapes Go.ChangeShapes Go.ChangeAt
section
variable {H : Type} {enc : TypeId × Value → H} {P : Program}
theorem post_of_below {f:Func}{s:ChangeSpec}{apart fresh handsOn again:Bool}{W W':World}{args:Array Value}{v:Value}{ds gs:List (DataW H)}{before pa pv:List MemPlace}
  (hW:DataW.Whole enc P f.params.toList s.vars apart W args.toList ds gs before)
  (hres:∀ (b:Nat) (sp:Nat→Bool) (hd:Bool),DataW.TrodAll enc P W' b sp hd f.resultTypes.toList (v.resultList f.resultTypes.size) (s.fn H (ds++gs)).results [])
  (hargs:∀ sp:Nat→Bool,(∀ p∈before,sp p.block=true)→DataW.TrodAll enc P W' 0 sp true f.params.toList args.toList (s.fn H (ds++gs)).args pa)
  (hvars:∀ sp:Nat→Bool,(∀ p∈before,sp p.block=true)→DataW.TrodVars enc P W' sp s.vars (s.fn H (ds++gs)).vars pv)
  (hps:before=pa++pv) (hb:Below W.heap.size W W')
  (hok:∀ (j:Nat) (t:TypeId) (r:Value),f.resultTypes[j]?=some t→(v.resultList f.resultTypes.size)[j]?=some r→Value.okWide P W' .any 0 t r) :
  s.post enc P f apart fresh handsOn again W args v W':=by
 have hlt:∀ p∈before,p.block<W.heap.size:=fun p hp=>hW.lt p hp
 have hold:∀ p∈before,(fun b=>decide (b<W.heap.size)) p.block=true:=fun p hp=>by simpa using hlt p hp
 refine⟨ds,gs,before,[],pa,pv,hW,hres _ _ _,hargs _ hold,hvars _ hold,World.keptBut_mono (fun p hp=>⟨hp,?_⟩) (hb.frame (·∈before)),fun _=>?_⟩
 ·rw[hps,List.mem_append]at hp
  exact Or.inr hp
 ·obtain⟨_,_,_,_,_,hz,hn⟩:=hW
  refine⟨hok,_,_,([]++pa)++pv,⟨[]++pa,pv,trodAll_append (hargs _ (fun _ _=>rfl)) (hres _ _ _),hvars _ (fun _ _=>rfl),rfl,?_,?_⟩,?_⟩
  ·intro b off hp
   have hin:MemPlace.cell b off∈before:=by rw[hps];simpa using hp
   rw[hb.frozen (hlt _ hin)]
   exact hz b off hin
  ·intro ha
   have:=hn ha
   rw[hps]at this
   simpa using this
  ·intro p hp _
   rw[hps]
   simpa using hp
theorem trodAll_keep (hl:laidOutB P=true){W W':World}(hb:Below W.heap.size W W')(sp:Nat→Bool)(ts:List TypeId):∀ (vs:List Value)(ds:List (DataW H))(ps:List MemPlace),(∀ t∈ts,P.readableRec t=true∧t<P.types.size) →
  DataW.TrodAll enc P W 0 (fun _=>true) true ts vs ds ps→(∀ x∈ps,x.block<W.heap.size)→(∀ x∈ps,sp x.block=true)→DataW.TrodAll enc P W' 0 sp true ts vs ds ps:=by
 induction ts with
 | nil =>
  intro vs ds ps _ h _ _
  obtain⟨rfl,rfl,rfl⟩:=trodAll_nil h
  exact trodAll_mk0
 | cons t ts ih =>
  intro vs ds ps hts h hlt hsp
  obtain⟨v0,vs0,d0,ds0,p0,q0,rfl,rfl,rfl,h0,r0⟩:=trodAll_cons h
  obtain⟨hr,hrow⟩:=hts t (by simp)
  exact trodAll_cons_mk (WideElems.Trod_stays hl hr hrow h0 (fun x hx=>hb.same (hlt x (by simp[hx]))) (fun x hx=>hsp x (by simp[hx])))
   (ih _ _ _ (fun t ht=>hts t (by simp[ht])) r0 (fun x hx=>hlt x (by simp[hx])) (fun x hx=>hsp x (by simp[hx])))
theorem law_post (hl:laidOutB P=true){f:Func}{s:ChangeSpec}{T:TypeId}{W W':World}{args:Array Value}{ds:List (DataW H)}{before:List MemPlace}
  (hvars:s.vars=[]) (hrt:f.resultTypes=#[T]) (hT:P.underlying T=some .bool) (hts:f.params.toList.all (fun t=>P.readableRec t&&decide (t<P.types.size))=true)
  (hW:DataW.Whole enc P f.params.toList s.vars false W args.toList ds [] before) (hA:DataW.TrodAll enc P W 0 (fun _=>true) true f.params.toList args.toList ds before)
  (e1:(s.fn H (ds++[])).results=[.lit (.bool true)]) (e2:(s.fn H (ds++[])).args=ds) (e3:(s.fn H (ds++[])).vars=[]) (hb:Below W.heap.size W W') :
  s.post enc P f false true false false W args (.bool true) W':=by
 have hlt:∀ x∈before,x.block<W.heap.size:=fun x hx=>hW.lt x hx
 refine post_of_below (pa:=before) (pv:=[]) hW ?_ ?_ ?_ (by simp) hb ?_
 ·intro b sp hd
  rw[e1,hrt]
  exact trodAll_cons_mk (shut_bool hT true) trodAll_mk0
 ·intro sp hsp
  rw[e2]
  exact trodAll_keep hl hb sp _ _ _ _ (fun t ht=>by simpa using List.all_eq_true.1 hts t ht) hA hlt hsp
 ·intro sp hsp
  rw[e3,hvars]
  rfl
 ·exact ok_one hrt rfl (okWide_bool_mk hT true)
end
end Go.Proofs.YtinnphmnhmdcgaaGreat
namespace Go.Proofs.YtinnphmnhmdcgaaGreat.Am
open Go.RowKit Go.ChangeShapes Go.WideShapes Go.Deep Go.Joins
section
variable {H : Type} {enc : TypeId × Value → H} {w : World} {base : Nat} {spare : Nat → Bool} {held : Bool}
theorem opens_conv {P:Program}{t:TypeId}{α β:Type}{en:α→List AV}{en2:β→List AV}{R:α→Prop}{R2:β→Prop}(f:α→β)(h:Opens enc P w base spare held t en R)(he:∀ a,en2 (f a)=en a)(hR:∀ a,R a→R2 (f a)):Opens enc P w base spare held t en2 R2:=by
 intro fuel cs x hx hs
 obtain⟨a,ha,hc⟩:=h fuel cs x hx hs
 exact⟨f a,hR a ha,by rw[he];exact hc⟩
theorem opens_str2 {P:Program}{t:TypeId}(ht:P.underlying t=some .string):Opens enc P w base spare held t (fun s:ByteArray=>[.c (.string s)]) (fun s=>s.size≤140737488355328):=by
 intro fuel cs x h hsz
 obtain⟨s,rfl,rfl,-⟩:=DataW.trod_string ht h
 refine⟨s,?_,cells_one1 (.c _) rfl (.c _)⟩
 have h1:s.data.toList.length≤140737488355328:=Nat.le_trans (hsz s.data.toList.length (List.mem_singleton.2 rfl)) (by decide)
 rw[Array.length_toList]at h1
 exact h1
abbrev I64F (p:Fact):Prop:=(Lit.int .i64 p.1).wf=true∧(Lit.int .i64 p.2).wf=true
abbrev FactsR (l:List Fact):Prop:=l.length*16≤140737488355328∧∀ p∈l,I64F p
abbrev EffR (e:GEffect):Prop:=FactsR e.When
abbrev OpR (o:GOp):Prop:=o.Name.size≤140737488355328∧FactsR o.Pre∧o.Effs.length*40≤140737488355328∧∀ e∈o.Effs,EffR e
abbrev IntsR (l:List Int):Prop:=l.length*8≤140737488355328∧∀ z∈l,(Lit.int .i64 z).wf=true
abbrev TaskR (t:GTask):Prop:=IntsR t.Vars∧IntsR t.Init∧FactsR t.Goal∧t.Ops.length*72≤140737488355328∧∀ o∈t.Ops,OpR o
set_option maxRecDepth 100000 in
theorem oFact : Opens enc Tryz.prog w base spare held 39 cF I64F :=
 opens_struct Tryz.underlying39 (opensF_cons (off':=1) rfl (by kernel_rfl) (opens_int Tryz.underlying3) (opensF_last rfl (by kernel_rfl) (opens_int Tryz.underlying3)))
set_option maxRecDepth 100000 in
theorem oFacts : Opens enc Tryz.prog w base spare held 23 (fun l:List Fact=>[.sl 2 (l.map cF)]) FactsR :=
 opens_slice Tryz.underlying23 (by kernel_rfl) (by kernel_rfl) (by decide) (by decide) oFact
set_option maxRecDepth 100000 in
theorem oInts : Opens enc Tryz.prog w base spare held 22 (fun l:List Int=>[.sl 1 (l.map cI)]) IntsR :=
 opens_slice Tryz.underlying22 (by kernel_rfl) (by kernel_rfl) (by decide) (by decide) (opens_int Tryz.underlying3)
set_option maxRecDepth 100000 in
theorem oEff : Opens enc Tryz.prog w base spare held 76 cGEffect EffR :=
 opens_conv (fun p:List Fact×(Int×Int)=>{ When:=p.1,Var:=p.2.1,Val:=p.2.2:GEffect })
  (opens_struct Tryz.underlying76 (opensF_cons (off':=1) (en:=fun l:List Fact=>[AV.sl 2 (l.map cF)]) (R:=FactsR) (en':=fun z:Int×Int=>[AV.c (.int .i64 z.1)]++[AV.c (.int .i64 z.2)]) (R':=fun z:Int×Int=>(Lit.int .i64 z.1).wf=true∧(Lit.int .i64 z.2).wf=true) rfl (by kernel_rfl) oFacts
   (opensF_cons (off':=2) (en:=fun z:Int=>[AV.c (.int .i64 z)]) (R:=fun z:Int=>(Lit.int .i64 z).wf=true) (en':=fun z:Int=>[AV.c (.int .i64 z)]) (R':=fun z:Int=>(Lit.int .i64 z).wf=true) rfl (by kernel_rfl) (opens_int Tryz.underlying3) (opensF_last rfl (by kernel_rfl) (opens_int Tryz.underlying3)))))
  (fun _=>rfl) (fun _ h=>h.1)
set_option maxRecDepth 100000 in
theorem oOp : Opens enc Tryz.prog w base spare held 60 cGOp OpR :=
 opens_conv (fun p:ByteArray×(Int×(List Fact×List GEffect))=>{ Name:=p.1,Cost:=p.2.1,Pre:=p.2.2.1,Effs:=p.2.2.2:GOp })
  (opens_struct Tryz.underlying60 (opensF_cons (off':=1) (en:=fun s:ByteArray=>[AV.c (.string s)]) (R:=fun s=>s.size≤140737488355328) (en':=fun p:Int×(List Fact×List GEffect)=>[AV.c (.int .i64 p.1)]++([AV.sl 2 (p.2.1.map cF)]++[AV.sl 3 (p.2.2.map cGEffect)])) (R':=fun p:Int×(List Fact×List GEffect)=>(Lit.int .i64 p.1).wf=true∧(FactsR p.2.1∧(p.2.2.length*40≤140737488355328∧∀ e∈p.2.2,EffR e))) rfl (by kernel_rfl) (opens_str2 Tryz.underlying9)
   (opensF_cons (off':=2) (en:=fun z:Int=>[AV.c (.int .i64 z)]) (R:=fun z:Int=>(Lit.int .i64 z).wf=true) (en':=fun p:List Fact×List GEffect=>[AV.sl 2 (p.1.map cF)]++[AV.sl 3 (p.2.map cGEffect)]) (R':=fun p:List Fact×List GEffect=>FactsR p.1∧(p.2.length*40≤140737488355328∧∀ e∈p.2,EffR e)) rfl (by kernel_rfl) (opens_int Tryz.underlying3)
    (opensF_cons (off':=3) (en:=fun l:List Fact=>[AV.sl 2 (l.map cF)]) (R:=FactsR) (en':=fun l:List GEffect=>[AV.sl 3 (l.map cGEffect)]) (R':=fun l:List GEffect=>l.length*40≤140737488355328∧∀ e∈l,EffR e) rfl (by kernel_rfl) oFacts
     (opensF_last rfl (by kernel_rfl) (opens_slice Tryz.underlying58 (by kernel_rfl) (by kernel_rfl) (by decide) (by decide) oEff))))))
  (fun _=>rfl) (fun _ h=>⟨h.1,h.2.2.1,h.2.2.2⟩)
set_option maxRecDepth 100000 in
theorem oTask : Opens enc Tryz.prog w base spare held 26 cGTask TaskR :=
 opens_conv (fun p:List Int×(List Int×(List Fact×List GOp))=>{ Vars:=p.1,Init:=p.2.1,Goal:=p.2.2.1,Ops:=p.2.2.2:GTask })
  (opens_struct Tryz.underlying26 (opensF_cons (off':=1) (en:=fun l:List Int=>[AV.sl 1 (l.map cI)]) (R:=IntsR) (en':=fun p:List Int×(List Fact×List GOp)=>[AV.sl 1 (p.1.map cI)]++([AV.sl 2 (p.2.1.map cF)]++[AV.sl 4 (p.2.2.map cGOp)])) (R':=fun p:List Int×(List Fact×List GOp)=>IntsR p.1∧(FactsR p.2.1∧(p.2.2.length*72≤140737488355328∧∀ o∈p.2.2,OpR o))) rfl (by kernel_rfl) oInts
   (opensF_cons (off':=2) (en:=fun l:List Int=>[AV.sl 1 (l.map cI)]) (R:=IntsR) (en':=fun p:List Fact×List GOp=>[AV.sl 2 (p.1.map cF)]++[AV.sl 4 (p.2.map cGOp)]) (R':=fun p:List Fact×List GOp=>FactsR p.1∧(p.2.length*72≤140737488355328∧∀ o∈p.2,OpR o)) rfl (by kernel_rfl) oInts
    (opensF_cons (off':=3) (en:=fun l:List Fact=>[AV.sl 2 (l.map cF)]) (R:=FactsR) (en':=fun l:List GOp=>[AV.sl 4 (l.map cGOp)]) (R':=fun l:List GOp=>l.length*72≤140737488355328∧∀ o∈l,OpR o) rfl (by kernel_rfl) oFacts
     (opensF_last rfl (by kernel_rfl) (opens_slice Tryz.underlying24 (by kernel_rfl) (by kernel_rfl) (by decide) (by decide) oOp))))))
  (fun _=>rfl) (fun _ h=>h)
theorem arg_struct {P:Program}{t:TypeId}{fs:Array Field}{α:Type}{en:α→List AV}{R:α→Prop}{r:Reach}{b0:Nat}{v:Value}{d:DataW H}{p:List MemPlace}(ht:P.underlying t=some (.struct fs))(hv:Value.okWide P w r b0 t v)(ho:Opens enc P w base spare held t en R)(h:DataW.Trod enc P w base spare held t v d p)(hs:Sized P t d) :
  ∃ a,R a∧RV w nov mZ (.agg (en a)) v:=by
 obtain⟨cs,rfl,hsz⟩:=okWide_struct ht hv
 obtain⟨fuel,hf⟩:=h
 obtain⟨a,ha,hc⟩:=ho fuel _ _ hf hs
 exact⟨a,ha,agg_rv hc⟩
end
theorem TaskR.sh {t:GTask}(h:TaskR t):ShT t:=by
 obtain⟨⟨h1,-⟩,⟨h2,-⟩,⟨h3,-⟩,h4,h5⟩:=h
 refine⟨?_,?_,?_,?_,fun o ho=>?_⟩
 ·show _≤_;omega
 ·show _≤_;omega
 ·show _≤_;omega
 ·show _≤_;omega
 ·obtain⟨g1,⟨g2,-⟩,g3,g4⟩:=h5 o ho
  refine⟨by omega,?_,?_,fun e he=>?_⟩
  ·show _≤_;omega
  ·show _≤_;omega
  ·have:=(g4 e he).1
   show _≤_;omega
theorem FactsR.sh {l:List Fact}(h:FactsR l):Sh l:=by have:=h.1;show _≤_;omega
theorem law_of {f:FuncId}{args:List AV}{w:World}{cargs:Array Value}(h:ACall cx f args (.c (.bool true)))(hs:cargs.size=args.length)(hr:∀ (j:Nat)(x:AV)(v:Value),args[j]?=some x→cargs[j]?=some v→RV w nov (mO (fun _=>False)) x v) :
  Calls Tryz.prog f cargs w fun e w'=>e=.returned (.bool true)∧Below w.heap.size w w':=by
 refine Calls.mono (h.2 w (fun _=>False) cargs trivial (Nat.zero_le _) (fun b hb=>hb.elim) hs hr) ?_
 rintro e w' ⟨v,rfl,h1,h2,_⟩
 rw[rv_c h1]
 exact⟨rfl,⟨h2.os,h2.tape,h2.output,h2.size,fun b hb=>h2.block b hb (fun h=>h)⟩⟩
end Go.Proofs.YtinnphmnhmdcgaaGreat.Am
namespace Go.Proofs.YtinnphmnhmdcgaaGreat.rowCertificate
open Go.ChangeShapes Go.WideShapes Go.ChangeAt Go.RowKit Am
theorem laidOut : laidOutB Tryz.prog=true:=by kernel_rfl
set_option maxRecDepth 100000 in
theorem contract (H:Type)(enc:TypeId×Value→H)(W:World)(base:Nat)(args:Array Value)(ds gs:List (DataW H))(before:List MemPlace)
  (hval:∀ (j:Nat) t v,Tryz.f9.params[j]?=some t→args[j]?=some v→Value.okWide Tryz.prog W .any base t v)
  (hW:DataW.Whole enc Tryz.prog Tryz.f9.params.toList Rows.mutexCertificateSpec.vars false W args.toList ds gs before)
  (hsz:(DataW.weightsEach Tryz.prog (Tryz.f9.params.toList++(OpenSpec.ofChange Rows.mutexCertificateSpec).bare.plain.varTypes Tryz.prog) (ds++gs)).all (·≤reachBytes)=true) :
  Calls Tryz.prog 9 args W fun e W'=>∃ v,e=.returned v∧Rows.mutexCertificateSpec.post enc Tryz.prog Tryz.f9 false true false false W args v W':=by
 have hW':=hW
 obtain⟨p,q,hA0,hV,rfl,hfz,hnd⟩:=hW
 have hA:DataW.TrodAll enc Tryz.prog W 0 (fun _=>true) true Tryz.f9.params.toList args.toList ds p:=hA0
 rw[Tryz.params9]at hA hval
 obtain⟨v0,vs0,d0,ds0,p0,q0,hargs,rfl,rfl,h0,r0⟩:=trodAll_cons hA
 obtain⟨rfl,rfl,rfl⟩:=trodAll_nil r0
 obtain rfl:args=#[v0]:=Array.ext' hargs
 obtain⟨rfl,rfl⟩:=trodVars_none hV
 simp only[List.append_nil]at hW' hA0 hsz
 rw[Tryz.params9]at hsz
 obtain⟨t,ht,k0⟩:=arg_struct Tryz.underlying26 (hval 0 26 v0 rfl rfl) oTask h0 (sized_arg hsz (j:=0) rfl rfl)
 refine(law_of (A_l33_MutexCertificate 1000000000000000000 t (certificate_true _ (by decide) t ht.sh)) rfl (fun j x v hx hv=>?_)).mono fun e W' ⟨he,hb⟩=>?_
 ·match j,hx,hv with
  | 0,hx,hv=>simp at hx hv;subst hx hv;exact k0
  | j+1,hx,hv=>simp at hx
 ·subst he
  exact⟨_,rfl,law_post laidOut rfl (by kernel_rfl) Tryz.underlying4 (by kernel_rfl) hW' hA0 rfl rfl rfl hb⟩
theorem own : ownKnob Tryz.prog.godebug=none:=by kernel_rfl
theorem laid_met (os:Os):laidMet Tryz.prog Rows.mutexCertificateRow.laid ((World.holding Tryz.prog os ⟨#[],#[],[]⟩).forCall (fun _ _=>0) ⟨#[],#[.agg #[.slice none 0 0,.slice none 0 0,.slice none 0 0,.slice none 0 0]],[]⟩).memory :=
 laidMet_of_run' 8 (by kernel_rfl) (by kernel_rfl)
theorem reads (os:Os){H:Type}(enc:TypeId×Value→H):∃ places,DataW.whole enc Tryz.prog ((World.holding Tryz.prog os ⟨#[],#[],[]⟩).forCall (fun _ _=>0) ⟨#[],#[.agg #[.slice none 0 0,.slice none 0 0,.slice none 0 0,.slice none 0 0]],[]⟩).memory Tryz.f9.params.toList Rows.mutexCertificateSpec.vars false (#[.agg #[.slice none 0 0,.slice none 0 0,.slice none 0 0,.slice none 0 0]]:Array Value).toList 8=some ([.agg [.nil,.nil,.nil,.nil]],[],places) :=
 ⟨[],by kernel_rfl⟩
set_option maxRecDepth 100000 in
theorem lifted (os:Os)(started:os.Started)(H:Type)(enc:TypeId×Value→H)(F:Stop.Interp) :
  ReturnsInHanded {} Tryz.checked os 9 .any ((OpenSpec.ofChange Rows.mutexCertificateSpec).preRow enc Tryz.prog Tryz.f9 Rows.mutexCertificateRow.domain false Rows.mutexCertificateRow.laid) (((OpenSpec.ofChange Rows.mutexCertificateSpec).at F).post enc Tryz.prog Tryz.f9 false true false false):=by
 obtain⟨places,hx⟩:=reads os enc
 refine returnsInHanded_of_row (C:=Tryz.checked) (s:=OpenSpec.ofChange Rows.mutexCertificateSpec) own started (by kernel_rfl) Tryz.func9
  (witness_row_at (enc:=enc) (C:=Tryz.checked) false (World.holding Tryz.prog os ⟨#[],#[],[]⟩) #[.agg #[.slice none 0 0,.slice none 0 0,.slice none 0 0,.slice none 0 0]] rfl (by kernel_rfl) (by kernel_rfl) (by kernel_rfl)
   (OpenSpec.preRow_of_cond 8 hx (by kernel_rfl) (fun k hk=>by cases hk) (by kernel_rfl) (laid_met os))) ?_
 intro W base args ds gs before hval hW _ _ hsz _ _ _
 exact contract H enc W base args ds gs before hval hW hsz
theorem said : Rows.MutexCertificateSaid :=
 OpenClaim.holds_of_cond 9 Tryz.f9 rfl rfl rfl rfl rfl rfl rfl ⟨rfl,rfl,rfl,rfl,rfl⟩ rfl rfl rfl rfl rfl (by kernel_rfl) Tryz.func9 (by kernel_rfl)
  (of_decide_eq_true (by kernel_rfl)) (by unfold Func.isWrapper;first|(rw[if_pos (by decide +kernel)];kernel_rfl)|(rw[if_neg (by decide +kernel)];exact⟨rfl,rfl⟩))
  (fun os started H enc _ F=>by rw[OpenClaim.pre_eq_preRow];exact lifted os started H enc F)
end Go.Proofs.YtinnphmnhmdcgaaGreat.rowCertificate
