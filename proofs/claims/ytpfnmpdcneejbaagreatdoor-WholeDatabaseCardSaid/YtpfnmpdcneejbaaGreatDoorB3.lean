/- Texts of the proof, part 3 of 8. -/
import Derived.Test.YtpfnmpdcneejbaaGreatDoorB2
import Derived.Shelf.SlSortCmp.Whole1
import Derived.Test.YtpfnmpdcneejbaaGreatDoorB1
import Derived.Laws.StructEq
import Derived.Lib.SliceRun
import Derived.Deep.RegionHeld3
import Derived.Laws.ByValue
import Derived.WalkKit
set_option linter.unusedVariables false
set_option linter.unusedSectionVars false
set_option linter.unusedSimpArgs false
open List renaming getElem?_eq_getElem→gE_, length_map→lM_, length_append→lA_, mem_cons_of_mem→mC_, length_cons→lC_, mem_cons_self→mS_, mem_of_getElem?→mG_, getElem?_eq_some_iff→gS_, getD_eq_getElem?_getD→gD_, mem_singleton→mI_, take_of_length_le→tL_
open Option.some renaming inj→sI_
open Bool renaming and_eq_true→bA_
open Array renaming getD_eq_getD_getElem?→aD_, getElem?_eq_getElem→aE_
namespace Go.Proofs.YtpfnmpdcneejbaaGreatDoor
open Go.RowKit Go.Sort Go.Shelf Go.Lib
def Zeg : List Zaa->List Zaa->Int
 | [],[]=>0
 | [],_ :: _=>-1
 | _ :: _,[]=>1
 | x :: r,y :: s=>if Zrm x y≠0 then Zrm x y else Zeg r s
theorem Grw.trans {a b c:World}(h:Grw a b)(k:Grw b c):Grw a c:=by
 obtain⟨q,os,rfl⟩:=h
 obtain⟨q2,os2,rfl⟩:=k
 refine⟨q+q2,os++os2,?_⟩
 show grow (grow ((a.drewN q).drewN q2) os) os2=_
 rw[grow_grow,World.drewN_drewN]
set_option maxHeartbeats 1000000 in
theorem Zahh (x y:Zaa)(w:World):Calls Tryz.prog 105 #[.agg #[.int .i64 x.1,.int .i64 x.2],.agg #[.int .i64 y.1,.int .i64 y.2]] w λe w'=>e=.returned (.int .i64 (Zrm x y))/\Grw w w':=by
 obtain⟨x1,x2⟩:=x
 obtain⟨y1,y2⟩:=y
 have h1:=λ(W:World)=>Tryz.cmp_Compare_int x1 y1 W
 have h2:=λ(W:World)=>Tryz.cmp_Compare_int x2 y2 W
 have hfin:Zrm (x1,x2) (y1,y2)=if Lib.compareInt x1 y1≠0 then Lib.compareInt x1 y1 else Lib.compareInt x2 y2:=rfl
 generalize Lib.compareInt x1 y1=c1 at h1 hfin
 generalize Lib.compareInt x2 y2=c2 at h2 hfin
 generalize Zrm (x1,x2) (y1,y2)=r at hfin ⊢
 have H1:=Lib.hid h1
 have H2:=Lib.hid h2
 have HFIN:=Lib.hid hfin
 clear h1 h2 hfin
 simp only
 go_enter Tryz.func105,Tryz.ntmps105
 go_upto_region 1 with fail
 have c0:((w.alloc (.cells #[.int .i64 x1,.int .i64 x2] 53)).alloc (.cells #[.int .i64 y1,.int .i64 y2] 53)).cell? ⟨w.heap.size,0,none⟩=some (.int .i64 x1):=by simp
 have c1':((w.alloc (.cells #[.int .i64 x1,.int .i64 x2] 53)).alloc (.cells #[.int .i64 y1,.int .i64 y2] 53)).cell? ⟨w.heap.size,1,none⟩=some (.int .i64 x2):=by simp
 have c2':((w.alloc (.cells #[.int .i64 x1,.int .i64 x2] 53)).alloc (.cells #[.int .i64 y1,.int .i64 y2] 53)).cell? ⟨w.heap.size+1,0,none⟩=some (.int .i64 y1):=by simp
 have c3':((w.alloc (.cells #[.int .i64 x1,.int .i64 x2] 53)).alloc (.cells #[.int .i64 y1,.int .i64 y2] 53)).cell? ⟨w.heap.size+1,1,none⟩=some (.int .i64 y2):=by simp
 have hG:Grw w ((w.alloc (.cells #[.int .i64 x1,.int .i64 x2] 53)).alloc (.cells #[.int .i64 y1,.int .i64 y2] 53)):=((Grw.refl w).alloc _).alloc _
 have HG:=Lib.hid hG
 clear hG
 generalize (w.alloc (.cells #[.int .i64 x1,.int .i64 x2] 53)).alloc (.cells #[.int .i64 y1,.int .i64 y2] 53)=W0 at c0 c1' c2' c3' HG ⊢
 generalize w.heap.size=B0 at c0 c1' c2' c3' ⊢
 go_region_held3 (λw'=>w'.cell? ⟨B0,0,none⟩=some (.int .i64 x1)/\w'.cell? ⟨B0,1,none⟩=some (.int .i64 x2)/\w'.cell? ⟨B0+1,0,none⟩=some (.int .i64 y1)/\w'.cell? ⟨B0+1,1,none⟩=some (.int .i64 y2))
  (first|exact⟨c0,c1',c2',c3'⟩|exact⟨kept (Zgg (Below.refl _ _) _) c0,kept (Zgg (Below.refl _ _) _) c1',kept (Zgg (Below.refl _ _) _) c2',kept (Zgg (Below.refl _ _) _) c3'⟩)
  (first
   | (go_at_call_of 107 (Value.int .i64 x1);refine(H1.out _).mono ?_;rintro e wa ⟨rfl,rfl⟩)
   | (go_at_call_of 107 (Value.int .i64 x2);refine(H2.out _).mono ?_;rintro e wb ⟨rfl,rfl⟩)
   | (go_at_call 106;refine(Zaki _ _ c1 c2 r HFIN.out _ (by simp) (by simp)).mono ?_;rintro e wc ⟨rfl,rfl⟩))
 go_wp2
 go_ret
 exact⟨rfl,(HG.out.alloc _).drew⟩
theorem Grw.keepF {w w':World}(h:Grw w w'){v:Value}{l:List Zaa}(hv:FactsAt w v l):FactsAt w' v l:=hv.keep h.below
set_option maxHeartbeats 2000000 in
theorem Zae6 (u v:Value)(a b:List Zaa)(w:World)(hu:FactsAt w u a)(hv:FactsAt w v b) :
  Calls Tryz.prog 104 #[u,v,.func (.func 105) #[] #[]] w λe w'=>e=.returned (.int .i64 (Zeg a b))/\Grw w w':=by
 obtain⟨A,n,c,rfl,hn,hm⟩:=hu.form
 obtain⟨A',n',c',rfl,hn',hm'⟩:=hv.form
 obtain⟨D,hD⟩:∃D,Zeg a b=D:=⟨_,rfl⟩
 rw[hD]
 have HU:=Lib.hid hu
 have HV:=Lib.hid hv
 have HN:=Lib.hid hn
 have HN':=Lib.hid hn'
 have HD:=Lib.hid hD
 clear hu hv hn hn' hD
 go_enter Tryz.func104,Tryz.ntmps104
 go_wp2
 go_loopg [13] n (λg i wr=>∃k:Nat,k<=n/\k<=n'/\g=n-k/\i=.int .i64 k/\Grw w wr/\D=Zeg (a.drop k) (b.drop k))
 case atStart=>exact⟨0,Nat.zero_le _,Nat.zero_le _,by omega,rfl,Grw.refl _,HD.out.symm⟩
 case round =>
  obtain⟨k,hk,hk',hg,rfl,hB,hF⟩:=hrel
  have HG:=Lib.hid hg
  have HF:=Lib.hid hF
  clear hg hF
  by_cases hlt:k<n
  ·obtain⟨bb,off,x1,x2,rfl,c0,c1,hx,hd⟩:=(hB.keepF HU.out).at hlt
   have hbr:bb<wr.heap.size:=Zp7 c0
   by_cases hlt':k<n'
   ·obtain⟨bb',off',y1,y2,rfl,d0,d1,hy,hd'⟩:=(hB.keepF HV.out).at hlt'
    have hbr':bb'<wr.heap.size:=Zp7 d0
    have hst:D=if Zrm (x1,x2) (y1,y2)≠0 then Zrm (x1,x2) (y1,y2)else Zeg (a.drop (k+1)) (b.drop (k+1)):=by rw[HF.out,hd,hd',Zeg]
    have h1:=λ(W:World)=>Zahh (x1,x2) (y1,y2) W
    generalize Zrm (x1,x2) (y1,y2)=cc at hst h1
    by_cases hcc:cc=0
    ·have hb:(cc != 0)=false:=by simp[hcc]
     have hnext:D=Zeg (a.drop (k+1)) (b.drop (k+1)):=by rw[hst,if_neg (by simp[hcc])]
     have HX:=Lib.hid hx
     have HD2:=Lib.hid hd
     have HY:=Lib.hid hy
     have HD3:=Lib.hid hd'
     have HST:=Lib.hid hst
     have H1:=Lib.hid h1
     have HCC:=Lib.hid hcc
     have HNEXT:=Lib.hid hnext
     clear hx hd hy hd' hst h1 hcc hnext
     go_wp2_with (go_at_call 105;refine(H1.out _).mono ?_;rintro e w1 ⟨rfl,hb1⟩)
     go_roundg (n-(k+1))
     case measure=>have:=HG.out;omega
     case rel=>exact⟨k+1,by omega,by omega,rfl,by go_num,Grw.trans ((hB.alloc _).alloc _) hb1,HNEXT.out⟩
    ·have hb:(cc != 0)=true:=by simp[hcc]
     have hfin:D=cc:=by rw[hst,if_pos hcc]
     have HX:=Lib.hid hx
     have HD2:=Lib.hid hd
     have HY:=Lib.hid hy
     have HD3:=Lib.hid hd'
     have HST:=Lib.hid hst
     have H1:=Lib.hid h1
     have HFIN:=Lib.hid hfin
     clear hx hd hy hd' hst h1 hfin
     go_wp2_with (go_at_call 105;refine(H1.out _).mono ?_;rintro e w1 ⟨rfl,hb1⟩)
     go_ret
     exact⟨by rw[HFIN.out];rfl,Grw.trans ((hB.alloc _).alloc _) hb1⟩
   ·have hfin:D=1:=by rw[HF.out,hd,show b.drop k=[]from List.drop_eq_nil_of_le (by have:=HN'.out;omega),Zeg]
    have HX:=Lib.hid hx
    have HD2:=Lib.hid hd
    have HFIN:=Lib.hid hfin
    clear hx hd hfin
    go_wp2_with fail
    go_ret
    exact⟨by rw[HFIN.out];rfl,hB.alloc _⟩
  ·have hdn:a.drop k=[]:=List.drop_eq_nil_of_le (by have:=HN.out;omega)
   by_cases hlt':n<n'
   ·have hfin:D=-1:=by
     obtain⟨y,_,hd'⟩:=Zn9 (l:=b) (k:=k) HN'.out (by omega)
     rw[HF.out,hdn,hd',Zeg]
    have HDN:=Lib.hid hdn
    have HFIN:=Lib.hid hfin
    clear hdn hfin
    go_wp2_with fail
    go_ret
    exact⟨by rw[HFIN.out];rfl,hB⟩
   ·have hfin:D=0:=by rw[HF.out,hdn,show b.drop k=[]from List.drop_eq_nil_of_le (by have:=HN'.out;omega),Zeg]
    have HDN:=Lib.hid hdn
    have HFIN:=Lib.hid hfin
    clear hdn hfin
    go_wp2_with fail
    go_ret
    exact⟨by rw[HFIN.out];rfl,hB⟩
set_option maxHeartbeats 1000000 in
theorem Zaqz (u v:Value)(a b:List Zaa)(w:World)(hu:FactsAt w u a)(hv:FactsAt w v b) :
  Calls Tryz.prog 86 #[u,v] w λe w'=>e=.returned (.int .i64 (Zeg a b))/\Grw w w':=by
 have h2:=λW (hW:Grw w W)=>Zae6 u v a b W (hW.keepF hu) (hW.keepF hv)
 obtain⟨A,n,c,rfl,hn,hm⟩:=hu.form
 obtain⟨A',n',c',rfl,hn',hm'⟩:=hv.form
 generalize Zeg a b=r at h2 ⊢
 have H2:=Lib.hid h2
 have HU:=Lib.hid hu
 have HV:=Lib.hid hv
 have HN:=Lib.hid hn
 have HN':=Lib.hid hn'
 clear h2 hu hv hn hn'
 go_enter Tryz.func86,Tryz.ntmps86
 go_wp2_with fail
 refine(H2.out _ (Grw.refl _)).mono ?_
 rintro e w1 ⟨rfl,hb1⟩
 go_wp2_with fail
 go_ret
 exact⟨rfl,hb1⟩
theorem Zvp {x y:Zaa}:Zrm x y=0↔x=y:=by
 rw[Prod.ext_iff]
 unfold Zrm
 rcases Zdu x.1 y.1 with⟨h,e⟩|⟨h,e⟩|⟨h,e⟩ <;> rcases Zdu x.2 y.2 with⟨h',e'⟩|⟨h',e'⟩|⟨h',e'⟩ <;> rw[e,e'] <;> simp <;> omega
theorem Zanv (x y:Zaa):Zrm y x=- Zrm x y:=by
 unfold Zrm
 rcases Zdu x.1 y.1 with⟨h,e⟩|⟨h,e⟩|⟨h,e⟩ <;> rcases Zdu x.2 y.2 with⟨h',e'⟩|⟨h',e'⟩|⟨h',e'⟩ <;> rcases Zdu y.1 x.1 with⟨k,f⟩|⟨k,f⟩|⟨k,f⟩ <;> rcases Zdu y.2 x.2 with⟨k',f'⟩|⟨k',f'⟩|⟨k',f'⟩ <;> rw[e,e',f,f'] <;> first|omega|simp
theorem Zalp {x y z:Zaa}(h1:Zrm x y<0)(h2:Zrm y z<0):Zrm x z<0:=by
 have a1:=Zmp x y
 have a2:=Zmp y z
 have a3:=Zmp x z
 unfold ltOf at a1 a2 a3
 simp only[decide_eq_true h1,decide_eq_true h2]at a1 a2
 have:ltF x z=true:=by simp[ltF]at a1 a2 ⊢;omega
 rw[this]at a3
 exact of_decide_eq_true a3
theorem Zjx : ∀{a b:List Zaa},Zeg a b=0↔a=b
 | [],[]=>by simp[Zeg]
 | [],_ :: _=>by simp[Zeg]
 | _ :: _,[]=>by simp[Zeg]
 | x :: r,y :: s=>by
  rw[Zeg]
  by_cases h:Zrm x y=0
  ·rw[if_neg (by simp[h]),Zjx (a:=r) (b:=s),Zvp.1 h];simp
  ·rw[if_pos h]
   refine⟨λe=>absurd e h,λe=>?_⟩
   injection e with e _
   exact Zvp.2 e
theorem Zp4 : ∀(a b:List Zaa),Zeg b a=- Zeg a b
 | [],[]=>by simp[Zeg]
 | [],_ :: _=>by simp[Zeg]
 | _ :: _,[]=>by simp[Zeg]
 | x :: r,y :: s=>by
  have h1:=Zanv x y
  by_cases h:Zrm x y=0
  ·have h':Zrm y x=0:=by omega
   rw[Zeg,Zeg,if_neg (λq=>q h'),if_neg (λq=>q h),Zp4 r s]
  ·have h':Zrm y x≠0:=by omega
   rw[Zeg,Zeg,if_pos h',if_pos h,h1]
theorem Zn1 : ∀{a b c:List Zaa},Zeg a b<0->Zeg b c<0->Zeg a c<0
 | [],[],_,h,_=>by simp[Zeg]at h
 | [],_ :: _,[],_,h=>by simp[Zeg]at h
 | [],_ :: _,_ :: _,_,_=>by simp[Zeg]
 | _ :: _,[],_,h,_=>by simp[Zeg]at h
 | _ :: _,_ :: _,[],_,h=>by simp[Zeg]at h
 | x :: r,y :: s,z :: t,h1,h2=>by
  rw[Zeg]at h1 h2 ⊢
  by_cases e1:Zrm x y=0
  ·have:=Zvp.1 e1
   subst this
   rw[if_neg (by simp[e1])]at h1
   by_cases e2:Zrm x z=0
   ·rw[if_neg (by simp[e2])]at h2 ⊢
    exact Zn1 h1 h2
   ·rw[if_pos e2]at h2 ⊢
    exact h2
  ·rw[if_pos e1]at h1
   by_cases e2:Zrm y z=0
   ·have:=Zvp.1 e2
    subst this
    rw[if_pos e1]
    exact h1
   ·rw[if_pos e2]at h2
    have h3:=Zalp h1 h2
    rw[if_pos (by omega)]
    exact h3
theorem Zaw6 {α:Type}{c:α->α->Int}(ha:∀x y,c y x=- c x y)(ht:∀{x y z},c x y<0->c y z<0->c x z<0)(hz:∀{x y z},c x y=0->c x z=c y z):SWO (ltOf c) where
 irrefl x:=by unfold ltOf;have:=ha x x;simp;omega
 trans x y z h1 h2:=by unfold ltOf at *;simp at *;exact ht h1 h2
 ntrans x y z h1 h2:=by
  unfold ltOf at *
  simp at *
  rcases Int.lt_or_eq_of_le h1 with h3|h3
  ·rcases Int.lt_or_eq_of_le h2 with h4|h4
   ·have h5:c y x<0:=by rw[ha x y];omega
    have h6:c z y<0:=by rw[ha y z];omega
    have h7:=ht h6 h5
    rw[ha x z]at h7
    omega
   ·have h5:c z y=0:=by rw[ha y z];omega
    have h6:=hz (z:=x) h5
    rw[ha x z,ha x y]at h6
    omega
  ·have:=hz (z:=z) h3.symm
   omega
theorem swoL : SWO (ltOf Zeg):=Zaw6 Zp4 Zn1 (λh=>by rw[Zjx.1 h])
def Zt3 (l:List (List Zaa)):List (List Zaa):=l.mergeSort λx y=>!(ltOf Zeg) y x
theorem Zjy (l:List (List Zaa)):(Zt3 l).length=l.length:=List.length_mergeSort _
def Zanc (w:World)(blk:Nat)(p:Value×List Zaa):Prop:=p.1.oneCell'=true/\∀W:World,w.heap.size<=W.heap.size->(∀b,b<w.heap.size->b≠blk->W.heap[b]?=w.heap[b]?)->FactsAt W p.1 p.2
abbrev LV (w:World)(blk:Nat):={ p:Value×List Zaa // Zanc w blk p }
instance (w:World)(blk:Nat):Inhabited (LV w blk):=⟨⟨(.slice none 0 0,[]),rfl,λ_ _ _=>⟨none,0,rfl,by simp,λk x hx=>by simp at hx⟩⟩⟩
theorem Zaoq {w:World}{blk:Nat}:∀(s:List (List Zaa))(xs:List Value),s.length=xs.length->(∀(k:Nat)(y:List Zaa)(u:Value),s[k]?=some y->xs[k]?=some u->Zanc w blk (u,y))->∃d:List (LV w blk),d.map (λp=>p.1.1)=xs/\d.map (λp=>p.1.2)=s
 | [],[],_,_=>⟨[],rfl,rfl⟩
 | y :: s,u :: xs,hl,h=>by
  obtain⟨d,h1,h2⟩:=Zaoq s xs (by simpa using hl) (λk y' u' q1 q2=>h (k+1) y' u' (by simpa using q1) (by simpa using q2))
  exact⟨⟨(u,y),h 0 y u rfl rfl⟩ :: d,by simp[h1],by simp[h2]⟩
 | [],_ :: _,hl,_=>by simp at hl
 | _ :: _,[],hl,_=>by simp at hl
theorem Zoa {α:Type} [Inhabited α]{enc:α->Value}{w:World}{blk off m:Nat}{dk:Array α}{os:Array Obj}{b:Nat}(hb:b<w.heap.size)(hne:b≠blk):(sortWorld enc w blk off m dk os).heap[b]?=w.heap[b]?:=by
 show(grow (putRow enc (Sort.ahead w m) blk off dk) os).heap[b]?=_
 rw[heap_grow_old _ _ (by simpa [putRow,mapBlock,Sort.ahead] using hb)]
 have hne':¬ blk=b:=λe=>hne e.symm
 simp[putRow,mapBlock,Sort.ahead,Array.getElem?_modify,hne']
theorem Zpc {α:Type} [Inhabited α]{enc:α->Value}{w:World}{blk off m:Nat}{dk:Array α}{os:Array Obj}:w.heap.size<=(sortWorld enc w blk off m dk os).heap.size:=by
 show _<=(grow (putRow enc (Sort.ahead w m) blk off dk) os).heap.size
 simp[grow,putRow,mapBlock,Sort.ahead]
theorem Zaqx (w:World)(blk off size:Nat):CmpLays1 Tryz.prog 86 #[] (λp:LV w blk=>p.1.1) (λp q=>Zeg p.1.2 q.1.2) blk off size w:=by
 intro m os dk _ x y
 have:=Zaqz x.1.1 y.1.1 x.1.2 y.1.2 (sortWorld (λp:LV w blk=>p.1.1) w blk off m dk os) (x.2.2 _ Zpc (λb hb hne=>Zoa hb hne)) (y.2.2 _ Zpc (λb hb hne=>Zoa hb hne))
 exact this
set_option maxHeartbeats 1000000 in
theorem Zair (v:Value)(s:List (List Zaa))(xs:List Value)(w:World)(h:w.ownsRow 0 23 1 v s.length xs)(hl:s.length<4611686018427387904)
  (hval:∀g,v.ownBlock=some g->∀(k:Nat) (y:List Zaa) (u:Value),s[k]?=some y->xs[k]?=some u->Zanc w g (u,y)) :
  Calls Tryz.prog 85 #[v,.func (.func 86) #[] #[]] w λe w'=>e=.returned (.tuple #[])/\∃ys,w'.ownsRow 0 23 1 v s.length ys/\w.grownBy w' v.ownBlock/\(∀b,v.ownBlock=some b->w'.shape? b=w.shape? b) /\
   ∀(k:Nat) (y:List Zaa),(Zt3 s)[k]?=some y->∃(u:Value) (q:Nat),ys[k]?=some u/\xs[q]?=some u/\s[q]?=some y:=by
 have hxl:xs.length=s.length:=by have:=h.1;omega
 rcases id h.2 with⟨rfl,h0⟩|⟨g,cap,cur,rfl,hbase,hb,hn,hm,hcs,htake⟩
 ·have hnil:s=[]:=List.length_eq_zero_iff.1 h0
  subst hnil
  refine(AnyF.slices_SortFunc_none { Tryz.sortList with } none 0 _ w).mono ?_
  rintro e w' ⟨rfl,rfl⟩
  exact⟨rfl,xs,h,World.grownBy.refl _ _,λ_ _=>rfl,λk y hy=>by simp[Zt3]at hy⟩
 ·have eg:∀args w,(callFunc 86 args).run Tryz.prog w=.ok (.enter 86 args) w:=enters_of Tryz.func86 (by kernel_rfl) rfl
  rw[Nat.mul_one]at htake hcs
  obtain⟨d,hd1,hd2⟩:=Zaoq (w:=w) (blk:=g) s xs hxl.symm (hval g rfl)
  have hdl:d.length=s.length:=by rw[<-hd2];simp
  have hblk:g<w.heap.size:=(Array.getElem?_eq_some_iff.1 hb).1
  have hH:Holds (λp:LV w g=>p.1.1) w g 0 d.toArray:=by
   intro j hj
   have hj':j<d.length:=by simpa using hj
   have hjs:j<xs.length:=by omega
   have hxj:xs[j]?=some (d[j]).1.1:=by rw[<-hd1];simp[hj']
   have hcj:cur[j]?=some (d[j]).1.1:=by
    have:(cur.toList.take s.length)[j]?=some (d[j]).1.1:=by rw[htake];exact hxj
    rw[List.getElem?_take]at this
    split at this
    ·simpa using this
    ·cases this
   refine⟨?_,by simp[World.frozen?,hb]⟩
   simp[World.cell?,hb,hcj,hj']
  have hcon:=Any.slices_SortFunc Tryz.sortList (λp:LV w g=>p.1.1) (λp=>p.2.1) (λp q=>Zeg p.1.2 q.1.2) (Zaw6 (λx y=>Zp4 _ _) (λh1 h2=>Zn1 h1 h2) (λh=>by rw[Zjx.1 h])) 86 #[] g 0 cap d.toArray w eg (Zaqx w g 0 _) hH hblk (by simpa [hdl] using hl)
  have hsize:d.toArray.size=s.length:=by simp[hdl]
  rw[hsize]at hcon
  refine hcon.mono ?_
  rintro e w' ⟨rfl,d',n,os,hP,hS,rfl⟩
  have hd's:d'.size=s.length:=by rw[hP.1,hsize]
  have hsort:(d'.map (λp=>p.1.2)).toList=Zt3 s:=by
   have hP2:PermIn 0 (d.toArray.map (λp:LV w g=>p.1.2)).size (d.toArray.map (λp=>p.1.2)) (d'.map (λp=>p.1.2)):=by
    refine⟨by simp[hd's,hdl],λi hi=>?_,?_⟩
    ·have:s.length<=i:=by simpa [hdl] using hi
     simp[show ¬ i<d'.size by omega,show ¬ i<d.length by omega]
    ·have h3:=hP.2.2
     have e1:d'.extract 0 s.length=d':=by rw[<-hd's];exact Array.extract_size
     have e2:d.toArray.extract 0 s.length=d.toArray:=by rw[<-hsize];exact Array.extract_size
     rw[e1,e2]at h3
     have e3:(d'.map (λp=>p.1.2)).extract 0 (d.toArray.map (λp:LV w g=>p.1.2)).size=d'.map (λp=>p.1.2):=by
      rw[show(d.toArray.map (λp:LV w g=>p.1.2)).size=(d'.map (λp=>p.1.2)).size by simp[hd's,hdl]]
      exact Array.extract_size
     rw[e3,Array.extract_size]
     simpa using h3.map (λp=>p.1.2)
   have hS2:SortedIn (ltOf Zeg) 0 (d.toArray.map (λp:LV w g=>p.1.2)).size (d'.map (λp=>p.1.2)):=by
    intro i j _ hij hj
    have hj':j<d'.size:=by simpa [hd's,hdl] using hj
    have:=hS i j (Nat.zero_le _) hij (by omega)
    simp only[ltOf]at this ⊢
    simpa [show i<d'.size by omega,hj'] using this
   have:=sorted_unique_holds swoL (λx y h1 h2=>by
    unfold ltOf at h1 h2
    simp at h1 h2
    rw[Zp4 x y]at h2
    exact Zjx.1 (by omega)) _ _ hP2 hS2
   rw[this]
   unfold Zt3
   congr 1
   simp[hd2]
  have hblock:(sortWorld (λp:LV w g=>p.1.1) w g 0 n d' os).heap[g]?=some (.cells (putCells (λp:LV w g=>p.1.1) 0 d' cur) 23 (0,0)):=by
   show(grow (putRow _ (Sort.ahead w n) g 0 d') os).heap[g]?=_
   rw[heap_grow_old _ _ (by simpa [putRow,mapBlock,Sort.ahead] using hblk)]
   simp[putRow,mapBlock,Sort.ahead,Array.getElem?_modify,hb,onCells]
  have hget:∀j,j<d'.size->(putCells (λp:LV w g=>p.1.1) 0 d' cur).toList[j]?=some (d'[j]!).1.1:=by
   intro j hj
   rw[Array.getElem?_toList]
   simp[putCells,show j<cur.size by omega,hj]
  refine⟨rfl,((putCells (λp:LV w g=>p.1.1) 0 d' cur).toList.take s.length),⟨by simp[putCells];omega,.inr ⟨g,cap,_,rfl,hbase,hblock,hn,hm,by simp[putCells,hcs],by rw[Nat.mul_one]⟩⟩,?_,?_,?_⟩
  ·exact⟨rfl,rfl,rfl,Zpc,λk hk hne=>Zoa hk (λe=>hne (by rw[e];rfl))⟩
  ·intro b hbv
   have:b=g:=by simpa [Value.ownBlock] using hbv.symm
   subst this
   simp[World.shape?,hblock,hb,putCells]
  ·intro k y hy
   rw[<-hsort]at hy
   have hk:k<d'.size:=by
    have:=(gS_.1 hy).1
    simpa using this
   have hyk:y=(d'[k]!).1.2:=by
    simp[hk]at hy ⊢
    exact hy.symm
   have hmem:d'[k]!∈d:=by
    have h3:=hP.2.2
    have e1:d'.extract 0 s.length=d':=by rw[<-hd's];exact Array.extract_size
    have e2:d.toArray.extract 0 s.length=d.toArray:=by rw[<-hsize];exact Array.extract_size
    rw[e1,e2]at h3
    have:d'[k]!∈d'.toList:=by
     rw[getElem!_pos d' k hk]
     simp
    simpa using h3.mem_iff.1 this
   obtain⟨q,hq⟩:=List.getElem?_of_mem hmem
   refine⟨(d'[k]!).1.1,q,?_,?_,?_⟩
   ·rw[List.getElem?_take_of_lt (by omega)]
    exact hget k hk
   ·rw[<-hd1];simp[hq]
   ·rw[<-hd2,hyk];simp[hq]
end Go.Proofs.YtpfnmpdcneejbaaGreatDoor
namespace Go.Proofs.YtpfnmpdcneejbaaGreatDoor
open Go.RowKit
set_option maxHeartbeats 1000000 in
theorem Zmm (v:Value)(l:List Zaa)(w:World)(hv:FactsAt w v l) :
  Calls Tryz.prog 59 #[v] w λe w'=>∃v',e=.returned v'/\OwnF w' w.heap.size v' l/\Below w.heap.size w w':=by
 obtain⟨A,n,c,rfl,hn,hm⟩:=hv.form
 obtain⟨i0,hi0,hz0,hz1,hz2⟩:=info_parts Zadd
 have hroom:n*16<=140737488355328:=by obtain⟨_,_,hv',hl,_⟩:=id hv;injection hv' with _ h2 _;omega
 rcases A with _|ad
 ·have hl0:l=[]:=by
   cases l with
   | nil=>rfl
   | cons x r=>obtain⟨b,off,_,_,hA,_⟩:=hv.at (k:=0) (by simp at hn;omega);cases hA
  subst hl0
  simp at hn
  subst hn
  have hk:=λ(W:World) (a:Option Addr) (n c:Nat)=>Lib.run_eql_slice_nil (P:=Tryz.prog) W 23 53 a n c 0 0 Tryz.underlying23
  clear hv
  go_enter Tryz.func59,Tryz.ntmps59
  go_wp2_with fail
  go_ret
  exact⟨_,rfl,⟨rfl,.inl ⟨rfl,rfl⟩⟩,Below.refl _ _⟩
 ·have hk:=λ(W:World) (a:Option Addr) (n c:Nat)=>Lib.run_eql_slice_nil (P:=Tryz.prog) W 23 53 a n c 0 0 Tryz.underlying23
  have hr:=(hv.keep (Zgg (Below.refl _ _) (.cells #[] 53))).reads
  have hown:(w.alloc (.cells #[] 53)).ownsRow w.heap.size 53 2 (.slice (some ⟨w.heap.size,0,none⟩) 0 0) 0 []:=⟨rfl,.inr ⟨w.heap.size,0,#[],rfl,Nat.le_refl _,heap_alloc_new _ _,Nat.le_refl _,Nat.zero_le _,rfl,rfl⟩⟩
  have HV:=Lib.hid hv
  have HN:=Lib.hid hn
  have HR:=Lib.hid hr
  have HOWN:=Lib.hid hown
  clear hv hn hr hown
  go_enter Tryz.func59,Tryz.ntmps59
  go_wp2_with (at_builtin;refine Ze0 _ rfl (.tmp 5) (.tmp 6) _ rfl w.heap.size 53 i0 _ 2 16 Tryz.underlying23 hi0 hz0 hz1 hz2 rfl (by omega) (.slice (some ⟨w.heap.size,0,none⟩) 0 0) 0 [] rfl HOWN.out _ _ n c (Zai l) rfl HR.out (Zg8 l) (by simp only[maxLen];omega) (by omega) (by simp) ?_;intro v1 w1 hown1 hg1 hat1)
  go_ret
  refine⟨v1,rfl,?_,?_⟩
  ·rw[Nat.zero_add,List.nil_append,HN.out]at hown1
   exact hown1
  ·exact(Zgg (Below.refl _ _) _).grown hg1 (by simp) (by intro k hk;simp[Value.ownBlock]at hk;omega)
end Go.Proofs.YtpfnmpdcneejbaaGreatDoor
namespace Go.Proofs.YtpfnmpdcneejbaaGreatDoor
def eqB (a b c d:Int):Bool:=decide (a=c/\b=d)
end Go.Proofs.YtpfnmpdcneejbaaGreatDoor
namespace Go.Proofs.YtpfnmpdcneejbaaGreatDoor
open Go.RowKit
def dd : Option Zaa->List Zaa->List Zaa
 | _,[]=>[]
 | p,x :: r=>if p=some x then dd (some x) r else x :: dd (some x) r
def Zd0 (l:List Zaa):List Zaa:=dd none l
def Zaf1 : Option Zaa->List Zaa->Option Zaa
 | p,[]=>p
 | _,x :: r=>Zaf1 (some x) r
theorem Zare (l:List Zaa):∀(p:Option Zaa)(k:Nat)(x:Zaa),l.length=k+1->l[k]?=some x->Zaf1 p l=some x:=by
 induction l with
 | nil=>intro p k x h;simp at h
 | cons y r ih =>
  intro p k x h hx
  cases k with
  | zero =>
   have:r=[]:=List.length_eq_zero_iff.1 (by simpa using h)
   subst this
   simpa [Zaf1] using hx
  | succ k=>exact ih (some y) k x (by simpa using h) (by simpa using hx)
theorem Zat4 (l:List Zaa)(x:Zaa):∀p,dd p (l++[x])=if Zaf1 p l=some x then dd p l else dd p l++[x]:=by
 induction l with
 | nil=>intro p;by_cases h:p=some x <;> simp[dd,Zaf1,h]
 | cons y r ih =>
  intro p
  simp only[List.cons_append,dd,ih,Zaf1]
  by_cases h1:p=some y <;> by_cases h2:Zaf1 (some y) r=some x <;> simp[h1,h2]
theorem Zxv {l:List Zaa}{k:Nat}{x y:Zaa}(hx:l[k]?=some x)(hy:l[k-1]?=some y)(hk:1<=k) :
  Zd0 (l.take (k+1))=if y=x then Zd0 (l.take k)else Zd0 (l.take k)++[x]:=by
 have hlt:k<l.length:=(gS_.1 hx).1
 have e:l.take (k+1)=l.take k++[x]:=by
  rw[List.take_add_one,hx];rfl
 have hlast:Zaf1 none (l.take k)=some y:=Zare _ none (k-1) y (by rw[List.length_take,Nat.min_eq_left (by omega)];omega) (by rw[List.getElem?_take_of_lt (by omega),hy])
 rw[e,Zd0,Zat4,hlast]
 simp[Zd0]
theorem Zahj {l:List Zaa}:Zd0 (l.take 1)=l.take 1:=by
 cases l with
 | nil=>rfl
 | cons x r=>simp[Zd0,dd]
theorem Zac9 {l:List Zaa}(h:l.length<2):Zd0 l=l:=by
 match l,h with
 | [],_=>rfl
 | [x],_=>simp[Zd0,dd]
theorem Zadc (m:List Zaa):∀(k:Nat)(x:Zaa),((Zai m).set (k*2) (.int .i64 x.1)).set (k*2+1) (.int .i64 x.2)=Zai (m.set k x):=by
 induction m with
 | nil=>intro k x;simp[Zai]
 | cons y r ih =>
  intro k x
  cases k with
  | zero=>simp[Zai]
  | succ k =>
   rw[show(k+1)*2=k*2+1+1 from by omega]
   simp only[Zai,List.set_cons_succ,ih]
theorem Zaau (w:World)(ty:TypeId)(b o n c:Nat)(hn:0<n)
  (hc:∀j,j<n*2->(w.cell? ⟨b,o+j,none⟩).isSome=true) (hf:∀j,j<n*2->w.frozen? ⟨b,o+j,none⟩=false) :
  ∃zs:List Value,(Builtin.clear_ #[23] ty #[.slice (some ⟨b,o,none⟩) n c]).run Tryz.prog w=.ok (.tuple #[]) (w.setCells b o zs):=by
 have hv:∀w,(zeroValue 53).run Tryz.prog w=.ok (.agg #[.int .i64 0,.int .i64 0]) w:=λw=>by kernel_rfl
 refine⟨(Builtin.zeroCells #[.int .i64 0,.int .i64 0] n).toList,?_⟩
 have hst:=run_storeCells_cells (P:=Tryz.prog) b o (Builtin.zeroCells #[.int .i64 0,.int .i64 0] n).toList 0 w (by simpa [Builtin.zeroCells,Nat.mul_comm] using hc) (by simpa [Builtin.zeroCells,Nat.mul_comm] using hf) (by
  intro v hv'
  simp[Builtin.zeroCells]at hv'
  obtain⟨a,_,rfl⟩:=hv'
  rcases Nat.mod_two_eq_zero_or_one a with h|h <;> simp[h] <;> rfl)
 simp only[Nat.add_zero]at hst
 obtain⟨m,rfl⟩:∃m,n=m+1:=⟨n-1,by omega⟩
 simp[Builtin.clear_,run_underlying Tryz.underlying23,hv,Value.cells,hst]
theorem OwnF.cells {w:World}{base:Nat}{g n cap:Nat}{m:List Zaa}(h:OwnF w base (.slice (some ⟨g,0,none⟩) n cap) m)(hn:n=m.length){k:Nat}{x:Zaa}(hx:m[k]?=some x) :
  w.cell? ⟨g,k*2,none⟩=some (.int .i64 x.1)/\w.cell? ⟨g,k*2+1,none⟩=some (.int .i64 x.2):=by
 subst hn
 have hk:k<m.length:=(gS_.1 hx).1
 rw[World.ownsRow.cellAt h (k*2) (by omega),World.ownsRow.cellAt h (k*2+1) (by omega)]
 exact Zje m k x hx
theorem Zte {a w:World}{row:Option Nat}(h:a.grownBy w row)(n:Nat):a.grownBy (w.drewN n) row:=⟨h.os,h.tape,h.output,h.size,h.block⟩
theorem Zx3 {a w:World}{g:Nat}(h:a.grownBy w (some g)){p:Addr}(hp:p.block=g\/a.heap.size<=p.block)(u:Value):a.grownBy (w.setCell p u) (some g) :=
 ⟨h.os,h.tape,h.output,by simpa [World.setCell] using h.size,λi hi hne=>(Below.heap_setCell w p u i (by
  rintro rfl
  rcases hp with hp|hp
  ·exact hne (by rw[hp])
  ·omega)).trans (h.block i hi hne)⟩
theorem OwnF.store {w:World}{base:Nat}{g n cap:Nat}{m:List Zaa}(h:OwnF w base (.slice (some ⟨g,0,none⟩) n cap) m)(hn:n=m.length)(k:Nat)(x:Zaa) :
  OwnF ((w.setCell ⟨g,k*2,none⟩ (.int .i64 x.1)).setCell ⟨g,k*2+1,none⟩ (.int .i64 x.2)) base (.slice (some ⟨g,0,none⟩) n cap) (m.set k x):=by
 subst hn
 have h1:=(World.ownsRow.stored (World.ownsRow.stored h (k*2) (.int .i64 x.1)).1 (k*2+1) (.int .i64 x.2)).1
 rw[Zadc]at h1
 unfold OwnF
 rw[List.length_set]
 exact h1
theorem Zagq {base:Nat}{e:TypeId}{g n cap:Nat}(vs:List Value):∀(w:World)(o:Nat)(xs:List Value),w.ownsRow base e 2 (.slice (some ⟨g,0,none⟩) n cap) n xs ->
  ∃xs',(w.setCells g o vs).ownsRow base e 2 (.slice (some ⟨g,0,none⟩) n cap) n xs'/\xs'.take o=xs.take o/\w.grownBy (w.setCells g o vs) (some g):=by
 induction vs with
 | nil=>intro w o xs h;exact⟨xs,h,rfl,World.grownBy.refl _ _⟩
 | cons v r ih =>
  intro w o xs h
  obtain⟨h1,h2⟩:=World.ownsRow.stored h o v
  obtain⟨xs',h3,h4,h5⟩:=ih (w.setCell ⟨g,o,none⟩ v) (o+1) _ h1
  refine⟨xs',h3,?_,World.grownBy.trans h2 h5⟩
  have:=congrArg (List.take o) h4
  rw[List.take_take,List.take_take,Nat.min_eq_left (by omega),List.take_set_of_le (by omega)]at this
  exact this
theorem Zaux {w:World}{base:Nat}{g n cap:Nat}{xs:List Value}(h:w.ownsRow base 53 2 (.slice (some ⟨g,0,none⟩) n cap) n xs){k:Nat}(hk:k<=n){l:List Zaa}(hl:l.length=k)(hx:xs.take (k*2)=Zai l):OwnF w base (.slice (some ⟨g,0,none⟩) k cap) l:=by
 rcases h.2 with⟨hv,_⟩|⟨g',cap',cur,hv,hb,hh,h1,h2,h3,h4⟩
 ·cases hv
 ·injection hv with e1 _ e3
  injection e1 with e1
  injection e1 with e1 _
  subst e1 e3
  refine⟨by rw[Zba],.inr ⟨g,cap,cur,by rw[hl],hb,hh,by rw[hl];omega,h2,h3,?_⟩⟩
  rw[hl,<-hx,<-h4,List.take_take,Nat.min_eq_left (by omega)]
theorem Zang {l m:List Zaa}{a i:Nat}(h:m.drop a=l.drop a)(hi:a<=i):m[i]?=l[i]?:=by
 have:=congrArg (λz=>z[i-a]?) h
 simpa [List.getElem?_drop,show a+(i-a)=i from by omega] using this
set_option maxHeartbeats 4000000 in
theorem Zabj (base:Nat)(v:Value)(l:List Zaa)(w:World)(h:OwnF w base v l)(hl:l.length*16<=140737488355328) :
  Calls Tryz.prog 164 #[v] w λe w'=>∃v',e=.returned v'/\OwnF w' base v' (Zd0 l)/\w.grownBy w' v.ownBlock/\v'.ownBlock=v.ownBlock:=by
 obtain⟨A,cap,rfl⟩:=h.form
 obtain⟨n,hn⟩:∃n,n=l.length:=⟨_,rfl⟩
 rw[<-hn]at h hl ⊢
 by_cases hshort:n<2
 ·have hfin:Zd0 l=l:=Zac9 (by omega)
  rw[hfin]
  have HO:=Lib.hid h
  have HN:=Lib.hid hn
  have HFIN:=Lib.hid hfin
  clear h hn hfin
  go_enter Tryz.func164,Tryz.ntmps164
  go_wp2
  go_ret
  exact⟨_,rfl,HO.out,World.grownBy.refl _ _,rfl⟩
 ·obtain⟨g,rfl,hng,hcm⟩:∃g,A=some ⟨g,0,none⟩/\n<=cap/\cap<=9223372036854775807:=by
   rcases h.2 with⟨hv,h0⟩|⟨g,cap',cur,hv,_,_,h1,h2,_⟩
   ·omega
   ·injection hv with e1 _ e3
    exact⟨g,e1,by omega,by rw[e3];exact h2⟩
  have hown:OwnF w base (.slice (some ⟨g,0,none⟩) n cap) l:=by rw[hn];rw[hn]at h;exact h
  clear h
  have HO:=Lib.hid hown
  have HN:=Lib.hid hn
  clear hown hn
  go_enter Tryz.func164,Tryz.ntmps164
  go_wp2
  go_loopg [3] (n-1) (λgg i wr=>∃k:Nat,1<=k/\k<=n/\gg=n-k/\i=.int .i64 k/\(∃q,wr=w.drewN q)/\Zd0 (l.take k)=l.take k)
  case atStart=>exact⟨1,by omega,by omega,by omega,rfl,⟨0,rfl⟩,Zahj⟩
  case round =>
   obtain⟨k,hk1,hkn,hg,rfl,⟨q,rfl⟩,hF⟩:=hrel
   have HG:=Lib.hid hg
   have HF:=Lib.hid hF
   clear hg hF
   by_cases hlt:k<n
   ·obtain⟨x,hx,_⟩:=Zn9 (l:=l) (k:=k) HN.out hlt
    obtain⟨y,hy,_⟩:=Zn9 (l:=l) (k:=k-1) HN.out (by omega)
    obtain⟨c0,c1⟩:=HO.out.cells HN.out hx
    obtain⟨d0,d1⟩:=HO.out.cells HN.out hy
    have hstep:=Zxv hx hy hk1
    obtain⟨x1,x2⟩:=x
    obtain⟨y1,y2⟩:=y
    simp only at c0 c1 d0 d1
    have HX:=Lib.hid hx
    have HY:=Lib.hid hy
    have HST:=Lib.hid hstep
    clear hx hy hstep
    go_upto_region 6 with fail
    go_cut [25] (λt wx=>t=.bool (eqB x1 x2 y1 y2)/\∃q,wx=w.drewN q)
    case first =>
     by_cases h1:x1=y1
     ·subst h1
      by_cases h2:x2=y2
      ·subst h2
       refine wp_region_quiet_lit (by kernel_rfl) (by kernel_rfl) ?_
       repeat (any_goals (first|go_big_quiet_step (fail)|quiet_step (fail)|(refine wpQuiet_step (λK hK=>?_);go_simp;split <;> (refine hK _ ?_;clear hK K))))
       all_goals (refine wpQuiet_nil ?_;intro _ hw';obtain⟨nq,hw''⟩:=hw';subst hw'')
       all_goals (go_wp2_with fail;go_meet;exact⟨by simp[eqB],_,by first|rfl|rw[World.drewN_drewN]⟩)
      ·refine wp_region_quiet_lit (by kernel_rfl) (by kernel_rfl) ?_
       repeat (any_goals (first|go_big_quiet_step (fail)|quiet_step (fail)|(refine wpQuiet_step (λK hK=>?_);go_simp;split <;> (refine hK _ ?_;clear hK K))))
       all_goals (refine wpQuiet_nil ?_;intro _ hw';obtain⟨nq,hw''⟩:=hw';subst hw'')
       all_goals (go_wp2_with fail;go_meet;exact⟨by simp[eqB,h2],_,by first|rfl|rw[World.drewN_drewN]⟩)
     ·refine wp_region_quiet_lit (by kernel_rfl) (by kernel_rfl) ?_
      repeat (any_goals (first|go_big_quiet_step (fail)|quiet_step (fail)|(refine wpQuiet_step (λK hK=>?_);go_simp;split <;> (refine hK _ ?_;clear hK K))))
      all_goals (refine wpQuiet_nil ?_;intro _ hw';obtain⟨nq,hw''⟩:=hw';subst hw'')
      all_goals (go_wp2_with fail;go_meet;exact⟨by simp[eqB,h1],_,by first|rfl|rw[World.drewN_drewN]⟩)
    case rest =>
     obtain⟨rfl,q',rfl⟩:=hcut
     cases hbad:eqB x1 x2 y1 y2
     ·have hne:¬ ((y1,y2):Zaa)=(x1,x2):=by
       intro e
       injection e with e1 e2
       subst e1 e2
       simp[eqB]at hbad
      have hnext:Zd0 (l.take (k+1))=l.take (k+1):=by
       rw[HST.out,if_neg hne,HF.out,List.take_add_one,HX.out];rfl
      have HNE:=Lib.hid hne
      have HNEXT:=Lib.hid hnext
      clear hne hnext
      go_wp2
      go_roundg (n-(k+1))
      case measure=>have:=HG.out;omega
      case rel=>exact⟨k+1,by omega,by omega,rfl,by go_num,⟨_,rfl⟩,HNEXT.out⟩
     ·have heq:((y1,y2):Zaa)=(x1,x2):=by simp[eqB]at hbad;rw[hbad.1,hbad.2]
      have hnext:Zd0 (l.take (k+1))=l.take k:=by rw[HST.out,if_pos heq,HF.out]
      have HEQ:=Lib.hid heq
      have HNEXT:=Lib.hid hnext
      clear heq hnext
      clear c0 c1 d0 d1
      have hcapk:¬ cap=k:=by omega
      have hstart:=Zte (World.grownBy.refl w (some g)) q'
      have HSTART:=Lib.hid hstart
      clear hstart
      go_wp2
      go_loopg [3,5] (n-k-1) (λgg a i wx=>∃(j kk:Nat) (m:List Zaa),1<=j/\j<=n-k/\gg=n-k-j/\a=.int .i64 kk/\i=.int .i64 j/\k<=kk/\kk<=k+j-1/\OwnF wx base (.slice (some ⟨g,0,none⟩) n cap) m/\n=m.length/\Zd0 (l.take (k+j))=m.take kk/\m.drop (k+j-1)=l.drop (k+j-1)/\w.grownBy wx (some g))
      case atStart=>exact⟨1,k,l,by omega,by omega,by omega,rfl,rfl,by omega,by omega,HO.out,HN.out,HNEXT.out,rfl,HSTART.out⟩
      case round =>
       clear HSTART HNEXT HEQ
       obtain⟨j,kk,m,hj1,hjn,hg2,rfl,rfl,hkk,hkk2,hown2,hmn,hC,hD,hgr⟩:=hrel
       have HG2:=Lib.hid hg2
       have HC:=Lib.hid hC
       have HD:=Lib.hid hD
       have HGR:=Lib.hid hgr
       have HMN:=Lib.hid hmn
       have HO2:=Lib.hid hown2
       clear hg2 hC hD hgr hmn hown2
       by_cases hjt:j<n-k
       ·obtain⟨z,hz,_⟩:=Zn9 (l:=l) (k:=k+j) HN.out (by omega)
        obtain⟨u,hu,_⟩:=Zn9 (l:=l) (k:=k+j-1) HN.out (by omega)
        have hzm:m[k+j]?=some z:=by rw[Zang HD.out (by omega)];exact hz
        have hum:m[k+j-1]?=some u:=by rw[Zang HD.out (by omega)];exact hu
        obtain⟨s,hs,_⟩:=Zn9 (l:=m) (k:=kk) HMN.out (by omega)
        obtain⟨c0,c1⟩:=HO2.out.cells HMN.out hzm
        obtain⟨d0,d1⟩:=HO2.out.cells HMN.out hum
        obtain⟨s0,s1⟩:=HO2.out.cells HMN.out hs
        have f0:wr.frozen? ⟨g,kk*2,none⟩=false:=World.ownsRow.frozenAt (by have:=HO2.out;unfold OwnF at this;rw[<-HMN.out]at this;exact this) (kk*2)
        have f1:wr.frozen? ⟨g,kk*2+1,none⟩=false:=World.ownsRow.frozenAt (by have:=HO2.out;unfold OwnF at this;rw[<-HMN.out]at this;exact this) (kk*2+1)
        have hstep2:=Zxv hz hu (by omega)
        obtain⟨z1,z2⟩:=z
        obtain⟨u1,u2⟩:=u
        rw[show(k+j)*2=k*2+j*2 from by omega]at c0 c1
        rw[show(k+j-1)*2=k*2+(j-1)*2 from by omega]at d0 d1
        simp only at c0 c1 d0 d1
        have HZ:=Lib.hid hz
        have HU:=Lib.hid hu
        have HZM:=Lib.hid hzm
        have HUM:=Lib.hid hum
        have HS:=Lib.hid hs
        have HST2:=Lib.hid hstep2
        clear hz hu hzm hum hs hstep2
        go_upto_region 11 with fail
        go_cut [44] (λt wx=>t=.bool !(eqB z1 z2 u1 u2)/\∃q,wx=wr.drewN q)
        case first =>
         by_cases h1:z1=u1
         ·subst h1
          by_cases h2:z2=u2
          ·subst h2
           refine wp_region_quiet_lit (by kernel_rfl) (by kernel_rfl) ?_
           repeat (any_goals (first|go_big_quiet_step (fail)|quiet_step (fail)|(refine wpQuiet_step (λK hK=>?_);go_simp;split <;> (refine hK _ ?_;clear hK K))))
           all_goals (refine wpQuiet_nil ?_;intro _ hw';obtain⟨nq,hw''⟩:=hw';subst hw'')
           all_goals (go_wp2_with fail;go_meet;exact⟨by simp[eqB],_,by first|rfl|rw[World.drewN_drewN]⟩)
          ·refine wp_region_quiet_lit (by kernel_rfl) (by kernel_rfl) ?_
           repeat (any_goals (first|go_big_quiet_step (fail)|quiet_step (fail)|(refine wpQuiet_step (λK hK=>?_);go_simp;split <;> (refine hK _ ?_;clear hK K))))
           all_goals (refine wpQuiet_nil ?_;intro _ hw';obtain⟨nq,hw''⟩:=hw';subst hw'')
           all_goals (go_wp2_with fail;go_meet;exact⟨by simp[eqB,h2],_,by first|rfl|rw[World.drewN_drewN]⟩)
         ·refine wp_region_quiet_lit (by kernel_rfl) (by kernel_rfl) ?_
          repeat (any_goals (first|go_big_quiet_step (fail)|quiet_step (fail)|(refine wpQuiet_step (λK hK=>?_);go_simp;split <;> (refine hK _ ?_;clear hK K))))
          all_goals (refine wpQuiet_nil ?_;intro _ hw';obtain⟨nq,hw''⟩:=hw';subst hw'')
          all_goals (go_wp2_with fail;go_meet;exact⟨by simp[eqB,h1],_,by first|rfl|rw[World.drewN_drewN]⟩)
        case rest =>
         obtain⟨rfl,q2,rfl⟩:=hcut
         cases hbad:eqB z1 z2 u1 u2
         ·have hne:¬ ((u1,u2):Zaa)=(z1,z2):=by
           intro e
           injection e with e1 e2
           subst e1 e2
           simp[eqB]at hbad
          have hnext:Zd0 (l.take (k+(j+1)))=(m.set kk (z1,z2)).take (kk+1):=by
           rw[<-Nat.add_assoc,HST2.out,if_neg hne,HC.out,List.take_add_one,List.take_set_of_le (by omega)]
           have:=HMN.out
           simp[show kk<m.length by omega]
          have hdrop:(m.set kk (z1,z2)).drop (k+(j+1)-1)=l.drop (k+(j+1)-1):=by
           rw[List.drop_set_of_lt (by omega)]
           have:=congrArg (List.drop 1) HD.out
           simpa [List.drop_drop,show 1+(k+j-1)=k+(j+1)-1 from by omega,show k+j-1+1=k+(j+1)-1 from by omega] using this
          have HNE:=Lib.hid hne
          have HNEXT:=Lib.hid hnext
          have HDROP:=Lib.hid hdrop
          clear hne hnext hdrop
          go_wp2
          go_roundg (n-k-(j+1))
          case measure=>have:=HG2.out;omega
          case rel=>exact⟨j+1,kk+1,m.set kk (z1,z2),by omega,by omega,rfl,by go_num,by go_num,by omega,by omega,OwnF.store (x:=(z1,z2)) HO2.out HMN.out kk,by rw[List.length_set];exact HMN.out,HNEXT.out,HDROP.out,Zx3 (Zx3 (Zte HGR.out q2) (.inl rfl) _) (.inl rfl) _⟩
         ·have heq:((u1,u2):Zaa)=(z1,z2):=by simp[eqB]at hbad;rw[hbad.1,hbad.2]
          have hnext:Zd0 (l.take (k+(j+1)))=m.take kk:=by rw[<-Nat.add_assoc,HST2.out,if_pos heq,HC.out]
          have hdrop:m.drop (k+(j+1)-1)=l.drop (k+(j+1)-1):=by
           have:=congrArg (List.drop 1) HD.out
           simpa [List.drop_drop,show 1+(k+j-1)=k+(j+1)-1 from by omega,show k+j-1+1=k+(j+1)-1 from by omega] using this
          have HEQ:=Lib.hid heq
          have HNEXT:=Lib.hid hnext
          have HDROP:=Lib.hid hdrop
          clear heq hnext hdrop
          go_wp2
          go_roundg (n-k-(j+1))
          case measure=>have:=HG2.out;omega
          case rel=>exact⟨j+1,kk,m,by omega,by omega,rfl,rfl,by go_num,by omega,by omega,HO2.out,HMN.out,HNEXT.out,HDROP.out,Zte HGR.out q2⟩
       ·have hjk:j=n-k:=by omega
        have hfin:Zd0 l=m.take kk:=by rw[<-HC.out,tL_ (by have:=HN.out;omega)]
        have ho2:wr.ownsRow base 53 2 (.slice (some ⟨g,0,none⟩) n cap) n (Zai m):=by have:=HO2.out;unfold OwnF at this;rw[<-HMN.out]at this;exact this
        have hcl:=λ(ty:TypeId)=>Zaau wr ty g (kk*2) (n-kk) (cap-kk) (by omega)
         (λi hi=>by rw[World.ownsRow.cellAt ho2 (kk*2+i) (by omega),gE_ (by rw[Zba,<-HMN.out];omega)];rfl)
         (λi hi=>World.ownsRow.frozenAt ho2 (kk*2+i))
        obtain⟨zs,hclr⟩:=hcl 0
        obtain⟨xs',hx1,hx2,hx3⟩:=Zagq zs wr (kk*2) _ ho2
        have hcapkk:¬ cap=kk:=by omega
        have hown3:OwnF (wr.setCells g (kk*2) zs) base (.slice (some ⟨g,0,none⟩) kk cap) (Zd0 l) :=
         Zaux hx1 (by omega) (by rw[hfin,List.length_take,<-HMN.out];omega) (by rw[hx2,Zpa,hfin])
        have hg3:=World.grownBy.trans HGR.out hx3
        clear hcl
        have HFIN:=Lib.hid hfin
        have HOO:=Lib.hid ho2
        have HX1:=Lib.hid hx1
        have HX2:=Lib.hid hx2
        have HX3:=Lib.hid hx3
        have HOWN3:=Lib.hid hown3
        have HG3:=Lib.hid hg3
        have HJK:=Lib.hid hjk
        clear hfin ho2 hx1 hx2 hx3 hown3 hg3 hjk
        go_wp2
        go_ret
        exact⟨_,rfl,HOWN3.out,HG3.out,rfl⟩
   ·have hfin:Zd0 l=l:=by rw[<-tL_ (l:=l) (i:=k) (by have:=HN.out;omega)];rw[HF.out]
    have HFIN:=Lib.hid hfin
    clear hfin
    go_wp2
    go_ret
    exact⟨_,rfl,by rw[HFIN.out];exact HO.out,Zte (World.grownBy.refl _ _) _,rfl⟩
end Go.Proofs.YtpfnmpdcneejbaaGreatDoor
namespace Go.Proofs.YtpfnmpdcneejbaaGreatDoor.Am
open Go.RowKit
theorem bT0 {n m:Nat}(h:Nat.ble n m=true):n<=m:=Nat.le_of_ble_eq_true h
section
variable {w : World} {vs : Shp} {m : MM} {v : Value}
theorem Zaaw {l:List Zaa}(h:RV w vs m (.sl 2 (l.map cF)) v)(hl:l.length*16<=140737488355328):FactsAt w v l:=by
 obtain⟨A,cap,b,off,f,rfl,hA,_,_,_,hc,hr,_⟩:=Zxj h
 refine⟨A,cap,by simp,hl,λk x hx=>?_⟩
 have hk:(l.map cF)[k]?=some (cF x):=Zad hx
 obtain⟨rfl,_⟩:=hA (λe=>by rw[e]at hk;simp at hk)
 have h0:=(hc k 0 _ _ hk rfl).1
 have h1:=(hc k 1 _ _ hk rfl).1
 rw[Zjp (hr k 0 _ _ hk rfl)]at h0
 rw[Zjp (hr k 1 _ _ hk rfl)]at h1
 exact⟨b,off,rfl,by simpa using h0,by simpa [Nat.add_assoc] using h1⟩
theorem Zab2 {l:List Zaa}{xs:List Value}(h:Flat w vs m 2 (l.map cF) xs.toArray)(hl:xs.length=l.length*2):xs=Zai l:=by
 apply List.ext_getElem?
 intro i
 by_cases hi:i<l.length*2
 ·obtain⟨k,j,hj,rfl⟩:∃k j,j<2/\i=k*2+j:=⟨i / 2,i % 2,Nat.mod_lt _ (by omega),by omega⟩
  have hk:k<l.length:=by omega
  have hlk:=gE_ hk
  obtain⟨c0,c1⟩:=Zje l k _ hlk
  obtain⟨_,h2⟩:=h.2 k (cF l[k]) (Zad hlk)
  have hj2:j=0\/j=1:=by omega
  rcases hj2 with rfl|rfl
  ·obtain⟨u,u1,_,u3⟩:=h2 0 _ rfl
   rw[List.getElem?_toArray]at u1
   rw[u1,Zjp u3,Nat.add_zero,c0]
  ·obtain⟨u,u1,_,u3⟩:=h2 1 _ rfl
   rw[List.getElem?_toArray]at u1
   rw[u1,Zjp u3,c1]
 ·rw[List.getElem?_eq_none (by omega),List.getElem?_eq_none (by rw[Zba];omega)]
theorem Zqz {l:List Zaa}(k:Nat)(e:List AV)(he:(l.map cF)[k]?=some e):e.length=2/\∀(j:Nat)(y:AV),e[j]?=some y->Fr y/\∃u,(Zai l)[k*2+j]?=some u/\u.oneCell'=true/\RV w vs m y u:=by
 obtain⟨x,hx,rfl⟩:=Zsk he
 obtain⟨c0,c1⟩:=Zje l k x hx
 refine⟨rfl,λj y hy=>?_⟩
 match j,hy with
 | 0,hy=>simp[cF]at hy;subst hy;exact⟨.c _,_,c0,rfl,.c _⟩
 | 1,hy=>simp[cF]at hy;subst hy;exact⟨.c _,_,c1,rfl,.c _⟩
 | j+2,hy=>simp[cF]at hy
theorem Zaak {base E sz n n':Nat}{w':World}{xs xs':List Value}(h:w.ownsRow base E sz v n xs)(h':w'.ownsRow base E sz v n' xs'){b:Nat}(hb:v.ownBlock=some b):w'.shape? b=w.shape? b:=by
 rcases h.2 with⟨rfl,_⟩|⟨g,cap,cur,rfl,_,hh,_,_,hcs,_⟩
 ·cases hb
 ·rcases h'.2 with⟨e,_⟩|⟨g',cap',cur',e,_,hh',_,_,hcs',_⟩
  ·cases e
  ·injection e with e1 e2 e3
   injection e1 with e1
   injection e1 with e1 _
   subst e1 e3
   have:b=g:=by simpa [Value.ownBlock] using hb.symm
   subst this
   simp[World.shape?,hh,hh',hcs,hcs']
end
theorem Zaex {α:Type}{c:Array α}(h:c.size=1):∃a,c=#[a]:=by
 obtain⟨l⟩:=c
 match l,h with
 | [a],_=>exact⟨a,rfl⟩
theorem Zanl {α:Type}{c:Array α}(h:c.size=2):∃a b,c=#[a,b]:=by
 obtain⟨l⟩:=c
 match l,h with
 | [a,b],_=>exact⟨a,b,rfl⟩
def Zh8 (l:List Zaa):Option (List Zaa):=grd (l.length*16<=140737488355328) (some l)
theorem Zsz (l:List Zaa){r:List Zaa}(h:Zh8 l=some r):Zc8 cx 59 [.sl 2 (l.map cF)] [] [] (.own 0 0 0 r.length) [(0,⟨53,2,false,r.map cF⟩)]:=by
 obtain⟨h0,h⟩:=Zaf h
 have h:=sI_ h
 subst h
 refine⟨Zma Tryz.func59 rfl (by decide),λw m cargs hg hM hsz hargs=>?_⟩
 obtain⟨v,rfl⟩:=Zaex hsz
 refine(Zmm v l w (Zaaw (hargs 0 _ v rfl rfl) h0)).mono ?_
 rintro e w' ⟨v',rfl,ho,hb⟩
 refine⟨v',⟨λk=>if k=0 then v'.ownBlock else none,m.O⟩,rfl,?_⟩
 have hge:∀b,v'.ownBlock=some b->w.heap.size<=b:=λb hb=>by
  rcases ho.2 with⟨rfl,_⟩|⟨g,cap,cur,rfl,hbase,_⟩
  ·cases hb
  ·simp[Value.ownBlock]at hb;omega
 exact Zafq (i0:=0) (v:=.slice none 0 0) (row:=none) hM hg (.inl rfl) (Zoo ho (Nat.zero_le _)) ⟨hb.os,hb.tape,hb.output,hb.size,λb hb' _=>hb.block b hb'⟩ (.inl rfl) (.inr hge) (lM_ _) (λk e he=>Zqz k e he)
def Zwh (l:List Zaa):Option (List Zaa):=grd (l.length*16<=140737488355328) (some (Zd0 l))
theorem Zalb (l:List Zaa){r:List Zaa}(h:Zwh l=some r):Zc8 cx 164 [.own 0 0 0 l.length] [(0,⟨53,2,false,l.map cF⟩)] [] (.own 0 0 0 r.length) [(0,⟨53,2,false,r.map cF⟩)]:=by
 obtain⟨h0,h⟩:=Zaf h
 have h:=sI_ h
 subst h
 refine⟨Zma Tryz.func164 rfl (by decide),λw m cargs hg hM hsz hargs=>?_⟩
 obtain⟨v,rfl⟩:=Zaex hsz
 obtain⟨xs,hrow,hfl,hm0⟩:=Zq7 (η:=fE [(0,⟨53,2,false,l.map cF⟩)]) (hargs 0 _ v rfl rfl) rfl (hM.ok 0 _ rfl) (by simp)
 simp only at hrow hfl
 have hxs:=Zab2 hfl hrow.1
 subst hxs
 refine(Zabj 0 v l w hrow h0).mono ?_
 rintro e w' ⟨v',rfl,ho,hgr,hv'⟩
 exact⟨v',⟨λk=>if k=0 then v'.ownBlock else none,m.O⟩,rfl,Zafq (i0:=0) hM hg (.inr ⟨by simp[Zgu,Zmb],hm0⟩) ho hgr (.inl rfl) (.inl hv') (lM_ _) (λk e he=>Zqz k e he)⟩
def Zag9 (l:List Zaa):Option (List Zaa):=grd (l.length<4611686018427387904) (some (Zra l))
theorem Zatl (l:List Zaa){r:List Zaa}(h:Zag9 l=some r):Zc8 cx 162 [.own 900 0 0 l.length,.clo (.func 163) [] []] [(900,⟨53,2,false,l.map cF⟩)] [900] (.tup []) [(900,⟨53,2,false,r.map cF⟩)]:=by
 obtain⟨h0,h⟩:=Zaf h
 have h:=sI_ h
 subst h
 refine⟨Zma Tryz.func162 rfl (by decide),λw m cargs hg hM hsz hargs=>?_⟩
 obtain⟨v,f,rfl⟩:=Zanl hsz
 obtain⟨us,us',rfl,l1,_,l2,_⟩:=Zacf (hargs 1 _ f rfl rfl)
 obtain rfl:us=#[]:=Array.eq_empty_of_size_eq_zero l1.symm
 obtain rfl:us'=#[]:=Array.eq_empty_of_size_eq_zero l2.symm
 obtain⟨xs,hrow,hfl,hm0⟩:=Zq7 (η:=fE [(900,⟨53,2,false,l.map cF⟩)]) (hargs 0 _ v rfl rfl) rfl (hM.ok 900 _ rfl) (by simp)
 simp only at hrow hfl
 have hxs:=Zab2 hfl hrow.1
 subst hxs
 refine(Zamr 0 v l w hrow h0).mono ?_
 rintro e w' ⟨rfl,ho,hgr⟩
 have hlen:=Zjm l
 unfold OwnF at ho
 exact⟨_,m,rfl,Zadj hM hg hm0 (by rw[hlen]at ho;exact ho) hgr (λb hb=>Zaak hrow ho hb) (by rw[lM_,hlen]) (λm'=>.tup rfl (λj x u hx=>by simp at hx)) (λk e he=>Zqz k e he)⟩
def Zaha (l:List (List Zaa)):Option (List (List Zaa)):=grd (l.length<4611686018427387904) (grd (∀y∈l,y.length*16<=140737488355328) (some (Zt3 l)))
theorem Zatm (l:List (List Zaa)){r:List (List Zaa)}(h:Zaha l=some r):Zc8 cx 85 [.own 900 0 0 l.length,.clo (.func 86) [] []] [(900,⟨23,1,false,l.map Zal⟩)] [900] (.tup []) [(900,⟨23,1,false,r.map Zal⟩)]:=by
 obtain⟨h0,h⟩:=Zaf h
 obtain⟨h1,h⟩:=Zaf h
 have h:=sI_ h
 subst h
 refine⟨Zma Tryz.func85 rfl (by decide),λw m cargs hg hM hsz hargs=>?_⟩
 obtain⟨v,f,rfl⟩:=Zanl hsz
 obtain⟨us,us',rfl,l1,_,l2,_⟩:=Zacf (hargs 1 _ f rfl rfl)
 obtain rfl:us=#[]:=Array.eq_empty_of_size_eq_zero l1.symm
 obtain rfl:us'=#[]:=Array.eq_empty_of_size_eq_zero l2.symm
 obtain⟨xs,hrow,hfl,hm0⟩:=Zq7 (η:=fE [(900,⟨23,1,false,l.map Zal⟩)]) (hargs 0 _ v rfl rfl) rfl (hM.ok 900 _ rfl) (by simp)
 simp only at hrow hfl
 have hat:∀(k:Nat) (y:List Zaa) (u:Value),l[k]?=some y->xs[k]?=some u->u.oneCell'=true/\RV w (shp (fE [(900,⟨23,1,false,l.map Zal⟩)])) m (.sl 2 (y.map cF)) u:=by
  intro k y u hy hu
  obtain⟨z,z1,z2,z3⟩:=(hfl.2 k (Zal y) (by simp[hy])).2 0 _ rfl
  simp only[Nat.mul_one,Nat.add_zero,List.getElem?_toArray]at z1
  rw[hu]at z1
  injection z1 with z1
  rw[z1]
  exact⟨z2,z3⟩
 refine(Zair v l xs w hrow h0 (λg hvg k y u hy hu=>?_)).mono ?_
 ·obtain⟨a1,a2⟩:=hat k y u hy hu
  refine⟨a1,λW hW hc=>Zaaw (Zaik (.sl (Zsi _)) a2 hW (λb hb hno=>hc b hb (λe=>hno ?_)) (λ_ _ h=>h)) (h1 y (mG_ hy))⟩
  subst e
  exact .inr ⟨900,Zau.2 (by simp[Zgu,Zmb]),by rw[hm0];exact hvg⟩
 ·rintro e w' ⟨rfl,ys,ho,hgr,hsh,hperm⟩
  have hlen:=Zjy l
  refine⟨_,m,rfl,Zadj hM hg hm0 ho hgr hsh (by rw[lM_,hlen]) (λm'=>.tup rfl (λj x u hx=>by simp at hx)) (λk e he=>?_)⟩
  obtain⟨y,hy,rfl⟩:=Zsk he
  obtain⟨u,q,q1,q2,q3⟩:=hperm k y hy
  obtain⟨a1,a2⟩:=hat q y u q3 q2
  refine⟨rfl,λj a hj=>?_⟩
  cases j with
  | zero =>
   simp only[Zal,List.getElem?_cons_zero,Option.some.injEq]at hj
   subst hj
   exact⟨.sl (Zsi _),u,by simpa using q1,a1,a2⟩
  | succ j=>simp[Zal]at hj
end Go.Proofs.YtpfnmpdcneejbaaGreatDoor.Am
namespace Go.Proofs.YtpfnmpdcneejbaaGreatDoor
open Go.RowKit
def insF (l:List Zaa)(i:Nat)(x:Zaa):List Zaa:=l.take i++x :: l.drop i
theorem Zaj7 (l:List Zaa)(i:Nat)(x:Zaa)(h:i<=l.length):(insF l i x).length=l.length+1:=by
 simp[insF];omega
theorem Ztz (l:List Zaa):∀n,(Zai l).drop (n*2)=Zai (l.drop n):=by
 induction l with
 | nil=>intro n;simp[Zai]
 | cons x r ih =>
  intro n
  cases n with
  | zero=>simp[Zai]
  | succ n=>rw[show(n+1)*2=n*2+1+1 from by omega];simp only[Zai,List.drop_succ_cons,ih]
set_option maxHeartbeats 4000000 in
set_option maxRecDepth 100000 in
theorem Zah2 (g cap n i vb:Nat)(cur:Array Value)(l:List Zaa)(x1 x2:Int)(w:World)(hn:l.length=n)(hi:i<n)(hcap:n+1<=cap)(hmax:cap<=maxLen)
  (hg:w.heap[g]?=some (.cells cur 53 (0,0))) (hsz:cur.size=cap*2) (htake:cur.toList.take (n*2)=Zai l)
  (hvb:w.heap[vb]?=some (.cells #[.int .i64 x1,.int .i64 x2] 53 (0,0))) (hne:vb≠g) :
  Calls Tryz.prog 148 #[.slice (some ⟨g,0,none⟩) n cap,.int .i64 i,.slice (some ⟨vb,0,none⟩) 1 1] w λe w' =>
   e=.returned (.slice (some ⟨g,0,none⟩) (n+1) cap)/\(∃new:Array Value,w'.heap[g]?=some (.cells new 53 (0,0))/\new.size=cap*2/\new.toList.take ((n+1)*2)=Zai (insF l i (x1,x2)))/\w.grownBy w' (some g):=by
 unfold maxLen at hmax
 have hov:∀(W:World) lb cb,W.heap=w.heap->(callFunc 160 #[.slice (some ⟨vb,0,none⟩) 1 1,.slice (some ⟨g,(i+1)*2,none⟩) lb cb]).run Tryz.prog W=.ok (.value (.bool false)) W:=λW lb cb hW=>by
  rw[run_callFunc_extern Tryz.func160 (by kernel_rfl) (by kernel_rfl) (by kernel_rfl) (e:=Extern.SlicesOverlaps.overlaps #[23,23] #[4]) (by kernel_rfl),
   Lib.run_overlaps_apart W 23 4 53 Tryz.underlying23 2 (λ_=>by kernel_rfl) ⟨vb,0,none⟩ ⟨g,(i+1)*2,none⟩ 1 1 lb cb hne 53 53 2 (cap*2) (by simp[World.shape?,hW,hvb]) (by simp[World.shape?,hW,hg,hsz]) (by omega) (by simp[World.frozen?,hW,hvb]) (by simp[World.frozen?,hW,hvb])]
  rfl
 have hlen:cur.toList.length=cap*2:=by simpa using hsz
 have hfl:(Zai l).length=n*2:=by rw[Zba,hn]
 have hdl:(Zai (l.drop i)).length=(n-i)*2:=by rw[Zba,List.length_drop,hn]
 have hB:(cur.toList.drop (i*2)).take ((n-i)*2)=Zai (l.drop i):=by
  rw[<-Ztz,<-htake,List.drop_take]
  congr 1
  omega
 obtain⟨C1,hC1⟩:∃C1:Array Value,C1=(cur.toList.take ((i+1)*2)++Zai (l.drop i)++cur.toList.drop ((i+1)*2+(Zai (l.drop i)).length)).toArray:=⟨_,rfl⟩
 obtain⟨C2,hC2⟩:∃C2:Array Value,C2=(C1.toList.take (i*2)++Zai [(x1,x2)]++C1.toList.drop (i*2+(Zai [(x1,x2)]).length)).toArray:=⟨_,rfl⟩
 have hC1s:C1.size=cap*2:=by
  rw[hC1]
  simp only[List.size_toArray,lA_,List.length_take,List.length_drop,hlen,hdl]
  omega
 have hx2:(Zai [(x1,x2)]).length=2:=rfl
 have htwo:=Zacm cur.toList (Zai (l.drop i)) (Zai [(x1,x2)]) (i*2) (by rw[hlen,hdl,hx2];omega)
 have hC2':C2.toList=cur.toList.take (i*2)++Zai [(x1,x2)]++Zai (l.drop i)++cur.toList.drop (i*2+2+(Zai (l.drop i)).length):=by
  rw[hC2,List.toList_toArray,hC1,List.toList_toArray,show(i+1)*2=i*2+2 by omega]
  exact htwo
 have hti:cur.toList.take (i*2)=Zai (l.take i):=by
  rw[<-Zpa,<-htake,List.take_take]
  congr 1
  omega
 have hfin:C2.size=cap*2/\C2.toList.take ((n+1)*2)=Zai (insF l i (x1,x2)):=by
  have e:Zai (insF l i (x1,x2))=cur.toList.take (i*2)++Zai [(x1,x2)]++Zai (l.drop i):=by
   rw[hti,insF,Zie,show(x1,x2) :: l.drop i=[(x1,x2)]++l.drop i from rfl,Zie,List.append_assoc]
  constructor
  ·have:C2.toList.length=cap*2:=by
    rw[hC2']
    simp only[lA_,List.length_take,List.length_drop,hlen,hdl,hx2]
    omega
   simpa using this
  ·rw[hC2',e,List.take_append_of_le_length,tL_]
   ·simp only[lA_,List.length_take,hlen,hdl,hx2];omega
   ·simp only[lA_,List.length_take,hlen,hdl,hx2];omega
 have hsrc1:∀j u,(Zai (l.drop i))[j]?=some u->cur.toList[i*2+j]?=some u:=by
  intro j u hu
  rw[<-hB,List.getElem?_take]at hu
  split at hu
  ·rwa [List.getElem?_drop]at hu
  ·cases hu
 have hmin1:Nat.min (n+1-i) (n-i)=n-i:=by simp only[Nat.min_def];split <;> omega
 have hmin2:Nat.min 1 (n+1-i)=1:=by simp only[Nat.min_def];split <;> omega
 have hcut1:¬ (cap=i+1):=by omega
 have hcut2:¬ (cap=i):=by omega
 have hz2:¬ ((i:Int)=(n:Int)):=by omega
 have hz3:¬ ((cap:Int)<(n:Int)+1):=by omega
 have hw1:IntKind.i64.wrap ((i:Int)+1)=(i:Int)+1:=by rw[IntKind.wrap_i64];omega
 have hb1:(0:Int)<=(i:Int)+1:=by omega
 have htn:((i:Int)+1).toNat=i+1:=by omega
 have hin:i<=n:=by omega
 have hinI:(i:Int)<=n:=by omega
 have hb3:(i:Int)<=(n:Int)+1:=by omega
 have hc63:(cap:Int)<=9223372036854775807:=by omega
 have HOV:=Lib.hid hov
 have HLEN:=Lib.hid hlen
 have HFL:=Lib.hid hfl
 have HDL:=Lib.hid hdl
 have HBB:=Lib.hid hB
 have HC1:=Lib.hid hC1
 have HC2:=Lib.hid hC2
 have HC1S:=Lib.hid hC1s
 have HX2:=Lib.hid hx2
 have HTWO:=Lib.hid htwo
 have HC2':=Lib.hid hC2'
 have HTI:=Lib.hid hti
 have HFIN:=Lib.hid hfin
 have HSRC1:=Lib.hid hsrc1
 have HMIN1:=Lib.hid hmin1
 have HMIN2:=Lib.hid hmin2
 have HG:=Lib.hid hg
 have HSZ:=Lib.hid hsz
 have HTAKE:=Lib.hid htake
 have HVB:=Lib.hid hvb
 have HN:=Lib.hid hn
 clear hov hlen hfl hdl hB hC1 hC2 hC1s hx2 htwo hC2' hti hfin hsrc1 hmin1 hmin2 hg hsz htake hvb hn
 go_enter Tryz.func148,Tryz.ntmps148
 go_wp2_with (rw[HOV.out _ _ _ rfl])
 go_region_law (refine Ztj rfl (.tmp 73) (.tmp 76) 23 23 rfl 53 2 Tryz.underlying23 (by kernel_rfl) g ((i+1)*2) (n-i) (cap-(i+1)) ⟨g,i*2,none⟩ (n+1-i) (cap-i) (by simp[Act.eval,Act.put]) (by simp[Act.eval,Act.put]) cur C1 53 HG.out (Zai (l.drop i)) (by rw[HMIN1.out];exact HDL.out) (Zki (w:=w) HG.out _ _ HSRC1.out) (by rw[HDL.out,HSZ.out];omega) (Zg8 _) (by rw[HC1.out]) ?_;intro w2 hg2 hgr2)
 all_goals
  have hvb2:w2.heap[vb]?=some (.cells #[.int .i64 x1,.int .i64 x2] 53 (0,0)):=by
   rw[hgr2.out.block vb (Array.getElem?_eq_some_iff.1 HVB.out).1 (λe=>hne (by injection e))]
   exact HVB.out
  have HVB2:=Lib.hid hvb2
  clear hvb2
  go_wp2_with (refine Zou rfl (.tmp 80) (.tmp 81) 23 23 rfl 53 2 Tryz.underlying23 (by kernel_rfl) g (i*2) (n+1-i) (cap-i) ⟨vb,0,none⟩ 1 1 rfl rfl C1 C2 53 hg2.out (Zai [(x1,x2)]) (by rw[HMIN2.out];rfl) (Zki HVB2.out 0 _ (λj u hu=>by simpa [Zai] using hu)) (by rw[HX2.out,HC1S.out];omega) (Zg8 _) (by rw[HC2.out]) ?_;intro w3 hg3 hgr3)
  go_ret
  refine⟨rfl,⟨C2,hg3.out,HFIN.out.1,HFIN.out.2⟩,?_⟩
  exact World.grownBy.trans (Zkv hgr2.out) hgr3.out
set_option maxHeartbeats 4000000 in
set_option maxRecDepth 100000 in
theorem Zah1 (g cap n i vb:Nat)(cur:Array Value)(l:List Zaa)(x1 x2:Int)(w:World)(hn:l.length=n)(hi:i<n)(hcap:cap<n+1)(hnc:n<=cap)(hroom:(n+1)*16<=140737488355328)
  (hg:w.heap[g]?=some (.cells cur 53 (0,0))) (hsz:cur.size=cap*2) (htake:cur.toList.take (n*2)=Zai l)
  (hvb:w.heap[vb]?=some (.cells #[.int .i64 x1,.int .i64 x2] 53 (0,0))) :
  Calls Tryz.prog 148 #[.slice (some ⟨g,0,none⟩) n cap,.int .i64 i,.slice (some ⟨vb,0,none⟩) 1 1] w λe w' =>
   ∃cap2,e=.returned (.slice (some ⟨w.heap.size,0,none⟩) (n+1) cap2)/\n+1<=cap2/\cap2<=maxLen/\(∃new:Array Value,w'.heap[w.heap.size]?=some (.cells new 53 (0,0))/\new.size=cap2*2/\new.toList.take ((n+1)*2)=Zai (insF l i (x1,x2)))/\w.grownBy w' (some w.heap.size):=by
 obtain⟨i0,hi0,hz0,hzs,hzb⟩:=info_parts Zadd
 have hlen:cur.toList.length=cap*2:=by simpa using hsz
 have hdl:(Zai (l.drop i)).length=(n-i)*2:=by rw[Zba,List.length_drop,hn]
 have hti:(Zai (l.take i)).length=i*2:=by rw[Zba,List.length_take,hn];omega
 have hx2:(Zai [(x1,x2)]).length=2:=rfl
 have hcur:∀(j:Nat) (u:Value),(Zai l)[j]?=some u->cur.toList[j]?=some u:=by
  intro j u hu
  rw[<-htake,List.getElem?_take]at hu
  split at hu
  ·exact hu
  ·cases hu
 have hsrc0:∀j u,(Zai (l.take i))[j]?=some u->cur.toList[0+j]?=some u:=by
  intro j u hu
  rw[<-Zpa,List.getElem?_take]at hu
  split at hu
  ·rw[Nat.zero_add];exact hcur j u hu
  ·cases hu
 have hsrc1:∀j u,(Zai (l.drop i))[j]?=some u->cur.toList[i*2+j]?=some u:=by
  intro j u hu
  rw[<-Ztz,List.getElem?_drop]at hu
  exact hcur _ u hu
 have hold:∀W:World,W.heap=w.heap->(Builtin.firstCells i0.size i (.slice (some ⟨g,0,none⟩) i cap)).run Tryz.prog W=.ok (Zai (l.take i)).toArray W:=λW hW=>by
  rw[hzs]
  exact run_firstCells_some W 2 i ⟨g,0,none⟩ i cap (Zai (l.take i)) hti (Zki (by rw[hW];exact hg) 0 _ hsrc0)
 obtain⟨G,hG⟩:∃G,G=grownCap w (n+1) cap 53:=⟨_,rfl⟩
 have hGn:n+1<=G:=by rw[hG];exact grownCap_ge w _ _ _
 have hGm:G<=maxLen:=by rw[hG];exact grownCap_le_maxLen w _ _ _ (by unfold maxLen;omega)
 obtain⟨C0,hC0⟩:∃C0:Array Value,C0=(Zai (l.take i)).toArray++Builtin.zeroCells (Value.agg #[.int .i64 0,.int .i64 0]).cells (n+1-i)++Builtin.zeroCells (Value.agg #[.int .i64 0,.int .i64 0]).cells (G-(n+1)):=⟨_,rfl⟩
 have hzc:∀k,(Builtin.zeroCells (Value.agg #[.int .i64 0,.int .i64 0]).cells k).size=k*2:=λk=>by
  have:(Value.agg #[.int .i64 0,.int .i64 0]).cells.size=2:=by kernel_rfl
  simp[Builtin.zeroCells,this]
 have hC0s:C0.size=G*2:=by
  rw[hC0]
  simp only[Array.size_append,hzc,List.size_toArray,hti]
  omega
 have hrz:∀ty,(Builtin.append_ #[23,3] ty #[.slice (some ⟨g,0,none⟩) i cap,.int .i64 ((n:Int)+1-(i:Int))]).run Tryz.prog w =
   .ok (.slice (some ⟨w.heap.size,0,none⟩) (n+1) G) (w.drew.alloc (.cells C0 53)):=λty=>by
  have h:=Lib.run_append_grow_zeros w 23 3 ty 53 i0 _ .i64 .i64 Tryz.underlying23 Tryz.underlying3 hi0 hz0 (some ⟨g,0,none⟩) i cap (Zai (l.take i)) (hold w.drew rfl) (n+1-i) (by omega) (by omega) (by omega) (by omega) (by rw[hzb];omega) (by rw[hzb,show i+(n+1-i)=n+1 by omega];exact growslice_fits hcap hroom)
  rw[show i+(n+1-i)=n+1 by omega,<-hG,<-hC0]at h
  rw[show(n:Int)+1-(i:Int)=((n+1-i:Nat):Int)by omega]
  exact h
 obtain⟨C1,hC1⟩:∃C1:Array Value,C1=(C0.toList.take (i*2)++Zai [(x1,x2)]++C0.toList.drop (i*2+(Zai [(x1,x2)]).length)).toArray:=⟨_,rfl⟩
 obtain⟨C2,hC2⟩:∃C2:Array Value,C2=(C1.toList.take ((i+1)*2)++Zai (l.drop i)++C1.toList.drop ((i+1)*2+(Zai (l.drop i)).length)).toArray:=⟨_,rfl⟩
 have hC0l:C0.toList.length=G*2:=by simpa using hC0s
 have hC1s:C1.size=G*2:=by
  rw[hC1]
  simp only[List.size_toArray,lA_,List.length_take,List.length_drop,hC0l,hx2]
  omega
 have hC1l:C1.toList.length=G*2:=by simpa using hC1s
 have hC2s:C2.size=G*2:=by
  rw[hC2]
  simp only[List.size_toArray,lA_,List.length_take,List.length_drop,hC1l,hdl]
  omega
 have hfin:C2.toList.take ((n+1)*2)=Zai (insF l i (x1,x2)):=by
  have e:Zai (insF l i (x1,x2))=Zai (l.take i)++Zai [(x1,x2)]++Zai (l.drop i):=by
   rw[insF,Zie,show(x1,x2) :: l.drop i=[(x1,x2)]++l.drop i from rfl,Zie,List.append_assoc]
  have e0:C0.toList.take (i*2)=Zai (l.take i):=by
   rw[hC0,Array.toList_append,Array.toList_append,List.toList_toArray,List.append_assoc,List.take_append_of_le_length (by omega),tL_ (by omega)]
  have e1:C1.toList.take ((i+1)*2)=Zai (l.take i)++Zai [(x1,x2)]:=by
   rw[hC1,List.toList_toArray,e0,List.take_append_of_le_length (by rw[lA_,hti,hx2];omega),tL_ (by rw[lA_,hti,hx2];omega)]
  rw[hC2,List.toList_toArray,e1,e,List.take_append_of_le_length (by simp only[lA_,hti,hx2,hdl];omega),tL_ (by simp only[lA_,hti,hx2,hdl];omega)]
 have hgw:g<w.heap.size:=(Array.getElem?_eq_some_iff.1 hg).1
 have hvw:vb<w.heap.size:=(Array.getElem?_eq_some_iff.1 hvb).1
 have hmin1:Nat.min (n-i) (n-i)=n-i:=by simp only[Nat.min_def];split <;> omega
 have hmin2:Nat.min 1 (n+1-i)=1:=by simp only[Nat.min_def];split <;> omega
 have hcut0:¬ (cap=i):=by omega
 have hcut1:¬ (G=i+1):=by omega
 have hcut2:¬ (G=i):=by omega
 have hz2:¬ ((i:Int)=(n:Int)):=by omega
 have hz3:(cap:Int)<(n:Int)+1:=by omega
 have hw1:IntKind.i64.wrap ((i:Int)+1)=(i:Int)+1:=by rw[IntKind.wrap_i64];omega
 have hb1:(0:Int)<=(i:Int)+1:=by omega
 have htn:((i:Int)+1).toNat=i+1:=by omega
 have hin:i<=n:=by omega
 have hinI:(i:Int)<=n:=by omega
 have hb3:(i:Int)<=(n:Int)+1:=by omega
 have hic:i<=cap:=by omega
 have hG63:(G:Int)<=9223372036854775807:=by unfold maxLen at hGm;omega
 have hB0:Hid (w.grownBy (w.drew.alloc (.cells C0 53)) (some w.heap.size)):=Zkv (World.grownBy_alloc w.drew _ _)
 have hg0:Hid ((w.drew.alloc (.cells C0 53)).heap[w.heap.size]?=some (.cells C0 53 (0,0))):=heap_alloc_new w.drew _
 have hvbA:Hid ((w.alloc (.cells C0 53)).heap[vb]?=some (.cells #[.int .i64 x1,.int .i64 x2] 53 (0,0))):=by
  show _=_
  rw[(World.grownBy_alloc w (.cells C0 53) none).block vb hvw (by simp)]
  exact hvb
 have HLEN:=Lib.hid hlen
 have HDL:=Lib.hid hdl
 have HTI:=Lib.hid hti
 have HX2:=Lib.hid hx2
 have HCUR:=Lib.hid hcur
 have HSRC0:=Lib.hid hsrc0
 have HSRC1:=Lib.hid hsrc1
 have HOLD:=Lib.hid hold
 have HGG:=Lib.hid hG
 have HC0:=Lib.hid hC0
 have HZC:=Lib.hid hzc
 have HC0S:=Lib.hid hC0s
 have HRZ:=Lib.hid hrz
 have HC1:=Lib.hid hC1
 have HC2:=Lib.hid hC2
 have HC0L:=Lib.hid hC0l
 have HC1S:=Lib.hid hC1s
 have HC1L:=Lib.hid hC1l
 have HC2S:=Lib.hid hC2s
 have HFIN:=Lib.hid hfin
 have HMIN1:=Lib.hid hmin1
 have HMIN2:=Lib.hid hmin2
 have HG:=Lib.hid hg
 have HSZ:=Lib.hid hsz
 have HTAKE:=Lib.hid htake
 have HVB:=Lib.hid hvb
 have HN:=Lib.hid hn
 clear hlen hdl hti hx2 hcur hsrc0 hsrc1 hold hG hC0 hzc hC0s hrz hC1 hC2 hC0l hC1s hC1l hC2s hfin hmin1 hmin2 hg hsz htake hvb hn
 clear hi0 hz0 hzs hzb
 go_enter Tryz.func148,Tryz.ntmps148
 go_wp2_with (first
  | (at_builtin;refine Lib.wpList_append_run _ rfl _ _ _ _ rfl _ _ rfl rfl _ _ (HRZ.out _) ?_)
  | (refine Zou rfl (.tmp 43) (.tmp 44) 23 23 rfl 53 2 Tryz.underlying23 (by kernel_rfl) w.heap.size (i*2) (n+1-i) (G-i) ⟨vb,0,none⟩ 1 1 rfl rfl C0 C1 53 hg0.out (Zai [(x1,x2)]) (by rw[HMIN2.out];rfl) (Zki (w:=(w.alloc (.cells C0 53)).drew) (hvbA.out) 0 _ (λj u hu=>by simpa [Zai] using hu)) (by rw[HX2.out,HC0S.out];omega) (Zg8 _) (by rw[HC1.out]) ?_;intro w2 hg2 hgr2))
 have hgr2':Hid (w.grownBy w2 (some w.heap.size)):=World.grownBy.trans hB0.out (Zvu hgr2.out)
 have hgg2:Hid (w2.heap[g]?=some (.cells cur 53 (0,0))):=by
  show _=_
  rw[hgr2'.out.block g hgw (λe=>by injection e;omega)]
  exact HG.out
 clear hgr2
 go_region_law (refine Ztj rfl (.tmp 50) (.tmp 53) 23 23 rfl 53 2 Tryz.underlying23 (by kernel_rfl) w.heap.size ((i+1)*2) (n-i) (G-(i+1)) ⟨g,i*2,none⟩ (n-i) (cap-i) (by simp[Act.eval,Act.put]) (by simp[Act.eval,Act.put]) C1 C2 53 hg2.out (Zai (l.drop i)) (by rw[HMIN1.out];exact HDL.out) (Zki hgg2.out _ _ HSRC1.out) (by rw[HDL.out,HC1S.out];omega) (Zg8 _) (by rw[HC2.out]) ?_;intro w3 hg3 hgr3)
 all_goals
  go_wp2_with fail
  go_ret
  exact⟨G,rfl,hGn,hGm,⟨C2,hg3.out,HC2S.out,HFIN.out⟩,World.grownBy.trans hgr2'.out (Zkv hgr3.out)⟩
theorem Zaij {w:World}{vb:Nat}{x1 x2:Int}(hvb:w.heap[vb]?=some (.cells #[.int .i64 x1,.int .i64 x2] 53 (0,0))):Reads w w.heap.size 2 (some ⟨vb,0,none⟩) 1 (Zai [(x1,x2)]) :=
 ⟨rfl,λ_=>⟨_,rfl,(Array.getElem?_eq_some_iff.1 hvb).1,Zki hvb 0 _ (λj u hu=>by simpa [Zai] using hu)⟩⟩
set_option maxHeartbeats 4000000 in
set_option maxRecDepth 100000 in
theorem Zal7 (base vb:Nat)(v:Value)(l:List Zaa)(x1 x2:Int)(w:World)(hown:OwnF w base v l)(hroom:(l.length+1)*16<=140737488355328)(hbase:base<=w.heap.size)
  (hvb:w.heap[vb]?=some (.cells #[.int .i64 x1,.int .i64 x2] 53 (0,0))) :
  Calls Tryz.prog 148 #[v,.int .i64 l.length,.slice (some ⟨vb,0,none⟩) 1 1] w λe w'=>∃v',e=.returned v'/\OwnF w' base v' (insF l l.length (x1,x2))/\Below base w w':=by
 obtain⟨i0,hi0,hz0,hz1,hz2⟩:=info_parts Zadd
 have hr:=Zaij hvb
 rcases id hown.2 with⟨rfl,h0⟩|⟨g,cap,cur,rfl,_,_,hnc,hm,_,_⟩
 ·have HR:=Lib.hid hr
  have HVB:=Lib.hid hvb
  have HOWN:=Lib.hid hown
  clear hr hvb hown
  obtain⟨n,hn⟩:∃n,n=l.length:=⟨_,rfl⟩
  have hl:l=[]:=List.length_eq_zero_iff.1 h0
  subst hl
  clear h0 hn n
  simp only[List.length_nil,Int.natCast_zero]at *
  go_enter Tryz.func148,Tryz.ntmps148
  go_wp2_with (at_builtin;refine Ze0 _ rfl (.tmp 23) (.tmp 24) _ rfl base 53 i0 _ 2 16 Tryz.underlying23 hi0 hz0 hz1 hz2 rfl (by omega) _ 0 (Zai []) rfl HOWN.out _ _ 1 1 (Zai [(x1,x2)]) rfl HR.out (Zg8 _) (by simp only[maxLen];omega) (by omega) hbase ?_;intro v1 w1 hown1 hg1 hat1)
  go_ret
  exact⟨v1,rfl,hown1,Zkd hg1 hbase (λk hk=>(HOWN.out.lt k hk).1)⟩
 ·have hown:w.ownsRow base 53 2 (.slice (some ⟨g,0,none⟩) l.length cap) l.length (Zai l):=hown
  generalize hnn:l.length=n at hnc hown hroom ⊢
  unfold maxLen at hm
  have hnI:(n:Int)<=(cap:Int):=by omega
  have e:Zai l++Zai [(x1,x2)]=Zai (insF l n (x1,x2)):=by rw[<-Zie];simp[insF,<-hnn]
  have e2:(insF l n (x1,x2)).length=n+1:=by simp[insF,<-hnn]
  have HR:=Lib.hid hr
  have HVB:=Lib.hid hvb
  have HOWN:=Lib.hid hown
  have HNN:=Lib.hid hnn
  have HE:=Lib.hid e
  have HE2:=Lib.hid e2
  clear hr hvb hown hnn e e2
  by_cases hcc:cap=n
  ·subst hcc
   go_enter Tryz.func148,Tryz.ntmps148
   go_wp2_with (at_builtin;refine Ze0 _ rfl (.tmp 23) (.tmp 24) _ rfl base 53 i0 _ 2 16 Tryz.underlying23 hi0 hz0 hz1 hz2 rfl (by omega) _ cap (Zai l) rfl HOWN.out _ _ 1 1 (Zai [(x1,x2)]) rfl HR.out (Zg8 _) (by simp only[maxLen];omega) (by omega) hbase ?_;intro v1 w1 hown1 hg1 hat1)
   go_ret
   refine⟨v1,rfl,?_,Zkd hg1 hbase (λk hk=>(HOWN.out.lt k hk).1)⟩
   rw[HE.out]at hown1
   unfold OwnF
   rw[HE2.out]
   exact hown1
  ·go_enter Tryz.func148,Tryz.ntmps148
   go_wp2_with (at_builtin;refine Ze0 _ rfl (.tmp 23) (.tmp 24) _ rfl base 53 i0 _ 2 16 Tryz.underlying23 hi0 hz0 hz1 hz2 rfl (by omega) _ n (Zai l) rfl HOWN.out _ _ 1 1 (Zai [(x1,x2)]) rfl HR.out (Zg8 _) (by simp only[maxLen];omega) (by omega) hbase ?_;intro v1 w1 hown1 hg1 hat1)
   go_ret
   refine⟨v1,rfl,?_,Zkd hg1 hbase (λk hk=>(HOWN.out.lt k hk).1)⟩
   rw[HE.out]at hown1
   unfold OwnF
   rw[HE2.out]
   exact hown1
theorem Zol (base vb i:Nat)(v:Value)(l:List Zaa)(x1 x2:Int)(w:World)(hown:OwnF w base v l)(hi:i<=l.length)(hroom:(l.length+1)*16<=140737488355328)(hbase:base<=w.heap.size)
  (hvb:w.heap[vb]?=some (.cells #[.int .i64 x1,.int .i64 x2] 53 (0,0))) (hne:∀g,v.ownBlock=some g->vb≠g) :
  Calls Tryz.prog 148 #[v,.int .i64 i,.slice (some ⟨vb,0,none⟩) 1 1] w λe w'=>∃v',e=.returned v'/\OwnF w' base v' (insF l i (x1,x2))/\Below base w w':=by
 by_cases hin:i=l.length
 ·subst hin
  exact Zal7 base vb v l x1 x2 w hown hroom hbase hvb
 ·rcases id hown.2 with⟨rfl,h0⟩|⟨g,cap,cur,rfl,hbg,hg,hnc,hm,hcs,htake⟩
  ·omega
  ·have hlen:=Zaj7 l i (x1,x2) hi
   by_cases hc:l.length+1<=cap
   ·refine(Zah2 g cap l.length i vb cur l x1 x2 w rfl (by omega) hc hm hg hcs htake hvb (hne g rfl)).mono ?_
    rintro e w' ⟨rfl,⟨new,hn1,hn2,hn3⟩,hgr⟩
    refine⟨_,rfl,?_,Zkd hgr hbase (λk hk=>by injection hk with hk;omega)⟩
    unfold OwnF
    rw[hlen]
    exact⟨by rw[Zba,hlen],.inr ⟨g,cap,new,rfl,hbg,hn1,hc,hm,hn2,hn3⟩⟩
   ·refine(Zah1 g cap l.length i vb cur l x1 x2 w rfl (by omega) (by omega) hnc hroom hg hcs htake hvb).mono ?_
    rintro e w' ⟨cap2,rfl,hc1,hc2,⟨new,hn1,hn2,hn3⟩,hgr⟩
    refine⟨_,rfl,?_,Zkd hgr hbase (λk hk=>by injection hk with hk;omega)⟩
    unfold OwnF
    rw[hlen]
    exact⟨by rw[Zba,hlen],.inr ⟨w.heap.size,cap2,new,rfl,hbase,hn1,hc1,hc2,hn2,hn3⟩⟩
end Go.Proofs.YtpfnmpdcneejbaaGreatDoor
namespace Go.Proofs.YtpfnmpdcneejbaaGreatDoor
open Go.RowKit
abbrev AscW (l:List Zaa):Prop:=l.Pairwise λa b=>a.1<b.1
def posF : List Zaa->Int->Nat
 | [],_=>0
 | x :: r,v=>if x.1<v then posF r v+1 else 0
theorem Zaam (l:List Zaa)(v:Int):posF l v<=l.length:=by
 induction l with
 | nil=>simp[posF]
 | cons x r ih=>rw[posF];split <;> simp <;> omega
def Zli (l:List Zaa)(x:Zaa):List Zaa:=insF l (posF l x.1) x
theorem Znl (l:List Zaa)(x z:Zaa):z∈Zli l x↔z∈l\/z=x:=by
 unfold Zli insF
 have h:=List.take_append_drop (posF l x.1) l
 constructor
 ·intro hz
  rcases List.mem_append.1 hz with hz|hz
  ·exact .inl (List.mem_of_mem_take hz)
  ·rcases List.mem_cons.1 hz with hz|hz
   ·exact .inr hz
   ·exact .inl (List.mem_of_mem_drop hz)
 ·rintro(hz|hz)
  ·rw[<-h]at hz
   rcases List.mem_append.1 hz with hz|hz
   ·exact List.mem_append.2 (.inl hz)
   ·exact List.mem_append.2 (.inr (mC_ _ hz))
  ·subst hz;simp
theorem Zamh (l:List Zaa)(x:Zaa)(h:AscW l)(hx:∀z∈l,z.1≠x.1):AscW (Zli l x):=by
 induction l with
 | nil=>simp[Zli,insF,posF,AscW]
 | cons y r ih =>
  obtain⟨h1,h2⟩:=List.pairwise_cons.1 h
  unfold Zli
  rw[posF]
  split
  ·rename_i hlt
   have e:insF (y :: r) (posF r x.1+1) x=y :: Zli r x:=by simp[insF,Zli]
   rw[e]
   refine List.pairwise_cons.2 ⟨λz hz=>?_,ih h2 (λz hz=>hx z (by simp[hz]))⟩
   rcases(Znl r x z).1 hz with hz|hz
   ·exact h1 z hz
   ·subst hz;exact hlt
  ·rename_i hge
   have hne:=hx y (by simp)
   have e:insF (y :: r) 0 x=x :: y :: r:=by simp[insF]
   rw[e]
   refine List.pairwise_cons.2 ⟨λz hz=>?_,h⟩
   rcases List.mem_cons.1 hz with hz|hz
   ·subst hz;omega
   ·have:=h1 z hz;omega
theorem Zace (l:List Zaa)(x:Zaa):(Zli l x).length=l.length+1:=Zaj7 l _ x (Zaam l _)
theorem Zao0 (l:List Zaa)(v:Int)(k:Nat)(h:posF l v=k+posF (l.drop k) v)(x:Zaa)(hx:l.drop k=x :: l.drop (k+1)) :
  posF l v=if x.1<v then k+1+posF (l.drop (k+1)) v else k:=by
 rw[hx,posF]at h
 split at h
 ·rw[if_pos (by assumption)];omega
 ·rw[if_neg (by assumption)];omega
set_option maxHeartbeats 2000000 in
theorem Zaii (v:Value)(l:List Zaa)(x1 x2:Int)(w:World)(hv:FactsAt w v l)(hroom:(l.length+1)*16<=140737488355328) :
  Calls Tryz.prog 124 #[v,.agg #[.int .i64 x1,.int .i64 x2]] w λe w'=>∃v',e=.returned v'/\OwnF w' w.heap.size v' (Zli l (x1,x2))/\Below w.heap.size w w':=by
 obtain⟨A,n,c,rfl,hn,hm⟩:=hv.form
 have HV:=Lib.hid hv
 have HN:=Lib.hid hn
 clear hv hn
 go_enter Tryz.func124,Tryz.ntmps124
 go_wp2
 go_loopg [5] n (λg i wr=>∃k:Nat,k<=n/\g=n-k/\i=.int .i64 k/\Below w.heap.size w wr/\wr.heap[w.heap.size]?=some (.cells #[.int .i64 x1,.int .i64 x2] 53 (0,0))/\posF l x1=k+posF (l.drop k) x1)
 case atStart=>exact⟨0,Nat.zero_le _,by omega,rfl,Zgg (Below.refl _ _) _,heap_alloc_new _ _,by simp⟩
 case round =>
  obtain⟨k,hk,hg,rfl,hB,hbox,hF⟩:=hrel
  have q0:wr.cell? ⟨w.heap.size,0,none⟩=some (.int .i64 x1):=by simp[World.cell?,hbox]
  have q1:wr.cell? ⟨w.heap.size,1,none⟩=some (.int .i64 x2):=by simp[World.cell?,hbox]
  have HG:=Lib.hid hg
  have HF:=Lib.hid hF
  have HBOX:=Lib.hid hbox
  clear hg hF hbox
  by_cases hlt:k<n
  ·obtain⟨bb,off,y1,y2,rfl,c0,c1,hx,hd⟩:=(HV.out.keep hB).at hlt
   have hst:=Zao0 l x1 k HF.out (y1,y2) hd
   simp only at hst
   have HX:=Lib.hid hx
   have HD:=Lib.hid hd
   have HST:=Lib.hid hst
   clear hx hd hst
   have d0:decide (k<n)=true:=by simpa using hlt
   go_upto_if 19 with fail
   go_cut [19] (λs wx=>s=.bool (decide (y1<x1))/\∃q,wx=wr.drewN q)
   case first =>
    refine wp_region_quiet_lit (by kernel_rfl) (by kernel_rfl) ?_
    repeat (any_goals (first|go_big_quiet_step (fail)|quiet_step (fail)|(refine wpQuiet_step (λK hK=>?_);go_simp;split <;> (refine hK _ ?_;clear hK K))))
    all_goals (refine wpQuiet_nil ?_;intro _ hw';obtain⟨nq,hw''⟩:=hw';subst hw'')
    all_goals (go_wp2_with fail;go_meet;exact⟨rfl,_,rfl⟩)
   case rest =>
    obtain⟨rfl,q,rfl⟩:=hcut
    by_cases hc:y1<x1
    ·have hnext:posF l x1=k+1+posF (l.drop (k+1)) x1:=by rw[HST.out,if_pos hc]
     have HNEXT:=Lib.hid hnext
     clear hnext
     go_wp2_with fail
     go_roundg (n-(k+1))
     case measure=>have:=HG.out;omega
     case rel=>exact⟨k+1,by omega,rfl,by go_num,below_drewN hB _,HBOX.out,HNEXT.out⟩
    ·have hpos:posF l x1=k:=by rw[HST.out,if_neg hc]
     have HPOS:=Lib.hid hpos
     clear hpos
     have hB':=below_drewN hB q
     have hB0:Below w.heap.size w (wr.drewN q):=hB'
     have hbox':((wr.drewN q)).heap[w.heap.size]?=some (.cells #[.int .i64 x1,.int .i64 x2] 53 (0,0)):=HBOX.out
     have hvk:FactsAt (wr.drewN q) _ l:=HV.out.keep hB'
     have HBB:=Lib.hid hB'
     have HBX:=Lib.hid hbox'
     have HVK:=Lib.hid hvk
     clear hB' hbox' hvk
     go_upto_region 4 with fail
     generalize (wr.drewN q)=W0 at hB0 HBX HVK ⊢
     have q0:W0.cell? ⟨w.heap.size,0,none⟩=some (.int .i64 x1):=by simp[World.cell?,HBX.out]
     have q1:W0.cell? ⟨w.heap.size,1,none⟩=some (.int .i64 x2):=by simp[World.cell?,HBX.out]
     generalize hBq:w.heap.size=B0 at *
     have HBQ:=Lib.hid hBq
     clear hBq
     go_region_held3 (λw'=>w'.cell? ⟨B0,0,none⟩=some (.int .i64 x1)/\w'.cell? ⟨B0,1,none⟩=some (.int .i64 x2))
      (first|exact⟨s0,s1⟩|exact⟨kept (Zgg (Below.refl _ _) _) r0,kept (Zgg (Below.refl _ _) _) r1⟩|exact⟨r0,r1⟩|exact⟨q0,q1⟩|exact⟨kept ((Zgg (Below.refl _ _) _).drew) q0,kept ((Zgg (Below.refl _ _) _).drew) q1⟩|exact⟨kept (Zgg (Below.refl _ _) _) q0,kept (Zgg (Below.refl _ _) _) q1⟩)
      (first
       | (go_at_call 59;(with_reducible refine(Zmm _ l _ (HVK.out.keep (Below.refl _ _).drew)).mono ?_);rintro e w1 ⟨v1,rfl,hown1,hb1⟩;have r0:=kept hb1 q0;have r1:=kept hb1 q1;have HOW1:=Lib.hid hown1;have HBW1:=Lib.hid hb1;clear hown1 hb1)
       | (go_at_call 148;(with_reducible refine(Zol W0.heap.size w1.heap.size k v1 l x1 x2 _ (Zagb HOW1.out (Zgg (Below.refl _ _) _)) (by have:=Zaam l x1;have:=HPOS.out;omega) hroom (by have:=HBW1.out.size;simp at this ⊢;omega) (heap_alloc_new _ _) (λg hg e=>by have:=(HOW1.out.lt g hg).2;omega)).mono ?_);rintro e w2 ⟨v2,rfl,hown2,hb2⟩;have HBW2:=Lib.hid (Below.trans HBW1.out (Below.trans (Zgg (Below.refl _ _) _ |>.mono HBW1.out.size) hb2));have s0:=kept HBW2.out q0;have s1:=kept HBW2.out q1;have HOW2:=Lib.hid hown2;clear hown2 hb2)
       | (go_at_call 59;(with_reducible refine(Zmm _ l _ (HVK.out.keep ((Zgg (Below.refl _ _) (.cells #[.int .i64 x1,.int .i64 x2] 53)).drew))).mono ?_);rintro e w1 ⟨v1,rfl,hown1,hb1⟩;have HVB1:Hid (w1.heap[W0.heap.size]?=some (.cells #[.int .i64 x1,.int .i64 x2] 53 (0,0))):=(hb1.block W0.heap.size (by simp)).trans (heap_alloc_new W0 (.cells #[.int .i64 x1,.int .i64 x2] 53));have HBW1:Hid (Below W0.heap.size W0 w1):=Zasm ((Zgg (Below.refl W0.heap.size W0) (.cells #[.int .i64 x1,.int .i64 x2] 53)).drew) hb1;have HOW1:=Lib.hid hown1;have r0:=kept HBW1.out q0;have r1:=kept HBW1.out q1;clear hown1 hb1)
       | (go_at_call 148;(with_reducible refine(Zol W0.heap.size W0.heap.size k v1 l x1 x2 w1 (Zoo HOW1.out (by simp)) (by have:=Zaam l x1;have:=HPOS.out;omega) hroom HBW1.out.size HVB1.out (λg hg e=>by have:=(HOW1.out.lt g hg).1;simp at this;omega)).mono ?_);rintro e w2 ⟨v2,rfl,hown2,hb2⟩;have HBW2:=Lib.hid (Below.trans HBW1.out hb2);have s0:=kept HBW2.out q0;have s1:=kept HBW2.out q1;have HOW2:=Lib.hid hown2;clear hown2 hb2)
       | fail)
     all_goals
      go_wp2_with fail
      go_ret
      have hBq:=HBQ.out
      subst hBq
      refine⟨v2,rfl,?_,by first|exact Below.trans hB0 (HBW2.out.mono hB0.size)|exact Below.trans hB0.drew (HBW2.out.mono hB0.size)⟩
      unfold Zli
      rw[show posF l (x1,x2).1=k from HPOS.out]
      exact Zoo HOW2.out hB0.size
  ·have hpos:posF l x1=k:=by rw[HF.out,List.drop_eq_nil_of_le (by have:=HN.out;omega)];simp[posF]
   have HPOS:=Lib.hid hpos
   clear hpos
   have d0:decide (k<n)=false:=by simpa using hlt
   go_upto_if 19 with fail
   go_cut [19] (λs wx=>s=.bool false/\∃q,wx=wr.drewN q)
   case first =>
    refine wp_region_quiet_lit (by kernel_rfl) (by kernel_rfl) ?_
    repeat (any_goals (first|go_big_quiet_step (fail)|quiet_step (fail)|(refine wpQuiet_step (λK hK=>?_);go_simp;split <;> (refine hK _ ?_;clear hK K))))
    all_goals (refine wpQuiet_nil ?_;intro _ hw';obtain⟨nq,hw''⟩:=hw';subst hw'')
    all_goals (go_wp2_with fail;go_meet;exact⟨rfl,_,rfl⟩)
   case rest =>
    obtain⟨rfl,q,rfl⟩:=hcut
    have hB':=below_drewN hB q
    have hB0:Below w.heap.size w (wr.drewN q):=hB'
    have hbox':((wr.drewN q)).heap[w.heap.size]?=some (.cells #[.int .i64 x1,.int .i64 x2] 53 (0,0)):=HBOX.out
    have hvk:FactsAt (wr.drewN q) _ l:=HV.out.keep hB'
    have HBB:=Lib.hid hB'
    have HBX:=Lib.hid hbox'
    have HVK:=Lib.hid hvk
    clear hB' hbox' hvk
    go_upto_region 4 with fail
    generalize (wr.drewN q)=W0 at hB0 HBX HVK ⊢
    have q0:W0.cell? ⟨w.heap.size,0,none⟩=some (.int .i64 x1):=by simp[World.cell?,HBX.out]
    have q1:W0.cell? ⟨w.heap.size,1,none⟩=some (.int .i64 x2):=by simp[World.cell?,HBX.out]
    generalize hBq:w.heap.size=B0 at *
    have HBQ:=Lib.hid hBq
    clear hBq
    go_region_held3 (λw'=>w'.cell? ⟨B0,0,none⟩=some (.int .i64 x1)/\w'.cell? ⟨B0,1,none⟩=some (.int .i64 x2))
     (first|exact⟨s0,s1⟩|exact⟨kept (Zgg (Below.refl _ _) _) r0,kept (Zgg (Below.refl _ _) _) r1⟩|exact⟨r0,r1⟩|exact⟨q0,q1⟩|exact⟨kept ((Zgg (Below.refl _ _) _).drew) q0,kept ((Zgg (Below.refl _ _) _).drew) q1⟩|exact⟨kept (Zgg (Below.refl _ _) _) q0,kept (Zgg (Below.refl _ _) _) q1⟩)
     (first
      | (go_at_call 59;(with_reducible refine(Zmm _ l _ (HVK.out.keep (Below.refl _ _).drew)).mono ?_);rintro e w1 ⟨v1,rfl,hown1,hb1⟩;have r0:=kept hb1 q0;have r1:=kept hb1 q1;have HOW1:=Lib.hid hown1;have HBW1:=Lib.hid hb1;clear hown1 hb1)
      | (go_at_call 148;(with_reducible refine(Zol W0.heap.size w1.heap.size k v1 l x1 x2 _ (Zagb HOW1.out (Zgg (Below.refl _ _) _)) (by have:=Zaam l x1;have:=HPOS.out;omega) hroom (by have:=HBW1.out.size;simp at this ⊢;omega) (heap_alloc_new _ _) (λg hg e=>by have:=(HOW1.out.lt g hg).2;omega)).mono ?_);rintro e w2 ⟨v2,rfl,hown2,hb2⟩;have HBW2:=Lib.hid (Below.trans HBW1.out (Below.trans (Zgg (Below.refl _ _) _ |>.mono HBW1.out.size) hb2));have s0:=kept HBW2.out q0;have s1:=kept HBW2.out q1;have HOW2:=Lib.hid hown2;clear hown2 hb2)
      | (go_at_call 59;(with_reducible refine(Zmm _ l _ (HVK.out.keep ((Zgg (Below.refl _ _) (.cells #[.int .i64 x1,.int .i64 x2] 53)).drew))).mono ?_);rintro e w1 ⟨v1,rfl,hown1,hb1⟩;have HVB1:Hid (w1.heap[W0.heap.size]?=some (.cells #[.int .i64 x1,.int .i64 x2] 53 (0,0))):=(hb1.block W0.heap.size (by simp)).trans (heap_alloc_new W0 (.cells #[.int .i64 x1,.int .i64 x2] 53));have HBW1:Hid (Below W0.heap.size W0 w1):=Zasm ((Zgg (Below.refl W0.heap.size W0) (.cells #[.int .i64 x1,.int .i64 x2] 53)).drew) hb1;have HOW1:=Lib.hid hown1;have r0:=kept HBW1.out q0;have r1:=kept HBW1.out q1;clear hown1 hb1)
      | (go_at_call 148;(with_reducible refine(Zol W0.heap.size W0.heap.size k v1 l x1 x2 w1 (Zoo HOW1.out (by simp)) (by have:=Zaam l x1;have:=HPOS.out;omega) hroom HBW1.out.size HVB1.out (λg hg e=>by have:=(HOW1.out.lt g hg).1;simp at this;omega)).mono ?_);rintro e w2 ⟨v2,rfl,hown2,hb2⟩;have HBW2:=Lib.hid (Below.trans HBW1.out hb2);have s0:=kept HBW2.out q0;have s1:=kept HBW2.out q1;have HOW2:=Lib.hid hown2;clear hown2 hb2)
      | fail)
    all_goals
     go_wp2_with fail
     go_ret
     have hBq:=HBQ.out
     subst hBq
     refine⟨v2,rfl,?_,by first|exact Below.trans hB0 (HBW2.out.mono hB0.size)|exact Below.trans hB0.drew (HBW2.out.mono hB0.size)⟩
     unfold Zli
     rw[show posF l (x1,x2).1=k from HPOS.out]
     exact Zoo HOW2.out hB0.size
end Go.Proofs.YtpfnmpdcneejbaaGreatDoor
namespace Go.Proofs.YtpfnmpdcneejbaaGreatDoor.Am
open Go.RowKit
def Zaja (l:List Zaa)(x:Zaa):Option (List Zaa):=grd ((l.length+1)*16<=140737488355328) (some (Zli l x))
theorem Zavr (l:List Zaa)(x:Zaa){r:List Zaa}(h:Zaja l x=some r):Zc8 cx 124 [.sl 2 (l.map cF),.agg [.c (.int .i64 x.1),.c (.int .i64 x.2)]] [] [] (.own 0 0 0 r.length) [(0,⟨53,2,false,r.map cF⟩)]:=by
 obtain⟨h0,h⟩:=Zaf h
 have h:=sI_ h
 subst h
 refine⟨Zma Tryz.func124 rfl (by decide),λw m cargs hg hM hsz hargs=>?_⟩
 obtain⟨v,u,rfl⟩:=Zanl hsz
 obtain⟨us,rfl,h1,h2⟩:=Zt1 (hargs 1 _ u rfl rfl)
 have hs:us.size=2:=h1.symm
 have g0:=Zjp (h2 0 _ us[0] rfl (aE_ (by omega)))
 have g1:=Zjp (h2 1 _ us[1] rfl (aE_ (by omega)))
 have hu:us=#[.int .i64 x.1,.int .i64 x.2]:=Array.ext (by simp[hs]) (λi h1 h2=>by
  have:i=0\/i=1:=by omega
  rcases this with rfl|rfl
  ·simpa using g0
  ·simpa using g1)
 subst hu
 refine(Zaii v l x.1 x.2 w (Zaaw (hargs 0 _ v rfl rfl) (by omega)) h0).mono ?_
 rintro e w' ⟨v',rfl,ho,hb⟩
 refine⟨v',⟨λk=>if k=0 then v'.ownBlock else none,m.O⟩,rfl,?_⟩
 have hge:∀b,v'.ownBlock=some b->w.heap.size<=b:=λb hb=>by
  rcases ho.2 with⟨rfl,_⟩|⟨g,cap,cur,rfl,hbase,_⟩
  ·cases hb
  ·simp[Value.ownBlock]at hb;omega
 exact Zafq (i0:=0) (v:=.slice none 0 0) (row:=none) hM hg (.inl rfl) (Zoo ho (Nat.zero_le _)) ⟨hb.os,hb.tape,hb.output,hb.size,λb hb' _=>hb.block b hb'⟩ (.inl rfl) (.inr hge) (lM_ _) (λk e he=>Zqz k e he)
end Go.Proofs.YtpfnmpdcneejbaaGreatDoor.Am
namespace Go.Proofs.YtpfnmpdcneejbaaGreatDoor.Am
structure Zalf (P:Program)(T:TypeId)(name:String)(f:FuncId):Prop where
 run:∀v w,(method (P.types.size+Made.depth) T v name).run P w=.ok (f,v) w
structure MethV (P:Program)(T e:TypeId)(name:String)(f:FuncId):Prop where
 run:∀ad w,(method (P.types.size+Made.depth) T (.pointer (some ad)) name).run P w=(do let v<-loadVar e ad;pure (f,v)).run P w
theorem MethV.at {P:Program}{T e:TypeId}{name:String}{f:FuncId}(h:MethV P T e name f){ad:Addr}{v:Value}{w:World}(hl:(loadVar e ad).run P w=.ok v w):(method (P.types.size+Made.depth) T (.pointer (some ad)) name).run P w=.ok (f,v) w:=by
 rw[h.run,Sem.run_bind,hl]
 rfl
theorem Zape {P:Program}{o:Oper}{c:Operand}{name:String}{os:Array Operand}{ats:Array TypeId}{T:TypeId}{u v:Value}{f:FuncId}{a:Act}{w:World}(ho:o.op=.call ⟨.invoke c name,os,ats⟩)(hc:a.eval c=.iface T u)
  (hm:(method (P.types.size+Made.depth) T u name).run P w=.ok (f,v) w) (hf:∀(vs:Array Value) (w:World),(callFunc f vs).run P w=.ok (.enter f vs) w):(execOp a.eval o).run P w=.ok (.enter f (#[v]++os.map a.eval)) w:=by
 have h1:(execOp a.eval o).run P w=(callMethod (.iface T u) name (os.map a.eval)).run P w:=by
  have e0:(#[Value.iface T u]++os.map a.eval)[0]?=some (Value.iface T u):=by rw[Array.getElem?_append_left (by simp)];rfl
  have e1:(#[Value.iface T u]++os.map a.eval).extract 1 (#[Value.iface T u]++os.map a.eval).size=os.map a.eval:=by
   apply Array.ext'
   simp
   exact tL_ (by simp)
  simp only[execOp,ho,resolve,Sem.run_bind,Sem.run_pure,Result.andThen_ok,invoke,hc,e0,e1]
 rw[h1]
 simp only[callMethod,Sem.run_bind,run_program,Result.andThen_ok,hm,hf]
section
variable {C : Cx} {n : Nat} {o : Oper} {τ : Nat -> AV} {η : Nat -> Ent} {f : FuncId} {os : Array Operand} {ats : Array TypeId} {r r' : AV} {xs ys : List AV} {bs bs' : List (Nat × Blk)} {ks : List Nat} {c : Operand} {name : String} {T : TypeId}
theorem Zas4 {τ':Nat->AV}{w:World}{vs:Shp}{m:MM}{a:Act}(hτ:∀y∈os.toList,evA τ' y=evA τ y)(hargs:os.toList.map (evA τ)=xs)(h:∀x:Operand,RV w vs m (evA τ' x) (a.eval x)){j:Nat}{x:AV}{v:Value}(hx:xs[j]?=some x)(hv:(os.map a.eval)[j]?=some v):RV w vs m x v:=by
 subst hargs
 have hmap:os.toList.map (evA τ)=os.toList.map (evA τ'):=List.map_congr_left (λy hy=>(hτ y hy).symm)
 rw[hmap]at hx
 rw[Array.getElem?_map]at hv
 cases hj:os[j]? with
 | none=>rw[hj]at hv;cases hv
 | some q =>
  rw[hj]at hv
  simp at hv
  subst hv
  simp[hj]at hx
  subst hx
  exact h q
theorem Zaul {y:AV}(ρ:List (Nat×Nat))(fz:List Nat)(go nb:List (Nat×Ent))(ho:o.op=.call ⟨.invoke c name,os,ats⟩)(hd:InB n o.dst)(hx:evA τ c=.ifc T y)(hargs:os.toList.map (evA τ)=xs)(hM:Zalf C.P T name f)(hc:Zc8 C f ys bs ks r bs')
  (hok:okC ρ fz bs ks bs' (Zjg go)=true) (hgo:Zabi η go) (hgl:ltUs n go)
  (hw:GWL η (fE bs) (lk ρ) (λi=>inB fz i=true) (λi=>inB (Zmb bs) i=true) (y :: xs) ys) (hb:GBL η (fE bs) (lk ρ) (λi=>inB fz i=true) (λi=>inB (Zmb bs) i=true) bs)
  (hr:GW (fE bs') (Zb5 η (go++nb)) (lk (Zln ρ bs')) (λ_=>False) (λi=>inB (Zjg nb) i=true) r r')
  (hnb:nbOk n η (Zb5 η (go++nb)) ρ ks (fE bs') (lk (Zln ρ bs')) (λi=>inB (Zjg nb) i=true) bs' nb):LF C n o τ η ⟨r',go++nb,[]⟩:=by
 refine Zadu ρ fz go nb [] (λw0 X m a w τ' η' g1 _ h=>?_) hd hc hok hgo hgl hw hb hr hnb
 have e1:=h.ev c
 rw[g1 c (by simp[ho,Op.operands,Call.operands]),hx]at e1
 obtain⟨u,hu,hp⟩:=Zapg e1
 have hl:os.size=xs.length:=by rw[<-hargs];simp
 refine⟨#[u]++os.map a.eval,Zape ho hu (hM.run u w) hc.1,by simp;omega,λj x v' hx hv=>?_⟩
 cases j with
 | zero =>
  simp only[List.getElem?_cons_zero,Option.some.injEq]at hx
  have hv':v'=u:=by
   have e0:(#[u]++os.map a.eval)[0]?=some u:=by rw[Array.getElem?_append_left (by simp)];rfl
   rw[e0]at hv;exact(sI_ hv).symm
  subst hx hv'
  exact hp
 | succ j =>
  refine Zas4 (os:=os) (λy hy=>g1 y (by simp[ho,Op.operands,Call.operands];exact .inr (by simpa using hy))) hargs h.ev (j:=j) (by simpa using hx) ?_
  rw[<-hv,Array.getElem?_append_right (by simp)]
  simp
theorem Zaum {i ver k j:Nat}{B:Blk}{e:List AV}{t:TypeId}{ti:TI}(ρ:List (Nat×Nat))(fz:List Nat)(go nb:List (Nat×Ent))(ho:o.op=.call ⟨.invoke c name,os,ats⟩)(hd:InB n o.dst)(hx:evA τ c=.ifc T (.ptr i ver k j))(hargs:os.toList.map (evA τ)=xs)(hn:0<n)
  (hi:η i=⟨ver,some B⟩) (he:B.els[k]?=some e) (ht:TyOk C.P t ti) (h1:ti.kind.agg=false->ti.sz=1) (hj:j+ti.sz<=B.sz) (hB:isM B.box B.ty=false) (hM:MethV C.P T t name f) (hc:Zc8 C f ys bs ks r bs')
  (hok:okC ρ fz bs ks bs' (Zjg go)=true) (hgo:Zabi η go) (hgl:ltUs n go)
  (hw:GWL η (fE bs) (lk ρ) (λi=>inB fz i=true) (λi=>inB (Zmb bs) i=true) (cut ti e j :: xs) ys) (hb:GBL η (fE bs) (lk ρ) (λi=>inB fz i=true) (λi=>inB (Zmb bs) i=true) bs)
  (hr:GW (fE bs') (Zb5 η (go++nb)) (lk (Zln ρ bs')) (λ_=>False) (λi=>inB (Zjg nb) i=true) r r')
  (hnb:nbOk n η (Zb5 η (go++nb)) ρ ks (fE bs') (lk (Zln ρ bs')) (λi=>inB (Zjg nb) i=true) bs' nb):LF C n o τ η ⟨r',go++nb,[i]⟩:=by
 refine Zadu ρ fz go nb [i] (λw0 X m a w τ' η' g1 g2 h=>?_) hd hc hok hgo hgl hw hb hr hnb
 have e1:=h.ev c
 rw[g1 c (by simp[ho,Op.operands,Call.operands]),hx]at e1
 obtain⟨u,hu,hp⟩:=Zapg e1
 have hi':η' i=⟨ver,some B⟩:=(g2 i (mI_.2 rfl)).trans hi
 have hput:=h.put (d:=some 0) hn hp
 obtain⟨ad,v,q1,q2,q3⟩:=Zaka (p:=0) hput (by simp[Zss]) hi' he ht h1 hj hB
 have q1':u=.pointer (some ad):=by
  rw[<-q1]
  simp[Act.put,h.sz,hn]
 subst q1'
 have hl:os.size=xs.length:=by rw[<-hargs];simp
 refine⟨#[v]++os.map a.eval,Zape ho hu (hM.at q2) hc.1,by simp;omega,λj x v' hx hv=>?_⟩
 cases j with
 | zero =>
  simp only[List.getElem?_cons_zero,Option.some.injEq]at hx
  have hv':v'=v:=by
   have e0:(#[v]++os.map a.eval)[0]?=some v:=by rw[Array.getElem?_append_left (by simp)];rfl
   rw[e0]at hv;exact(sI_ hv).symm
  subst hx hv'
  exact q3
 | succ j =>
  refine Zas4 (os:=os) (λy hy=>g1 y (by simp[ho,Op.operands,Call.operands];exact .inr (by simpa using hy))) hargs h.ev (j:=j) (by simpa using hx) ?_
  rw[<-hv,Array.getElem?_append_right (by simp)]
  simp
end
end Go.Proofs.YtpfnmpdcneejbaaGreatDoor.Am
namespace Go.Proofs.YtpfnmpdcneejbaaGreatDoor.Am
open Go.RowKit
set_option maxRecDepth 100000 in
theorem Zats (v:Value)(w:World):(Instr.typeAssert (.iface 44 v) 32 44 true).run cx.P w=.ok (.tuple #[v,.bool true]) w:=by kernel_rfl
end Go.Proofs.YtpfnmpdcneejbaaGreatDoor.Am
namespace Go.Proofs.YtpfnmpdcneejbaaGreatDoor.Am
set_option maxHeartbeats 16000000
set_option maxRecDepth 100000
open Go.RowKit
structure Zbd where
 facts:List Zaa
 dist:Int
 order:Int
 deriving DecidableEq
def Zap (x:Zbd):List AV:=[.sl 2 (x.facts.map cF),.c (.int .i64 x.dist),.c (.int .i64 x.order)]
theorem Zal2 (x:Zbd):∀y∈Zap x,Fr y:=Zaz (.sl (Zsi _)) (Zaz (.c _) (Zaz (.c _) (Zd2)))
theorem Zahx (l:List Zbd):FrL (l.map Zap):=Zgt (λx _=>Zal2 x)
instance {l:List Zbd}:FrI (l.map Zap):=⟨Zahx l⟩
theorem Zadw : Zalf cx.P 120 "Push" 209:=⟨λv w=>by kernel_rfl⟩
theorem Zx2 : MethV cx.P 120 125 "Len" 60:=⟨λad w=>by kernel_rfl⟩
theorem Zq2 : MethV cx.P 120 125 "Less" 207:=⟨λad w=>by kernel_rfl⟩
theorem Zq3 : MethV cx.P 120 125 "Swap" 210:=⟨λad w=>by kernel_rfl⟩
theorem Zaf7 : Zalf cx.P 120 "Pop" 208:=⟨λv w=>by kernel_rfl⟩
structure Zaq where
 When:List Zaa
 Var:Int
 Val:Int
 deriving DecidableEq
def Zag (x:Zaq):List AV:=[.sl 2 (x.When.map cF),.c (.int .i64 x.Var),.c (.int .i64 x.Val)]
theorem Zaht (x:Zaq):∀y∈Zag x,Fr y:=Zaz (.sl (Zsi _)) (Zaz (.c _) (Zaz (.c _) (Zd2)))
theorem Zxx (l:List Zaq):FrL (l.map Zag):=Zgt (λx _=>Zaht x)
instance {l:List Zaq}:FrI (l.map Zag):=⟨Zxx l⟩
structure GOp where
 Name:ByteArray
 Cost:Int
 Pre:List Zaa
 Effs:List Zaq
 deriving DecidableEq
def Za0 (x:GOp):List AV:=[.c (.string x.Name),.c (.int .i64 x.Cost),.sl 2 (x.Pre.map cF),.sl 3 (x.Effs.map Zag)]
theorem Zat8 (x:GOp):∀y∈Za0 x,Fr y:=Zaz (.c _) (Zaz (.c _) (Zaz (.sl (Zsi _)) (Zaz (.sl (Zxx _)) (Zd2))))
theorem Zadh (l:List GOp):FrL (l.map Za0):=Zgt (λx _=>Zat8 x)
instance {l:List GOp}:FrI (l.map Za0):=⟨Zadh l⟩
structure Zah where
 Vars:List Int
 Init:List Int
 Goal:List Zaa
 Ops:List GOp
 deriving DecidableEq
def Ziy (x:Zah):List AV:=[.sl 1 (x.Vars.map cI),.sl 1 (x.Init.map cI),.sl 2 (x.Goal.map cF),.sl 4 (x.Ops.map Za0)]
theorem Zaoc (x:Zah):∀y∈Ziy x,Fr y:=Zaz (.sl (Zrh _)) (Zaz (.sl (Zrh _)) (Zaz (.sl (Zsi _)) (Zaz (.sl (Zadh _)) (Zd2))))
theorem Zal5 (l:List Zah):FrL (l.map Ziy):=Zgt (λx _=>Zaoc x)
instance {l:List Zah}:FrI (l.map Ziy):=⟨Zal5 l⟩
def Zcp (x:List (List Zaa)):List AV:=[.sl 1 (x.map Zal)]
theorem Zahv (x:List (List Zaa)):∀y∈Zcp x,Fr y:=Zaz (.sl (Zafo _)) (Zd2)
theorem Zafp (l:List (List (List Zaa))):FrL (l.map Zcp):=Zgt (λx _=>Zahv x)
instance {l:List (List (List Zaa))}:FrI (l.map Zcp):=⟨Zafp l⟩
def Zb4 (x:List Int):List AV:=[.sl 1 (x.map cI)]
theorem Zaq7 (x:List Int):∀y∈Zb4 x,Fr y:=Zaz (.sl (Zrh _)) (Zd2)
theorem Zaoe (l:List (List Int)):FrL (l.map Zb4):=Zgt (λx _=>Zaq7 x)
instance {l:List (List Int)}:FrI (l.map Zb4):=⟨Zaoe l⟩
structure Zdd where
 vars:List Int
 used:Int
 steps:Int
 full:Bool
 deriving DecidableEq
def Zgi (x:Zdd):List AV:=[.sl 1 (x.vars.map cI),.c (.int .i64 x.used),.c (.int .i64 x.steps),.c (.bool x.full)]
theorem Zal1 (x:Zdd):∀y∈Zgi x,Fr y:=Zaz (.sl (Zrh _)) (Zaz (.c _) (Zaz (.c _) (Zaz (.c _) (Zd2))))
theorem Zahw (l:List Zdd):FrL (l.map Zgi):=Zgt (λx _=>Zal1 x)
instance {l:List Zdd}:FrI (l.map Zgi):=⟨Zahw l⟩
structure Zab where
 Bound:Int
 Nogoods:List Zaw
 deriving DecidableEq
def Za8 (x:Zab):List AV:=[.c (.int .i64 x.Bound),.sl 2 (x.Nogoods.map cN)]
theorem Zym (x:Zab):∀y∈Za8 x,Fr y:=Zaz (.c _) (Zaz (.sl (Zaof _)) (Zd2))
theorem Zw2 (l:List Zab):FrL (l.map Za8):=Zgt (λx _=>Zym x)
instance {l:List Zab}:FrI (l.map Za8):=⟨Zw2 l⟩
structure Zbu where
 t:Zah
 c:Zab
 steps:Int
 deriving DecidableEq
def Zda (x:Zbu):List AV:=[.sl 1 (x.t.Vars.map cI),.sl 1 (x.t.Init.map cI),.sl 2 (x.t.Goal.map cF),.sl 4 (x.t.Ops.map Za0),.c (.int .i64 x.c.Bound),.sl 2 (x.c.Nogoods.map cN),.c (.int .i64 x.steps)]
theorem Zafm (x:Zbu):∀y∈Zda x,Fr y:=Zaz (.sl (Zrh _)) (Zaz (.sl (Zrh _)) (Zaz (.sl (Zsi _)) (Zaz (.sl (Zadh _)) (Zaz (.c _) (Zaz (.sl (Zaof _)) (Zaz (.c _) (Zd2)))))))
theorem Zadg (l:List Zbu):FrL (l.map Zda):=Zgt (λx _=>Zafm x)
instance {l:List Zbu}:FrI (l.map Zda):=⟨Zadg l⟩
structure GEdge where
 From:Int
 Op:Int
 To:Int
 deriving DecidableEq
def Zdm (x:GEdge):List AV:=[.c (.int .i64 x.From),.c (.int .i64 x.Op),.c (.int .i64 x.To)]
theorem Zaoa (x:GEdge):∀y∈Zdm x,Fr y:=Zaz (.c _) (Zaz (.c _) (Zaz (.c _) (Zd2)))
theorem Zal3 (l:List GEdge):FrL (l.map Zdm):=Zgt (λx _=>Zaoa x)
instance {l:List GEdge}:FrI (l.map Zdm):=⟨Zal3 l⟩
structure Zam where
 From:Int
 Label:Int
 To:Int
 deriving DecidableEq
def Zao (x:Zam):List AV:=[.c (.int .i64 x.From),.c (.int .i64 x.Label),.c (.int .i64 x.To)]
theorem Zafl (x:Zam):∀y∈Zao x,Fr y:=Zaz (.c _) (Zaz (.c _) (Zaz (.c _) (Zd2)))
theorem Zlg (l:List Zam):FrL (l.map Zao):=Zgt (λx _=>Zafl x)
instance {l:List Zam}:FrI (l.map Zao):=⟨Zlg l⟩
structure Zbh where
 States:Int
 Init:Int
 Costs:List Int
 Edges:List Zam
 Goals:List Bool
 deriving DecidableEq
def Zef (x:Zbh):List AV:=[.c (.int .i64 x.States),.c (.int .i64 x.Init),.sl 1 (x.Costs.map cI),.sl 3 (x.Edges.map Zao),.sl 1 (x.Goals.map cB)]
theorem Zahu (x:Zbh):∀y∈Zef x,Fr y:=Zaz (.c _) (Zaz (.c _) (Zaz (.sl (Zrh _)) (Zaz (.sl (Zlg _)) (Zaz (.sl (Zaod _)) (Zd2)))))
theorem Zafn (l:List Zbh):FrL (l.map Zef):=Zgt (λx _=>Zahu x)
instance {l:List Zbh}:FrI (l.map Zef):=⟨Zafn l⟩
structure Za1 where
 dist:Int
 state:Int
 deriving DecidableEq
def Za3 (x:Za1):List AV:=[.c (.int .i64 x.dist),.c (.int .i64 x.state)]
theorem Zaob (x:Za1):∀y∈Za3 x,Fr y:=Zaz (.c _) (Zaz (.c _) (Zd2))
theorem Zal4 (l:List Za1):FrL (l.map Za3):=Zgt (λx _=>Zaob x)
instance {l:List Za1}:FrI (l.map Za3):=⟨Zal4 l⟩
def Zav (x:List Zam):List AV:=[.sl 3 (x.map Zao)]
theorem Zz6 (x:List Zam):∀y∈Zav x,Fr y:=Zaz (.sl (Zlg _)) (Zd2)
theorem Zri (l:List (List Zam)):FrL (l.map Zav):=Zgt (λx _=>Zz6 x)
instance {l:List (List Zam)}:FrI (l.map Zav):=⟨Zri l⟩
structure Zde where
 vars:List Int
 pattern:List Int
 system:Zbh
 table:List Int
 deriving DecidableEq
def Zck (x:Zde):List AV:=[.sl 1 (x.vars.map cI),.sl 1 (x.pattern.map cI),.c (.int .i64 x.system.States),.c (.int .i64 x.system.Init),.sl 1 (x.system.Costs.map cI),.sl 3 (x.system.Edges.map Zao),.sl 1 (x.system.Goals.map cB),.sl 1 (x.table.map cI)]
theorem Zadf (x:Zde):∀y∈Zck x,Fr y:=Zaz (.sl (Zrh _)) (Zaz (.sl (Zrh _)) (Zaz (.c _) (Zaz (.c _) (Zaz (.sl (Zrh _)) (Zaz (.sl (Zlg _)) (Zaz (.sl (Zaod _)) (Zaz (.sl (Zrh _)) (Zd2))))))))
theorem Zabl (l:List Zde):FrL (l.map Zck):=Zgt (λx _=>Zadf x)
instance {l:List Zde}:FrI (l.map Zck):=⟨Zabl l⟩
theorem zb_0 {P:Prop}(h:P:=by repeat (first|exact BWL.nil|exact Zaqv|exact bw_c|exact BW.sl|exact BW.nil|exact Zaew rfl FrI.h|refine BWL.cons ?_ ?_|refine Zanj ?_ ?_|(refine Zaty rfl rfl rfl FrI.h ?_ ?_ ?_)|exact BW.fr FrV.h|exact BW.fr (by assumption)|refine Zavw ?_|refine Zavx ?_|refine Zavz rfl rfl rfl ?_|(refine Zavy rfl rfl rfl ?_ FrI.h ?_ ?_)|assumption|omega|rfl|(rw[lM_,<-lA_];assumption)|(refine Zaew ?_ FrI.h;(simp[Zap,cF,Ziy,cI,Za0,Zag,Zal,Zcp,Zb4,Zgi,Za8,cN,Zda,Zdm,Zef,Zao,cB,Za3,Zav,Zck] <;> fail))|(rw[List.map_set];refine Zajl (by first|rfl|omega|simp) ?_ ?_)|refine Zajl (by first|rfl|omega|simp) ?_ ?_|(rw[List.map_replicate];refine Zajk ?_)|refine Zajk ?_|(rw[List.map_append];refine Zzu ?_ ?_)|refine Zzu ?_ ?_|(simp[Zap,cF,Ziy,cI,Za0,Zag,Zal,Zcp,Zb4,Zgi,Za8,cN,Zda,Zdm,Zef,Zao,cB,Za3,Zav,Zck,Zh2] <;> fail)|(rw[List.drop_zero,tL_] <;> first|rfl|(simp[Zap,cF,Ziy,cI,Za0,Zag,Zal,Zcp,Zb4,Zgi,Za8,cN,Zda,Zdm,Zef,Zao,cB,Za3,Zav,Zck] <;> fail))|(simp;omega)|(simp only[lM_,lA_,List.drop_zero,lC_,List.length_nil,Nat.zero_add,Nat.add_zero]at *;omega))):P:=h
theorem zg_0 {P:Prop}(h:P:=by repeat (first|exact True.intro|exact Zajx rfl rfl|exact Zsj rfl ⟨rfl,rfl,rfl⟩ List.map_take FrI.h|exact Zsj rfl ⟨rfl,rfl,rfl⟩ (Zavg (by omega)) FrI.h|exact Zsj rfl ⟨rfl,rfl,rfl⟩ (Zatb (by omega)) FrI.h |  refine Zadi ⟨rfl,rfl,rfl⟩ ?_|refine And.intro ?_ ?_|refine Zaj3 rfl rfl rfl rfl rfl ?_|exact Zadm rfl rfl rfl rfl rfl|exact Zyr rfl rfl rfl rfl rfl|exact Zadl rfl rfl|exact Zadk rfl rfl rfl rfl|refine Zado rfl rfl rfl rfl rfl|exact Zadp rfl rfl rfl|refine Zaj4 ?_|refine Zaj1 ?_|exact GWL.nil|exact Zys|exact gw_c|exact GW.sl|exact GW.nil|exact Zmo rfl FrI.h|refine GWL.cons ?_ ?_|refine Zvv ?_ ?_|(refine Zadn rfl rfl rfl FrI.h ?_ ?_ ?_)|exact GW.fr FrV.h|exact GW.fr (by assumption)|refine Zajz ?_|refine Zaj0 ?_|refine Zaj2 rfl rfl rfl ?_|(refine Zafr rfl rfl rfl ?_ FrI.h ?_ ?_)|assumption|omega|rfl|(rw[lM_,<-lA_];assumption)|(refine Zmo ?_ FrI.h;(simp[Zap,cF,Ziy,cI,Za0,Zag,Zal,Zcp,Zb4,Zgi,Za8,cN,Zda,Zdm,Zef,Zao,cB,Za3,Zav,Zck] <;> fail))|(rw[List.map_set];refine Zok (by first|rfl|omega|simp) ?_ ?_)|refine Zok (by first|rfl|omega|simp) ?_ ?_|(rw[List.map_replicate];refine Zoj ?_)|refine Zoj ?_|(rw[List.map_append];refine Zjf ?_ ?_)|refine Zjf ?_ ?_|(simp[Zap,cF,Ziy,cI,Za0,Zag,Zal,Zcp,Zb4,Zgi,Za8,cN,Zda,Zdm,Zef,Zao,cB,Za3,Zav,Zck,Zh2] <;> fail)|(rw[List.drop_zero,tL_] <;> first|rfl|(simp[Zap,cF,Ziy,cI,Za0,Zag,Zal,Zcp,Zb4,Zgi,Za8,cN,Zda,Zdm,Zef,Zao,cB,Za3,Zav,Zck] <;> fail))|(simp;omega)|(simp only[lM_,lA_,List.drop_zero,lC_,List.length_nil,Nat.zero_add,Nat.add_zero]at *;omega))):P:=h
theorem ci {p K:Prop}(k:K)(h:p:=by first|rfl|exact⟨rfl,rfl⟩|exact BW.fr FrV.h|(refine BW.fr ?_;assumption)|(refine⟨rfl,?_⟩;(simp[Zap,cF,Ziy,cI,Za0,Zag,Zal,Zcp,Zb4,Zgi,Za8,cN,Zda,Zdm,Zef,Zao,cB,Za3,Zav,Zck,Zh2];done))|(refine RowK.same ?_ FrI.h;first|rfl|(simp[Zap,cF,Ziy,cI,Za0,Zag,Zal,Zcp,Zb4,Zgi,Za8,cN,Zda,Zdm,Zef,Zao,cB,Za3,Zav,Zck,Zh2];done))|(refine⟨rfl,?_⟩;(simp only[lM_,lA_,List.drop_zero,lC_,List.length_nil,Nat.zero_add,Nat.add_zero]at *;omega))|(refine Zao9 ?_;(exact zb_0);done)|((exact zb_0);done)|(simp[Zap,cF,Ziy,cI,Za0,Zag,Zal,Zcp,Zb4,Zgi,Za8,cN,Zda,Zdm,Zef,Zao,cB,Za3,Zav,Zck,Zh2];done)):p/\K:=⟨h,k⟩
theorem Zas {P:Prop}(h:P:=by repeat (first|exact True.intro|refine ci ?_)):P:=h
theorem pr {p K:Prop}(k:K)(h:p:=by first|assumption|exact Int.natCast_nonneg _|exact Nat.le_refl _|exact Nat.zero_le _|omega|(simp;done)|(simp;omega)):p/\K:=⟨h,k⟩
theorem pl {p K:Prop}(k:K)(h:p:=by first|rfl|exact lM_ _|(simp;done)|(simp;omega)):p/\K:=⟨h,k⟩
theorem pe {p K:Prop}(k:K)(h:p:=by first|omega|(simp;omega)|(simp only[lM_,lC_,List.length_nil,lA_];omega)|(simp only[lM_,List.drop_zero,lC_,List.length_nil,Nat.zero_add,Nat.add_zero]at *;omega)):p/\K:=⟨h,k⟩
theorem dr {b:Bool}{p K:Prop}(k:K)(h:b=true->p:=by intro h;first|(cases h;done)|exact⟨by kernel_rfl,by kernel_rfl⟩):(b=true->p)/\K:=⟨h,k⟩
theorem gz0 {P:Prop}(h:P:=by repeat (first|exact trivial|exact Zawa _|exact Zav8 _|exact Zasw (by assumption)|exact FrV.h|exact Zav9 FrV.h|exact Zasw FrV.h|refine And.intro ?_ ?_)):P:=h
theorem cl {C:Cx}{n:Nat}{o:Oper}{τ:Nat->AV}{η:Nat->Ent}{f:FuncId}{os:Array Operand}{ats:Array TypeId}{r:AV}{args:List AV}{K:Foot->Prop}(ho:o.op=.call ⟨.value (.func f),os,ats⟩)(hc:ACall C f args r)(k:K ⟨r,[],[]⟩)
  (hd:InB n o.dst:=by exact bT0 rfl) (hargs:os.toList.map (evA τ)=args:=by first|rfl|(simp[Zap,cF,Ziy,cI,Za0,Zag,Zal,Zcp,Zb4,Zgi,Za8,cN,Zda,Zdm,Zef,Zao,cB,Za3,Zav,Zck];done)|(repeat (first|exact rfl|refine Zanx ?_ ?_|exact Zaw4 rfl))) (hfr:frs args:=by exact gz0) (hr:fr1 r:=by exact gz0):∃f:Foot,LF C n o τ η f/\K f:=⟨_,Zauk ho hd hargs hc hfr hr,k⟩
theorem clc {C:Cx}{n:Nat}{o:Oper}{τ:Nat->AV}{η:Nat->Ent}{c:Operand}{os:Array Operand}{ats:Array TypeId}{r F:AV}{xs:List AV}{K:Foot->Prop}(ho:o.op=.call ⟨.value c,os,ats⟩)(hc:CCl C F xs r)(hfF:Fr F)(k:K ⟨r,[],[]⟩)
  (hd:InB n o.dst:=by exact bT0 rfl) (hF:evA τ c=F:=by rfl) (hargs:os.toList.map (evA τ)=xs:=by first|rfl|(simp[Zap,cF,Ziy,cI,Za0,Zag,Zal,Zcp,Zb4,Zgi,Za8,cN,Zda,Zdm,Zef,Zao,cB,Za3,Zav,Zck];done)|(repeat (first|exact rfl|refine Zanx ?_ ?_|exact Zaw4 rfl))) (hfr:frs xs:=by exact gz0) (hr:fr1 r:=by exact gz0):∃f:Foot,LF C n o τ η f/\K f:=⟨_,Zawi ho hd hF hargs hc hfF hfr hr,k⟩
theorem clb {C:Cx}{n:Nat}{o:Oper}{τ:Nat->AV}{η:Nat->Ent}{f:FuncId}{os:Array Operand}{ats:Array TypeId}{r:AV}{xs ys:List AV}{K:Foot->Prop}(bs:List Nat)(ho:o.op=.call ⟨.value (.func f),os,ats⟩)(hargs:os.toList.map (evA τ)=xs)(hc:ACall C f ys r)(k:K ⟨r,[],bs⟩)
  (hd:InB n o.dst:=by exact bT0 rfl) (hb:BWL η (Zn3 η bs) xs ys:=by exact zb_0) (hr:scal r:=by repeat (first|exact trivial|exact Zar1 _|exact Zau8 _|refine And.intro ?_ ?_)):∃f:Foot,LF C n o τ η f/\K f:=⟨_,Zarh bs ho hd hargs hb hc hr,k⟩
theorem gz1 {P:Prop}(h:P:=by repeat (first|exact trivial|refine And.intro rfl ?_)):P:=h
theorem gz2 {P:Prop}(h:P:=by repeat (first|exact trivial|refine And.intro (bT0 rfl) ?_)):P:=h
theorem clf {C:Cx}{n:Nat}{o:Oper}{τ:Nat->AV}{η:Nat->Ent}{f:FuncId}{os:Array Operand}{ats:Array TypeId}{r:AV}{xs ys:List AV}{K:Foot->Prop}(us:List (Nat×Ent))(ho:o.op=.call ⟨.value (.func f),os,ats⟩)(hargs:os.toList.map (evA τ)=xs)(hc:ACall C f ys r)(k:K ⟨r,us,[]⟩)
  (hus:Zabi η us:=by exact gz1) (hul:ltUs n us:=by exact gz2) (hd:InB n o.dst:=by exact bT0 rfl) (hb:BWL η (Zn3 η (us.map (·.1))) xs ys:=by exact zb_0) (hr:fr1 r:=by exact gz0):∃f:Foot,LF C n o τ η f/\K f:=⟨_,Zari us (Zac2 hus) (Zah7 hul) ho hd hargs hb hc hr,k⟩
theorem clg {C:Cx}{n:Nat}{o:Oper}{τ:Nat->AV}{η:Nat->Ent}{f:FuncId}{os:Array Operand}{ats:Array TypeId}{r:AV}{xs ys:List AV}{bs bs':List (Nat×Blk)}{ks:List Nat}{K:Foot->Prop}(ρ:List (Nat×Nat))(fz:List Nat)(go nb:List (Nat×Ent))(r':AV)(ho:o.op=.call ⟨.value (.func f),os,ats⟩)(hargs:os.toList.map (evA τ)=xs)
  (hc:Zc8 C f ys bs ks r bs') (k:K ⟨r',go++nb,[]⟩) (hd:InB n o.dst:=by exact bT0 rfl) (hok:okC ρ fz bs ks bs' (Zjg go)=true:=by rfl) (hgo:Zabi η go:=by exact gz1) (hgl:ltUs n go:=by exact gz2)
  (hw:GWL η (fE bs) (lk ρ) (λi=>inB fz i=true) (λi=>inB (Zmb bs) i=true) xs ys:=by exact zg_0) (hb:GBL η (fE bs) (lk ρ) (λi=>inB fz i=true) (λi=>inB (Zmb bs) i=true) bs:=by exact zg_0)
  (hr:GW (fE bs') (Zb5 η (go++nb)) (lk (Zln ρ bs')) (λ_=>False) (λi=>inB (Zjg nb) i=true) r r':=by exact zg_0)
  (hnb:nbOk n η (Zb5 η (go++nb)) ρ ks (fE bs') (lk (Zln ρ bs')) (λi=>inB (Zjg nb) i=true) bs' nb:=by repeat (first|exact True.intro|rfl|exact bT0 rfl|exact Zajx rfl rfl|exact Zsj rfl ⟨rfl,rfl,rfl⟩ List.map_take FrI.h|exact Zsj rfl ⟨rfl,rfl,rfl⟩ (Zavg (by omega)) FrI.h|exact Zsj rfl ⟨rfl,rfl,rfl⟩ (Zatb (by omega)) FrI.h |  refine Zadi ⟨rfl,rfl,rfl⟩ ?_|refine And.intro ?_ ?_|refine Zaj3 rfl rfl rfl rfl rfl ?_|exact Zadm rfl rfl rfl rfl rfl|exact Zyr rfl rfl rfl rfl rfl|exact Zadl rfl rfl|exact Zadk rfl rfl rfl rfl|refine Zado rfl rfl rfl rfl rfl|exact Zadp rfl rfl rfl|refine Zaj4 ?_|refine Zaj1 ?_|exact GWL.nil|exact Zys|exact gw_c|exact GW.sl|exact GW.nil|exact Zmo rfl FrI.h|refine GWL.cons ?_ ?_|refine Zvv ?_ ?_|(refine Zadn rfl rfl rfl FrI.h ?_ ?_ ?_)|exact GW.fr FrV.h|exact GW.fr (by assumption)|refine Zajz ?_|refine Zaj0 ?_|refine Zaj2 rfl rfl rfl ?_|(refine Zafr rfl rfl rfl ?_ FrI.h ?_ ?_)|assumption|omega|rfl|(rw[lM_,<-lA_];assumption)|(refine Zmo ?_ FrI.h;(simp[Zap,cF,Ziy,cI,Za0,Zag,Zal,Zcp,Zb4,Zgi,Za8,cN,Zda,Zdm,Zef,Zao,cB,Za3,Zav,Zck] <;> fail))|(rw[List.map_set];refine Zok (by first|rfl|omega|simp) ?_ ?_)|refine Zok (by first|rfl|omega|simp) ?_ ?_|(rw[List.map_replicate];refine Zoj ?_)|refine Zoj ?_|(rw[List.map_append];refine Zjf ?_ ?_)|refine Zjf ?_ ?_|(simp[Zap,cF,Ziy,cI,Za0,Zag,Zal,Zcp,Zb4,Zgi,Za8,cN,Zda,Zdm,Zef,Zao,cB,Za3,Zav,Zck,Zh2] <;> fail)|(rw[List.drop_zero,tL_] <;> first|rfl|(simp[Zap,cF,Ziy,cI,Za0,Zag,Zal,Zcp,Zb4,Zgi,Za8,cN,Zda,Zdm,Zef,Zao,cB,Za3,Zav,Zck] <;> fail))|(simp;omega)|(simp only[lM_,lA_,List.drop_zero,lC_,List.length_nil,Nat.zero_add,Nat.add_zero]at *;omega))):∃f:Foot,LF C n o τ η f/\K f:=⟨_,Zaj8 ρ fz go nb ho hd hargs hc hok hgo hgl hw hb hr hnb,k⟩
theorem gz3 {P:Prop}(h:P:=by repeat (first|exact True.intro|exact Zajx rfl rfl|exact Zsj rfl ⟨rfl,rfl,rfl⟩ List.map_take FrI.h|refine Zadi ⟨rfl,rfl,rfl⟩ ?_|refine And.intro ?_ ?_|refine Zaj3 rfl rfl rfl rfl rfl ?_|exact Zadm rfl rfl rfl rfl rfl|exact Zyr rfl rfl rfl rfl rfl|exact Zadl rfl rfl|exact Zadk rfl rfl rfl rfl|refine Zado rfl rfl rfl rfl rfl|exact Zadp rfl rfl rfl|refine Zaj4 ?_|refine Zaj1 ?_|exact GWL.nil|exact Zys|exact gw_c|exact GW.sl|exact GW.nil|exact Zmo rfl FrI.h|refine GWL.cons ?_ ?_|refine Zvv ?_ ?_|(refine Zadn rfl rfl rfl FrI.h ?_ ?_ ?_)|exact GW.fr FrV.h|exact GW.fr (by assumption)|refine Zajz ?_|refine Zaj0 ?_|refine Zaj2 rfl rfl rfl ?_|(refine Zafr rfl rfl rfl ?_ FrI.h ?_ ?_)|assumption|omega|rfl|(rw[lM_,<-lA_];assumption)|(refine Zmo ?_ FrI.h;(simp[Zap,cF,Ziy,cI,Za0,Zag,Zal,Zcp,Zb4,Zgi,Za8,cN,Zda,Zdm,Zef,Zao,cB,Za3,Zav,Zck] <;> fail))|(rw[List.map_set];refine Zok (by first|rfl|omega|simp) ?_ ?_)|refine Zok (by first|rfl|omega|simp) ?_ ?_|(rw[List.map_replicate];refine Zoj ?_)|refine Zoj ?_|(rw[List.map_append];refine Zjf ?_ ?_)|refine Zjf ?_ ?_|(simp[Zap,cF,Ziy,cI,Za0,Zag,Zal,Zcp,Zb4,Zgi,Za8,cN,Zda,Zdm,Zef,Zao,cB,Za3,Zav,Zck,Zh2] <;> fail)|(rw[List.drop_zero,tL_] <;> first|rfl|(simp[Zap,cF,Ziy,cI,Za0,Zag,Zal,Zcp,Zb4,Zgi,Za8,cN,Zda,Zdm,Zef,Zao,cB,Za3,Zav,Zck] <;> fail))|(simp;omega)|(simp only[lM_,lA_,List.drop_zero,lC_,List.length_nil,Nat.zero_add,Nat.add_zero]at *;omega))):P:=h
theorem gz4 {P:Prop}(h:P:=by repeat (first|exact True.intro|rfl|exact bT0 rfl|exact Zajx rfl rfl|exact Zsj rfl ⟨rfl,rfl,rfl⟩ List.map_take FrI.h|refine Zadi ⟨rfl,rfl,rfl⟩ ?_|refine And.intro ?_ ?_|refine Zaj3 rfl rfl rfl rfl rfl ?_|exact Zadm rfl rfl rfl rfl rfl|exact Zyr rfl rfl rfl rfl rfl|exact Zadl rfl rfl|exact Zadk rfl rfl rfl rfl|refine Zado rfl rfl rfl rfl rfl|exact Zadp rfl rfl rfl|refine Zaj4 ?_|refine Zaj1 ?_|exact GWL.nil|exact Zys|exact gw_c|exact GW.sl|exact GW.nil|exact Zmo rfl FrI.h|refine GWL.cons ?_ ?_|refine Zvv ?_ ?_|(refine Zadn rfl rfl rfl FrI.h ?_ ?_ ?_)|exact GW.fr FrV.h|exact GW.fr (by assumption)|refine Zajz ?_|refine Zaj0 ?_|refine Zaj2 rfl rfl rfl ?_|(refine Zafr rfl rfl rfl ?_ FrI.h ?_ ?_)|assumption|omega|rfl|(rw[lM_,<-lA_];assumption)|(refine Zmo ?_ FrI.h;(simp[Zap,cF,Ziy,cI,Za0,Zag,Zal,Zcp,Zb4,Zgi,Za8,cN,Zda,Zdm,Zef,Zao,cB,Za3,Zav,Zck] <;> fail))|(rw[List.map_set];refine Zok (by first|rfl|omega|simp) ?_ ?_)|refine Zok (by first|rfl|omega|simp) ?_ ?_|(rw[List.map_replicate];refine Zoj ?_)|refine Zoj ?_|(rw[List.map_append];refine Zjf ?_ ?_)|refine Zjf ?_ ?_|(simp[Zap,cF,Ziy,cI,Za0,Zag,Zal,Zcp,Zb4,Zgi,Za8,cN,Zda,Zdm,Zef,Zao,cB,Za3,Zav,Zck,Zh2] <;> fail)|(rw[List.drop_zero,tL_] <;> first|rfl|(simp[Zap,cF,Ziy,cI,Za0,Zag,Zal,Zcp,Zb4,Zgi,Za8,cN,Zda,Zdm,Zef,Zao,cB,Za3,Zav,Zck] <;> fail))|(simp;omega)|(simp only[lM_,lA_,List.drop_zero,lC_,List.length_nil,Nat.zero_add,Nat.add_zero]at *;omega))):P:=h
theorem clk {C:Cx}{n:Nat}{o:Oper}{τ:Nat->AV}{η:Nat->Ent}{f:FuncId}{os:Array Operand}{ats:Array TypeId}{r:AV}{xs ys:List AV}{bs bs':List (Nat×Blk)}{ks:List Nat}{K:Foot->Prop}(ρ:List (Nat×Nat))(nb:List (Nat×Ent))(r':AV)(ho:o.op=.call ⟨.value (.func f),os,ats⟩)(hargs:os.toList.map (evA τ)=xs)
  (hc:Zc8 C f ys bs ks r bs') (k:K ⟨r',[],nb.map (·.1)⟩) (hd:InB n o.dst:=by exact bT0 rfl) (hok:okC ρ [] bs ks bs' (Zjg [])=true:=by rfl)
  (hw:GWL η (fE bs) (lk ρ) (λi=>inB [] i=true) (λi=>inB (Zmb bs) i=true) xs ys:=by exact gz3) (hb:GBL η (fE bs) (lk ρ) (λi=>inB [] i=true) (λi=>inB (Zmb bs) i=true) bs:=by exact gz3)
  (hr:GW (fE bs') (Zb5 η ([]++nb)) (lk (Zln ρ bs')) (λ_=>False) (λi=>inB (Zjg nb) i=true) r r':=by exact gz3)
  (hnb:nbOk n η (Zb5 η ([]++nb)) ρ ks (fE bs') (lk (Zln ρ bs')) (λi=>inB (Zjg nb) i=true) bs' nb:=by exact gz4) (hs:Zach η nb:=by repeat (first|exact True.intro|refine And.intro rfl ?_)):∃f:Foot,LF C n o τ η f/\K f:=⟨_,Zarj (Zaj8 ρ [] [] nb ho hd hargs hc hok True.intro True.intro hw hb hr hnb) hs,k⟩
theorem clip {C:Cx}{n:Nat}{o:Oper}{τ:Nat->AV}{η:Nat->Ent}{f:FuncId}{os:Array Operand}{ats:Array TypeId}{r:AV}{xs ys:List AV}{bs bs':List (Nat×Blk)}{ks:List Nat}{K:Foot->Prop}{c:Operand}{name:String}{T:TypeId}{y:AV}(ρ:List (Nat×Nat))(fz:List Nat)(go nb:List (Nat×Ent))(r':AV)(ho:o.op=.call ⟨.invoke c name,os,ats⟩)(hx:evA τ c=.ifc T y)(hargs:os.toList.map (evA τ)=xs)(hM:Zalf C.P T name f)
  (hc:Zc8 C f ys bs ks r bs') (k:K ⟨r',go++nb,[]⟩) (hd:InB n o.dst:=by exact bT0 rfl) (hok:okC ρ fz bs ks bs' (Zjg go)=true:=by rfl) (hgo:Zabi η go:=by exact gz1) (hgl:ltUs n go:=by exact gz2)
  (hw:GWL η (fE bs) (lk ρ) (λi=>inB fz i=true) (λi=>inB (Zmb bs) i=true) (y :: xs) ys:=by exact gz3) (hb:GBL η (fE bs) (lk ρ) (λi=>inB fz i=true) (λi=>inB (Zmb bs) i=true) bs:=by exact gz3)
  (hr:GW (fE bs') (Zb5 η (go++nb)) (lk (Zln ρ bs')) (λ_=>False) (λi=>inB (Zjg nb) i=true) r r':=by exact gz3)
  (hnb:nbOk n η (Zb5 η (go++nb)) ρ ks (fE bs') (lk (Zln ρ bs')) (λi=>inB (Zjg nb) i=true) bs' nb:=by exact gz4):∃f:Foot,LF C n o τ η f/\K f:=⟨_,Zaul ρ fz go nb ho hd hx hargs hM hc hok hgo hgl hw hb hr hnb,k⟩
theorem cliv {C:Cx}{n:Nat}{o:Oper}{τ:Nat->AV}{η:Nat->Ent}{f:FuncId}{os:Array Operand}{ats:Array TypeId}{r:AV}{xs ys:List AV}{bs bs':List (Nat×Blk)}{ks:List Nat}{K:Foot->Prop}{c:Operand}{name:String}{T:TypeId}{i ver k j:Nat}{B:Blk}{e:List AV}{t:TypeId}{ti:TI}(ρ:List (Nat×Nat))(fz:List Nat)(go nb:List (Nat×Ent))(r':AV)(ho:o.op=.call ⟨.invoke c name,os,ats⟩)(hx:evA τ c=.ifc T (.ptr i ver k j))(hargs:os.toList.map (evA τ)=xs)(hn:0<n)(hi:η i=⟨ver,some B⟩)(he:B.els[k]?=some e)(hM:MethV C.P T t name f)(ht:TyOk C.P t ti)(h1:ti.kind.agg=false->ti.sz=1)(hj:j+ti.sz<=B.sz)(hB:isM B.box B.ty=false)
  (hc:Zc8 C f ys bs ks r bs') (k:K ⟨r',go++nb,[i]⟩) (hd:InB n o.dst:=by exact bT0 rfl) (hok:okC ρ fz bs ks bs' (Zjg go)=true:=by rfl) (hgo:Zabi η go:=by exact gz1) (hgl:ltUs n go:=by exact gz2)
  (hw:GWL η (fE bs) (lk ρ) (λi=>inB fz i=true) (λi=>inB (Zmb bs) i=true) (cut ti e j :: xs) ys:=by exact gz3) (hb:GBL η (fE bs) (lk ρ) (λi=>inB fz i=true) (λi=>inB (Zmb bs) i=true) bs:=by exact gz3)
  (hr:GW (fE bs') (Zb5 η (go++nb)) (lk (Zln ρ bs')) (λ_=>False) (λi=>inB (Zjg nb) i=true) r r':=by exact gz3)
  (hnb:nbOk n η (Zb5 η (go++nb)) ρ ks (fE bs') (lk (Zln ρ bs')) (λi=>inB (Zjg nb) i=true) bs' nb:=by exact gz4):∃f:Foot,LF C n o τ η f/\K f:=⟨_,Zaum ρ fz go nb ho hd hx hargs hn hi he ht h1 hj hB hM hc hok hgo hgl hw hb hr hnb,k⟩
def Zen (a0:List Zbd)(a1:Zbd):Option (List Zbd):=grd ((a0.length+1)*40<=140737488355328) (some (a0++[a1]))
theorem Zlm (a0:List Zbd)(a1:Zbd){r1:List Zbd}(h:Zen a0 a1=some r1):Zc8 cx 209 [.ptr 22 0 0 0,.ifc 123 (.agg [.sl 2 (a1.facts.map cF),.c (.int .i64 a1.dist),.c (.int .i64 a1.order)])] [(22,⟨125,1,true,[[.own 0 0 0 a0.length]]⟩),(0,⟨123,3,false,a0.map Zap⟩)] [22] (.tup []) [(22,⟨125,1,true,[[.own 0 0 0 r1.length]]⟩),(0,⟨123,3,false,r1.map Zap⟩)]:=by
 refine Zc4 24 Tryz.func209 rfl (by decide) rfl (bT0 rfl) rfl rfl ?_;intro _;unfold Zen at h;refine aSR λ_=>?_;refine⟨_,Zsm rfl (bT0 rfl) rfl (λ_ _=>by kernel_rfl),?_⟩;intro _;refine dr (aSR λ_=>dr (aCd λ_=>Zll (aRg λ_=>?_)));obtain⟨q1,h⟩:=Zaf h;refine pl (pl ?_);refine And.intro (by first|with_reducible assumption|(show(a0.length+1)*40<=140737488355328;with_reducible assumption)|omega|(simp;omega)) ?_;refine pe (dr λ_=>?_);obtain rfl:=inj1 h;all_goals (refine Exists.intro [(0,0)] (And.intro rfl (And.intro ?_ ?_)));all_goals (exact gz3)
def Zcj (a0:List Zbd):Option (Int×(List Zbd)):=some (((a0.length:Nat):Int),a0)
theorem Zeu (a0:List Zbd){r1:Int}{r2:List Zbd}(h:Zcj a0=some (r1,r2)):Zc8 cx 60 [.own 5 0 0 a0.length] [(5,⟨123,3,false,a0.map Zap⟩)] [5] (.c (.int .i64 r1)) [(5,⟨123,3,false,r2.map Zap⟩)]:=by
 refine Zc4 6 Tryz.func60 rfl (by decide) rfl (bT0 rfl) rfl rfl ?_;intro _;unfold Zcj at h;refine aSR λ_=>dr (aSR λ_=>dr (aRt λ_=>?_));obtain⟨rfl,rfl⟩:=Zw6 h;all_goals (refine Exists.intro [] (And.intro rfl (And.intro ?_ ?_)));all_goals (exact gz3)
def Zb8 (a0:List Zbd)(a1:Int)(a2:Int):Option (Bool×(List Zbd)):=ixn a0 ((a1).toNat) (λy1=>ixn a0 ((a2).toNat) (λy2=>sel (decide (y1.dist<y2.dist)) (grd (0<=a1) (grd (a1<((a0.length:Nat):Int)) (grd (0<=a2) (grd (a2<((a0.length:Nat):Int)) (some (true,a0)))))) (ixn a0 ((a1).toNat) (λy3=>ixn a0 ((a2).toNat) (λy4=>sel (y3.dist == y4.dist) (ixn a0 ((a1).toNat) (λy5=>ixn a0 ((a2).toNat) (λy6=>grd (0<=a1) (grd (a1<((a0.length:Nat):Int)) (grd (0<=a2) (grd (a2<((a0.length:Nat):Int)) (some ((decide (y5.order<y6.order)),a0)))))))) (grd (0<=a1) (grd (a1<((a0.length:Nat):Int)) (grd (0<=a2) (grd (a2<((a0.length:Nat):Int)) (some (false,a0)))))))))))
theorem Zel (a0:List Zbd)(a1:Int)(a2:Int){r1:Bool}{r2:List Zbd}(h:Zb8 a0 a1 a2=some (r1,r2)):Zc8 cx 207 [.own 44 0 0 a0.length,.c (.int .i64 a1),.c (.int .i64 a2)] [(44,⟨123,3,false,a0.map Zap⟩)] [44] (.c (.bool r1)) [(44,⟨123,3,false,r2.map Zap⟩)]:=by
 refine Zc4 47 Tryz.func207 rfl (by decide) rfl (bT0 rfl) rfl rfl ?_;intro _;unfold Zb8 at h;refine aSR λ_=>dr (aSR λ_=>?_);obtain⟨y1,w1,h⟩:=Zcm h;refine Exists.intro (Zap y1) (And.intro (by first|exact Zad w1|(have w:=Zad (f:=Zap) w1;simpa [Zap,Value.cells] using w)) ?_);intro _;obtain⟨y2,w2,h⟩:=Zcm h;refine Exists.intro (Zap y2) (And.intro (by first|exact Zad w2|(have w:=Zad (f:=Zap) w2;simpa [Zap,Value.cells] using w)) ?_);intro _;refine spf h (λc3 h=>?_) (λc3 h=>?_)
 ·intro _;obtain⟨y3,w4,h⟩:=Zcm h;refine Exists.intro (Zap y3) (And.intro (by first|exact Zad w4|(have w:=Zad (f:=Zap) w4;simpa [Zap,Value.cells] using w)) ?_);intro _;obtain⟨y4,w5,h⟩:=Zcm h;refine Exists.intro (Zap y4) (And.intro (by first|exact Zad w5|(have w:=Zad (f:=Zap) w5;simpa [Zap,Value.cells] using w)) ?_);intro _;refine spl h (λc6 h=>?_) (λc6 h=>?_)
  ·intro _;obtain⟨y5,w7,h⟩:=Zcm h;refine Exists.intro (Zap y5) (And.intro (by first|exact Zad w7|(have w:=Zad (f:=Zap) w7;simpa [Zap,Value.cells] using w)) ?_);intro _;obtain⟨y6,w8,h⟩:=Zcm h;refine Exists.intro (Zap y6) (And.intro (by first|exact Zad w8|(have w:=Zad (f:=Zap) w8;simpa [Zap,Value.cells] using w)) ?_);intro _;obtain⟨q9,h⟩:=Zaf h;obtain⟨q10,h⟩:=Zaf h;obtain⟨q11,h⟩:=Zaf h;obtain⟨q12,h⟩:=Zaf h;refine pr (pr (pr (pr (pr (pr (pr (pr (pr (pr (pr (pr (dr (aRt λ_=>?_)))))))))))));obtain⟨rfl,rfl⟩:=Zw6 h;all_goals (refine Exists.intro [] (And.intro rfl (And.intro ?_ ?_)));all_goals (exact gz3)
  ·intro _;obtain⟨q13,h⟩:=Zaf h;obtain⟨q14,h⟩:=Zaf h;obtain⟨q15,h⟩:=Zaf h;obtain⟨q16,h⟩:=Zaf h;refine pr (pr (pr (pr (pr (pr (pr (pr (dr (aRt λ_=>?_)))))))));obtain⟨rfl,rfl⟩:=Zw6 h;all_goals (refine Exists.intro [] (And.intro rfl (And.intro ?_ ?_)));all_goals (exact gz3)
 ·intro _;obtain⟨q17,h⟩:=Zaf h;obtain⟨q18,h⟩:=Zaf h;obtain⟨q19,h⟩:=Zaf h;obtain⟨q20,h⟩:=Zaf h;refine pr (pr (pr (pr (dr (aRt λ_=>?_)))));obtain⟨rfl,rfl⟩:=Zw6 h;all_goals (refine Exists.intro [] (And.intro rfl (And.intro ?_ ?_)));all_goals (exact gz3)
def Zb9 (a0:List Zbd)(a1:Int)(a2:Int):Option (List Zbd):=ixn a0 ((a2).toNat) (λy1=>ixn a0 ((a1).toNat) (λy2=>ixn a0 ((a1).toNat) (λ_=>ixn (a0.set ((a1).toNat) y1) ((a2).toNat) (λ_=>grd (0<=a2) (grd (a2<((a0.length:Nat):Int)) (grd (0<=a1) (grd (a1<((a0.length:Nat):Int)) (some ((a0.set ((a1).toNat) y1).set ((a2).toNat) y2)))))))))
theorem Zem (a0:List Zbd)(a1:Int)(a2:Int){r1:List Zbd}(h:Zb9 a0 a1 a2=some r1):Zc8 cx 210 [.own 20 0 0 a0.length,.c (.int .i64 a1),.c (.int .i64 a2)] [(20,⟨123,3,false,a0.map Zap⟩)] [20] (.tup []) [(20,⟨123,3,false,r1.map Zap⟩)]:=by
 refine Zc4 23 Tryz.func210 rfl (by decide) rfl (bT0 rfl) rfl rfl ?_;intro _;unfold Zb9 at h;refine aRg λ_=>?_;obtain⟨y1,w1,h⟩:=Zcm h;refine Exists.intro (Zap y1) (And.intro (by first|exact Zad w1|(have w:=Zad (f:=Zap) w1;simpa [Zap,Value.cells] using w)) ?_);intro _;obtain⟨y2,w2,h⟩:=Zcm h;refine Exists.intro (Zap y2) (And.intro (by first|exact Zad w2|(have w:=Zad (f:=Zap) w2;simpa [Zap,Value.cells] using w)) ?_);intro _;obtain⟨y3,w3,h⟩:=Zcm h;refine Exists.intro (Zap y3) (And.intro (by first|exact Zad w3|(have w:=Zad (f:=Zap) w3;simpa [Zap,Value.cells] using w)) ?_);intro _;obtain⟨y4,w4,h⟩:=Zcm h;refine Exists.intro (Zap y4) (And.intro (by first|exact Zad w4|(have w:=Zad (f:=Zap) w4;simpa [Zap,Value.cells] using w)) ?_);intro _;obtain⟨q5,h⟩:=Zaf h;obtain⟨q6,h⟩:=Zaf h;obtain⟨q7,h⟩:=Zaf h;obtain⟨q8,h⟩:=Zaf h;refine pr (pr (pr (pr (pr (pr (pr (pr (dr λ_=>?_))))))));obtain rfl:=inj1 h;all_goals (refine Exists.intro [] (And.intro rfl (And.intro ?_ ?_)));all_goals (exact gz3)
def Zdi : Nat->Int->(List Zbd)->Option (List Zbd)|0,_,_=>none|k11+1,v9,v10=>grd (2≠0) (sel ((IntKind.i64.wrap ((IntKind.i64.wrap (v9-1)).tdiv 2)) == v9) (some v10) (ob2 (Zb8 v10 v9 (IntKind.i64.wrap ((IntKind.i64.wrap (v9-1)).tdiv 2))) (λz12 c13=>grd (c13.length=v10.length) (sel (!z12) (some c13) (ob1 (Zb9 c13 (IntKind.i64.wrap ((IntKind.i64.wrap (v9-1)).tdiv 2)) v9) (λc14=>grd (c14.length=v10.length) (Zdi k11 (IntKind.i64.wrap ((IntKind.i64.wrap (v9-1)).tdiv 2)) c14)))))))
def Zkk (g:Nat)(a0:List Zbd)(a1:Int):Option (List Zbd):=Zdi g a1 a0
theorem Zt6 (g:Nat)(a0:List Zbd)(a1:Int){r1:List Zbd}(h:Zkk g a0 a1=some r1):Zc8 cx 75 [.ifc 120 (.ptr 25 0 0 0),.c (.int .i64 a1)] [(25,⟨125,1,true,[[.own 26 0 0 a0.length]]⟩),(26,⟨123,3,false,a0.map Zap⟩)] [25,26] (.tup []) [(25,⟨125,1,true,[[.own 26 0 0 r1.length]]⟩),(26,⟨123,3,false,r1.map Zap⟩)]:=by
 refine Zc4 27 Tryz.func75 rfl (by decide) rfl (bT0 rfl) rfl rfl ?_;intro _;unfold Zkk at h;refine aBk ?_;refine Zaj (α:=Nat×Int×(List Zbd)) (λx=>mkG 23 27 [(0,.ifc 120 (.ptr 25 0 0 0)),(1,.c (.int .i64 x.2.1))] [(25,⟨125,1,true,[[.own 26 0 0 x.2.2.length]]⟩),(26,⟨123,3,false,x.2.2.map Zap⟩)]) (λx=>Zdi x.1 x.2.1 x.2.2=some r1) (λx=>x.1) (g,a1,a0) h ?_ ?_
 ·exact Zas
 ·intro x1 h;intro _;obtain⟨k11,m2,h⟩:=Zak (f:=λn=>Zdi n x1.2.1 x1.2.2) rfl h;replace h:Zdi (k11+1) x1.2.1 x1.2.2=some r1:=h;rw[Zdi]at h;refine aBk (aSR λ_=>?_);obtain⟨q3,h⟩:=Zaf h;refine⟨rfl,(pr (dr (aSq (aSR λ_=>?_))))⟩;refine spf h (λc4 h=>?_) (λc4 h=>?_)
  ·intro _;obtain⟨z12,c13,u5,h⟩:=Zdv h;refine cliv [(44,26)] [] [] [(26,⟨0,some ⟨123,3,false,c13.map Zap⟩⟩)] (.c (.bool z12)) rfl rfl rfl (bT0 rfl) rfl rfl Zq2 (Zbz 125 _ rfl) (λ_=>rfl) (bT0 rfl) rfl (Zel x1.2.2 x1.2.1 (IntKind.i64.wrap ((IntKind.i64.wrap (x1.2.1-1)).tdiv 2)) u5) ?_;obtain⟨q6,h⟩:=Zaf h;intro _;refine dr (aCd λ_=>?_);refine spl h (λc7 h=>?_) (λc7 h=>?_)
   ·refine aEx λ_=>?_;obtain rfl:=inj1 h;all_goals (refine Exists.intro [] (And.intro rfl (And.intro ?_ ?_)));all_goals (exact gz3)
   ·refine aSk (aSR λ_=>?_);obtain⟨c14,u8,h⟩:=Zae h;refine cliv [(20,26)] [] [] [(26,⟨0,some ⟨123,3,false,c14.map Zap⟩⟩)] (.tup []) rfl rfl rfl (bT0 rfl) rfl rfl Zq3 (Zbz 125 _ rfl) (λ_=>rfl) (bT0 rfl) rfl (Zem c13 (IntKind.i64.wrap ((IntKind.i64.wrap (x1.2.1-1)).tdiv 2)) x1.2.1 u8) ?_;obtain⟨q9,h⟩:=Zaf h;intro _;refine dr (aRg λ_=>dr ⟨(k11,(IntKind.i64.wrap ((IntKind.i64.wrap (x1.2.1-1)).tdiv 2)),c14),h,ltS m2,?_⟩);exact Zas
  ·intro _;refine dr (aCd λ_=>Zll (aEx λ_=>?_));obtain rfl:=inj1 h;all_goals (refine Exists.intro [] (And.intro rfl (And.intro ?_ ?_)));all_goals (exact gz3)
def Zi6 (g:Nat)(a0:List Zbd)(a1:Zbd):Option (List Zbd):=ob1 (Zen a0 a1) (λc1=>ob2 (Zcj c1) (λz2 c3=>grd (c3.length=c1.length) (ob1 (Zkk g c3 (IntKind.i64.wrap (z2-1))) (λc4=>some c4))))
theorem Zrr (g:Nat)(a0:List Zbd)(a1:Zbd){r1:List Zbd}(h:Zi6 g a0 a1=some r1):Zc8 cx 46 [.ifc 120 (.ptr 14 0 0 0),.ifc 123 (.agg [.sl 2 (a1.facts.map cF),.c (.int .i64 a1.dist),.c (.int .i64 a1.order)])] [(14,⟨125,1,true,[[.own 0 0 0 a0.length]]⟩),(0,⟨123,3,false,a0.map Zap⟩)] [14] (.tup []) [(14,⟨125,1,true,[[.own 0 0 0 r1.length]]⟩),(0,⟨123,3,false,r1.map Zap⟩)]:=by
 refine Zc4 16 Tryz.func46 rfl (by decide) rfl (bT0 rfl) rfl rfl ?_;intro _;unfold Zi6 at h;refine aSR λ_=>?_;obtain⟨c1,u1,h⟩:=Zae h;refine clip [(22,14),(0,0)] [] [(0,⟨1,none⟩)] [(14,⟨0,some ⟨125,1,true,[[.own 0 2 0 c1.length]]⟩⟩),(0,⟨2,some ⟨123,3,false,c1.map Zap⟩⟩)] (.tup []) rfl rfl rfl Zadw (Zlm a0 a1 u1) λ_=>dr (aRg λ_=>?_);obtain⟨z2,c3,u2,h⟩:=Zdv h;refine cliv [(5,0)] [] [] [(0,⟨2,some ⟨123,3,false,c3.map Zap⟩⟩)] (.c (.int .i64 z2)) rfl rfl rfl (bT0 rfl) rfl rfl Zx2 (Zbz 125 _ rfl) (λ_=>rfl) (bT0 rfl) rfl (Zeu c1 u2) ?_;obtain⟨q3,h⟩:=Zaf h;intro _;obtain⟨c4,u4,h⟩:=Zae h;refine clg [(25,14),(26,0)] [] [] [(14,⟨0,some ⟨125,1,true,[[.own 0 2 0 c4.length]]⟩⟩),(0,⟨2,some ⟨123,3,false,c4.map Zap⟩⟩)] (.tup []) rfl rfl (Zt6 g c3 (IntKind.i64.wrap (z2-1)) u4) λ_=>dr λ_=>?_;obtain rfl:=inj1 h;all_goals (refine Exists.intro [(0,0)] (And.intro rfl (And.intro ?_ ?_)));all_goals (exact gz3)
def Zc7 (a1:Int)(a2:Int):Nat->Int->(List Zbd)->Option (Bool×(List Zbd))|0,_,_=>none|k27+1,v25,v26=>ob1 (sel (decide ((IntKind.i64.wrap ((IntKind.i64.wrap (2*v25))+1))>=a2)) (some (.inr ())) (sel (decide ((IntKind.i64.wrap ((IntKind.i64.wrap (2*v25))+1))<0)) (some (.inr ())) (some (.inl ()))):Option (Unit⊕Unit)) (Zj9 (λ_=>ob1 (sel (decide ((IntKind.i64.wrap ((IntKind.i64.wrap ((IntKind.i64.wrap (2*v25))+1))+1))<a2)) (ob2 (Zb8 v26 (IntKind.i64.wrap ((IntKind.i64.wrap ((IntKind.i64.wrap (2*v25))+1))+1)) (IntKind.i64.wrap ((IntKind.i64.wrap (2*v25))+1))) (λz34 c35=>grd (c35.length=v26.length) (sel z34 (some ((IntKind.i64.wrap ((IntKind.i64.wrap ((IntKind.i64.wrap (2*v25))+1))+1)),c35)) (some ((IntKind.i64.wrap ((IntKind.i64.wrap (2*v25))+1)),c35))))) (some ((IntKind.i64.wrap ((IntKind.i64.wrap (2*v25))+1)),v26)):Option (Int×(List Zbd))) (λ(v31,v32)=>ob2 (Zb8 v32 v31 v25) (λz36 c37=>grd (c37.length=v32.length) (sel (!z36) (some ((decide (v25>a1)),c37)) (ob1 (Zb9 c37 v25 v31) (λc38=>grd (c38.length=v32.length) (Zc7 a1 a2 k27 v31 c38))))))) (λ_=>some ((decide (v25>a1)),v26)))
def Zi7 (g:Nat)(a0:List Zbd)(a1:Int)(a2:Int):Option (Bool×(List Zbd)):=Zc7 a1 a2 g a1 a0
theorem zz3 {P:Prop}(w:P:=by refine⟨(),(sI_ h).symm,?_⟩;exact Zas):P:=w
theorem zz10 {P:Prop}(w:P:=by refine aSk ?_;exact zz3):P:=w
theorem Zrs (g:Nat)(a0:List Zbd)(a1:Int)(a2:Int){r1:Bool}{r2:List Zbd}(h:Zi7 g a0 a1 a2=some (r1,r2)):Zc8 cx 76 [.ifc 120 (.ptr 51 0 0 0),.c (.int .i64 a1),.c (.int .i64 a2)] [(51,⟨125,1,true,[[.own 52 0 0 a0.length]]⟩),(52,⟨123,3,false,a0.map Zap⟩)] [51,52] (.c (.bool r1)) [(51,⟨125,1,true,[[.own 52 0 0 r2.length]]⟩),(52,⟨123,3,false,r2.map Zap⟩)]:=by
 refine Zc4 53 Tryz.func76 rfl (by decide) rfl (bT0 rfl) rfl rfl ?_;intro _;unfold Zi7 at h;refine aSR λ_=>dr (aSR λ_=>dr (aSq (aBk ?_)));refine Zaj (α:=Nat×Int×(List Zbd)) (λx=>mkG 48 53 [(0,.ifc 120 (.ptr 51 0 0 0)),(1,.c (.int .i64 a1)),(2,.c (.int .i64 a2)),(7,.c (.int .i64 x.2.1))] [(51,⟨125,1,true,[[.own 52 0 0 x.2.2.length]]⟩),(52,⟨123,3,false,x.2.2.map Zap⟩)]) (λx=>Zc7 a1 a2 x.1 x.2.1 x.2.2=some (r1,r2)) (λx=>x.1) (g,a1,a0) h ?_ ?_
 ·exact Zas
 ·intro x1 h;intro _;obtain⟨k27,m2,h⟩:=Zak (f:=λn=>Zc7 a1 a2 n x1.2.1 x1.2.2) rfl h;replace h:Zc7 a1 a2 (k27+1) x1.2.1 x1.2.2=some (r1,r2):=h;rw[Zc7]at h;refine aBk (aSR λ_=>dr ?_);obtain⟨o3,h,hK4⟩:=Zae h;refine Zat (α:=Unit) (λ_=>mkG 48 53 [(0,.ifc 120 (.ptr 51 0 0 0)),(1,.c (.int .i64 a1)),(2,.c (.int .i64 a2)),(7,.c (.int .i64 x1.2.1)),(8,.c (.int .i64 (IntKind.i64.wrap ((IntKind.i64.wrap (2*x1.2.1))+1)))),(19,.c (.int .i64 (IntKind.i64.wrap ((IntKind.i64.wrap (2*x1.2.1))+1)))),(20,.c (.bool (decide ((IntKind.i64.wrap ((IntKind.i64.wrap (2*x1.2.1))+1))<0))))] [(51,⟨125,1,true,[[.own 52 0 0 x1.2.2.length]]⟩),(52,⟨123,3,false,x1.2.2.map Zap⟩)]) (λv=>o3=(.inl v)) ?_ ?_
  ·refine aSR λ_=>?_;refine spf h (λc5 h=>?_) (λc5 h=>?_)
   ·intro _;refine dr (aCd λ_=>?_);refine spl h (λc6 h=>?_) (λc6 h=>?_)
    ·refine aEx ?_;have j7:=sI_ h;subst j7;replace h:=(Za4 hK4);refine aSR λ_=>dr (aRt λ_=>?_);obtain⟨rfl,rfl⟩:=Zw6 h;all_goals (refine Exists.intro [] (And.intro rfl (And.intro ?_ ?_)));all_goals (exact gz3)
    ·exact zz10
   ·intro _;refine dr (aCd λ_=>Zll (aEx ?_));have j8:=sI_ h;subst j8;replace h:=(Za4 hK4);refine aSR λ_=>dr (aRt λ_=>?_);obtain⟨rfl,rfl⟩:=Zw6 h;all_goals (refine Exists.intro [] (And.intro rfl (And.intro ?_ ?_)));all_goals (exact gz3)
  ·rintro _ ho;have ho:=ho.symm;subst ho;intro _;replace h:=(Zcx hK4);refine aSR λ_=>dr ?_;obtain⟨o9,h,hK10⟩:=Zae h;refine Zat (α:=Int×(List Zbd)) (λ(v31,v32)=>mkG 48 53 [(0,.ifc 120 (.ptr 51 0 0 0)),(1,.c (.int .i64 a1)),(2,.c (.int .i64 a2)),(7,.c (.int .i64 x1.2.1)),(9,.c (.int .i64 v31)),(19,.c (.int .i64 (IntKind.i64.wrap ((IntKind.i64.wrap (2*x1.2.1))+1)))),(20,.c (.bool (decide ((IntKind.i64.wrap ((IntKind.i64.wrap (2*x1.2.1))+1))<0))))] [(51,⟨125,1,true,[[.own 52 0 0 v32.length]]⟩),(52,⟨123,3,false,v32.map Zap⟩)]) (λv=>o9=v) ?_ ?_
   ·refine aSR λ_=>dr (aSR λ_=>?_);refine spl h (λc11 h=>?_) (λc11 h=>?_)
    ·intro _;obtain⟨z34,c35,u12,h⟩:=Zdv h;refine cliv [(44,52)] [] [] [(52,⟨0,some ⟨123,3,false,c35.map Zap⟩⟩)] (.c (.bool z34)) rfl rfl rfl (bT0 rfl) rfl rfl Zq2 (Zbz 125 _ rfl) (λ_=>rfl) (bT0 rfl) rfl (Zel x1.2.2 (IntKind.i64.wrap ((IntKind.i64.wrap ((IntKind.i64.wrap (2*x1.2.1))+1))+1)) (IntKind.i64.wrap ((IntKind.i64.wrap (2*x1.2.1))+1)) u12) ?_;obtain⟨q13,h⟩:=Zaf h;intro _;refine dr (aCd λ_=>?_);refine spl h (λc14 h=>?_) (λc14 h=>?_)
     ·refine aRg λ_=>dr ⟨((IntKind.i64.wrap ((IntKind.i64.wrap ((IntKind.i64.wrap (2*x1.2.1))+1))+1)),c35),(sI_ h).symm,?_⟩;exact Zas
     ·refine aSk ⟨((IntKind.i64.wrap ((IntKind.i64.wrap (2*x1.2.1))+1)),c35),(sI_ h).symm,?_⟩;exact Zas
    ·intro _;refine dr (aCd λ_=>Znf (aSk ⟨((IntKind.i64.wrap ((IntKind.i64.wrap (2*x1.2.1))+1)),x1.2.2),(sI_ h).symm,?_⟩));exact Zas
   ·rintro⟨v31,v32⟩ ho;have ho:=ho.symm;subst ho;intro _;replace h:=hK10;refine aSq (aSR λ_=>?_);obtain⟨z36,c37,u15,h⟩:=Zdv h;refine cliv [(44,52)] [] [] [(52,⟨0,some ⟨123,3,false,c37.map Zap⟩⟩)] (.c (.bool z36)) rfl rfl rfl (bT0 rfl) rfl rfl Zq2 (Zbz 125 _ rfl) (λ_=>rfl) (bT0 rfl) rfl (Zel v32 v31 x1.2.1 u15) ?_;obtain⟨q16,h⟩:=Zaf h;intro _;refine dr (aCd λ_=>?_);refine spl h (λc17 h=>?_) (λc17 h=>?_)
    ·refine aEx (aSR λ_=>dr (aRt λ_=>?_));obtain⟨rfl,rfl⟩:=Zw6 h;all_goals (refine Exists.intro [] (And.intro rfl (And.intro ?_ ?_)));all_goals (exact gz3)
    ·refine aSk (aSR λ_=>?_);obtain⟨c38,u18,h⟩:=Zae h;refine cliv [(20,52)] [] [] [(52,⟨0,some ⟨123,3,false,c38.map Zap⟩⟩)] (.tup []) rfl rfl rfl (bT0 rfl) rfl rfl Zq3 (Zbz 125 _ rfl) (λ_=>rfl) (bT0 rfl) rfl (Zem c37 x1.2.1 v31 u18) ?_;obtain⟨q19,h⟩:=Zaf h;intro _;refine dr (aRg λ_=>dr ⟨(k27,v31,c38),h,ltS m2,?_⟩);exact Zas
def Zex (a0:List Zbd):Option (Zbd×(List Zbd)):=ixn a0 (((IntKind.i64.wrap (((a0.length:Nat):Int)-1))).toNat) (λy1=>grd (0<=(IntKind.i64.wrap (((a0.length:Nat):Int)-1))) (grd ((IntKind.i64.wrap (((a0.length:Nat):Int)-1))<((a0.length:Nat):Int)) (grd ((IntKind.i64.wrap (((a0.length:Nat):Int)-1)).toNat<=a0.length) (some (y1,(a0.take ((IntKind.i64.wrap (((a0.length:Nat):Int)-1)).toNat)))))))
theorem Zlx (a0:List Zbd){r1:Zbd}{r2:List Zbd}(h:Zex a0=some (r1,r2)):Zc8 cx 208 [.ptr 26 0 0 0] [(26,⟨125,1,true,[[.own 0 0 0 a0.length]]⟩),(0,⟨123,3,false,a0.map Zap⟩)] [26] (.ifc 123 (.agg [.sl 2 (r1.facts.map cF),.c (.int .i64 r1.dist),.c (.int .i64 r1.order)])) [(26,⟨125,1,true,[[.own 0 0 0 r2.length]]⟩),(0,⟨123,3,false,r2.map Zap⟩)]:=by
 refine Zc4 28 Tryz.func208 rfl (by decide) rfl (bT0 rfl) rfl rfl ?_;intro _;unfold Zex at h;refine aSR λ_=>dr (aSR λ_=>dr (aSR λ_=>?_));obtain⟨y1,w1,h⟩:=Zcm h;refine Exists.intro (Zap y1) (And.intro (by first|exact Zad w1|(have w:=Zad (f:=Zap) w1;simpa [Zap,Value.cells] using w)) ?_);intro _;obtain⟨q2,h⟩:=Zaf h;obtain⟨q3,h⟩:=Zaf h;refine pr (pr (dr (aSR λ_=>?_)));obtain⟨q4,h⟩:=Zaf h;refine pr (pr (pr (dr (aSR λ_=>dr (aRt λ_=>?_)))));obtain⟨rfl,rfl⟩:=Zw6 h;all_goals (refine Exists.intro [(0,0)] (And.intro rfl (And.intro ?_ ?_)));all_goals (exact gz3)
def Zj2 (g:Nat)(a0:List Zbd):Option (Zbd×(List Zbd)):=ob2 (Zcj a0) (λz1 c2=>grd (c2.length=a0.length) (ob1 (Zb9 c2 0 (IntKind.i64.wrap (z1-1))) (λc3=>grd (c3.length=a0.length) (ob2 (Zi7 g c3 0 (IntKind.i64.wrap (z1-1))) (λ_ c5=>ob2 (Zex c5) (λz6 c7=>some (z6,c7)))))))
theorem Ztm (g:Nat)(a0:List Zbd){r1:Zbd}{r2:List Zbd}(h:Zj2 g a0=some (r1,r2)):Zc8 cx 48 [.ifc 120 (.ptr 16 0 0 0)] [(16,⟨125,1,true,[[.own 0 0 0 a0.length]]⟩),(0,⟨123,3,false,a0.map Zap⟩)] [16] (.ifc 123 (.agg [.sl 2 (r1.facts.map cF),.c (.int .i64 r1.dist),.c (.int .i64 r1.order)])) [(16,⟨125,1,true,[[.own 0 0 0 r2.length]]⟩),(0,⟨123,3,false,r2.map Zap⟩)]:=by
 refine Zc4 18 Tryz.func48 rfl (by decide) rfl (bT0 rfl) rfl rfl ?_;intro _;unfold Zj2 at h;refine aSR λ_=>dr (aSR λ_=>?_);obtain⟨z1,c2,u1,h⟩:=Zdv h;refine cliv [(5,0)] [] [] [(0,⟨0,some ⟨123,3,false,c2.map Zap⟩⟩)] (.c (.int .i64 z1)) rfl rfl rfl (bT0 rfl) rfl rfl Zx2 (Zbz 125 _ rfl) (λ_=>rfl) (bT0 rfl) rfl (Zeu a0 u1) ?_;obtain⟨q2,h⟩:=Zaf h;intro _;refine dr (aSR λ_=>?_);obtain⟨c3,u3,h⟩:=Zae h;refine cliv [(20,0)] [] [] [(0,⟨0,some ⟨123,3,false,c3.map Zap⟩⟩)] (.tup []) rfl rfl rfl (bT0 rfl) rfl rfl Zq3 (Zbz 125 _ rfl) (λ_=>rfl) (bT0 rfl) rfl (Zem c2 0 (IntKind.i64.wrap (z1-1)) u3) ?_;obtain⟨q4,h⟩:=Zaf h;intro _;refine dr (aSR λ_=>?_);obtain⟨z4,c5,u5,h⟩:=Zdv h;refine clg [(51,16),(52,0)] [] [] [(16,⟨0,some ⟨125,1,true,[[.own 0 0 0 c5.length]]⟩⟩),(0,⟨0,some ⟨123,3,false,c5.map Zap⟩⟩)] (.c (.bool z4)) rfl rfl (Zrs g c3 0 (IntKind.i64.wrap (z1-1)) u5) λ_=>dr (aSR λ_=>?_);obtain⟨z6,c7,u6,h⟩:=Zdv h;refine clip [(26,16),(0,0)] [] [(0,⟨1,none⟩)] [(16,⟨0,some ⟨125,1,true,[[.own 0 2 0 c7.length]]⟩⟩),(0,⟨2,some ⟨123,3,false,c7.map Zap⟩⟩)] (.ifc 123 (.agg [.sl 2 (z6.facts.map cF),.c (.int .i64 z6.dist),.c (.int .i64 z6.order)])) rfl rfl rfl Zaf7 (Zlx c5 u6) λ_=>dr (aRt λ_=>?_);obtain⟨rfl,rfl⟩:=Zw6 h;all_goals (refine Exists.intro [(0,0)] (And.intro rfl (And.intro ?_ ?_)));all_goals (exact gz3)
end Go.Proofs.YtpfnmpdcneejbaaGreatDoor.Am
