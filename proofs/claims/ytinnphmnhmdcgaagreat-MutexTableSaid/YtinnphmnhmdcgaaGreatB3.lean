/- Texts of the proof, part 3 of 6. -/
import Derived.Test.YtinnphmnhmdcgaaGreatB2
import Derived.Shelf.SlSortCmp.Whole1
import Derived.Test.YtinnphmnhmdcgaaGreatB1
import Derived.Laws.StructEq
import Derived.Lib.SliceRun
import Derived.Deep.RegionHeld3
import Derived.Lib.SplitLaws
import Derived.Lib.IndexMore
set_option linter.unusedVariables false
set_option linter.unusedSectionVars false
set_option linter.unusedSimpArgs false
open List renaming length_map→lM_, length_append→lA_, length_cons→lC_, getElem?_eq_some_iff→gS_, length_nil→lN_, take_of_length_le→tL_
open Option.some renaming inj→sI_
namespace Go.Proofs.YtinnphmnhmdcgaaGreat
open Go.RowKit Go.Sort Go.Shelf Go.Lib
def cmpLF : List Fact→List Fact→Int
 | [],[]=>0
 | [],_ :: _=>-1
 | _ :: _,[]=>1
 | x :: r,y :: s=>if cmpF x y≠0 then cmpF x y else cmpLF r s
theorem Grw.trans {a b c:World}(h:Grw a b)(k:Grw b c):Grw a c:=by
 obtain⟨q,os,rfl⟩:=h
 obtain⟨q2,os2,rfl⟩:=k
 refine⟨q+q2,os++os2,?_⟩
 show grow (grow ((a.drewN q).drewN q2) os) os2=_
 rw[grow_grow,World.drewN_drewN]
set_option maxHeartbeats 1000000 in
theorem cmpClosureR (x y:Fact)(w:World):Calls Tryz.prog 109 #[.agg #[.int .i64 x.1,.int .i64 x.2],.agg #[.int .i64 y.1,.int .i64 y.2]] w fun e w'=>e=.returned (.int .i64 (cmpF x y))∧Grw w w':=by
 obtain⟨x1,x2⟩:=x
 obtain⟨y1,y2⟩:=y
 have h1:=fun(W:World)=>Tryz.cmp_Compare_int x1 y1 W
 have h2:=fun(W:World)=>Tryz.cmp_Compare_int x2 y2 W
 have hfin:cmpF (x1,x2) (y1,y2)=if Lib.compareInt x1 y1≠0 then Lib.compareInt x1 y1 else Lib.compareInt x2 y2:=rfl
 generalize Lib.compareInt x1 y1=c1 at h1 hfin
 generalize Lib.compareInt x2 y2=c2 at h2 hfin
 generalize cmpF (x1,x2) (y1,y2)=r at hfin ⊢
 have H1:=Lib.hid h1
 have H2:=Lib.hid h2
 have HFIN:=Lib.hid hfin
 clear h1 h2 hfin
 simp only
 go_enter Tryz.func109,Tryz.ntmps109
 go_upto_region 1 with fail
 have c0:((w.alloc (.cells #[.int .i64 x1,.int .i64 x2] 39)).alloc (.cells #[.int .i64 y1,.int .i64 y2] 39)).cell? ⟨w.heap.size,0,none⟩=some (.int .i64 x1):=by simp
 have c1':((w.alloc (.cells #[.int .i64 x1,.int .i64 x2] 39)).alloc (.cells #[.int .i64 y1,.int .i64 y2] 39)).cell? ⟨w.heap.size,1,none⟩=some (.int .i64 x2):=by simp
 have c2':((w.alloc (.cells #[.int .i64 x1,.int .i64 x2] 39)).alloc (.cells #[.int .i64 y1,.int .i64 y2] 39)).cell? ⟨w.heap.size+1,0,none⟩=some (.int .i64 y1):=by simp
 have c3':((w.alloc (.cells #[.int .i64 x1,.int .i64 x2] 39)).alloc (.cells #[.int .i64 y1,.int .i64 y2] 39)).cell? ⟨w.heap.size+1,1,none⟩=some (.int .i64 y2):=by simp
 have hG:Grw w ((w.alloc (.cells #[.int .i64 x1,.int .i64 x2] 39)).alloc (.cells #[.int .i64 y1,.int .i64 y2] 39)):=((Grw.refl w).alloc _).alloc _
 have HG:=Lib.hid hG
 clear hG
 generalize (w.alloc (.cells #[.int .i64 x1,.int .i64 x2] 39)).alloc (.cells #[.int .i64 y1,.int .i64 y2] 39)=W0 at c0 c1' c2' c3' HG ⊢
 generalize w.heap.size=B0 at c0 c1' c2' c3' ⊢
 go_region_held3 (fun w'=>w'.cell? ⟨B0,0,none⟩=some (.int .i64 x1)∧w'.cell? ⟨B0,1,none⟩=some (.int .i64 x2)∧w'.cell? ⟨B0+1,0,none⟩=some (.int .i64 y1)∧w'.cell? ⟨B0+1,1,none⟩=some (.int .i64 y2))
  (first|exact⟨c0,c1',c2',c3'⟩|exact⟨kept (belowA (Below.refl _ _) _) c0,kept (belowA (Below.refl _ _) _) c1',kept (belowA (Below.refl _ _) _) c2',kept (belowA (Below.refl _ _) _) c3'⟩)
  (first
   | (go_at_call_of 111 (Value.int .i64 x1);refine(H1.out _).mono ?_;rintro e wa ⟨rfl,rfl⟩)
   | (go_at_call_of 111 (Value.int .i64 x2);refine(H2.out _).mono ?_;rintro e wb ⟨rfl,rfl⟩)
   | (go_at_call 110;refine(or_calls _ _ c1 c2 r HFIN.out _ (by simp) (by simp)).mono ?_;rintro e wc ⟨rfl,rfl⟩))
 go_wp2
 go_ret
 exact⟨rfl,(HG.out.alloc _).drew⟩
theorem Grw.keepF {w w':World}(h:Grw w w'){v:Value}{l:List Fact}(hv:FactsAt w v l):FactsAt w' v l:=hv.keep h.below
set_option maxHeartbeats 2000000 in
theorem compareFuncR (u v:Value)(a b:List Fact)(w:World)(hu:FactsAt w u a)(hv:FactsAt w v b) :
  Calls Tryz.prog 108 #[u,v,.func (.func 109) #[] #[]] w fun e w'=>e=.returned (.int .i64 (cmpLF a b))∧Grw w w':=by
 obtain⟨A,n,c,rfl,hn,hm⟩:=hu.form
 obtain⟨A',n',c',rfl,hn',hm'⟩:=hv.form
 obtain⟨D,hD⟩:∃ D,cmpLF a b=D:=⟨_,rfl⟩
 rw[hD]
 have HU:=Lib.hid hu
 have HV:=Lib.hid hv
 have HN:=Lib.hid hn
 have HN':=Lib.hid hn'
 have HD:=Lib.hid hD
 clear hu hv hn hn' hD
 go_enter Tryz.func108,Tryz.ntmps108
 go_wp2
 go_loopg [13] n (fun g i wr=>∃ k:Nat,k≤n∧k≤n'∧g=n-k∧i=.int .i64 k∧Grw w wr∧D=cmpLF (a.drop k) (b.drop k))
 case atStart=>exact⟨0,Nat.zero_le _,Nat.zero_le _,by omega,rfl,Grw.refl _,HD.out.symm⟩
 case round =>
  obtain⟨k,hk,hk',hg,rfl,hB,hF⟩:=hrel
  have HG:=Lib.hid hg
  have HF:=Lib.hid hF
  clear hg hF
  by_cases hlt:k<n
  ·obtain⟨bb,off,x1,x2,rfl,c0,c1,hx,hd⟩:=(hB.keepF HU.out).at hlt
   have hbr:bb<wr.heap.size:=lt_of_cell c0
   by_cases hlt':k<n'
   ·obtain⟨bb',off',y1,y2,rfl,d0,d1,hy,hd'⟩:=(hB.keepF HV.out).at hlt'
    have hbr':bb'<wr.heap.size:=lt_of_cell d0
    have hst:D=if cmpF (x1,x2) (y1,y2)≠0 then cmpF (x1,x2) (y1,y2)else cmpLF (a.drop (k+1)) (b.drop (k+1)):=by rw[HF.out,hd,hd',cmpLF]
    have h1:=fun(W:World)=>cmpClosureR (x1,x2) (y1,y2) W
    generalize cmpF (x1,x2) (y1,y2)=cc at hst h1
    by_cases hcc:cc=0
    ·have hb:(cc != 0)=false:=by simp[hcc]
     have hnext:D=cmpLF (a.drop (k+1)) (b.drop (k+1)):=by rw[hst,if_neg (by simp[hcc])]
     have HX:=Lib.hid hx
     have HD2:=Lib.hid hd
     have HY:=Lib.hid hy
     have HD3:=Lib.hid hd'
     have HST:=Lib.hid hst
     have H1:=Lib.hid h1
     have HCC:=Lib.hid hcc
     have HNEXT:=Lib.hid hnext
     clear hx hd hy hd' hst h1 hcc hnext
     go_wp2_with (go_at_call 109;refine(H1.out _).mono ?_;rintro e w1 ⟨rfl,hb1⟩)
     go_roundg (n-(k+1))
     case measure=>have:=HG.out;omega
     case rel=>exact⟨k+1,by omega,by omega,rfl,by go_num,Grw.trans ((hB.alloc _).alloc _) hb1,HNEXT.out⟩
    ·have hb:(cc != 0)=true:=by simp[hcc]
     have hfin:D=cc:=by rw[hst,if_pos hcc]
     have HX:=Lib.hid hx
     have HD2:=Lib.hid hd
     have HY:=Lib.hid hy
     have HD3:=Lib.hid hd'
     have HST:=Lib.hid hst
     have H1:=Lib.hid h1
     have HFIN:=Lib.hid hfin
     clear hx hd hy hd' hst h1 hfin
     go_wp2_with (go_at_call 109;refine(H1.out _).mono ?_;rintro e w1 ⟨rfl,hb1⟩)
     go_ret
     exact⟨by rw[HFIN.out];rfl,Grw.trans ((hB.alloc _).alloc _) hb1⟩
   ·have hfin:D=1:=by rw[HF.out,hd,show b.drop k=[]from List.drop_eq_nil_of_le (by have:=HN'.out;omega),cmpLF]
    have HX:=Lib.hid hx
    have HD2:=Lib.hid hd
    have HFIN:=Lib.hid hfin
    clear hx hd hfin
    go_wp2_with fail
    go_ret
    exact⟨by rw[HFIN.out];rfl,hB.alloc _⟩
  ·have hdn:a.drop k=[]:=List.drop_eq_nil_of_le (by have:=HN.out;omega)
   by_cases hlt':n<n'
   ·have hfin:D=-1:=by
     obtain⟨y,_,hd'⟩:=some_at (l:=b) (k:=k) HN'.out (by omega)
     rw[HF.out,hdn,hd',cmpLF]
    have HDN:=Lib.hid hdn
    have HFIN:=Lib.hid hfin
    clear hdn hfin
    go_wp2_with fail
    go_ret
    exact⟨by rw[HFIN.out];rfl,hB⟩
   ·have hfin:D=0:=by rw[HF.out,hdn,show b.drop k=[]from List.drop_eq_nil_of_le (by have:=HN'.out;omega),cmpLF]
    have HDN:=Lib.hid hdn
    have HFIN:=Lib.hid hfin
    clear hdn hfin
    go_wp2_with fail
    go_ret
    exact⟨by rw[HFIN.out];rfl,hB⟩
set_option maxHeartbeats 1000000 in
theorem compareR (u v:Value)(a b:List Fact)(w:World)(hu:FactsAt w u a)(hv:FactsAt w v b) :
  Calls Tryz.prog 94 #[u,v] w fun e w'=>e=.returned (.int .i64 (cmpLF a b))∧Grw w w':=by
 have h2:=fun W (hW:Grw w W)=>compareFuncR u v a b W (hW.keepF hu) (hW.keepF hv)
 obtain⟨A,n,c,rfl,hn,hm⟩:=hu.form
 obtain⟨A',n',c',rfl,hn',hm'⟩:=hv.form
 generalize cmpLF a b=r at h2 ⊢
 have H2:=Lib.hid h2
 have HU:=Lib.hid hu
 have HV:=Lib.hid hv
 have HN:=Lib.hid hn
 have HN':=Lib.hid hn'
 clear h2 hu hv hn hn'
 go_enter Tryz.func94,Tryz.ntmps94
 go_wp2_with fail
 refine(H2.out _ (Grw.refl _)).mono ?_
 rintro e w1 ⟨rfl,hb1⟩
 go_wp2_with fail
 go_ret
 exact⟨rfl,hb1⟩
theorem cmpF_zero {x y:Fact}:cmpF x y=0↔x=y:=by
 rw[Prod.ext_iff]
 unfold cmpF
 rcases compareInt_cases x.1 y.1 with⟨h,e⟩|⟨h,e⟩|⟨h,e⟩ <;> rcases compareInt_cases x.2 y.2 with⟨h',e'⟩|⟨h',e'⟩|⟨h',e'⟩ <;> rw[e,e'] <;> simp <;> omega
theorem cmpF_anti (x y:Fact):cmpF y x=- cmpF x y:=by
 unfold cmpF
 rcases compareInt_cases x.1 y.1 with⟨h,e⟩|⟨h,e⟩|⟨h,e⟩ <;> rcases compareInt_cases x.2 y.2 with⟨h',e'⟩|⟨h',e'⟩|⟨h',e'⟩ <;> rcases compareInt_cases y.1 x.1 with⟨k,f⟩|⟨k,f⟩|⟨k,f⟩ <;> rcases compareInt_cases y.2 x.2 with⟨k',f'⟩|⟨k',f'⟩|⟨k',f'⟩ <;> rw[e,e',f,f'] <;> first|omega|simp
theorem cmpF_trans {x y z:Fact}(h1:cmpF x y<0)(h2:cmpF y z<0):cmpF x z<0:=by
 have a1:=ltOf_cmpF x y
 have a2:=ltOf_cmpF y z
 have a3:=ltOf_cmpF x z
 unfold ltOf at a1 a2 a3
 simp only[decide_eq_true h1,decide_eq_true h2]at a1 a2
 have:ltF x z=true:=by simp[ltF]at a1 a2 ⊢;omega
 rw[this]at a3
 exact of_decide_eq_true a3
theorem cmpLF_zero : ∀ {a b:List Fact},cmpLF a b=0↔a=b
 | [],[]=>by simp[cmpLF]
 | [],_ :: _=>by simp[cmpLF]
 | _ :: _,[]=>by simp[cmpLF]
 | x :: r,y :: s=>by
  rw[cmpLF]
  by_cases h:cmpF x y=0
  ·rw[if_neg (by simp[h]),cmpLF_zero (a:=r) (b:=s),cmpF_zero.1 h];simp
  ·rw[if_pos h]
   refine⟨fun e=>absurd e h,fun e=>?_⟩
   injection e with e _
   exact cmpF_zero.2 e
theorem cmpLF_anti : ∀ (a b:List Fact),cmpLF b a=- cmpLF a b
 | [],[]=>by simp[cmpLF]
 | [],_ :: _=>by simp[cmpLF]
 | _ :: _,[]=>by simp[cmpLF]
 | x :: r,y :: s=>by
  have h1:=cmpF_anti x y
  by_cases h:cmpF x y=0
  ·have h':cmpF y x=0:=by omega
   rw[cmpLF,cmpLF,if_neg (fun q=>q h'),if_neg (fun q=>q h),cmpLF_anti r s]
  ·have h':cmpF y x≠0:=by omega
   rw[cmpLF,cmpLF,if_pos h',if_pos h,h1]
theorem cmpLF_trans : ∀ {a b c:List Fact},cmpLF a b<0→cmpLF b c<0→cmpLF a c<0
 | [],[],_,h,_=>by simp[cmpLF]at h
 | [],_ :: _,[],_,h=>by simp[cmpLF]at h
 | [],_ :: _,_ :: _,_,_=>by simp[cmpLF]
 | _ :: _,[],_,h,_=>by simp[cmpLF]at h
 | _ :: _,_ :: _,[],_,h=>by simp[cmpLF]at h
 | x :: r,y :: s,z :: t,h1,h2=>by
  rw[cmpLF]at h1 h2 ⊢
  by_cases e1:cmpF x y=0
  ·have:=cmpF_zero.1 e1
   subst this
   rw[if_neg (by simp[e1])]at h1
   by_cases e2:cmpF x z=0
   ·rw[if_neg (by simp[e2])]at h2 ⊢
    exact cmpLF_trans h1 h2
   ·rw[if_pos e2]at h2 ⊢
    exact h2
  ·rw[if_pos e1]at h1
   by_cases e2:cmpF y z=0
   ·have:=cmpF_zero.1 e2
    subst this
    rw[if_pos e1]
    exact h1
   ·rw[if_pos e2]at h2
    have h3:=cmpF_trans h1 h2
    rw[if_pos (by omega)]
    exact h3
theorem swoOf {α:Type}{c:α→α→Int}(ha:∀ x y,c y x=- c x y)(ht:∀ {x y z},c x y<0→c y z<0→c x z<0)(hz:∀ {x y z},c x y=0→c x z=c y z):SWO (ltOf c) where
 irrefl x:=by unfold ltOf;have:=ha x x;simp;omega
 trans x y z h1 h2:=by unfold ltOf at *;simp at *;exact ht h1 h2
 ntrans x y z h1 h2:=by
  unfold ltOf at *
  simp at *
  rcases Int.lt_or_eq_of_le h1 with h3|h3
  ·rcases Int.lt_or_eq_of_le h2 with h4|h4
   ·have h5:c y x<0:=by rw[ha x y];omega
    have h6:c z y<0:=by rw[ha y z];omega
    have h7:=ht h6 h5
    rw[ha x z]at h7
    omega
   ·have h5:c z y=0:=by rw[ha y z];omega
    have h6:=hz (z:=x) h5
    rw[ha x z,ha x y]at h6
    omega
  ·have:=hz (z:=z) h3.symm
   omega
theorem swoL : SWO (ltOf cmpLF):=swoOf cmpLF_anti cmpLF_trans (fun h=>by rw[cmpLF_zero.1 h])
def sortLL (l:List (List Fact)):List (List Fact):=l.mergeSort fun x y=>!(ltOf cmpLF) y x
theorem sortLL_length (l:List (List Fact)):(sortLL l).length=l.length:=List.length_mergeSort _
def ValidL (w:World)(blk:Nat)(p:Value×List Fact):Prop:=p.1.oneCell'=true∧∀ W:World,w.heap.size≤W.heap.size→(∀ b,b<w.heap.size→b≠blk→W.heap[b]?=w.heap[b]?)→FactsAt W p.1 p.2
abbrev LV (w:World)(blk:Nat):={ p:Value×List Fact // ValidL w blk p }
instance (w:World)(blk:Nat):Inhabited (LV w blk):=⟨⟨(.slice none 0 0,[]),rfl,fun _ _ _=>⟨none,0,rfl,by simp,fun k x hx=>by simp at hx⟩⟩⟩
theorem lv_list {w:World}{blk:Nat}:∀ (s:List (List Fact))(xs:List Value),s.length=xs.length→(∀ (k:Nat)(y:List Fact)(u:Value),s[k]?=some y→xs[k]?=some u→ValidL w blk (u,y))→∃ d:List (LV w blk),d.map (fun p=>p.1.1)=xs∧d.map (fun p=>p.1.2)=s
 | [],[],_,_=>⟨[],rfl,rfl⟩
 | y :: s,u :: xs,hl,h=>by
  obtain⟨d,h1,h2⟩:=lv_list s xs (by simpa using hl) (fun k y' u' q1 q2=>h (k+1) y' u' (by simpa using q1) (by simpa using q2))
  exact⟨⟨(u,y),h 0 y u rfl rfl⟩ :: d,by simp[h1],by simp[h2]⟩
 | [],_ :: _,hl,_=>by simp at hl
 | _ :: _,[],hl,_=>by simp at hl
theorem sortWorld_block {α:Type} [Inhabited α]{enc:α→Value}{w:World}{blk off m:Nat}{dk:Array α}{os:Array Obj}{b:Nat}(hb:b<w.heap.size)(hne:b≠blk):(sortWorld enc w blk off m dk os).heap[b]?=w.heap[b]?:=by
 show(grow (putRow enc (Sort.ahead w m) blk off dk) os).heap[b]?=_
 rw[heap_grow_old _ _ (by simpa [putRow,mapBlock,Sort.ahead] using hb)]
 have hne':¬ blk=b:=fun e=>hne e.symm
 simp[putRow,mapBlock,Sort.ahead,Array.getElem?_modify,hne']
theorem sortWorld_size {α:Type} [Inhabited α]{enc:α→Value}{w:World}{blk off m:Nat}{dk:Array α}{os:Array Obj}:w.heap.size≤(sortWorld enc w blk off m dk os).heap.size:=by
 show _≤(grow (putRow enc (Sort.ahead w m) blk off dk) os).heap.size
 simp[grow,putRow,mapBlock,Sort.ahead]
theorem cmpLaysL (w:World)(blk off size:Nat):CmpLays1 Tryz.prog 94 #[] (fun p:LV w blk=>p.1.1) (fun p q=>cmpLF p.1.2 q.1.2) blk off size w:=by
 intro m os dk _ x y
 have:=compareR x.1.1 y.1.1 x.1.2 y.1.2 (sortWorld (fun p:LV w blk=>p.1.1) w blk off m dk os) (x.2.2 _ sortWorld_size (fun b hb hne=>sortWorld_block hb hne)) (y.2.2 _ sortWorld_size (fun b hb hne=>sortWorld_block hb hne))
 exact this
set_option maxHeartbeats 1000000 in
theorem sortL_calls (v:Value)(s:List (List Fact))(xs:List Value)(w:World)(h:w.ownsRow 0 23 1 v s.length xs)(hl:s.length<4611686018427387904)
  (hval:∀ g,v.ownBlock=some g→∀ (k:Nat) (y:List Fact) (u:Value),s[k]?=some y→xs[k]?=some u→ValidL w g (u,y)) :
  Calls Tryz.prog 93 #[v,.func (.func 94) #[] #[]] w fun e w'=>e=.returned (.tuple #[])∧∃ ys,w'.ownsRow 0 23 1 v s.length ys∧w.grownBy w' v.ownBlock∧(∀ b,v.ownBlock=some b→w'.shape? b=w.shape? b) ∧
   ∀ (k:Nat) (y:List Fact),(sortLL s)[k]?=some y→∃ (u:Value) (q:Nat),ys[k]?=some u∧xs[q]?=some u∧s[q]?=some y:=by
 have hxl:xs.length=s.length:=by have:=h.1;omega
 rcases id h.2 with⟨rfl,h0⟩|⟨g,cap,cur,rfl,hbase,hb,hn,hm,hcs,htake⟩
 ·have hnil:s=[]:=List.length_eq_zero_iff.1 h0
  subst hnil
  refine(AnyF.slices_SortFunc_none { Tryz.sortList with } none 0 _ w).mono ?_
  rintro e w' ⟨rfl,rfl⟩
  exact⟨rfl,xs,h,World.grownBy.refl _ _,fun _ _=>rfl,fun k y hy=>by simp[sortLL]at hy⟩
 ·have eg:∀ args w,(callFunc 94 args).run Tryz.prog w=.ok (.enter 94 args) w:=enters_of Tryz.func94 (by kernel_rfl) rfl
  rw[Nat.mul_one]at htake hcs
  obtain⟨d,hd1,hd2⟩:=lv_list (w:=w) (blk:=g) s xs hxl.symm (hval g rfl)
  have hdl:d.length=s.length:=by rw[← hd2];simp
  have hblk:g<w.heap.size:=(Array.getElem?_eq_some_iff.1 hb).1
  have hH:Holds (fun p:LV w g=>p.1.1) w g 0 d.toArray:=by
   intro j hj
   have hj':j<d.length:=by simpa using hj
   have hjs:j<xs.length:=by omega
   have hxj:xs[j]?=some (d[j]).1.1:=by rw[← hd1];simp[hj']
   have hcj:cur[j]?=some (d[j]).1.1:=by
    have:(cur.toList.take s.length)[j]?=some (d[j]).1.1:=by rw[htake];exact hxj
    rw[List.getElem?_take]at this
    split at this
    ·simpa using this
    ·cases this
   refine⟨?_,by simp[World.frozen?,hb]⟩
   simp[World.cell?,hb,hcj,hj']
  have hcon:=Any.slices_SortFunc Tryz.sortList (fun p:LV w g=>p.1.1) (fun p=>p.2.1) (fun p q=>cmpLF p.1.2 q.1.2) (swoOf (fun x y=>cmpLF_anti _ _) (fun h1 h2=>cmpLF_trans h1 h2) (fun h=>by rw[cmpLF_zero.1 h])) 94 #[] g 0 cap d.toArray w eg (cmpLaysL w g 0 _) hH hblk (by simpa [hdl] using hl)
  have hsize:d.toArray.size=s.length:=by simp[hdl]
  rw[hsize]at hcon
  refine hcon.mono ?_
  rintro e w' ⟨rfl,d',n,os,hP,hS,rfl⟩
  have hd's:d'.size=s.length:=by rw[hP.1,hsize]
  have hsort:(d'.map (fun p=>p.1.2)).toList=sortLL s:=by
   have hP2:PermIn 0 (d.toArray.map (fun p:LV w g=>p.1.2)).size (d.toArray.map (fun p=>p.1.2)) (d'.map (fun p=>p.1.2)):=by
    refine⟨by simp[hd's,hdl],fun i hi=>?_,?_⟩
    ·have:s.length≤i:=by simpa [hdl] using hi
     simp[show ¬ i<d'.size by omega,show ¬ i<d.length by omega]
    ·have h3:=hP.2.2
     have e1:d'.extract 0 s.length=d':=by rw[← hd's];exact Array.extract_size
     have e2:d.toArray.extract 0 s.length=d.toArray:=by rw[← hsize];exact Array.extract_size
     rw[e1,e2]at h3
     have e3:(d'.map (fun p=>p.1.2)).extract 0 (d.toArray.map (fun p:LV w g=>p.1.2)).size=d'.map (fun p=>p.1.2):=by
      rw[show(d.toArray.map (fun p:LV w g=>p.1.2)).size=(d'.map (fun p=>p.1.2)).size by simp[hd's,hdl]]
      exact Array.extract_size
     rw[e3,Array.extract_size]
     simpa using h3.map (fun p=>p.1.2)
   have hS2:SortedIn (ltOf cmpLF) 0 (d.toArray.map (fun p:LV w g=>p.1.2)).size (d'.map (fun p=>p.1.2)):=by
    intro i j _ hij hj
    have hj':j<d'.size:=by simpa [hd's,hdl] using hj
    have:=hS i j (Nat.zero_le _) hij (by omega)
    simp only[ltOf]at this ⊢
    simpa [show i<d'.size by omega,hj'] using this
   have:=sorted_unique_holds swoL (fun x y h1 h2=>by
    unfold ltOf at h1 h2
    simp at h1 h2
    rw[cmpLF_anti x y]at h2
    exact cmpLF_zero.1 (by omega)) _ _ hP2 hS2
   rw[this]
   unfold sortLL
   congr 1
   simp[hd2]
  have hblock:(sortWorld (fun p:LV w g=>p.1.1) w g 0 n d' os).heap[g]?=some (.cells (putCells (fun p:LV w g=>p.1.1) 0 d' cur) 23 (0,0)):=by
   show(grow (putRow _ (Sort.ahead w n) g 0 d') os).heap[g]?=_
   rw[heap_grow_old _ _ (by simpa [putRow,mapBlock,Sort.ahead] using hblk)]
   simp[putRow,mapBlock,Sort.ahead,Array.getElem?_modify,hb,onCells]
  have hget:∀ j,j<d'.size→(putCells (fun p:LV w g=>p.1.1) 0 d' cur).toList[j]?=some (d'[j]!).1.1:=by
   intro j hj
   rw[Array.getElem?_toList]
   simp[putCells,show j<cur.size by omega,hj]
  refine⟨rfl,((putCells (fun p:LV w g=>p.1.1) 0 d' cur).toList.take s.length),⟨by simp[putCells];omega,.inr ⟨g,cap,_,rfl,hbase,hblock,hn,hm,by simp[putCells,hcs],by rw[Nat.mul_one]⟩⟩,?_,?_,?_⟩
  ·exact⟨rfl,rfl,rfl,sortWorld_size,fun k hk hne=>sortWorld_block hk (fun e=>hne (by rw[e];rfl))⟩
  ·intro b hbv
   have:b=g:=by simpa [Value.ownBlock] using hbv.symm
   subst this
   simp[World.shape?,hblock,hb,putCells]
  ·intro k y hy
   rw[← hsort]at hy
   have hk:k<d'.size:=by
    have:=(gS_.1 hy).1
    simpa using this
   have hyk:y=(d'[k]!).1.2:=by
    simp[hk]at hy ⊢
    exact hy.symm
   have hmem:d'[k]!∈d:=by
    have h3:=hP.2.2
    have e1:d'.extract 0 s.length=d':=by rw[← hd's];exact Array.extract_size
    have e2:d.toArray.extract 0 s.length=d.toArray:=by rw[← hsize];exact Array.extract_size
    rw[e1,e2]at h3
    have:d'[k]!∈d'.toList:=by
     rw[getElem!_pos d' k hk]
     simp
    simpa using h3.mem_iff.1 this
   obtain⟨q,hq⟩:=List.getElem?_of_mem hmem
   refine⟨(d'[k]!).1.1,q,?_,?_,?_⟩
   ·rw[List.getElem?_take_of_lt (by omega)]
    exact hget k hk
   ·rw[← hd1];simp[hq]
   ·rw[← hd2,hyk];simp[hq]
end Go.Proofs.YtinnphmnhmdcgaaGreat
namespace Go.Proofs.YtinnphmnhmdcgaaGreat
open Go.RowKit
set_option maxHeartbeats 1000000 in
theorem cloneF_calls (v:Value)(l:List Fact)(w:World)(hv:FactsAt w v l) :
  Calls Tryz.prog 72 #[v] w fun e w'=>∃ v',e=.returned v'∧OwnF w' w.heap.size v' l∧Below w.heap.size w w':=by
 obtain⟨A,n,c,rfl,hn,hm⟩:=hv.form
 obtain⟨i0,hi0,hz0,hz1,hz2⟩:=info_parts factInfo
 have hroom:n*16≤140737488355328:=by obtain⟨_,_,hv',hl,_⟩:=id hv;injection hv' with _ h2 _;omega
 rcases A with _|ad
 ·have hl0:l=[]:=by
   cases l with
   | nil=>rfl
   | cons x r=>obtain⟨b,off,_,_,hA,_⟩:=hv.at (k:=0) (by simp at hn;omega);cases hA
  subst hl0
  simp at hn
  subst hn
  have hk:=fun(W:World) (a:Option Addr) (n c:Nat)=>Lib.run_eql_slice_nil (P:=Tryz.prog) W 23 39 a n c 0 0 Tryz.underlying23
  clear hv
  go_enter Tryz.func72,Tryz.ntmps72
  go_wp2_with fail
  go_ret
  exact⟨_,rfl,⟨rfl,.inl ⟨rfl,rfl⟩⟩,Below.refl _ _⟩
 ·have hk:=fun(W:World) (a:Option Addr) (n c:Nat)=>Lib.run_eql_slice_nil (P:=Tryz.prog) W 23 39 a n c 0 0 Tryz.underlying23
  have hr:=(hv.keep (belowA (Below.refl _ _) (.cells #[] 39))).reads
  have hown:(w.alloc (.cells #[] 39)).ownsRow w.heap.size 39 2 (.slice (some ⟨w.heap.size,0,none⟩) 0 0) 0 []:=⟨rfl,.inr ⟨w.heap.size,0,#[],rfl,Nat.le_refl _,heap_alloc_new _ _,Nat.le_refl _,Nat.zero_le _,rfl,rfl⟩⟩
  have HV:=Lib.hid hv
  have HN:=Lib.hid hn
  have HR:=Lib.hid hr
  have HOWN:=Lib.hid hown
  clear hv hn hr hown
  go_enter Tryz.func72,Tryz.ntmps72
  go_wp2_with (at_builtin;refine wpList_append_any _ rfl (.tmp 5) (.tmp 6) _ rfl w.heap.size 39 i0 _ 2 16 Tryz.underlying23 hi0 hz0 hz1 hz2 rfl (by omega) (.slice (some ⟨w.heap.size,0,none⟩) 0 0) 0 [] rfl HOWN.out _ _ n c (factCells l) rfl HR.out (factCells_one l) (by simp only[maxLen];omega) (by omega) (by simp) ?_;intro v1 w1 hown1 hg1 hat1)
  go_ret
  refine⟨v1,rfl,?_,?_⟩
  ·rw[Nat.zero_add,List.nil_append,HN.out]at hown1
   exact hown1
  ·exact(belowA (Below.refl _ _) _).grown hg1 (by simp) (by intro k hk;simp[Value.ownBlock]at hk;omega)
end Go.Proofs.YtinnphmnhmdcgaaGreat
namespace Go.Proofs.YtinnphmnhmdcgaaGreat
def eqB (a b c d:Int):Bool:=decide (a=c∧b=d)
end Go.Proofs.YtinnphmnhmdcgaaGreat
namespace Go.Proofs.YtinnphmnhmdcgaaGreat
open Go.RowKit
def dd : Option Fact→List Fact→List Fact
 | _,[]=>[]
 | p,x :: r=>if p=some x then dd (some x) r else x :: dd (some x) r
def compactF (l:List Fact):List Fact:=dd none l
def lastO : Option Fact→List Fact→Option Fact
 | p,[]=>p
 | _,x :: r=>lastO (some x) r
theorem lastO_at (l:List Fact):∀ (p:Option Fact)(k:Nat)(x:Fact),l.length=k+1→l[k]?=some x→lastO p l=some x:=by
 induction l with
 | nil=>intro p k x h;simp at h
 | cons y r ih =>
  intro p k x h hx
  cases k with
  | zero =>
   have:r=[]:=List.length_eq_zero_iff.1 (by simpa using h)
   subst this
   simpa [lastO] using hx
  | succ k=>exact ih (some y) k x (by simpa using h) (by simpa using hx)
theorem dd_snoc (l:List Fact)(x:Fact):∀ p,dd p (l++[x])=if lastO p l=some x then dd p l else dd p l++[x]:=by
 induction l with
 | nil=>intro p;by_cases h:p=some x <;> simp[dd,lastO,h]
 | cons y r ih =>
  intro p
  simp only[List.cons_append,dd,ih,lastO]
  by_cases h1:p=some y <;> by_cases h2:lastO (some y) r=some x <;> simp[h1,h2]
theorem compact_step {l:List Fact}{k:Nat}{x y:Fact}(hx:l[k]?=some x)(hy:l[k-1]?=some y)(hk:1≤k) :
  compactF (l.take (k+1))=if y=x then compactF (l.take k)else compactF (l.take k)++[x]:=by
 have hlt:k<l.length:=(gS_.1 hx).1
 have e:l.take (k+1)=l.take k++[x]:=by
  rw[List.take_add_one,hx];rfl
 have hlast:lastO none (l.take k)=some y:=lastO_at _ none (k-1) y (by rw[List.length_take,Nat.min_eq_left (by omega)];omega) (by rw[List.getElem?_take_of_lt (by omega),hy])
 rw[e,compactF,dd_snoc,hlast]
 simp[compactF]
theorem compact_one {l:List Fact}:compactF (l.take 1)=l.take 1:=by
 cases l with
 | nil=>rfl
 | cons x r=>simp[compactF,dd]
theorem compact_short {l:List Fact}(h:l.length<2):compactF l=l:=by
 match l,h with
 | [],_=>rfl
 | [x],_=>simp[compactF,dd]
theorem factCells_set (m:List Fact):∀ (k:Nat)(x:Fact),((factCells m).set (k*2) (.int .i64 x.1)).set (k*2+1) (.int .i64 x.2)=factCells (m.set k x):=by
 induction m with
 | nil=>intro k x;simp[factCells]
 | cons y r ih =>
  intro k x
  cases k with
  | zero=>simp[factCells]
  | succ k =>
   rw[show(k+1)*2=k*2+1+1 from by omega]
   simp only[factCells,List.set_cons_succ,ih]
theorem run_clear_facts (w:World)(ty:TypeId)(b o n c:Nat)(hn:0<n)
  (hc:∀ j,j<n*2→(w.cell? ⟨b,o+j,none⟩).isSome=true) (hf:∀ j,j<n*2→w.frozen? ⟨b,o+j,none⟩=false) :
  ∃ zs:List Value,(Builtin.clear_ #[23] ty #[.slice (some ⟨b,o,none⟩) n c]).run Tryz.prog w=.ok (.tuple #[]) (w.setCells b o zs):=by
 have hv:∀ w,(zeroValue 39).run Tryz.prog w=.ok (.agg #[.int .i64 0,.int .i64 0]) w:=fun w=>by kernel_rfl
 refine⟨(Builtin.zeroCells #[.int .i64 0,.int .i64 0] n).toList,?_⟩
 have hst:=run_storeCells_cells (P:=Tryz.prog) b o (Builtin.zeroCells #[.int .i64 0,.int .i64 0] n).toList 0 w (by simpa [Builtin.zeroCells,Nat.mul_comm] using hc) (by simpa [Builtin.zeroCells,Nat.mul_comm] using hf) (by
  intro v hv'
  simp[Builtin.zeroCells]at hv'
  obtain⟨a,_,rfl⟩:=hv'
  rcases Nat.mod_two_eq_zero_or_one a with h|h <;> simp[h] <;> rfl)
 simp only[Nat.add_zero]at hst
 obtain⟨m,rfl⟩:∃ m,n=m+1:=⟨n-1,by omega⟩
 simp[Builtin.clear_,run_underlying Tryz.underlying23,hv,Value.cells,hst]
theorem OwnF.cells {w:World}{base:Nat}{g n cap:Nat}{m:List Fact}(h:OwnF w base (.slice (some ⟨g,0,none⟩) n cap) m)(hn:n=m.length){k:Nat}{x:Fact}(hx:m[k]?=some x) :
  w.cell? ⟨g,k*2,none⟩=some (.int .i64 x.1)∧w.cell? ⟨g,k*2+1,none⟩=some (.int .i64 x.2):=by
 subst hn
 have hk:k<m.length:=(gS_.1 hx).1
 rw[World.ownsRow.cellAt h (k*2) (by omega),World.ownsRow.cellAt h (k*2+1) (by omega)]
 exact factCells_at m k x hx
theorem only_drewN {a w:World}{row:Option Nat}(h:a.grownBy w row)(n:Nat):a.grownBy (w.drewN n) row:=⟨h.os,h.tape,h.output,h.size,h.block⟩
theorem only_setCell {a w:World}{g:Nat}(h:a.grownBy w (some g)){p:Addr}(hp:p.block=g∨a.heap.size≤p.block)(u:Value):a.grownBy (w.setCell p u) (some g) :=
 ⟨h.os,h.tape,h.output,by simpa [World.setCell] using h.size,fun i hi hne=>(Below.heap_setCell w p u i (by
  rintro rfl
  rcases hp with hp|hp
  ·exact hne (by rw[hp])
  ·omega)).trans (h.block i hi hne)⟩
theorem OwnF.store {w:World}{base:Nat}{g n cap:Nat}{m:List Fact}(h:OwnF w base (.slice (some ⟨g,0,none⟩) n cap) m)(hn:n=m.length)(k:Nat)(x:Fact) :
  OwnF ((w.setCell ⟨g,k*2,none⟩ (.int .i64 x.1)).setCell ⟨g,k*2+1,none⟩ (.int .i64 x.2)) base (.slice (some ⟨g,0,none⟩) n cap) (m.set k x):=by
 subst hn
 have h1:=(World.ownsRow.stored (World.ownsRow.stored h (k*2) (.int .i64 x.1)).1 (k*2+1) (.int .i64 x.2)).1
 rw[factCells_set]at h1
 unfold OwnF
 rw[List.length_set]
 exact h1
theorem setCells_own {base:Nat}{e:TypeId}{g n cap:Nat}(vs:List Value):∀ (w:World)(o:Nat)(xs:List Value),w.ownsRow base e 2 (.slice (some ⟨g,0,none⟩) n cap) n xs →
  ∃ xs',(w.setCells g o vs).ownsRow base e 2 (.slice (some ⟨g,0,none⟩) n cap) n xs'∧xs'.take o=xs.take o∧w.grownBy (w.setCells g o vs) (some g):=by
 induction vs with
 | nil=>intro w o xs h;exact⟨xs,h,rfl,World.grownBy.refl _ _⟩
 | cons v r ih =>
  intro w o xs h
  obtain⟨h1,h2⟩:=World.ownsRow.stored h o v
  obtain⟨xs',h3,h4,h5⟩:=ih (w.setCell ⟨g,o,none⟩ v) (o+1) _ h1
  refine⟨xs',h3,?_,World.grownBy.trans h2 h5⟩
  have:=congrArg (List.take o) h4
  rw[List.take_take,List.take_take,Nat.min_eq_left (by omega),List.take_set_of_le (by omega)]at this
  exact this
theorem own_cut {w:World}{base:Nat}{g n cap:Nat}{xs:List Value}(h:w.ownsRow base 39 2 (.slice (some ⟨g,0,none⟩) n cap) n xs){k:Nat}(hk:k≤n){l:List Fact}(hl:l.length=k)(hx:xs.take (k*2)=factCells l):OwnF w base (.slice (some ⟨g,0,none⟩) k cap) l:=by
 rcases h.2 with⟨hv,_⟩|⟨g',cap',cur,hv,hb,hh,h1,h2,h3,h4⟩
 ·cases hv
 ·injection hv with e1 _ e3
  injection e1 with e1
  injection e1 with e1 _
  subst e1 e3
  refine⟨by rw[factCells_length],.inr ⟨g,cap,cur,by rw[hl],hb,hh,by rw[hl];omega,h2,h3,?_⟩⟩
  rw[hl,← hx,← h4,List.take_take,Nat.min_eq_left (by omega)]
theorem at_drop {l m:List Fact}{a i:Nat}(h:m.drop a=l.drop a)(hi:a≤i):m[i]?=l[i]?:=by
 have:=congrArg (fun z=>z[i-a]?) h
 simpa [List.getElem?_drop,show a+(i-a)=i from by omega] using this
set_option maxHeartbeats 4000000 in
theorem compact_calls2 (base:Nat)(v:Value)(l:List Fact)(w:World)(h:OwnF w base v l)(hl:l.length*16≤140737488355328) :
  Calls Tryz.prog 145 #[v] w fun e w'=>∃ v',e=.returned v'∧OwnF w' base v' (compactF l)∧w.grownBy w' v.ownBlock∧v'.ownBlock=v.ownBlock:=by
 obtain⟨A,cap,rfl⟩:=h.form
 obtain⟨n,hn⟩:∃ n,n=l.length:=⟨_,rfl⟩
 rw[← hn]at h hl ⊢
 by_cases hshort:n<2
 ·have hfin:compactF l=l:=compact_short (by omega)
  rw[hfin]
  have HO:=Lib.hid h
  have HN:=Lib.hid hn
  have HFIN:=Lib.hid hfin
  clear h hn hfin
  go_enter Tryz.func145,Tryz.ntmps145
  go_wp2
  go_ret
  exact⟨_,rfl,HO.out,World.grownBy.refl _ _,rfl⟩
 ·obtain⟨g,rfl,hng,hcm⟩:∃ g,A=some ⟨g,0,none⟩∧n≤cap∧cap≤9223372036854775807:=by
   rcases h.2 with⟨hv,h0⟩|⟨g,cap',cur,hv,_,_,h1,h2,_⟩
   ·omega
   ·injection hv with e1 _ e3
    exact⟨g,e1,by omega,by rw[e3];exact h2⟩
  have hown:OwnF w base (.slice (some ⟨g,0,none⟩) n cap) l:=by rw[hn];rw[hn]at h;exact h
  clear h
  have HO:=Lib.hid hown
  have HN:=Lib.hid hn
  clear hown hn
  go_enter Tryz.func145,Tryz.ntmps145
  go_wp2
  go_loopg [3] (n-1) (fun gg i wr=>∃ k:Nat,1≤k∧k≤n∧gg=n-k∧i=.int .i64 k∧(∃ q,wr=w.drewN q)∧compactF (l.take k)=l.take k)
  case atStart=>exact⟨1,by omega,by omega,by omega,rfl,⟨0,rfl⟩,compact_one⟩
  case round =>
   obtain⟨k,hk1,hkn,hg,rfl,⟨q,rfl⟩,hF⟩:=hrel
   have HG:=Lib.hid hg
   have HF:=Lib.hid hF
   clear hg hF
   by_cases hlt:k<n
   ·obtain⟨x,hx,_⟩:=some_at (l:=l) (k:=k) HN.out hlt
    obtain⟨y,hy,_⟩:=some_at (l:=l) (k:=k-1) HN.out (by omega)
    obtain⟨c0,c1⟩:=HO.out.cells HN.out hx
    obtain⟨d0,d1⟩:=HO.out.cells HN.out hy
    have hstep:=compact_step hx hy hk1
    obtain⟨x1,x2⟩:=x
    obtain⟨y1,y2⟩:=y
    simp only at c0 c1 d0 d1
    have HX:=Lib.hid hx
    have HY:=Lib.hid hy
    have HST:=Lib.hid hstep
    clear hx hy hstep
    go_upto_region 6 with fail
    go_cut [25] (fun t wx=>t=.bool (eqB x1 x2 y1 y2)∧∃ q,wx=w.drewN q)
    case first =>
     by_cases h1:x1=y1
     ·subst h1
      by_cases h2:x2=y2
      ·subst h2
       refine wp_region_quiet_lit (by kernel_rfl) (by kernel_rfl) ?_
       repeat (any_goals (first|go_big_quiet_step (fail)|quiet_step (fail)|(refine wpQuiet_step (fun K hK=>?_);go_simp;split <;> (refine hK _ ?_;clear hK K))))
       all_goals (refine wpQuiet_nil ?_;intro _ hw';obtain⟨nq,hw''⟩:=hw';subst hw'')
       all_goals (go_wp2_with fail;go_meet;exact⟨by simp[eqB],_,by first|rfl|rw[World.drewN_drewN]⟩)
      ·refine wp_region_quiet_lit (by kernel_rfl) (by kernel_rfl) ?_
       repeat (any_goals (first|go_big_quiet_step (fail)|quiet_step (fail)|(refine wpQuiet_step (fun K hK=>?_);go_simp;split <;> (refine hK _ ?_;clear hK K))))
       all_goals (refine wpQuiet_nil ?_;intro _ hw';obtain⟨nq,hw''⟩:=hw';subst hw'')
       all_goals (go_wp2_with fail;go_meet;exact⟨by simp[eqB,h2],_,by first|rfl|rw[World.drewN_drewN]⟩)
     ·refine wp_region_quiet_lit (by kernel_rfl) (by kernel_rfl) ?_
      repeat (any_goals (first|go_big_quiet_step (fail)|quiet_step (fail)|(refine wpQuiet_step (fun K hK=>?_);go_simp;split <;> (refine hK _ ?_;clear hK K))))
      all_goals (refine wpQuiet_nil ?_;intro _ hw';obtain⟨nq,hw''⟩:=hw';subst hw'')
      all_goals (go_wp2_with fail;go_meet;exact⟨by simp[eqB,h1],_,by first|rfl|rw[World.drewN_drewN]⟩)
    case rest =>
     obtain⟨rfl,q',rfl⟩:=hcut
     cases hbad:eqB x1 x2 y1 y2
     ·have hne:¬ ((y1,y2):Fact)=(x1,x2):=by
       intro e
       injection e with e1 e2
       subst e1 e2
       simp[eqB]at hbad
      have hnext:compactF (l.take (k+1))=l.take (k+1):=by
       rw[HST.out,if_neg hne,HF.out,List.take_add_one,HX.out];rfl
      have HNE:=Lib.hid hne
      have HNEXT:=Lib.hid hnext
      clear hne hnext
      go_wp2
      go_roundg (n-(k+1))
      case measure=>have:=HG.out;omega
      case rel=>exact⟨k+1,by omega,by omega,rfl,by go_num,⟨_,rfl⟩,HNEXT.out⟩
     ·have heq:((y1,y2):Fact)=(x1,x2):=by simp[eqB]at hbad;rw[hbad.1,hbad.2]
      have hnext:compactF (l.take (k+1))=l.take k:=by rw[HST.out,if_pos heq,HF.out]
      have HEQ:=Lib.hid heq
      have HNEXT:=Lib.hid hnext
      clear heq hnext
      clear c0 c1 d0 d1
      have hcapk:¬ cap=k:=by omega
      have hstart:=only_drewN (World.grownBy.refl w (some g)) q'
      have HSTART:=Lib.hid hstart
      clear hstart
      go_wp2
      go_loopg [3,5] (n-k-1) (fun gg a i wx=>∃ (j kk:Nat) (m:List Fact),1≤j∧j≤n-k∧gg=n-k-j∧a=.int .i64 kk∧i=.int .i64 j∧k≤kk∧kk≤k+j-1∧OwnF wx base (.slice (some ⟨g,0,none⟩) n cap) m∧n=m.length∧compactF (l.take (k+j))=m.take kk∧m.drop (k+j-1)=l.drop (k+j-1)∧w.grownBy wx (some g))
      case atStart=>exact⟨1,k,l,by omega,by omega,by omega,rfl,rfl,by omega,by omega,HO.out,HN.out,HNEXT.out,rfl,HSTART.out⟩
      case round =>
       clear HSTART HNEXT HEQ
       obtain⟨j,kk,m,hj1,hjn,hg2,rfl,rfl,hkk,hkk2,hown2,hmn,hC,hD,hgr⟩:=hrel
       have HG2:=Lib.hid hg2
       have HC:=Lib.hid hC
       have HD:=Lib.hid hD
       have HGR:=Lib.hid hgr
       have HMN:=Lib.hid hmn
       have HO2:=Lib.hid hown2
       clear hg2 hC hD hgr hmn hown2
       by_cases hjt:j<n-k
       ·obtain⟨z,hz,_⟩:=some_at (l:=l) (k:=k+j) HN.out (by omega)
        obtain⟨u,hu,_⟩:=some_at (l:=l) (k:=k+j-1) HN.out (by omega)
        have hzm:m[k+j]?=some z:=by rw[at_drop HD.out (by omega)];exact hz
        have hum:m[k+j-1]?=some u:=by rw[at_drop HD.out (by omega)];exact hu
        obtain⟨s,hs,_⟩:=some_at (l:=m) (k:=kk) HMN.out (by omega)
        obtain⟨c0,c1⟩:=HO2.out.cells HMN.out hzm
        obtain⟨d0,d1⟩:=HO2.out.cells HMN.out hum
        obtain⟨s0,s1⟩:=HO2.out.cells HMN.out hs
        have f0:wr.frozen? ⟨g,kk*2,none⟩=false:=World.ownsRow.frozenAt (by have:=HO2.out;unfold OwnF at this;rw[← HMN.out]at this;exact this) (kk*2)
        have f1:wr.frozen? ⟨g,kk*2+1,none⟩=false:=World.ownsRow.frozenAt (by have:=HO2.out;unfold OwnF at this;rw[← HMN.out]at this;exact this) (kk*2+1)
        have hstep2:=compact_step hz hu (by omega)
        obtain⟨z1,z2⟩:=z
        obtain⟨u1,u2⟩:=u
        rw[show(k+j)*2=k*2+j*2 from by omega]at c0 c1
        rw[show(k+j-1)*2=k*2+(j-1)*2 from by omega]at d0 d1
        simp only at c0 c1 d0 d1
        have HZ:=Lib.hid hz
        have HU:=Lib.hid hu
        have HZM:=Lib.hid hzm
        have HUM:=Lib.hid hum
        have HS:=Lib.hid hs
        have HST2:=Lib.hid hstep2
        clear hz hu hzm hum hs hstep2
        go_upto_region 11 with fail
        go_cut [44] (fun t wx=>t=.bool !(eqB z1 z2 u1 u2)∧∃ q,wx=wr.drewN q)
        case first =>
         by_cases h1:z1=u1
         ·subst h1
          by_cases h2:z2=u2
          ·subst h2
           refine wp_region_quiet_lit (by kernel_rfl) (by kernel_rfl) ?_
           repeat (any_goals (first|go_big_quiet_step (fail)|quiet_step (fail)|(refine wpQuiet_step (fun K hK=>?_);go_simp;split <;> (refine hK _ ?_;clear hK K))))
           all_goals (refine wpQuiet_nil ?_;intro _ hw';obtain⟨nq,hw''⟩:=hw';subst hw'')
           all_goals (go_wp2_with fail;go_meet;exact⟨by simp[eqB],_,by first|rfl|rw[World.drewN_drewN]⟩)
          ·refine wp_region_quiet_lit (by kernel_rfl) (by kernel_rfl) ?_
           repeat (any_goals (first|go_big_quiet_step (fail)|quiet_step (fail)|(refine wpQuiet_step (fun K hK=>?_);go_simp;split <;> (refine hK _ ?_;clear hK K))))
           all_goals (refine wpQuiet_nil ?_;intro _ hw';obtain⟨nq,hw''⟩:=hw';subst hw'')
           all_goals (go_wp2_with fail;go_meet;exact⟨by simp[eqB,h2],_,by first|rfl|rw[World.drewN_drewN]⟩)
         ·refine wp_region_quiet_lit (by kernel_rfl) (by kernel_rfl) ?_
          repeat (any_goals (first|go_big_quiet_step (fail)|quiet_step (fail)|(refine wpQuiet_step (fun K hK=>?_);go_simp;split <;> (refine hK _ ?_;clear hK K))))
          all_goals (refine wpQuiet_nil ?_;intro _ hw';obtain⟨nq,hw''⟩:=hw';subst hw'')
          all_goals (go_wp2_with fail;go_meet;exact⟨by simp[eqB,h1],_,by first|rfl|rw[World.drewN_drewN]⟩)
        case rest =>
         obtain⟨rfl,q2,rfl⟩:=hcut
         cases hbad:eqB z1 z2 u1 u2
         ·have hne:¬ ((u1,u2):Fact)=(z1,z2):=by
           intro e
           injection e with e1 e2
           subst e1 e2
           simp[eqB]at hbad
          have hnext:compactF (l.take (k+(j+1)))=(m.set kk (z1,z2)).take (kk+1):=by
           rw[← Nat.add_assoc,HST2.out,if_neg hne,HC.out,List.take_add_one,List.take_set_of_le (by omega)]
           have:=HMN.out
           simp[show kk<m.length by omega]
          have hdrop:(m.set kk (z1,z2)).drop (k+(j+1)-1)=l.drop (k+(j+1)-1):=by
           rw[List.drop_set_of_lt (by omega)]
           have:=congrArg (List.drop 1) HD.out
           simpa [List.drop_drop,show 1+(k+j-1)=k+(j+1)-1 from by omega,show k+j-1+1=k+(j+1)-1 from by omega] using this
          have HNE:=Lib.hid hne
          have HNEXT:=Lib.hid hnext
          have HDROP:=Lib.hid hdrop
          clear hne hnext hdrop
          go_wp2
          go_roundg (n-k-(j+1))
          case measure=>have:=HG2.out;omega
          case rel=>exact⟨j+1,kk+1,m.set kk (z1,z2),by omega,by omega,rfl,by go_num,by go_num,by omega,by omega,OwnF.store (x:=(z1,z2)) HO2.out HMN.out kk,by rw[List.length_set];exact HMN.out,HNEXT.out,HDROP.out,only_setCell (only_setCell (only_drewN HGR.out q2) (.inl rfl) _) (.inl rfl) _⟩
         ·have heq:((u1,u2):Fact)=(z1,z2):=by simp[eqB]at hbad;rw[hbad.1,hbad.2]
          have hnext:compactF (l.take (k+(j+1)))=m.take kk:=by rw[← Nat.add_assoc,HST2.out,if_pos heq,HC.out]
          have hdrop:m.drop (k+(j+1)-1)=l.drop (k+(j+1)-1):=by
           have:=congrArg (List.drop 1) HD.out
           simpa [List.drop_drop,show 1+(k+j-1)=k+(j+1)-1 from by omega,show k+j-1+1=k+(j+1)-1 from by omega] using this
          have HEQ:=Lib.hid heq
          have HNEXT:=Lib.hid hnext
          have HDROP:=Lib.hid hdrop
          clear heq hnext hdrop
          go_wp2
          go_roundg (n-k-(j+1))
          case measure=>have:=HG2.out;omega
          case rel=>exact⟨j+1,kk,m,by omega,by omega,rfl,rfl,by go_num,by omega,by omega,HO2.out,HMN.out,HNEXT.out,HDROP.out,only_drewN HGR.out q2⟩
       ·have hjk:j=n-k:=by omega
        have hfin:compactF l=m.take kk:=by rw[← HC.out,tL_ (by have:=HN.out;omega)]
        have ho2:wr.ownsRow base 39 2 (.slice (some ⟨g,0,none⟩) n cap) n (factCells m):=by have:=HO2.out;unfold OwnF at this;rw[← HMN.out]at this;exact this
        have hcl:=fun(ty:TypeId)=>run_clear_facts wr ty g (kk*2) (n-kk) (cap-kk) (by omega)
         (fun i hi=>by rw[World.ownsRow.cellAt ho2 (kk*2+i) (by omega),List.getElem?_eq_getElem (by rw[factCells_length,← HMN.out];omega)];rfl)
         (fun i hi=>World.ownsRow.frozenAt ho2 (kk*2+i))
        obtain⟨zs,hclr⟩:=hcl 0
        obtain⟨xs',hx1,hx2,hx3⟩:=setCells_own zs wr (kk*2) _ ho2
        have hcapkk:¬ cap=kk:=by omega
        have hown3:OwnF (wr.setCells g (kk*2) zs) base (.slice (some ⟨g,0,none⟩) kk cap) (compactF l) :=
         own_cut hx1 (by omega) (by rw[hfin,List.length_take,← HMN.out];omega) (by rw[hx2,factCells_take,hfin])
        have hg3:=World.grownBy.trans HGR.out hx3
        clear hcl
        have HFIN:=Lib.hid hfin
        have HOO:=Lib.hid ho2
        have HX1:=Lib.hid hx1
        have HX2:=Lib.hid hx2
        have HX3:=Lib.hid hx3
        have HOWN3:=Lib.hid hown3
        have HG3:=Lib.hid hg3
        have HJK:=Lib.hid hjk
        clear hfin ho2 hx1 hx2 hx3 hown3 hg3 hjk
        go_wp2
        go_ret
        exact⟨_,rfl,HOWN3.out,HG3.out,rfl⟩
   ·have hfin:compactF l=l:=by rw[← tL_ (l:=l) (i:=k) (by have:=HN.out;omega)];rw[HF.out]
    have HFIN:=Lib.hid hfin
    clear hfin
    go_wp2
    go_ret
    exact⟨_,rfl,by rw[HFIN.out];exact HO.out,only_drewN (World.grownBy.refl _ _) _,rfl⟩
end Go.Proofs.YtinnphmnhmdcgaaGreat
namespace Go.Proofs.YtinnphmnhmdcgaaGreat.Am
open Go.RowKit
theorem bT0 {n m:Nat}(h:Nat.ble n m=true):n≤m:=Nat.le_of_ble_eq_true h
section
variable {w : World} {vs : Shp} {m : MM} {v : Value}
theorem rv_factsF {l:List Fact}(h:RV w vs m (.sl 2 (l.map cF)) v)(hl:l.length*16≤140737488355328):FactsAt w v l:=by
 obtain⟨A,cap,b,off,f,rfl,hA,_,_,_,hc,hr,_⟩:=rv_sl h
 refine⟨A,cap,by simp,hl,fun k x hx=>?_⟩
 have hk:(l.map cF)[k]?=some (cF x):=map_at' hx
 obtain⟨rfl,_⟩:=hA (fun e=>by rw[e]at hk;simp at hk)
 have h0:=(hc k 0 _ _ hk rfl).1
 have h1:=(hc k 1 _ _ hk rfl).1
 rw[rv_c (hr k 0 _ _ hk rfl)]at h0
 rw[rv_c (hr k 1 _ _ hk rfl)]at h1
 exact⟨b,off,rfl,by simpa using h0,by simpa [Nat.add_assoc] using h1⟩
theorem flat_facts {l:List Fact}{xs:List Value}(h:Flat w vs m 2 (l.map cF) xs.toArray)(hl:xs.length=l.length*2):xs=factCells l:=by
 apply List.ext_getElem?
 intro i
 by_cases hi:i<l.length*2
 ·obtain⟨k,j,hj,rfl⟩:∃ k j,j<2∧i=k*2+j:=⟨i / 2,i % 2,Nat.mod_lt _ (by omega),by omega⟩
  have hk:k<l.length:=by omega
  have hlk:=List.getElem?_eq_getElem hk
  obtain⟨c0,c1⟩:=factCells_at l k _ hlk
  obtain⟨_,h2⟩:=h.2 k (cF l[k]) (map_at' hlk)
  have hj2:j=0∨j=1:=by omega
  rcases hj2 with rfl|rfl
  ·obtain⟨u,u1,_,u3⟩:=h2 0 _ rfl
   rw[List.getElem?_toArray]at u1
   rw[u1,rv_c u3,Nat.add_zero,c0]
  ·obtain⟨u,u1,_,u3⟩:=h2 1 _ rfl
   rw[List.getElem?_toArray]at u1
   rw[u1,rv_c u3,c1]
 ·rw[List.getElem?_eq_none (by omega),List.getElem?_eq_none (by rw[factCells_length];omega)]
theorem cells_facts {l:List Fact}(k:Nat)(e:List AV)(he:(l.map cF)[k]?=some e):e.length=2∧∀ (j:Nat)(y:AV),e[j]?=some y→Fr y∧∃ u,(factCells l)[k*2+j]?=some u∧u.oneCell'=true∧RV w vs m y u:=by
 obtain⟨x,hx,rfl⟩:=get_map he
 obtain⟨c0,c1⟩:=factCells_at l k x hx
 refine⟨rfl,fun j y hy=>?_⟩
 match j,hy with
 | 0,hy=>simp[cF]at hy;subst hy;exact⟨.c _,_,c0,rfl,.c _⟩
 | 1,hy=>simp[cF]at hy;subst hy;exact⟨.c _,_,c1,rfl,.c _⟩
 | j+2,hy=>simp[cF]at hy
theorem own_shape {base E sz n n':Nat}{w':World}{xs xs':List Value}(h:w.ownsRow base E sz v n xs)(h':w'.ownsRow base E sz v n' xs'){b:Nat}(hb:v.ownBlock=some b):w'.shape? b=w.shape? b:=by
 rcases h.2 with⟨rfl,_⟩|⟨g,cap,cur,rfl,_,hh,_,_,hcs,_⟩
 ·cases hb
 ·rcases h'.2 with⟨e,_⟩|⟨g',cap',cur',e,_,hh',_,_,hcs',_⟩
  ·cases e
  ·injection e with e1 e2 e3
   injection e1 with e1
   injection e1 with e1 _
   subst e1 e3
   have:b=g:=by simpa [Value.ownBlock] using hb.symm
   subst this
   simp[World.shape?,hh,hh',hcs,hcs']
end
theorem cargs1 {α:Type}{c:Array α}(h:c.size=1):∃ a,c=#[a]:=by
 obtain⟨l⟩:=c
 match l,h with
 | [a],_=>exact⟨a,rfl⟩
theorem cargs2 {α:Type}{c:Array α}(h:c.size=2):∃ a b,c=#[a,b]:=by
 obtain⟨l⟩:=c
 match l,h with
 | [a,b],_=>exact⟨a,b,rfl⟩
def M_cloneF (l:List Fact):Option (List Fact):=grd (l.length*16≤140737488355328) (some l)
theorem A_cloneF (l:List Fact){r:List Fact}(h:M_cloneF l=some r):ACallG cx 72 [.sl 2 (l.map cF)] [] [] (.own 0 0 0 r.length) [(0,⟨39,2,false,r.map cF⟩)]:=by
 obtain⟨h0,h⟩:=grd_ok h
 have h:=sI_ h
 subst h
 refine⟨enter_g Tryz.func72 rfl (by decide),fun w m cargs hg hM hsz hargs=>?_⟩
 obtain⟨v,rfl⟩:=cargs1 hsz
 refine(cloneF_calls v l w (rv_factsF (hargs 0 _ v rfl rfl) h0)).mono ?_
 rintro e w' ⟨v',rfl,ho,hb⟩
 refine⟨v',⟨fun k=>if k=0 then v'.ownBlock else none,m.O⟩,rfl,?_⟩
 have hge:∀ b,v'.ownBlock=some b→w.heap.size≤b:=fun b hb=>by
  rcases ho.2 with⟨rfl,_⟩|⟨g,cap,cur,rfl,hbase,_⟩
  ·cases hb
  ·simp[Value.ownBlock]at hb;omega
 exact gr_row (i0:=0) (v:=.slice none 0 0) (row:=none) hM hg (.inl rfl) (own_mono ho (Nat.zero_le _)) ⟨hb.os,hb.tape,hb.output,hb.size,fun b hb' _=>hb.block b hb'⟩ (.inl rfl) (.inr hge) (lM_ _) (fun k e he=>cells_facts k e he)
def M_compactF (l:List Fact):Option (List Fact):=grd (l.length*16≤140737488355328) (some (compactF l))
theorem A_compactF (l:List Fact){r:List Fact}(h:M_compactF l=some r):ACallG cx 145 [.own 0 0 0 l.length] [(0,⟨39,2,false,l.map cF⟩)] [] (.own 0 0 0 r.length) [(0,⟨39,2,false,r.map cF⟩)]:=by
 obtain⟨h0,h⟩:=grd_ok h
 have h:=sI_ h
 subst h
 refine⟨enter_g Tryz.func145 rfl (by decide),fun w m cargs hg hM hsz hargs=>?_⟩
 obtain⟨v,rfl⟩:=cargs1 hsz
 obtain⟨xs,hrow,hfl,hm0⟩:=own_row (η:=fE [(0,⟨39,2,false,l.map cF⟩)]) (hargs 0 _ v rfl rfl) rfl (hM.ok 0 _ rfl) (by simp)
 simp only at hrow hfl
 have hxs:=flat_facts hfl hrow.1
 subst hxs
 refine(compact_calls2 0 v l w hrow h0).mono ?_
 rintro e w' ⟨v',rfl,ho,hgr,hv'⟩
 exact⟨v',⟨fun k=>if k=0 then v'.ownBlock else none,m.O⟩,rfl,gr_row (i0:=0) hM hg (.inr ⟨by simp[fE_live,keys],hm0⟩) ho hgr (.inl rfl) (.inl hv') (lM_ _) (fun k e he=>cells_facts k e he)⟩
def M_sortF (l:List Fact):Option (List Fact):=grd (l.length<4611686018427387904) (some (sortF l))
theorem A_sortF (l:List Fact){r:List Fact}(h:M_sortF l=some r):ACallG cx 143 [.own 900 0 0 l.length,.clo (.func 144) [] []] [(900,⟨39,2,false,l.map cF⟩)] [900] (.tup []) [(900,⟨39,2,false,r.map cF⟩)]:=by
 obtain⟨h0,h⟩:=grd_ok h
 have h:=sI_ h
 subst h
 refine⟨enter_g Tryz.func143 rfl (by decide),fun w m cargs hg hM hsz hargs=>?_⟩
 obtain⟨v,f,rfl⟩:=cargs2 hsz
 obtain⟨us,us',rfl,l1,_,l2,_⟩:=rv_clo (hargs 1 _ f rfl rfl)
 obtain rfl:us=#[]:=Array.eq_empty_of_size_eq_zero l1.symm
 obtain rfl:us'=#[]:=Array.eq_empty_of_size_eq_zero l2.symm
 obtain⟨xs,hrow,hfl,hm0⟩:=own_row (η:=fE [(900,⟨39,2,false,l.map cF⟩)]) (hargs 0 _ v rfl rfl) rfl (hM.ok 900 _ rfl) (by simp)
 simp only at hrow hfl
 have hxs:=flat_facts hfl hrow.1
 subst hxs
 refine(sort_calls 0 v l w hrow h0).mono ?_
 rintro e w' ⟨rfl,ho,hgr⟩
 have hlen:=sortF_length l
 unfold OwnF at ho
 exact⟨_,m,rfl,gr_kept hM hg hm0 (by rw[hlen]at ho;exact ho) hgr (fun b hb=>own_shape hrow ho hb) (by rw[lM_,hlen]) (fun m'=>.tup rfl (fun j x u hx=>by simp at hx)) (fun k e he=>cells_facts k e he)⟩
def M_sortL (l:List (List Fact)):Option (List (List Fact)):=grd (l.length<4611686018427387904) (grd (∀ y∈l,y.length*16≤140737488355328) (some (sortLL l)))
theorem A_sortL (l:List (List Fact)){r:List (List Fact)}(h:M_sortL l=some r):ACallG cx 93 [.own 900 0 0 l.length,.clo (.func 94) [] []] [(900,⟨23,1,false,l.map cL_cF⟩)] [900] (.tup []) [(900,⟨23,1,false,r.map cL_cF⟩)]:=by
 obtain⟨h0,h⟩:=grd_ok h
 obtain⟨h1,h⟩:=grd_ok h
 have h:=sI_ h
 subst h
 refine⟨enter_g Tryz.func93 rfl (by decide),fun w m cargs hg hM hsz hargs=>?_⟩
 obtain⟨v,f,rfl⟩:=cargs2 hsz
 obtain⟨us,us',rfl,l1,_,l2,_⟩:=rv_clo (hargs 1 _ f rfl rfl)
 obtain rfl:us=#[]:=Array.eq_empty_of_size_eq_zero l1.symm
 obtain rfl:us'=#[]:=Array.eq_empty_of_size_eq_zero l2.symm
 obtain⟨xs,hrow,hfl,hm0⟩:=own_row (η:=fE [(900,⟨23,1,false,l.map cL_cF⟩)]) (hargs 0 _ v rfl rfl) rfl (hM.ok 900 _ rfl) (by simp)
 simp only at hrow hfl
 have hat:∀ (k:Nat) (y:List Fact) (u:Value),l[k]?=some y→xs[k]?=some u→u.oneCell'=true∧RV w (shp (fE [(900,⟨23,1,false,l.map cL_cF⟩)])) m (.sl 2 (y.map cF)) u:=by
  intro k y u hy hu
  obtain⟨z,z1,z2,z3⟩:=(hfl.2 k (cL_cF y) (by simp[hy])).2 0 _ rfl
  simp only[Nat.mul_one,Nat.add_zero,List.getElem?_toArray]at z1
  rw[hu]at z1
  injection z1 with z1
  rw[z1]
  exact⟨z2,z3⟩
 refine(sortL_calls v l xs w hrow h0 (fun g hvg k y u hy hu=>?_)).mono ?_
 ·obtain⟨a1,a2⟩:=hat k y u hy hu
  refine⟨a1,fun W hW hc=>rv_factsF (rv_keep (.sl (frl_cF _)) a2 hW (fun b hb hno=>hc b hb (fun e=>hno ?_)) (fun _ _ h=>h)) (h1 y (List.mem_of_getElem? hy))⟩
  subst e
  exact .inr ⟨900,blk_live.2 (by simp[fE_live,keys]),by rw[hm0];exact hvg⟩
 ·rintro e w' ⟨rfl,ys,ho,hgr,hsh,hperm⟩
  have hlen:=sortLL_length l
  refine⟨_,m,rfl,gr_kept hM hg hm0 ho hgr hsh (by rw[lM_,hlen]) (fun m'=>.tup rfl (fun j x u hx=>by simp at hx)) (fun k e he=>?_)⟩
  obtain⟨y,hy,rfl⟩:=get_map he
  obtain⟨u,q,q1,q2,q3⟩:=hperm k y hy
  obtain⟨a1,a2⟩:=hat q y u q3 q2
  refine⟨rfl,fun j a hj=>?_⟩
  cases j with
  | zero =>
   simp only[cL_cF,List.getElem?_cons_zero,Option.some.injEq]at hj
   subst hj
   exact⟨.sl (frl_cF _),u,by simpa using q1,a1,a2⟩
  | succ j=>simp[cL_cF]at hj
end Go.Proofs.YtinnphmnhmdcgaaGreat.Am
namespace Go.Proofs.YtinnphmnhmdcgaaGreat
open Go.RowKit
end Go.Proofs.YtinnphmnhmdcgaaGreat
namespace Go.Proofs.YtinnphmnhmdcgaaGreat
open Go.RowKit
end Go.Proofs.YtinnphmnhmdcgaaGreat
namespace Go.Proofs.YtinnphmnhmdcgaaGreat.Am
open Go.RowKit
end Go.Proofs.YtinnphmnhmdcgaaGreat.Am
namespace Go.Proofs.YtinnphmnhmdcgaaGreat.Am
set_option maxHeartbeats 16000000
set_option maxRecDepth 100000
open Go.RowKit
structure GEffect where
 When:List Fact
 Var:Int
 Val:Int
 deriving DecidableEq
def cGEffect (x:GEffect):List AV:=[.sl 2 (x.When.map cF),.c (.int .i64 x.Var),.c (.int .i64 x.Val)]
theorem fr_cGEffect (x:GEffect):∀ y∈cGEffect x,Fr y:=FrC_cons (.sl (frl_cF _)) (FrC_cons (.c _) (FrC_cons (.c _) (FrC_nil)))
theorem frl_cGEffect (l:List GEffect):FrL (l.map cGEffect):=FrL_map (fun x _=>fr_cGEffect x)
instance {l:List GEffect}:FrI (l.map cGEffect):=⟨frl_cGEffect l⟩
structure GOp where
 Name:ByteArray
 Cost:Int
 Pre:List Fact
 Effs:List GEffect
 deriving DecidableEq
def cGOp (x:GOp):List AV:=[.c (.string x.Name),.c (.int .i64 x.Cost),.sl 2 (x.Pre.map cF),.sl 3 (x.Effs.map cGEffect)]
theorem fr_cGOp (x:GOp):∀ y∈cGOp x,Fr y:=FrC_cons (.c _) (FrC_cons (.c _) (FrC_cons (.sl (frl_cF _)) (FrC_cons (.sl (frl_cGEffect _)) (FrC_nil))))
theorem frl_cGOp (l:List GOp):FrL (l.map cGOp):=FrL_map (fun x _=>fr_cGOp x)
instance {l:List GOp}:FrI (l.map cGOp):=⟨frl_cGOp l⟩
structure GTask where
 Vars:List Int
 Init:List Int
 Goal:List Fact
 Ops:List GOp
 deriving DecidableEq
def cGTask (x:GTask):List AV:=[.sl 1 (x.Vars.map cI),.sl 1 (x.Init.map cI),.sl 2 (x.Goal.map cF),.sl 4 (x.Ops.map cGOp)]
theorem fr_cGTask (x:GTask):∀ y∈cGTask x,Fr y:=FrC_cons (.sl (frl_cI _)) (FrC_cons (.sl (frl_cI _)) (FrC_cons (.sl (frl_cF _)) (FrC_cons (.sl (frl_cGOp _)) (FrC_nil))))
theorem frl_cGTask (l:List GTask):FrL (l.map cGTask):=FrL_map (fun x _=>fr_cGTask x)
instance {l:List GTask}:FrI (l.map cGTask):=⟨frl_cGTask l⟩
def cL_cL_cF (x:List (List Fact)):List AV:=[.sl 1 (x.map cL_cF)]
theorem fr_cL_cL_cF (x:List (List Fact)):∀ y∈cL_cL_cF x,Fr y:=FrC_cons (.sl (frl_cL_cF _)) (FrC_nil)
theorem frl_cL_cL_cF (l:List (List (List Fact))):FrL (l.map cL_cL_cF):=FrL_map (fun x _=>fr_cL_cL_cF x)
instance {l:List (List (List Fact))}:FrI (l.map cL_cL_cF):=⟨frl_cL_cL_cF l⟩
def cL_cI (x:List Int):List AV:=[.sl 1 (x.map cI)]
theorem fr_cL_cI (x:List Int):∀ y∈cL_cI x,Fr y:=FrC_cons (.sl (frl_cI _)) (FrC_nil)
theorem frl_cL_cI (l:List (List Int)):FrL (l.map cL_cI):=FrL_map (fun x _=>fr_cL_cI x)
instance {l:List (List Int)}:FrI (l.map cL_cI):=⟨frl_cL_cI l⟩
def cL_cB (x:List Bool):List AV:=[.sl 1 (x.map cB)]
theorem fr_cL_cB (x:List Bool):∀ y∈cL_cB x,Fr y:=FrC_cons (.sl (frl_cB _)) (FrC_nil)
theorem frl_cL_cB (l:List (List Bool)):FrL (l.map cL_cB):=FrL_map (fun x _=>fr_cL_cB x)
instance {l:List (List Bool)}:FrI (l.map cL_cB):=⟨frl_cL_cB l⟩
structure GTable where
 t:GTask
 first:List Int
 reached:List (List Bool)
 deriving DecidableEq
def cGTable (x:GTable):List AV:=[.sl 1 (x.t.Vars.map cI),.sl 1 (x.t.Init.map cI),.sl 2 (x.t.Goal.map cF),.sl 4 (x.t.Ops.map cGOp),.sl 1 (x.first.map cI),.sl 1 (x.reached.map cL_cB)]
theorem fr_cGTable (x:GTable):∀ y∈cGTable x,Fr y:=FrC_cons (.sl (frl_cI _)) (FrC_cons (.sl (frl_cI _)) (FrC_cons (.sl (frl_cF _)) (FrC_cons (.sl (frl_cGOp _)) (FrC_cons (.sl (frl_cI _)) (FrC_cons (.sl (frl_cL_cB _)) (FrC_nil))))))
theorem frl_cGTable (l:List GTable):FrL (l.map cGTable):=FrL_map (fun x _=>fr_cGTable x)
instance {l:List GTable}:FrI (l.map cGTable):=⟨frl_cGTable l⟩
structure GCause where
 states:List (List Fact)
 deriving DecidableEq
def cGCause (x:GCause):List AV:=[.sl 1 (x.states.map cL_cF)]
theorem fr_cGCause (x:GCause):∀ y∈cGCause x,Fr y:=FrC_cons (.sl (frl_cL_cF _)) (FrC_nil)
theorem frl_cGCause (l:List GCause):FrL (l.map cGCause):=FrL_map (fun x _=>fr_cGCause x)
instance {l:List GCause}:FrI (l.map cGCause):=⟨frl_cGCause l⟩
structure GCover where
 vars:List Int
 used:Int
 steps:Int
 full:Bool
 deriving DecidableEq
def cGCover (x:GCover):List AV:=[.sl 1 (x.vars.map cI),.c (.int .i64 x.used),.c (.int .i64 x.steps),.c (.bool x.full)]
theorem fr_cGCover (x:GCover):∀ y∈cGCover x,Fr y:=FrC_cons (.sl (frl_cI _)) (FrC_cons (.c _) (FrC_cons (.c _) (FrC_cons (.c _) (FrC_nil))))
theorem frl_cGCover (l:List GCover):FrL (l.map cGCover):=FrL_map (fun x _=>fr_cGCover x)
instance {l:List GCover}:FrI (l.map cGCover):=⟨frl_cGCover l⟩
structure GCertificate where
 Bound:Int
 Nogoods:List Nogood
 deriving DecidableEq
def cGCertificate (x:GCertificate):List AV:=[.c (.int .i64 x.Bound),.sl 2 (x.Nogoods.map cN)]
theorem fr_cGCertificate (x:GCertificate):∀ y∈cGCertificate x,Fr y:=FrC_cons (.c _) (FrC_cons (.sl (frl_cN _)) (FrC_nil))
theorem frl_cGCertificate (l:List GCertificate):FrL (l.map cGCertificate):=FrL_map (fun x _=>fr_cGCertificate x)
instance {l:List GCertificate}:FrI (l.map cGCertificate):=⟨frl_cGCertificate l⟩
structure GChecker where
 t:GTask
 c:GCertificate
 steps:Int
 deriving DecidableEq
def cGChecker (x:GChecker):List AV:=[.sl 1 (x.t.Vars.map cI),.sl 1 (x.t.Init.map cI),.sl 2 (x.t.Goal.map cF),.sl 4 (x.t.Ops.map cGOp),.c (.int .i64 x.c.Bound),.sl 2 (x.c.Nogoods.map cN),.c (.int .i64 x.steps)]
theorem fr_cGChecker (x:GChecker):∀ y∈cGChecker x,Fr y:=FrC_cons (.sl (frl_cI _)) (FrC_cons (.sl (frl_cI _)) (FrC_cons (.sl (frl_cF _)) (FrC_cons (.sl (frl_cGOp _)) (FrC_cons (.c _) (FrC_cons (.sl (frl_cN _)) (FrC_cons (.c _) (FrC_nil)))))))
theorem frl_cGChecker (l:List GChecker):FrL (l.map cGChecker):=FrL_map (fun x _=>fr_cGChecker x)
instance {l:List GChecker}:FrI (l.map cGChecker):=⟨frl_cGChecker l⟩
structure GEdge where
 From:Int
 Op:Int
 To:Int
 deriving DecidableEq
def cGEdge (x:GEdge):List AV:=[.c (.int .i64 x.From),.c (.int .i64 x.Op),.c (.int .i64 x.To)]
theorem fr_cGEdge (x:GEdge):∀ y∈cGEdge x,Fr y:=FrC_cons (.c _) (FrC_cons (.c _) (FrC_cons (.c _) (FrC_nil)))
theorem frl_cGEdge (l:List GEdge):FrL (l.map cGEdge):=FrL_map (fun x _=>fr_cGEdge x)
instance {l:List GEdge}:FrI (l.map cGEdge):=⟨frl_cGEdge l⟩
theorem zb_0 {P:Prop}(h:P:=by repeat (first|exact BWL.nil|exact bwll_nil|exact bw_c|exact BW.sl|exact BW.nil|exact bwll_same rfl FrI.h|refine BWL.cons ?_ ?_|refine bwll_cons ?_ ?_|(refine bw_own3 rfl rfl rfl FrI.h ?_ ?_ ?_)|exact BW.fr FrV.h|exact bw_fr2 rfl FrV.h|exact BW.fr (by assumption)|refine bw_agg ?_|refine bw_clo ?_|refine bw_ptr rfl rfl rfl ?_|(refine bw_own rfl rfl rfl ?_ FrI.h ?_ ?_)|assumption|omega|rfl|(rw[lM_,← lA_];assumption)|(refine bwll_same ?_ FrI.h;(simp[cGCause,cGTable,cGTask,cI,cF,cGOp,cGEffect,cB,cL_cB,cL_cF] <;> fail))|(rw[List.map_set];refine bwll_set (by first|rfl|omega|simp) ?_ ?_)|refine bwll_set (by first|rfl|omega|simp) ?_ ?_|(rw[List.map_replicate];refine bwll_rep ?_)|refine bwll_rep ?_|(rw[List.map_append];refine bwll_append ?_ ?_)|refine bwll_append ?_ ?_|(simp[cGCause,cGTable,cGTask,cI,cF,cGOp,cGEffect,cB,cL_cB,cL_cF,take_len_map] <;> fail)|(rw[List.drop_zero,tL_] <;> first|rfl|(simp[cGCause,cGTable,cGTask,cI,cF,cGOp,cGEffect,cB,cL_cB,cL_cF] <;> fail))|(simp;omega)|(simp only[lM_,lA_,List.drop_zero,lC_,lN_,Nat.zero_add,Nat.add_zero]at *;omega))):P:=h
theorem zg_0 {P:Prop}(h:P:=by repeat (first|exact True.intro|exact gb_nil rfl rfl|refine gb_some ⟨rfl,rfl,rfl⟩ ?_|refine And.intro ?_ ?_|refine gw_ren rfl rfl rfl rfl rfl ?_|exact gw_oren rfl rfl rfl rfl rfl|exact gw_opren rfl rfl rfl rfl rfl|exact gw_onil rfl rfl|exact gw_mren rfl rfl rfl rfl|refine gw_pren rfl rfl rfl rfl rfl|exact gw_thaw rfl rfl rfl|refine gw_tup ?_|exact GWL.nil|exact gwll_nil|exact gw_c|exact GW.sl|exact GW.nil|exact gwll_same rfl FrI.h|refine GWL.cons ?_ ?_|refine gwll_cons ?_ ?_|(refine gw_own3 rfl rfl rfl FrI.h ?_ ?_ ?_)|exact GW.fr FrV.h|exact gw_fr2 rfl FrV.h|exact GW.fr (by assumption)|refine gw_agg ?_|refine gw_clo ?_|refine gw_ptr rfl rfl rfl ?_|(refine gw_own rfl rfl rfl ?_ FrI.h ?_ ?_)|assumption|omega|rfl|(rw[lM_,← lA_];assumption)|(refine gwll_same ?_ FrI.h;(simp[cGCause,cGTable,cGTask,cI,cF,cGOp,cGEffect,cB,cL_cB,cL_cF] <;> fail))|(rw[List.map_set];refine gwll_set (by first|rfl|omega|simp) ?_ ?_)|refine gwll_set (by first|rfl|omega|simp) ?_ ?_|(rw[List.map_replicate];refine gwll_rep ?_)|refine gwll_rep ?_|(rw[List.map_append];refine gwll_append ?_ ?_)|refine gwll_append ?_ ?_|(simp[cGCause,cGTable,cGTask,cI,cF,cGOp,cGEffect,cB,cL_cB,cL_cF,take_len_map] <;> fail)|(rw[List.drop_zero,tL_] <;> first|rfl|(simp[cGCause,cGTable,cGTask,cI,cF,cGOp,cGEffect,cB,cL_cB,cL_cF] <;> fail))|(simp;omega)|(simp only[lM_,lA_,List.drop_zero,lC_,lN_,Nat.zero_add,Nat.add_zero]at *;omega))):P:=h
theorem ci {p K:Prop}(k:K)(h:p:=by first|rfl|exact⟨rfl,rfl⟩|exact BW.fr FrV.h|exact bw_fr2 rfl FrV.h|(refine BW.fr ?_;assumption)|(refine⟨rfl,?_⟩;(simp[cGCause,cGTable,cGTask,cI,cF,cGOp,cGEffect,cB,cL_cB,cL_cF,take_len_map];done))|(refine RowK.same ?_ FrI.h;first|rfl|(simp[cGCause,cGTable,cGTask,cI,cF,cGOp,cGEffect,cB,cL_cB,cL_cF,take_len_map];done))|(refine row_part1 ?_;(exact zb_0);done)|((exact zb_0);done)|(simp[cGCause,cGTable,cGTask,cI,cF,cGOp,cGEffect,cB,cL_cB,cL_cF,take_len_map];done)):p∧K:=⟨h,k⟩
theorem ca_0 {P:Prop}(h:P:=by repeat (first|exact True.intro|refine ci ?_)):P:=h
theorem pr {p K:Prop}(k:K)(h:p:=by first|assumption|exact Int.natCast_nonneg _|exact Nat.le_refl _|exact Nat.zero_le _|omega|(simp;done)|(simp;omega)):p∧K:=⟨h,k⟩
theorem pl {p K:Prop}(k:K)(h:p:=by first|rfl|exact lM_ _|(simp;done)|(simp;omega)):p∧K:=⟨h,k⟩
theorem pe {p K:Prop}(k:K)(h:p:=by first|omega|(simp;omega)|(simp only[lM_,lC_,lN_,lA_];omega)|(simp only[lM_,List.drop_zero,lC_,lN_,Nat.zero_add,Nat.add_zero]at *;omega)):p∧K:=⟨h,k⟩
theorem dr {b:Bool}{p K:Prop}(k:K)(h:b=true→p:=by intro h;first|(cases h;done)|exact⟨by kernel_rfl,by kernel_rfl⟩):(b=true→p)∧K:=⟨h,k⟩
theorem cl {C:Cx}{n:Nat}{o:Oper}{τ:Nat→AV}{η:Nat→Ent}{f:FuncId}{os:Array Operand}{ats:Array TypeId}{r:AV}{args:List AV}{K:Foot→Prop}(ho:o.op=.call ⟨.value (.func f),os,ats⟩)(hc:ACall C f args r)(k:K ⟨r,[],[]⟩)
  (hd:InB n o.dst:=by exact bT0 rfl) (hargs:os.toList.map (evA τ)=args:=by first|rfl|(simp[cGTask,cI,cF,cGOp,cGEffect,cN,cGCertificate,cB,cL_cB];done)|(repeat (first|exact rfl|refine cons_eq ?_ ?_|exact sl_dt rfl))) (hfr:frs args:=by repeat (first|exact trivial|exact fr1_eA _|exact fr0_eA _|exact fr1_fr (by assumption)|exact FrV.h|exact fr0_fr FrV.h|exact fr1_fr FrV.h|refine And.intro ?_ ?_)) (hr:fr1 r:=by repeat (first|exact trivial|exact fr1_eA _|exact fr0_eA _|exact fr1_fr (by assumption)|exact FrV.h|exact fr0_fr FrV.h|exact fr1_fr FrV.h|refine And.intro ?_ ?_)):∃ f:Foot,LF C n o τ η f∧K f:=⟨_,lf_call ho hd hargs hc hfr hr,k⟩
theorem clc {C:Cx}{n:Nat}{o:Oper}{τ:Nat→AV}{η:Nat→Ent}{c:Operand}{os:Array Operand}{ats:Array TypeId}{r F:AV}{xs:List AV}{K:Foot→Prop}(ho:o.op=.call ⟨.value c,os,ats⟩)(hc:CCl C F xs r)(hfF:Fr F)(k:K ⟨r,[],[]⟩)
  (hd:InB n o.dst:=by exact bT0 rfl) (hF:evA τ c=F:=by rfl) (hargs:os.toList.map (evA τ)=xs:=by first|rfl|(simp[cGTask,cI,cF,cGOp,cGEffect,cN,cGCertificate,cB,cL_cB];done)|(repeat (first|exact rfl|refine cons_eq ?_ ?_|exact sl_dt rfl))) (hfr:frs xs:=by repeat (first|exact trivial|exact fr1_eA _|exact fr0_eA _|exact fr1_fr (by assumption)|exact FrV.h|exact fr0_fr FrV.h|exact fr1_fr FrV.h|refine And.intro ?_ ?_)) (hr:fr1 r:=by repeat (first|exact trivial|exact fr1_eA _|exact fr0_eA _|exact fr1_fr (by assumption)|exact FrV.h|exact fr0_fr FrV.h|exact fr1_fr FrV.h|refine And.intro ?_ ?_)):∃ f:Foot,LF C n o τ η f∧K f:=⟨_,lf_clo ho hd hF hargs hc hfF hfr hr,k⟩
theorem clb {C:Cx}{n:Nat}{o:Oper}{τ:Nat→AV}{η:Nat→Ent}{f:FuncId}{os:Array Operand}{ats:Array TypeId}{r:AV}{xs ys:List AV}{K:Foot→Prop}(bs:List Nat)(ho:o.op=.call ⟨.value (.func f),os,ats⟩)(hargs:os.toList.map (evA τ)=xs)(hc:ACall C f ys r)(k:K ⟨r,[],bs⟩)
  (hd:InB n o.dst:=by exact bT0 rfl) (hb:BWL η (dropB η bs) xs ys:=by exact zb_0) (hr:scal r:=by repeat (first|exact trivial|exact scal0_eA _|exact scal_eA _|refine And.intro ?_ ?_)):∃ f:Foot,LF C n o τ η f∧K f:=⟨_,lf_callB bs ho hd hargs hb hc hr,k⟩
theorem clf {C:Cx}{n:Nat}{o:Oper}{τ:Nat→AV}{η:Nat→Ent}{f:FuncId}{os:Array Operand}{ats:Array TypeId}{r:AV}{xs ys:List AV}{K:Foot→Prop}(us:List (Nat×Ent))(ho:o.op=.call ⟨.value (.func f),os,ats⟩)(hargs:os.toList.map (evA τ)=xs)(hc:ACall C f ys r)(k:K ⟨r,us,[]⟩)
  (hus:allUs η us:=by repeat (first|exact trivial|refine And.intro rfl ?_)) (hul:ltUs n us:=by repeat (first|exact trivial|refine And.intro (bT0 rfl) ?_)) (hd:InB n o.dst:=by exact bT0 rfl) (hb:BWL η (dropB η (us.map (·.1))) xs ys:=by repeat (first|exact BWL.nil|exact bwll_nil|exact bw_c|exact BW.sl|exact BW.nil|exact bwll_same rfl FrI.h|refine BWL.cons ?_ ?_|refine bwll_cons ?_ ?_|(refine bw_own3 rfl rfl rfl FrI.h ?_ ?_ ?_)|exact BW.fr FrV.h|exact bw_fr2 rfl FrV.h|exact BW.fr (by assumption)|refine bw_agg ?_|refine bw_clo ?_|refine bw_ptr rfl rfl rfl ?_|(refine bw_own rfl rfl rfl ?_ FrI.h ?_ ?_)|assumption|omega|rfl|(rw[lM_,← lA_];assumption)|(refine bwll_same ?_ FrI.h;(simp[cGTask,cI,cF,cGOp,cGEffect,cN,cGCertificate,cB,cL_cB] <;> fail))|(rw[List.map_set];refine bwll_set (by first|rfl|omega|simp) ?_ ?_)|refine bwll_set (by first|rfl|omega|simp) ?_ ?_|(rw[List.map_replicate];refine bwll_rep ?_)|refine bwll_rep ?_|(rw[List.map_append];refine bwll_append ?_ ?_)|refine bwll_append ?_ ?_|(simp[cGTask,cI,cF,cGOp,cGEffect,cN,cGCertificate,cB,cL_cB,take_len_map] <;> fail)|(rw[List.drop_zero,tL_] <;> first|rfl|(simp[cGTask,cI,cF,cGOp,cGEffect,cN,cGCertificate,cB,cL_cB] <;> fail))|(simp;omega)|(simp only[lM_,lA_,List.drop_zero,lC_,lN_,Nat.zero_add,Nat.add_zero]at *;omega))) (hr:fr1 r:=by repeat (first|exact trivial|exact fr1_eA _|exact fr0_eA _|exact fr1_fr (by assumption)|exact FrV.h|exact fr0_fr FrV.h|exact fr1_fr FrV.h|refine And.intro ?_ ?_)):∃ f:Foot,LF C n o τ η f∧K f:=⟨_,lf_callF us (allUs_at hus) (ltUs_at hul) ho hd hargs hb hc hr,k⟩
theorem clg {C:Cx}{n:Nat}{o:Oper}{τ:Nat→AV}{η:Nat→Ent}{f:FuncId}{os:Array Operand}{ats:Array TypeId}{r:AV}{xs ys:List AV}{bs bs':List (Nat×Blk)}{ks:List Nat}{K:Foot→Prop}(ρ:List (Nat×Nat))(fz:List Nat)(go nb:List (Nat×Ent))(r':AV)(ho:o.op=.call ⟨.value (.func f),os,ats⟩)(hargs:os.toList.map (evA τ)=xs)
  (hc:ACallG C f ys bs ks r bs') (k:K ⟨r',go++nb,[]⟩) (hd:InB n o.dst:=by exact bT0 rfl) (hok:okC ρ fz bs ks bs' (idsE go)=true:=by rfl) (hgo:allUs η go:=by repeat (first|exact trivial|refine And.intro rfl ?_)) (hgl:ltUs n go:=by repeat (first|exact trivial|refine And.intro (bT0 rfl) ?_))
  (hw:GWL η (fE bs) (lk ρ) (fun i=>inB fz i=true) (fun i=>inB (keys bs) i=true) xs ys:=by exact zg_0) (hb:GBL η (fE bs) (lk ρ) (fun i=>inB fz i=true) (fun i=>inB (keys bs) i=true) bs:=by exact zg_0)
  (hr:GW (fE bs') (updAll η (go++nb)) (lk (backN ρ bs')) (fun _=>False) (fun i=>inB (idsE nb) i=true) r r':=by exact zg_0)
  (hnb:nbOk n η (updAll η (go++nb)) ρ ks (fE bs') (lk (backN ρ bs')) (fun i=>inB (idsE nb) i=true) bs' nb:=by repeat (first|exact True.intro|rfl|exact bT0 rfl|exact gb_nil rfl rfl|refine gb_some ⟨rfl,rfl,rfl⟩ ?_|refine And.intro ?_ ?_|refine gw_ren rfl rfl rfl rfl rfl ?_|exact gw_oren rfl rfl rfl rfl rfl|exact gw_opren rfl rfl rfl rfl rfl|exact gw_onil rfl rfl|exact gw_mren rfl rfl rfl rfl|refine gw_pren rfl rfl rfl rfl rfl|exact gw_thaw rfl rfl rfl|refine gw_tup ?_|exact GWL.nil|exact gwll_nil|exact gw_c|exact GW.sl|exact GW.nil|exact gwll_same rfl FrI.h|refine GWL.cons ?_ ?_|refine gwll_cons ?_ ?_|(refine gw_own3 rfl rfl rfl FrI.h ?_ ?_ ?_)|exact GW.fr FrV.h|exact gw_fr2 rfl FrV.h|exact GW.fr (by assumption)|refine gw_agg ?_|refine gw_clo ?_|refine gw_ptr rfl rfl rfl ?_|(refine gw_own rfl rfl rfl ?_ FrI.h ?_ ?_)|assumption|omega|rfl|(rw[lM_,← lA_];assumption)|(refine gwll_same ?_ FrI.h;(simp[cGCause,cGTable,cGTask,cI,cF,cGOp,cGEffect,cB,cL_cB,cL_cF] <;> fail))|(rw[List.map_set];refine gwll_set (by first|rfl|omega|simp) ?_ ?_)|refine gwll_set (by first|rfl|omega|simp) ?_ ?_|(rw[List.map_replicate];refine gwll_rep ?_)|refine gwll_rep ?_|(rw[List.map_append];refine gwll_append ?_ ?_)|refine gwll_append ?_ ?_|(simp[cGCause,cGTable,cGTask,cI,cF,cGOp,cGEffect,cB,cL_cB,cL_cF,take_len_map] <;> fail)|(rw[List.drop_zero,tL_] <;> first|rfl|(simp[cGCause,cGTable,cGTask,cI,cF,cGOp,cGEffect,cB,cL_cB,cL_cF] <;> fail))|(simp;omega)|(simp only[lM_,lA_,List.drop_zero,lC_,lN_,Nat.zero_add,Nat.add_zero]at *;omega))):∃ f:Foot,LF C n o τ η f∧K f:=⟨_,lf_callG ρ fz go nb ho hd hargs hc hok hgo hgl hw hb hr hnb,k⟩
def M_task_conditions_L1 (y57:GOp):Nat→Int→(List (List Fact))→Option (List (List Fact))|0,_,_=>none|k64+1,v62,v63=>sel (decide (v62<((y57.Effs.map cGEffect).length:Int))) (ix y57.Effs v62 (fun y65=>grd ((v63.length+1)*24≤140737488355328) (M_task_conditions_L1 y57 k64 (IntKind.i64.wrap (v62+1)) (v63++[y65.When])))) (some v63)
def M_task_conditions_L2 (a0:GTask):Nat→Int→(List (List Fact))→Option (List (List Fact))|0,_,_=>none|k45+1,v43,v44=>sel (decide (v43<((a0.Ops.map cGOp).length:Int))) (ob1 (ix a0.Ops v43 (fun y57=>grd ((v44.length+1)*24≤140737488355328) (M_task_conditions_L1 y57 ((((y57.Effs.map cGEffect).length:Int)).toNat+1) 0 (v44++[y57.Pre]))):Option (List (List Fact))) (fun v55=>M_task_conditions_L2 a0 k45 (IntKind.i64.wrap (v43+1)) v55)) (grd (v44.length≤140737488355328) (some v44))
def M_task_conditions (a0:GTask):Option (List (List Fact)):=M_task_conditions_L2 a0 ((((a0.Ops.map cGOp).length:Int)).toNat+1) 0 [a0.Goal]
theorem A_task_conditions (a0:GTask){r1:List (List Fact)}(h:M_task_conditions a0=some r1):ACall cx 68 [.agg [.sl 1 (a0.Vars.map cI),.sl 1 (a0.Init.map cI),.sl 2 (a0.Goal.map cF),.sl 4 (a0.Ops.map cGOp)]] (.sl 1 (r1.map cL_cF)):=by
 refine aOf Tryz.func68 rfl (by decide) rfl (bT0 rfl) ?_;intro _;unfold M_task_conditions at h;refine aSR ?_;intro _;refine dr (aSR ?_);intro _;refine dr (aSq (aSR ?_));intro _;refine dr (aBk ?_);refine awp_loop (α:=Nat×Int×(List (List Fact))) (fun x=>mkS 38 [(3,.own 10 0 0 x.2.2.length),(12,.sl 4 (a0.Ops.map cGOp)),(13,.c (.int .i64 ((a0.Ops.map cGOp).length:Int))),(14,.c (.int .i64 x.2.1))] [(10,⟨23,1,false,x.2.2.map cL_cF⟩)]) (fun x=>M_task_conditions_L2 a0 x.1 x.2.1 x.2.2=some r1) (fun x=>x.1) ((((a0.Ops.map cGOp).length:Int)).toNat+1,0,[a0.Goal]) h ?_ ?_
 ·exact ca_0
 ·intro x1 h;intro _;obtain⟨k45,m2,h⟩:=succ_of (f:=fun n=>M_task_conditions_L2 a0 n x1.2.1 x1.2.2) rfl h;replace h:M_task_conditions_L2 a0 (k45+1) x1.2.1 x1.2.2=some r1:=h;rw[M_task_conditions_L2]at h;refine aSR ?_;intro _;refine dr (aSq (aCd ?_));intro _;refine spl h (fun c3 h=>?_) (fun c3 h=>?_)
  ·refine aSk ?_;obtain⟨o4,h,hK5⟩:=ob1_ok h;refine awp_cut (α:=List (List Fact)) (fun v55=>mkS 38 [(3,.own 10 0 0 v55.length),(12,.sl 4 (a0.Ops.map cGOp)),(13,.c (.int .i64 ((a0.Ops.map cGOp).length:Int))),(14,.c (.int .i64 x1.2.1))] [(10,⟨23,1,false,v55.map cL_cF⟩)]) (fun v=>o4=v) ?_ ?_
   ·refine aBk (aSR ?_);intro _;obtain⟨y57,w6,q7,h⟩:=ix_ok h;refine Exists.intro (cGOp y57) (And.intro (map_at' w6) ?_);intro _;refine pr (dr (aSR ?_));intro _;obtain⟨q8,h⟩:=grd_ok h;refine pl (pl ?_);refine And.intro (by first|with_reducible assumption|(show(x1.2.2.length+1)*24≤140737488355328;with_reducible assumption)|omega|(simp;omega)) ?_;refine pe (dr (aSR ?_));intro _;refine dr (aBk ?_);refine awp_loop (α:=Nat×Int×(List (List Fact))) (fun x=>mkS 38 [(3,.own 10 0 0 x.2.2.length),(12,.sl 4 (a0.Ops.map cGOp)),(13,.c (.int .i64 ((a0.Ops.map cGOp).length:Int))),(14,.c (.int .i64 x1.2.1)),(24,.sl 3 (y57.Effs.map cGEffect)),(25,.c (.int .i64 ((y57.Effs.map cGEffect).length:Int))),(26,.c (.int .i64 x.2.1))] [(10,⟨23,1,false,x.2.2.map cL_cF⟩)]) (fun x=>M_task_conditions_L1 y57 x.1 x.2.1 x.2.2=some o4) (fun x=>x.1) ((((y57.Effs.map cGEffect).length:Int)).toNat+1,0,(x1.2.2++[y57.Pre])) h ?_ ?_
    ·exact ca_0
    ·intro x9 h;intro _;obtain⟨k64,m10,h⟩:=succ_of (f:=fun n=>M_task_conditions_L1 y57 n x9.2.1 x9.2.2) rfl h;replace h:M_task_conditions_L1 y57 (k64+1) x9.2.1 x9.2.2=some o4:=h;rw[M_task_conditions_L1]at h;refine aSR ?_;intro _;refine dr (aSq (aCd ?_));intro _;refine spl h (fun c11 h=>?_) (fun c11 h=>?_)
     ·refine aSk (aSq (aBk (aSR ?_)));intro _;obtain⟨y65,w12,q13,h⟩:=ix_ok h;refine Exists.intro (cGEffect y65) (And.intro (map_at' w12) ?_);intro _;refine pr (dr (aRg ?_));intro _;obtain⟨q14,h⟩:=grd_ok h;refine pl (pl ?_);refine And.intro (by first|with_reducible assumption|(show(x9.2.2.length+1)*24≤140737488355328;with_reducible assumption)|omega|(simp;omega)) ?_;refine pe (dr (aRg ?_));intro _;refine dr ?_;refine⟨(k64,(IntKind.i64.wrap (x9.2.1+1)),(x9.2.2++[y65.When])),h,ltS m10,?_⟩;exact ca_0
     ·refine aEx ?_;refine⟨x9.2.2,(sI_ h).symm,?_⟩;exact ca_0
   ·rintro v55 ho;have ho:=ho.symm;subst ho;intro _;replace h:=hK5;refine aRg ?_;intro _;refine dr ?_;refine⟨(k45,(IntKind.i64.wrap (x1.2.1+1)),v55),h,ltS m2,?_⟩;exact ca_0
  ·refine aEx (aSR ?_);intro _;refine dr (aRt ?_);obtain⟨q15,h⟩:=grd_ok h;intro _;obtain rfl:=inj1 h;exact ca_0
def M_s_IndexFunc_Fact_L1 (a0:List (List Fact))(a1:(List Fact)→Option Bool):Nat→Int→Option (Int)|0,_=>none|k7+1,v6=>sel (decide (v6<((a0.map cL_cF).length:Int))) (ix a0 v6 (fun y8=>ob1 (a1 y8) (fun z9=>sel z9 (some v6) (M_s_IndexFunc_Fact_L1 a0 a1 k7 (IntKind.i64.wrap (v6+1)))))) (some (-1))
def M_s_IndexFunc_Fact (a0:List (List Fact))(a1:(List Fact)→Option Bool):Option (Int):=M_s_IndexFunc_Fact_L1 a0 a1 ((((a0.map cL_cF).length:Int)).toNat+1) 0
theorem A_s_IndexFunc_Fact (a0:List (List Fact))(a1:(List Fact)→Option Bool)(Fa1:AV)(hFa1:Fr Fa1)(ea1:∃ f fs cap,Fa1=.clo (.func f) fs cap)(ha1:∀ (x0:List Fact)(y0:Bool),a1 x0=some y0→CCl cx Fa1 [.sl 2 (x0.map cF)] (.c (.bool y0))){r1:Int}(h:M_s_IndexFunc_Fact a0 a1=some r1):ACall cx 95 [.sl 1 (a0.map cL_cF),Fa1] (.c (.int .i64 r1)):=by
 obtain⟨fa1,sa1,qa1,rfl⟩:=ea1;refine aOf Tryz.func95 rfl (by decide) rfl (bT0 rfl) ?_;intro _;unfold M_s_IndexFunc_Fact at h;refine aSR ?_;intro _;refine dr (aSq (aSR ?_));intro _;refine dr (aBk ?_);refine awp_loop (α:=Nat×Int) (fun x=>mkS 19 [(0,.sl 1 (a0.map cL_cF)),(1,.clo (.func fa1) sa1 qa1),(7,.c (.int .i64 ((a0.map cL_cF).length:Int))),(8,.c (.int .i64 x.2))] []) (fun x=>M_s_IndexFunc_Fact_L1 a0 a1 x.1 x.2=some r1) (fun x=>x.1) ((((a0.map cL_cF).length:Int)).toNat+1,0) h ?_ ?_
 ·exact ca_0
 ·intro x1 h;intro _;obtain⟨k7,m2,h⟩:=succ_of (f:=fun n=>M_s_IndexFunc_Fact_L1 a0 a1 n x1.2) rfl h;replace h:M_s_IndexFunc_Fact_L1 a0 a1 (k7+1) x1.2=some r1:=h;rw[M_s_IndexFunc_Fact_L1]at h;refine aSR ?_;intro _;refine dr (aSq (aCd ?_));intro _;refine spl h (fun c3 h=>?_) (fun c3 h=>?_)
  ·refine aSk (aSq (aBk (aSR ?_)));intro _;refine dr (aSR ?_);intro _;obtain⟨y8,w4,q5,h⟩:=ix_ok h;refine Exists.intro (cL_cF y8) (And.intro (map_at' w4) ?_);intro _;obtain⟨z9,u6,h⟩:=ob1_ok h;refine clc rfl (ha1 _ _ u6) hFa1 ?_;intro _;refine pr (dr (aCd ?_));intro _;refine spl h (fun c7 h=>?_) (fun c7 h=>?_)
   ·refine aSR ?_;intro _;refine dr (aRt ?_);intro _;obtain rfl:=inj1 h;exact ca_0
   ·refine aSk (aRg ?_);intro _;refine dr ?_;refine⟨(k7,(IntKind.i64.wrap (x1.2+1))),h,ltS m2,?_⟩;exact ca_0
  ·refine aEx (aSR ?_);intro _;refine dr (aRt ?_);intro _;obtain rfl:=inj1 h;exact ca_0
def M_s_ContainsFunc_Fact (a0:List (List Fact))(a1:(List Fact)→Option Bool):Option (Bool):=ob1 (M_s_IndexFunc_Fact a0 a1) (fun z1=>some (decide (z1≥0)))
theorem A_s_ContainsFunc_Fact (a0:List (List Fact))(a1:(List Fact)→Option Bool)(Fa1:AV)(hFa1:Fr Fa1)(ea1:∃ f fs cap,Fa1=.clo (.func f) fs cap)(ha1:∀ (x0:List Fact)(y0:Bool),a1 x0=some y0→CCl cx Fa1 [.sl 2 (x0.map cF)] (.c (.bool y0))){r1:Bool}(h:M_s_ContainsFunc_Fact a0 a1=some r1):ACall cx 77 [.sl 1 (a0.map cL_cF),Fa1] (.c (.bool r1)):=by
 obtain⟨fa1,sa1,qa1,rfl⟩:=ea1;refine aOf Tryz.func77 rfl (by decide) rfl (bT0 rfl) ?_;intro _;unfold M_s_ContainsFunc_Fact at h;refine aSR ?_;intro _;refine dr (aSR ?_);intro _;obtain⟨z1,u1,h⟩:=ob1_ok h;refine cl rfl (A_s_IndexFunc_Fact a0 a1 (.clo (.func fa1) sa1 qa1) hFa1 ⟨_,_,_,rfl⟩ ha1 u1) ?_;intro _;refine dr (aRt ?_);intro _;obtain rfl:=inj1 h;exact ca_0
def M_task_large_1 (a0:List Fact):Option (Bool):=some (decide (((a0.map cF).length:Int)>64))
theorem A_task_large_1 (a0:List Fact){r1:Bool}(h:M_task_large_1 a0=some r1):ACall cx 86 [.sl 2 (a0.map cF)] (.c (.bool r1)):=by
 refine aOf Tryz.func86 rfl (by decide) rfl (bT0 rfl) ?_;intro _;unfold M_task_large_1 at h;refine aSR ?_;intro _;refine dr (aSR ?_);intro _;refine dr (aRt ?_);intro _;obtain rfl:=inj1 h;exact ca_0
def M_task_large_L1 (a0:GTask):Nat→Int→Option (Bool)|0,_=>none|k7+1,v6=>sel (decide (v6<((a0.Ops.map cGOp).length:Int))) (ix a0.Ops v6 (fun y8=>sel (decide (((y8.Effs.map cGEffect).length:Int)>64)) (some true) (M_task_large_L1 a0 k7 (IntKind.i64.wrap (v6+1))))) (ob1 (M_task_conditions a0) (fun z9=>ob1 (M_s_ContainsFunc_Fact z9 M_task_large_1) (fun z10=>some z10)))
def M_task_large (a0:GTask):Option (Bool):=ob1 (sel (decide (((a0.Vars.map cI).length:Int)>64)) (some (.inr true)) (sel (decide (((a0.Ops.map cGOp).length:Int)>4096)) (some (.inr true)) (some (.inl ()))):Option (Unit⊕Bool)) (osum (fun _=>M_task_large_L1 a0 ((((a0.Ops.map cGOp).length:Int)).toNat+1) 0) (fun r1=>some r1))
theorem A_task_large (a0:GTask){r1:Bool}(h:M_task_large a0=some r1):ACall cx 67 [.agg [.sl 1 (a0.Vars.map cI),.sl 1 (a0.Init.map cI),.sl 2 (a0.Goal.map cF),.sl 4 (a0.Ops.map cGOp)]] (.c (.bool r1)):=by
 refine aOf Tryz.func67 rfl (by decide) rfl (bT0 rfl) ?_;intro _;unfold M_task_large at h;refine aSR ?_;intro _;refine dr ?_;obtain⟨o1,h,hK2⟩:=ob1_ok h;refine awp_cut (α:=Unit) (fun _=>mkS 30 [(1,.ptr 1 0 0 0)] [(1,⟨26,4,true,[[.sl 1 (a0.Vars.map cI),.sl 1 (a0.Init.map cI),.sl 2 (a0.Goal.map cF),.sl 4 (a0.Ops.map cGOp)]]⟩)]) (fun v=>o1=(.inl v)) ?_ ?_
 ·refine aSR ?_;intro _;refine spf h (fun c3 h=>?_) (fun c3 h=>?_)
  ·intro _;refine dr (aCd ?_);intro _;refine spl h (fun c4 h=>?_) (fun c4 h=>?_)
   ·refine aSR ?_;intro _;refine dr (aRt ?_);have j5:=sI_ h;subst j5;replace h:=(osum_r hK2);intro _;obtain rfl:=inj1 h;exact ca_0
   ·refine aSk ?_;refine⟨(),(sI_ h).symm,?_⟩;exact ca_0
  ·intro _;refine dr (aCd ?_);intro _;refine litT (aSR ?_);intro _;refine dr (aRt ?_);have j6:=sI_ h;subst j6;replace h:=(osum_r hK2);intro _;obtain rfl:=inj1 h;exact ca_0
 ·rintro _ ho;have ho:=ho.symm;subst ho;intro _;replace h:=(osum_l hK2);refine aSq (aSR ?_);intro _;refine dr (aBk ?_);refine awp_loop (α:=Nat×Int) (fun x=>mkS 30 [(1,.ptr 1 0 0 0),(16,.sl 4 (a0.Ops.map cGOp)),(17,.c (.int .i64 ((a0.Ops.map cGOp).length:Int))),(18,.c (.int .i64 x.2))] [(1,⟨26,4,true,[[.sl 1 (a0.Vars.map cI),.sl 1 (a0.Init.map cI),.sl 2 (a0.Goal.map cF),.sl 4 (a0.Ops.map cGOp)]]⟩)]) (fun x=>M_task_large_L1 a0 x.1 x.2=some r1) (fun x=>x.1) ((((a0.Ops.map cGOp).length:Int)).toNat+1,0) h ?_ ?_
  ·exact ca_0
  ·intro x7 h;intro _;obtain⟨k7,m8,h⟩:=succ_of (f:=fun n=>M_task_large_L1 a0 n x7.2) rfl h;replace h:M_task_large_L1 a0 (k7+1) x7.2=some r1:=h;rw[M_task_large_L1]at h;refine aSR ?_;intro _;refine dr (aSq (aCd ?_));intro _;refine spl h (fun c9 h=>?_) (fun c9 h=>?_)
   ·refine aSk (aSq (aBk (aSR ?_)));intro _;obtain⟨y8,w10,q11,h⟩:=ix_ok h;refine Exists.intro (cGOp y8) (And.intro (map_at' w10) ?_);intro _;refine pr (dr (aSR ?_));intro _;refine dr (aCd ?_);intro _;refine spl h (fun c12 h=>?_) (fun c12 h=>?_)
    ·refine aSR ?_;intro _;refine dr (aRt ?_);intro _;obtain rfl:=inj1 h;exact ca_0
    ·refine aSk (aRg ?_);intro _;refine dr ?_;refine⟨(k7,(IntKind.i64.wrap (x7.2+1))),h,ltS m8,?_⟩;exact ca_0
   ·refine aEx (aSR ?_);intro _;obtain⟨z9,u13,h⟩:=ob1_ok h;refine cl rfl (A_task_conditions a0 u13) ?_;intro _;obtain⟨z10,u14,h⟩:=ob1_ok h;refine clb [] rfl rfl (A_s_ContainsFunc_Fact z9 M_task_large_1 (.clo (.func 86) [] []) (Fr.clo FrC_nil FrE.h) ⟨_,_,_,rfl⟩ (fun x0 y0 hx=>⟨86,[],_,rfl,A_task_large_1 x0 hx⟩) u14) ?_;intro _;refine dr (aRt ?_);intro _;obtain rfl:=inj1 h;exact ca_0
def M_task_Proper_L1 (a0:List Int)(a1:List Int):Nat→Int→Option (Bool)|0,_=>none|k7+1,v6=>sel (decide (v6<((a1.map cI).length:Int))) (ix a1 v6 (fun y8=>sel (decide (y8<0)) (some false) (ix a0 v6 (fun y9=>sel (decide (y8≥y9)) (some false) (M_task_Proper_L1 a0 a1 k7 (IntKind.i64.wrap (v6+1))))))) (some true)
def M_task_Proper (a0:List Int)(a1:List Int):Option (Bool):=sel (((a1.map cI).length:Int) != ((a0.map cI).length:Int)) (some false) (M_task_Proper_L1 a0 a1 ((((a1.map cI).length:Int)).toNat+1) 0)
theorem A_task_Proper (a0:List Int)(a1:List Int){r1:Bool}(h:M_task_Proper a0 a1=some r1):ACall cx 55 [.sl 1 (a0.map cI),.sl 1 (a1.map cI)] (.c (.bool r1)):=by
 refine aOf Tryz.func55 rfl (by decide) rfl (bT0 rfl) ?_;intro _;unfold M_task_Proper at h;refine aSR ?_;intro _;refine dr (aSq (aSR ?_));intro _;refine dr (aCd ?_);intro _;refine spl h (fun c1 h=>?_) (fun c1 h=>?_)
 ·refine aSR ?_;intro _;refine dr (aRt ?_);intro _;obtain rfl:=inj1 h;exact ca_0
 ·refine aSk (aSq (aSR ?_));intro _;refine dr (aBk ?_);refine awp_loop (α:=Nat×Int) (fun x=>mkS 30 [(0,.sl 1 (a0.map cI)),(12,.sl 1 (a1.map cI)),(13,.c (.int .i64 ((a1.map cI).length:Int))),(14,.c (.int .i64 x.2))] []) (fun x=>M_task_Proper_L1 a0 a1 x.1 x.2=some r1) (fun x=>x.1) ((((a1.map cI).length:Int)).toNat+1,0) h ?_ ?_
  ·exact ca_0
  ·intro x2 h;intro _;obtain⟨k7,m3,h⟩:=succ_of (f:=fun n=>M_task_Proper_L1 a0 a1 n x2.2) rfl h;replace h:M_task_Proper_L1 a0 a1 (k7+1) x2.2=some r1:=h;rw[M_task_Proper_L1]at h;refine aSR ?_;intro _;refine dr (aSq (aCd ?_));intro _;refine spl h (fun c4 h=>?_) (fun c4 h=>?_)
   ·refine aSk (aSq (aBk (aSR ?_)));intro _;obtain⟨y8,w5,q6,h⟩:=ix_ok h;refine Exists.intro (cI y8) (And.intro (map_at' w5) ?_);intro _;refine pr (dr (aSR ?_));intro _;refine spf h (fun c7 h=>?_) (fun c7 h=>?_)
    ·intro _;obtain⟨y9,w8,q9,h⟩:=ix_ok h;refine Exists.intro (cI y9) (And.intro (map_at' w8) ?_);intro _;refine pr (dr (aCd ?_));intro _;refine spl h (fun c10 h=>?_) (fun c10 h=>?_)
     ·refine aSR ?_;intro _;refine dr (aRt ?_);intro _;obtain rfl:=inj1 h;exact ca_0
     ·refine aSk (aRg ?_);intro _;refine dr ?_;refine⟨(k7,(IntKind.i64.wrap (x2.2+1))),h,ltS m3,?_⟩;exact ca_0
    ·intro _;refine dr (aCd ?_);intro _;refine litT (aSR ?_);intro _;refine dr (aRt ?_);intro _;obtain rfl:=inj1 h;exact ca_0
   ·refine aEx (aSR ?_);intro _;refine dr (aRt ?_);intro _;obtain rfl:=inj1 h;exact ca_0
def M_task_Facts_L1 (a0:List Int)(a1:List Fact):Nat→Int→Int→Option (Bool)|0,_,_=>none|k9+1,v7,v8=>sel (decide (v8<((a1.map cF).length:Int))) (ix a1 v8 (fun y10=>sel (decide (y10.1≤v7)) (some false) (sel (decide (y10.1≥((a0.map cI).length:Int))) (some false) (sel (decide (y10.2<0)) (some false) (ix a0 y10.1 (fun y11=>sel (decide (y10.2≥y11)) (some false) (M_task_Facts_L1 a0 a1 k9 y10.1 (IntKind.i64.wrap (v8+1))))))))) (some true)
def M_task_Facts (a0:List Int)(a1:List Fact):Option (Bool):=M_task_Facts_L1 a0 a1 ((((a1.map cF).length:Int)).toNat+1) (-1) 0
theorem A_task_Facts (a0:List Int)(a1:List Fact){r1:Bool}(h:M_task_Facts a0 a1=some r1):ACall cx 69 [.sl 1 (a0.map cI),.sl 2 (a1.map cF)] (.c (.bool r1)):=by
 refine aOf Tryz.func69 rfl (by decide) rfl (bT0 rfl) ?_;intro _;unfold M_task_Facts at h;refine aSR ?_;intro _;refine dr (aSR ?_);intro _;refine dr (aSq (aSR ?_));intro _;refine dr (aBk ?_);refine awp_loop (α:=Nat×Int×Int) (fun x=>mkS 43 [(0,.sl 1 (a0.map cI)),(5,.c (.int .i64 x.2.1)),(8,.sl 2 (a1.map cF)),(9,.c (.int .i64 ((a1.map cF).length:Int))),(10,.c (.int .i64 x.2.2))] []) (fun x=>M_task_Facts_L1 a0 a1 x.1 x.2.1 x.2.2=some r1) (fun x=>x.1) ((((a1.map cF).length:Int)).toNat+1,(-1),0) h ?_ ?_
 ·exact ca_0
 ·intro x1 h;intro _;obtain⟨k9,m2,h⟩:=succ_of (f:=fun n=>M_task_Facts_L1 a0 a1 n x1.2.1 x1.2.2) rfl h;replace h:M_task_Facts_L1 a0 a1 (k9+1) x1.2.1 x1.2.2=some r1:=h;rw[M_task_Facts_L1]at h;refine aSR ?_;intro _;refine dr (aSq (aCd ?_));intro _;refine spl h (fun c3 h=>?_) (fun c3 h=>?_)
  ·refine aSk (aSq (aBk (aSR ?_)));intro _;obtain⟨y10,w4,q5,h⟩:=ix_ok h;refine Exists.intro (cF y10) (And.intro (map_at' w4) ?_);intro _;refine pr (dr (aSq (aSR ?_)));intro _;refine spf h (fun c6 h=>?_) (fun c6 h=>?_)
   ·intro _;refine spf h (fun c7 h=>?_) (fun c7 h=>?_)
    ·intro _;refine spf h (fun c8 h=>?_) (fun c8 h=>?_)
     ·intro _;obtain⟨y11,w9,q10,h⟩:=ix_ok h;refine Exists.intro (cI y11) (And.intro (map_at' w9) ?_);intro _;refine pr (dr (aCd ?_));intro _;refine spl h (fun c11 h=>?_) (fun c11 h=>?_)
      ·refine aSR ?_;intro _;refine dr (aRt ?_);intro _;obtain rfl:=inj1 h;exact ca_0
      ·refine aSk (aRg ?_);intro _;refine dr (aRg ?_);intro _;refine dr ?_;refine⟨(k9,y10.1,(IntKind.i64.wrap (x1.2.2+1))),h,ltS m2,?_⟩;exact ca_0
     ·intro _;refine dr (aCd ?_);intro _;refine litT (aSR ?_);intro _;refine dr (aRt ?_);intro _;obtain rfl:=inj1 h;exact ca_0
    ·intro _;refine dr (aCd ?_);intro _;refine litT (aSR ?_);intro _;refine dr (aRt ?_);intro _;obtain rfl:=inj1 h;exact ca_0
   ·intro _;refine dr (aCd ?_);intro _;refine litT (aSR ?_);intro _;refine dr (aRt ?_);intro _;obtain rfl:=inj1 h;exact ca_0
  ·refine aEx (aSR ?_);intro _;refine dr (aRt ?_);intro _;obtain rfl:=inj1 h;exact ca_0
def M_task_named_L1 (a0:ByteArray):Nat→Int→Option (Bool)|0,_=>none|k3+1,v2=>sel (decide (v2<(a0.size:Int))) (sel (decide ((byt a0 v2)<32)) (grd (0≤v2) (grd (v2<(a0.size:Int)) (some false))) (grd (0≤v2) (grd (v2<(a0.size:Int)) (sel (decide ((byt a0 v2)>126)) (some false) (M_task_named_L1 a0 k3 (IntKind.i64.wrap (v2+1))))))) (some (decide ((a0.size:Int)≤256)))
def M_task_named (a0:ByteArray):Option (Bool):=M_task_named_L1 a0 (((a0.size:Int)).toNat+1) 0
theorem A_task_named (a0:ByteArray){r1:Bool}(h:M_task_named a0=some r1):ACall cx 70 [.c (.string a0)] (.c (.bool r1)):=by
 refine aOf Tryz.func70 rfl (by decide) rfl (bT0 rfl) ?_;intro _;unfold M_task_named at h;refine aSR ?_;intro _;refine dr (aSq (aSR ?_));intro _;refine dr (aBk ?_);refine awp_loop (α:=Nat×Int) (fun x=>mkS 23 [(0,.c (.string a0)),(5,.c (.int .i64 (a0.size:Int))),(6,.c (.int .i64 x.2))] []) (fun x=>M_task_named_L1 a0 x.1 x.2=some r1) (fun x=>x.1) (((a0.size:Int)).toNat+1,0) h ?_ ?_
 ·exact ca_0
 ·intro x1 h;intro _;obtain⟨k3,m2,h⟩:=succ_of (f:=fun n=>M_task_named_L1 a0 n x1.2) rfl h;replace h:M_task_named_L1 a0 (k3+1) x1.2=some r1:=h;rw[M_task_named_L1]at h;refine aSR ?_;intro _;refine dr (aSq (aCd ?_));intro _;refine spl h (fun c3 h=>?_) (fun c3 h=>?_)
  ·refine aSk (aSq (aBk (aSR ?_)));intro _;refine dr (aSR ?_);intro _;refine spf h (fun c4 h=>?_) (fun c4 h=>?_)
   ·intro _;obtain⟨q5,h⟩:=grd_ok h;obtain⟨q6,h⟩:=grd_ok h;refine pr (pr (pr (pr (dr (aCd ?_)))));intro _;refine spl h (fun c7 h=>?_) (fun c7 h=>?_)
    ·refine aSR ?_;intro _;refine dr (aRt ?_);intro _;obtain rfl:=inj1 h;exact ca_0
    ·refine aSk (aRg ?_);intro _;refine dr ?_;refine⟨(k3,(IntKind.i64.wrap (x1.2+1))),h,ltS m2,?_⟩;exact ca_0
   ·intro _;obtain⟨q8,h⟩:=grd_ok h;obtain⟨q9,h⟩:=grd_ok h;refine pr (pr (dr (aCd ?_)));intro _;refine litT (aSR ?_);intro _;refine dr (aRt ?_);intro _;obtain rfl:=inj1 h;exact ca_0
  ·refine aEx (aSR ?_);intro _;refine dr (aRt ?_);intro _;obtain rfl:=inj1 h;exact ca_0
def M_task_Check_L1 (a0:GTask):Nat→Int→Option (Unit⊕Er)|0,_=>none|k14+1,v13=>sel (decide (v13<((a0.Vars.map cI).length:Int))) (ix a0.Vars v13 (fun y15=>sel (decide (y15<1)) (some (.inr (Er.no 1))) (sel (decide (y15>64)) (some (.inr (Er.no 1))) (M_task_Check_L1 a0 k14 (IntKind.i64.wrap (v13+1)))))) (some (.inl ()))
def M_task_Check_L2 (a0:GTask):Nat→Int→Option (Unit⊕Er)|0,_=>none|k28+1,v27=>sel (decide (v27<((a0.Ops.map cGOp).length:Int))) (ix a0.Ops v27 (fun y29=>sel (decide (y29.Cost<0)) (some (.inr (Er.no 1))) (sel (decide (y29.Cost>1048576)) (some (.inr (Er.no 1))) (M_task_Check_L2 a0 k28 (IntKind.i64.wrap (v27+1)))))) (some (.inl ()))
def M_task_Check_L3 (a0:GTask)(z43:List (List Fact)):Nat→Int→Option (Unit⊕Er)|0,_=>none|k50+1,v49=>sel (decide (v49<((z43.map cL_cF).length:Int))) (ix z43 v49 (fun y51=>ob1 (M_task_Facts a0.Vars y51) (fun z52=>sel (!z52) (some (.inr (Er.no 2))) (M_task_Check_L3 a0 z43 k50 (IntKind.i64.wrap (v49+1)))))) (some (.inl ()))
def M_task_Check_L4 (a0:GTask)(y183:GOp):Nat→Int→Option (Unit⊕Er)|0,_=>none|k190+1,v189=>sel (decide (v189<((y183.Effs.map cGEffect).length:Int))) (ix y183.Effs v189 (fun y191=>ob1 (M_task_Facts a0.Vars [(y191.Var,y191.Val)]) (fun z192=>sel (!z192) (some (.inr (Er.no 2))) (M_task_Check_L4 a0 y183 k190 (IntKind.i64.wrap (v189+1)))))) (some (.inl ()))
def M_task_Check_L5 (a0:GTask):Nat→Int→Option (Unit⊕Er)|0,_=>none|k170+1,v169=>sel (decide (v169<((a0.Ops.map cGOp).length:Int))) (ob1 (ix a0.Ops v169 (fun y183=>M_task_Check_L4 a0 y183 ((((y183.Effs.map cGEffect).length:Int)).toNat+1) 0):Option (Unit⊕Er)) (osum (fun _=>M_task_Check_L5 a0 k170 (IntKind.i64.wrap (v169+1))) (fun r181=>some (.inr r181)))) (some (.inl ()))
def M_task_Check_L6 (a0:GTask):Nat→Int→Option (Er)|0,_=>none|k199+1,v198=>sel (decide (v198<((a0.Ops.map cGOp).length:Int))) (ix a0.Ops v198 (fun y200=>ob1 (M_task_named y200.Name) (fun z201=>sel (!z201) (some (Er.no 8)) (M_task_Check_L6 a0 k199 (IntKind.i64.wrap (v198+1)))))) (some Er.nil)
def M_task_Check (a0:GTask):Option (Er):=ob1 (M_task_large a0) (fun z1=>sel z1 (some (Er.no 5)) (ob1 (M_task_Check_L1 a0 ((((a0.Vars.map cI).length:Int)).toNat+1) 0:Option (Unit⊕Er)) (osum (fun _=>ob1 (M_task_Check_L2 a0 ((((a0.Ops.map cGOp).length:Int)).toNat+1) 0:Option (Unit⊕Er)) (osum (fun _=>ob1 (M_task_Proper a0.Vars a0.Init) (fun z30=>sel (!z30) (some (Er.no 2)) (ob1 (ob1 (M_task_conditions a0) (fun z43=>M_task_Check_L3 a0 z43 ((((z43.map cL_cF).length:Int)).toNat+1) 0):Option (Unit⊕Er)) (osum (fun _=>ob1 (M_task_Check_L5 a0 ((((a0.Ops.map cGOp).length:Int)).toNat+1) 0:Option (Unit⊕Er)) (osum (fun _=>M_task_Check_L6 a0 ((((a0.Ops.map cGOp).length:Int)).toNat+1) 0) (fun r122=>some r122))) (fun r41=>some r41))))) (fun r22=>some r22))) (fun r8=>some r8))))
theorem A_task_Check (a0:GTask){r1:Er}(h:M_task_Check a0=some r1):ACall cx 40 [.agg [.sl 1 (a0.Vars.map cI),.sl 1 (a0.Init.map cI),.sl 2 (a0.Goal.map cF),.sl 4 (a0.Ops.map cGOp)]] (eA r1):=by
 refine aOf Tryz.func40 rfl (by decide) rfl (bT0 rfl) ?_;intro _;unfold M_task_Check at h;refine aSR ?_;intro _;refine dr (aSq (aSR ?_));intro _;obtain⟨z1,u1,h⟩:=ob1_ok h;refine cl rfl (A_task_large a0 u1) ?_;intro _;refine dr (aCd ?_);intro _;refine spl h (fun c2 h=>?_) (fun c2 h=>?_)
 ·refine aSR ?_;intro _;refine dr (aRt ?_);intro _;obtain rfl:=inj1 h;exact ca_0
 ·refine aSk ?_;obtain⟨o3,h,hK4⟩:=ob1_ok h;refine awp_cut (α:=Unit) (fun _=>mkS 111 [(1,.ptr 1 0 0 0)] [(1,⟨26,4,true,[[.sl 1 (a0.Vars.map cI),.sl 1 (a0.Init.map cI),.sl 2 (a0.Goal.map cF),.sl 4 (a0.Ops.map cGOp)]]⟩)]) (fun v=>o3=(.inl v)) ?_ ?_
  ·refine aSR ?_;intro _;refine dr (aBk ?_);refine awp_loop (α:=Nat×Int) (fun x=>mkS 111 [(1,.ptr 1 0 0 0),(19,.sl 1 (a0.Vars.map cI)),(20,.c (.int .i64 ((a0.Vars.map cI).length:Int))),(21,.c (.int .i64 x.2))] [(1,⟨26,4,true,[[.sl 1 (a0.Vars.map cI),.sl 1 (a0.Init.map cI),.sl 2 (a0.Goal.map cF),.sl 4 (a0.Ops.map cGOp)]]⟩)]) (fun x=>M_task_Check_L1 a0 x.1 x.2=some o3) (fun x=>x.1) ((((a0.Vars.map cI).length:Int)).toNat+1,0) h ?_ ?_
   ·exact ca_0
   ·intro x5 h;intro _;obtain⟨k14,m6,h⟩:=succ_of (f:=fun n=>M_task_Check_L1 a0 n x5.2) rfl h;replace h:M_task_Check_L1 a0 (k14+1) x5.2=some o3:=h;rw[M_task_Check_L1]at h;refine aSR ?_;intro _;refine dr (aSq (aCd ?_));intro _;refine spl h (fun c7 h=>?_) (fun c7 h=>?_)
    ·refine aSk (aSq (aBk (aSR ?_)));intro _;obtain⟨y15,w8,q9,h⟩:=ix_ok h;refine Exists.intro (cI y15) (And.intro (map_at' w8) ?_);intro _;refine pr (dr (aSR ?_));intro _;refine spf h (fun c10 h=>?_) (fun c10 h=>?_)
     ·intro _;refine dr (aCd ?_);intro _;refine spl h (fun c11 h=>?_) (fun c11 h=>?_)
      ·refine aSR ?_;intro _;refine dr (aRt ?_);have j12:=sI_ h;subst j12;replace h:=(osum_r hK4);intro _;obtain rfl:=inj1 h;exact ca_0
      ·refine aSk (aRg ?_);intro _;refine dr ?_;refine⟨(k14,(IntKind.i64.wrap (x5.2+1))),h,ltS m6,?_⟩;exact ca_0
     ·intro _;refine dr (aCd ?_);intro _;refine litT (aSR ?_);intro _;refine dr (aRt ?_);have j13:=sI_ h;subst j13;replace h:=(osum_r hK4);intro _;obtain rfl:=inj1 h;exact ca_0
    ·refine aEx ?_;refine⟨(),(sI_ h).symm,?_⟩;exact ca_0
  ·rintro _ ho;have ho:=ho.symm;subst ho;intro _;replace h:=(osum_l hK4);obtain⟨o14,h,hK15⟩:=ob1_ok h;refine awp_cut (α:=Unit) (fun _=>mkS 111 [(1,.ptr 1 0 0 0)] [(1,⟨26,4,true,[[.sl 1 (a0.Vars.map cI),.sl 1 (a0.Init.map cI),.sl 2 (a0.Goal.map cF),.sl 4 (a0.Ops.map cGOp)]]⟩)]) (fun v=>o14=(.inl v)) ?_ ?_
   ·refine aSR ?_;intro _;refine dr (aBk ?_);refine awp_loop (α:=Nat×Int) (fun x=>mkS 111 [(1,.ptr 1 0 0 0),(34,.sl 4 (a0.Ops.map cGOp)),(35,.c (.int .i64 ((a0.Ops.map cGOp).length:Int))),(36,.c (.int .i64 x.2))] [(1,⟨26,4,true,[[.sl 1 (a0.Vars.map cI),.sl 1 (a0.Init.map cI),.sl 2 (a0.Goal.map cF),.sl 4 (a0.Ops.map cGOp)]]⟩)]) (fun x=>M_task_Check_L2 a0 x.1 x.2=some o14) (fun x=>x.1) ((((a0.Ops.map cGOp).length:Int)).toNat+1,0) h ?_ ?_
    ·exact ca_0
    ·intro x16 h;intro _;obtain⟨k28,m17,h⟩:=succ_of (f:=fun n=>M_task_Check_L2 a0 n x16.2) rfl h;replace h:M_task_Check_L2 a0 (k28+1) x16.2=some o14:=h;rw[M_task_Check_L2]at h;refine aSR ?_;intro _;refine dr (aSq (aCd ?_));intro _;refine spl h (fun c18 h=>?_) (fun c18 h=>?_)
     ·refine aSk (aSq (aBk (aSR ?_)));intro _;obtain⟨y29,w19,q20,h⟩:=ix_ok h;refine Exists.intro (cGOp y29) (And.intro (map_at' w19) ?_);intro _;refine pr (dr (aSR ?_));intro _;refine spf h (fun c21 h=>?_) (fun c21 h=>?_)
      ·intro _;refine dr (aCd ?_);intro _;refine spl h (fun c22 h=>?_) (fun c22 h=>?_)
       ·refine aSR ?_;intro _;refine dr (aRt ?_);have j23:=sI_ h;subst j23;replace h:=(osum_r hK15);intro _;obtain rfl:=inj1 h;exact ca_0
       ·refine aSk (aRg ?_);intro _;refine dr ?_;refine⟨(k28,(IntKind.i64.wrap (x16.2+1))),h,ltS m17,?_⟩;exact ca_0
      ·intro _;refine dr (aCd ?_);intro _;refine litT (aSR ?_);intro _;refine dr (aRt ?_);have j24:=sI_ h;subst j24;replace h:=(osum_r hK15);intro _;obtain rfl:=inj1 h;exact ca_0
     ·refine aEx ?_;refine⟨(),(sI_ h).symm,?_⟩;exact ca_0
   ·rintro _ ho;have ho:=ho.symm;subst ho;intro _;replace h:=(osum_l hK15);refine aSq (aSR ?_);intro _;obtain⟨z30,u25,h⟩:=ob1_ok h;refine cl rfl (A_task_Proper a0.Vars a0.Init u25) ?_;intro _;refine dr (aCd ?_);intro _;refine spl h (fun c26 h=>?_) (fun c26 h=>?_)
    ·refine aSR ?_;intro _;refine dr (aRt ?_);intro _;obtain rfl:=inj1 h;exact ca_0
    ·refine aSk ?_;obtain⟨o27,h,hK28⟩:=ob1_ok h;refine awp_cut (α:=Unit) (fun _=>mkS 111 [(1,.ptr 1 0 0 0)] [(1,⟨26,4,true,[[.sl 1 (a0.Vars.map cI),.sl 1 (a0.Init.map cI),.sl 2 (a0.Goal.map cF),.sl 4 (a0.Ops.map cGOp)]]⟩)]) (fun v=>o27=(.inl v)) ?_ ?_
     ·refine aSR ?_;intro _;obtain⟨z43,u29,h⟩:=ob1_ok h;refine cl rfl (A_task_conditions a0 u29) ?_;intro _;refine dr (aBk ?_);refine awp_loop (α:=Nat×Int) (fun x=>mkS 111 [(1,.ptr 1 0 0 0),(58,.sl 1 (z43.map cL_cF)),(59,.c (.int .i64 ((z43.map cL_cF).length:Int))),(60,.c (.int .i64 x.2))] [(1,⟨26,4,true,[[.sl 1 (a0.Vars.map cI),.sl 1 (a0.Init.map cI),.sl 2 (a0.Goal.map cF),.sl 4 (a0.Ops.map cGOp)]]⟩)]) (fun x=>M_task_Check_L3 a0 z43 x.1 x.2=some o27) (fun x=>x.1) ((((z43.map cL_cF).length:Int)).toNat+1,0) h ?_ ?_
      ·exact ca_0
      ·intro x30 h;intro _;obtain⟨k50,m31,h⟩:=succ_of (f:=fun n=>M_task_Check_L3 a0 z43 n x30.2) rfl h;replace h:M_task_Check_L3 a0 z43 (k50+1) x30.2=some o27:=h;rw[M_task_Check_L3]at h;refine aSR ?_;intro _;refine dr (aSq (aCd ?_));intro _;refine spl h (fun c32 h=>?_) (fun c32 h=>?_)
       ·refine aSk (aSq (aBk (aSR ?_)));intro _;obtain⟨y51,w33,q34,h⟩:=ix_ok h;refine Exists.intro (cL_cF y51) (And.intro (map_at' w33) ?_);intro _;refine pr (dr (aSR ?_));intro _;obtain⟨z52,u35,h⟩:=ob1_ok h;refine cl rfl (A_task_Facts a0.Vars y51 u35) ?_;intro _;refine dr (aCd ?_);intro _;refine spl h (fun c36 h=>?_) (fun c36 h=>?_)
        ·refine aSR ?_;intro _;refine dr (aRt ?_);have j37:=sI_ h;subst j37;replace h:=(osum_r hK28);intro _;obtain rfl:=inj1 h;exact ca_0
        ·refine aSk (aRg ?_);intro _;refine dr ?_;refine⟨(k50,(IntKind.i64.wrap (x30.2+1))),h,ltS m31,?_⟩;exact ca_0
       ·refine aEx ?_;refine⟨(),(sI_ h).symm,?_⟩;exact ca_0
     ·rintro _ ho;have ho:=ho.symm;subst ho;intro _;replace h:=(osum_l hK28);obtain⟨o38,h,hK39⟩:=ob1_ok h;refine awp_cut (α:=Unit) (fun _=>mkS 111 [(1,.ptr 1 0 0 0)] [(1,⟨26,4,true,[[.sl 1 (a0.Vars.map cI),.sl 1 (a0.Init.map cI),.sl 2 (a0.Goal.map cF),.sl 4 (a0.Ops.map cGOp)]]⟩)]) (fun v=>o38=(.inl v)) ?_ ?_
      ·refine aSR ?_;intro _;refine dr (aBk ?_);refine awp_loop (α:=Nat×Int) (fun x=>mkS 111 [(1,.ptr 1 0 0 0),(72,.sl 4 (a0.Ops.map cGOp)),(73,.c (.int .i64 ((a0.Ops.map cGOp).length:Int))),(74,.c (.int .i64 x.2))] [(1,⟨26,4,true,[[.sl 1 (a0.Vars.map cI),.sl 1 (a0.Init.map cI),.sl 2 (a0.Goal.map cF),.sl 4 (a0.Ops.map cGOp)]]⟩)]) (fun x=>M_task_Check_L5 a0 x.1 x.2=some o38) (fun x=>x.1) ((((a0.Ops.map cGOp).length:Int)).toNat+1,0) h ?_ ?_
       ·exact ca_0
       ·intro x40 h;intro _;obtain⟨k170,m41,h⟩:=succ_of (f:=fun n=>M_task_Check_L5 a0 n x40.2) rfl h;replace h:M_task_Check_L5 a0 (k170+1) x40.2=some o38:=h;rw[M_task_Check_L5]at h;refine aSR ?_;intro _;refine dr (aSq (aCd ?_));intro _;refine spl h (fun c42 h=>?_) (fun c42 h=>?_)
        ·refine aSk ?_;obtain⟨o43,h,hK44⟩:=ob1_ok h;refine awp_cut (α:=Unit) (fun _=>mkS 111 [(1,.ptr 1 0 0 0),(72,.sl 4 (a0.Ops.map cGOp)),(73,.c (.int .i64 ((a0.Ops.map cGOp).length:Int))),(74,.c (.int .i64 x40.2))] [(1,⟨26,4,true,[[.sl 1 (a0.Vars.map cI),.sl 1 (a0.Init.map cI),.sl 2 (a0.Goal.map cF),.sl 4 (a0.Ops.map cGOp)]]⟩)]) (fun v=>o43=(.inl v)) ?_ ?_
         ·refine aBk (aSR ?_);intro _;obtain⟨y183,w45,q46,h⟩:=ix_ok h;refine Exists.intro (cGOp y183) (And.intro (map_at' w45) ?_);intro _;refine pr (dr (aSR ?_));intro _;refine dr (aBk ?_);refine awp_loop (α:=Nat×Int) (fun x=>mkS 111 [(1,.ptr 1 0 0 0),(72,.sl 4 (a0.Ops.map cGOp)),(73,.c (.int .i64 ((a0.Ops.map cGOp).length:Int))),(74,.c (.int .i64 x40.2)),(79,.sl 3 (y183.Effs.map cGEffect)),(80,.c (.int .i64 ((y183.Effs.map cGEffect).length:Int))),(81,.c (.int .i64 x.2))] [(1,⟨26,4,true,[[.sl 1 (a0.Vars.map cI),.sl 1 (a0.Init.map cI),.sl 2 (a0.Goal.map cF),.sl 4 (a0.Ops.map cGOp)]]⟩)]) (fun x=>M_task_Check_L4 a0 y183 x.1 x.2=some o43) (fun x=>x.1) ((((y183.Effs.map cGEffect).length:Int)).toNat+1,0) h ?_ ?_
          ·exact ca_0
          ·intro x47 h;intro _;obtain⟨k190,m48,h⟩:=succ_of (f:=fun n=>M_task_Check_L4 a0 y183 n x47.2) rfl h;replace h:M_task_Check_L4 a0 y183 (k190+1) x47.2=some o43:=h;rw[M_task_Check_L4]at h;refine aSR ?_;intro _;refine dr (aSq (aCd ?_));intro _;refine spl h (fun c49 h=>?_) (fun c49 h=>?_)
           ·refine aSk (aSq (aBk (aSR ?_)));intro _;obtain⟨y191,w50,q51,h⟩:=ix_ok h;refine Exists.intro (cGEffect y191) (And.intro (map_at' w50) ?_);intro _;refine pr (dr (aSR ?_));intro _;obtain⟨z192,u52,h⟩:=ob1_ok h;refine clb [92] rfl rfl (A_task_Facts a0.Vars [(y191.Var,y191.Val)] u52) ?_;intro _;refine dr (aCd ?_);intro _;refine spl h (fun c53 h=>?_) (fun c53 h=>?_)
            ·refine aSR ?_;intro _;refine dr (aRt ?_);have j54:=sI_ h;subst j54;replace h:=(osum_r hK44);have j55:=sI_ h;subst j55;replace h:=(osum_r hK39);intro _;obtain rfl:=inj1 h;exact ca_0
            ·refine aSk (aRg ?_);intro _;refine dr ?_;refine⟨(k190,(IntKind.i64.wrap (x47.2+1))),h,ltS m48,?_⟩;exact ca_0
           ·refine aEx ?_;refine⟨(),(sI_ h).symm,?_⟩;exact ca_0
         ·rintro _ ho;have ho:=ho.symm;subst ho;intro _;replace h:=(osum_l hK44);refine aRg ?_;intro _;refine dr ?_;refine⟨(k170,(IntKind.i64.wrap (x40.2+1))),h,ltS m41,?_⟩;exact ca_0
        ·refine aEx ?_;refine⟨(),(sI_ h).symm,?_⟩;exact ca_0
      ·rintro _ ho;have ho:=ho.symm;subst ho;intro _;replace h:=(osum_l hK39);refine aSq (aSR ?_);intro _;refine dr (aBk ?_);refine awp_loop (α:=Nat×Int) (fun x=>mkS 111 [(99,.sl 4 (a0.Ops.map cGOp)),(100,.c (.int .i64 ((a0.Ops.map cGOp).length:Int))),(101,.c (.int .i64 x.2))] []) (fun x=>M_task_Check_L6 a0 x.1 x.2=some r1) (fun x=>x.1) ((((a0.Ops.map cGOp).length:Int)).toNat+1,0) h ?_ ?_
       ·exact ca_0
       ·intro x56 h;intro _;obtain⟨k199,m57,h⟩:=succ_of (f:=fun n=>M_task_Check_L6 a0 n x56.2) rfl h;replace h:M_task_Check_L6 a0 (k199+1) x56.2=some r1:=h;rw[M_task_Check_L6]at h;refine aSR ?_;intro _;refine dr (aSq (aCd ?_));intro _;refine spl h (fun c58 h=>?_) (fun c58 h=>?_)
        ·refine aSk (aSq (aBk (aSR ?_)));intro _;obtain⟨y200,w59,q60,h⟩:=ix_ok h;refine Exists.intro (cGOp y200) (And.intro (map_at' w59) ?_);intro _;refine pr (dr (aSR ?_));intro _;obtain⟨z201,u61,h⟩:=ob1_ok h;refine cl rfl (A_task_named y200.Name u61) ?_;intro _;refine dr (aCd ?_);intro _;refine spl h (fun c62 h=>?_) (fun c62 h=>?_)
         ·refine aSR ?_;intro _;refine dr (aRt ?_);intro _;obtain rfl:=inj1 h;exact ca_0
         ·refine aSk (aRg ?_);intro _;refine dr ?_;refine⟨(k199,(IntKind.i64.wrap (x56.2+1))),h,ltS m57,?_⟩;exact ca_0
        ·refine aEx (aSR ?_);intro _;refine dr (aRt ?_);intro _;obtain rfl:=inj1 h;exact ca_0
def M_g_silent_L1 (y102:Fact)(y103:Int):Nat→Int→(List (List Fact))→Option (List (List Fact))|0,_,_=>none|k108+1,v106,v107=>sel (decide (v106<y103)) (sel (v106 != y102.2) (grd ((v107.length+1)*24≤140737488355328) (M_g_silent_L1 y102 y103 k108 (IntKind.i64.wrap (v106+1)) (v107++[[(y102.1,v106)]]))) (M_g_silent_L1 y102 y103 k108 (IntKind.i64.wrap (v106+1)) v107)) (some v107)
def M_g_silent_L2 (a0:List Int)(a1:GEffect):Nat→Int→(List (List Fact))→Option (List (List Fact))|0,_,_=>none|k92+1,v90,v91=>sel (decide (v90<((a1.When.map cF).length:Int))) (ob1 (ix a1.When v90 (fun y102=>ix a0 y102.1 (fun y103=>M_g_silent_L1 y102 y103 ((y103).toNat+1) 0 v91)):Option (List (List Fact))) (fun v100=>M_g_silent_L2 a0 a1 k92 (IntKind.i64.wrap (v90+1)) v100)) (some v91)
def M_g_silent (a0:List Int)(a1:GEffect):Option ((List (List Fact))×Er):=ob1 (M_g_silent_L2 a0 a1 ((((a1.When.map cF).length:Int)).toNat+1) 0 []:Option (List (List Fact))) (fun v54=>sel (decide (((v54.length:Nat):Int)>1024)) (some ([],(Er.no 5))) (grd (v54.length≤140737488355328) (some (v54,Er.nil))))
theorem A_g_silent (a0:List Int)(a1:GEffect){r1:List (List Fact)}{r2:Er}(h:M_g_silent a0 a1=some (r1,r2)):ACall cx 115 [.sl 1 (a0.map cI),.agg [.sl 2 (a1.When.map cF),.c (.int .i64 a1.Var),.c (.int .i64 a1.Val)]] (.tup [.sl 1 (r1.map cL_cF),eA r2]):=by
 refine aOf Tryz.func115 rfl (by decide) rfl (bT0 rfl) ?_;intro _;unfold M_g_silent at h;refine aSR ?_;intro _;refine dr (aSR ?_);intro _;refine dr ?_;obtain⟨o1,h,hK2⟩:=ob1_ok h;refine awp_cut (α:=List (List Fact)) (fun v54=>mkS 44 [(6,.own 36 0 0 v54.length)] [(36,⟨23,1,false,v54.map cL_cF⟩)]) (fun v=>o1=v) ?_ ?_
 ·refine aSR ?_;intro _;refine dr (aBk ?_);refine awp_loop (α:=Nat×Int×(List (List Fact))) (fun x=>mkS 44 [(0,.sl 1 (a0.map cI)),(6,.own 36 0 0 x.2.2.length),(11,.sl 2 (a1.When.map cF)),(12,.c (.int .i64 ((a1.When.map cF).length:Int))),(13,.c (.int .i64 x.2.1))] [(36,⟨23,1,false,x.2.2.map cL_cF⟩)]) (fun x=>M_g_silent_L2 a0 a1 x.1 x.2.1 x.2.2=some o1) (fun x=>x.1) ((((a1.When.map cF).length:Int)).toNat+1,0,[]) h ?_ ?_
  ·exact ca_0
  ·intro x3 h;intro _;obtain⟨k92,m4,h⟩:=succ_of (f:=fun n=>M_g_silent_L2 a0 a1 n x3.2.1 x3.2.2) rfl h;replace h:M_g_silent_L2 a0 a1 (k92+1) x3.2.1 x3.2.2=some o1:=h;rw[M_g_silent_L2]at h;refine aSR ?_;intro _;refine dr (aSq (aCd ?_));intro _;refine spl h (fun c5 h=>?_) (fun c5 h=>?_)
   ·refine aSk ?_;obtain⟨o6,h,hK7⟩:=ob1_ok h;refine awp_cut (α:=List (List Fact)) (fun v100=>mkS 44 [(0,.sl 1 (a0.map cI)),(6,.own 36 0 0 v100.length),(11,.sl 2 (a1.When.map cF)),(12,.c (.int .i64 ((a1.When.map cF).length:Int))),(13,.c (.int .i64 x3.2.1))] [(36,⟨23,1,false,v100.map cL_cF⟩)]) (fun v=>o6=v) ?_ ?_
    ·refine aBk (aSR ?_);intro _;obtain⟨y102,w8,q9,h⟩:=ix_ok h;refine Exists.intro (cF y102) (And.intro (map_at' w8) ?_);intro _;refine pr (dr (aSR ?_));intro _;obtain⟨y103,w10,q11,h⟩:=ix_ok h;refine Exists.intro (cI y103) (And.intro (map_at' w10) ?_);intro _;refine pr (dr (aBk ?_));refine awp_loop (α:=Nat×Int×(List (List Fact))) (fun x=>mkS 44 [(0,.sl 1 (a0.map cI)),(6,.own 36 0 0 x.2.2.length),(8,.ptr 8 0 0 0),(11,.sl 2 (a1.When.map cF)),(12,.c (.int .i64 ((a1.When.map cF).length:Int))),(13,.c (.int .i64 x3.2.1)),(21,.c (.int .i64 y103)),(22,.c (.int .i64 x.2.1))] [(8,⟨39,2,true,[[.c (.int .i64 y102.1),.c (.int .i64 y102.2)]]⟩),(36,⟨23,1,false,x.2.2.map cL_cF⟩)]) (fun x=>M_g_silent_L1 y102 y103 x.1 x.2.1 x.2.2=some o6) (fun x=>x.1) ((y103).toNat+1,0,x3.2.2) h ?_ ?_
     ·exact ca_0
     ·intro x12 h;intro _;obtain⟨k108,m13,h⟩:=succ_of (f:=fun n=>M_g_silent_L1 y102 y103 n x12.2.1 x12.2.2) rfl h;replace h:M_g_silent_L1 y102 y103 (k108+1) x12.2.1 x12.2.2=some o6:=h;rw[M_g_silent_L1]at h;refine aSR ?_;intro _;refine dr (aSq (aCd ?_));intro _;refine spl h (fun c14 h=>?_) (fun c14 h=>?_)
      ·refine aSk (aSq (aBk (aSR ?_)));intro _;refine dr (aSR ?_);intro _;refine dr (aCd ?_);intro _;refine spl h (fun c15 h=>?_) (fun c15 h=>?_)
       ·refine aRg ?_;intro _;obtain⟨q16,h⟩:=grd_ok h;refine pl (pl ?_);refine And.intro (by first|with_reducible assumption|(show(x12.2.2.length+1)*24≤140737488355328;with_reducible assumption)|omega|(simp;omega)) ?_;refine pe (dr (aRg ?_));intro _;refine dr ?_;refine⟨(k108,(IntKind.i64.wrap (x12.2.1+1)),(x12.2.2++[[(y102.1,x12.2.1)]])),h,ltS m13,?_⟩;exact ca_0
       ·refine aSk (aRg ?_);intro _;refine dr ?_;refine⟨(k108,(IntKind.i64.wrap (x12.2.1+1)),x12.2.2),h,ltS m13,?_⟩;exact ca_0
      ·refine aEx ?_;refine⟨x12.2.2,(sI_ h).symm,?_⟩;exact ca_0
    ·rintro v100 ho;have ho:=ho.symm;subst ho;intro _;replace h:=hK7;refine aRg ?_;intro _;refine dr ?_;refine⟨(k92,(IntKind.i64.wrap (x3.2.1+1)),v100),h,ltS m4,?_⟩;exact ca_0
   ·refine aEx ?_;refine⟨x3.2.2,(sI_ h).symm,?_⟩;exact ca_0
 ·rintro v54 ho;have ho:=ho.symm;subst ho;intro _;replace h:=hK2;refine aSq (aSR ?_);intro _;refine dr (aCd ?_);intro _;refine spl h (fun c17 h=>?_) (fun c17 h=>?_)
  ·refine aSR ?_;intro _;refine dr (aRt ?_);intro _;obtain⟨rfl,rfl⟩:=inj2 h;exact ca_0
  ·refine aSk (aSR ?_);intro _;refine dr (aRt ?_);obtain⟨q18,h⟩:=grd_ok h;intro _;obtain⟨rfl,rfl⟩:=inj2 h;exact ca_0
def M_p_valid_L1 (a0:List Fact):Nat→Int→Option (Bool)|0,_=>none|k6+1,v5=>sel (decide (v5<((a0.map cF).length:Int))) (ix a0 v5 (fun y7=>sel (decide (y7.1<0)) (some false) (sel (decide (y7.2<0)) (some false) (sel (decide (v5>0)) (ix a0 (IntKind.i64.wrap (v5-1)) (fun y8=>sel (decide (y8.1≥y7.1)) (some false) (M_p_valid_L1 a0 k6 (IntKind.i64.wrap (v5+1))))) (M_p_valid_L1 a0 k6 (IntKind.i64.wrap (v5+1))))))) (some true)
def M_p_valid (a0:List Fact):Option (Bool):=M_p_valid_L1 a0 ((((a0.map cF).length:Int)).toNat+1) 0
theorem A_p_valid (a0:List Fact){r1:Bool}(h:M_p_valid a0=some r1):ACall cx 104 [.sl 2 (a0.map cF)] (.c (.bool r1)):=by
 refine aOf Tryz.func104 rfl (by decide) rfl (bT0 rfl) ?_;intro _;unfold M_p_valid at h;refine aSR ?_;intro _;refine dr (aSq (aSR ?_));intro _;refine dr (aBk ?_);refine awp_loop (α:=Nat×Int) (fun x=>mkS 36 [(0,.sl 2 (a0.map cF)),(5,.sl 2 (a0.map cF)),(6,.c (.int .i64 ((a0.map cF).length:Int))),(7,.c (.int .i64 x.2))] []) (fun x=>M_p_valid_L1 a0 x.1 x.2=some r1) (fun x=>x.1) ((((a0.map cF).length:Int)).toNat+1,0) h ?_ ?_
 ·exact ca_0
 ·intro x1 h;intro _;obtain⟨k6,m2,h⟩:=succ_of (f:=fun n=>M_p_valid_L1 a0 n x1.2) rfl h;replace h:M_p_valid_L1 a0 (k6+1) x1.2=some r1:=h;rw[M_p_valid_L1]at h;refine aSR ?_;intro _;refine dr (aSq (aCd ?_));intro _;refine spl h (fun c3 h=>?_) (fun c3 h=>?_)
  ·refine aSk (aSq (aBk (aSR ?_)));intro _;obtain⟨y7,w4,q5,h⟩:=ix_ok h;refine Exists.intro (cF y7) (And.intro (map_at' w4) ?_);intro _;refine pr (dr (aSR ?_));intro _;refine spf h (fun c6 h=>?_) (fun c6 h=>?_)
   ·intro _;refine spf h (fun c7 h=>?_) (fun c7 h=>?_)
    ·intro _;refine spl h (fun c8 h=>?_) (fun c8 h=>?_)
     ·intro _;obtain⟨y8,w9,q10,h⟩:=ix_ok h;refine Exists.intro (cF y8) (And.intro (map_at' w9) ?_);intro _;refine pr (dr (aCd ?_));intro _;refine spl h (fun c11 h=>?_) (fun c11 h=>?_)
      ·refine aSR ?_;intro _;refine dr (aRt ?_);intro _;obtain rfl:=inj1 h;exact ca_0
      ·refine aSk (aRg ?_);intro _;refine dr ?_;refine⟨(k6,(IntKind.i64.wrap (x1.2+1))),h,ltS m2,?_⟩;exact ca_0
     ·intro _;refine dr (aCd ?_);intro _;refine litF (aSk (aRg ?_));intro _;refine dr ?_;refine⟨(k6,(IntKind.i64.wrap (x1.2+1))),h,ltS m2,?_⟩;exact ca_0
    ·intro _;refine dr (aCd ?_);intro _;refine litT (aSR ?_);intro _;refine dr (aRt ?_);intro _;obtain rfl:=inj1 h;exact ca_0
   ·intro _;refine dr (aCd ?_);intro _;refine litT (aSR ?_);intro _;refine dr (aRt ?_);intro _;obtain rfl:=inj1 h;exact ca_0
  ·refine aEx (aSR ?_);intro _;refine dr (aRt ?_);intro _;obtain rfl:=inj1 h;exact ca_0
def M_p_Make_L1 (a0:List Fact):Nat→Int→Option (Unit⊕((List Fact)×Er))|0,_=>none|k14+1,v13=>sel (decide (v13<((a0.map cF).length:Int))) (ix a0 v13 (fun y15=>sel (decide (y15.1<0)) (some (.inr ([],(Er.no 1)))) (sel (decide (y15.2<0)) (some (.inr ([],(Er.no 1)))) (M_p_Make_L1 a0 k14 (IntKind.i64.wrap (v13+1)))))) (some (.inl ()))
def M_p_Make (a0:List Fact):Option ((List Fact)×Er):=ob1 (M_p_Make_L1 a0 ((((a0.map cF).length:Int)).toNat+1) 0:Option (Unit⊕((List Fact)×Er))) (osum (fun _=>ob1 (M_cloneF a0) (fun z16=>ob1 (M_sortF z16) (fun c17=>grd (c17.length=z16.length) (ob1 (M_compactF c17) (fun z18=>grd (z18.length≤140737488355328) (ob1 (M_p_valid z18) (fun z19=>sel (!z19) (some ([],(Er.no 2))) (some (z18,Er.nil))))))))) (fun(r7,r8)=>some (r7,r8)))
theorem A_p_Make (a0:List Fact){r1:List Fact}{r2:Er}(h:M_p_Make a0=some (r1,r2)):ACall cx 134 [.sl 2 (a0.map cF)] (.tup [.sl 2 (r1.map cF),eA r2]):=by
 refine aOf Tryz.func134 rfl (by decide) rfl (bT0 rfl) ?_;intro _;unfold M_p_Make at h;refine aSR ?_;intro _;refine dr ?_;obtain⟨o1,h,hK2⟩:=ob1_ok h;refine awp_cut (α:=Unit) (fun _=>mkS 34 [(0,.sl 2 (a0.map cF))] []) (fun v=>o1=(.inl v)) ?_ ?_
 ·refine aSR ?_;intro _;refine dr (aBk ?_);refine awp_loop (α:=Nat×Int) (fun x=>mkS 34 [(0,.sl 2 (a0.map cF)),(7,.sl 2 (a0.map cF)),(8,.c (.int .i64 ((a0.map cF).length:Int))),(9,.c (.int .i64 x.2))] []) (fun x=>M_p_Make_L1 a0 x.1 x.2=some o1) (fun x=>x.1) ((((a0.map cF).length:Int)).toNat+1,0) h ?_ ?_
  ·exact ca_0
  ·intro x3 h;intro _;obtain⟨k14,m4,h⟩:=succ_of (f:=fun n=>M_p_Make_L1 a0 n x3.2) rfl h;replace h:M_p_Make_L1 a0 (k14+1) x3.2=some o1:=h;rw[M_p_Make_L1]at h;refine aSR ?_;intro _;refine dr (aSq (aCd ?_));intro _;refine spl h (fun c5 h=>?_) (fun c5 h=>?_)
   ·refine aSk (aSq (aBk (aSR ?_)));intro _;obtain⟨y15,w6,q7,h⟩:=ix_ok h;refine Exists.intro (cF y15) (And.intro (map_at' w6) ?_);intro _;refine pr (dr (aSR ?_));intro _;refine spf h (fun c8 h=>?_) (fun c8 h=>?_)
    ·intro _;refine dr (aCd ?_);intro _;refine spl h (fun c9 h=>?_) (fun c9 h=>?_)
     ·refine aSR ?_;intro _;refine dr (aRt ?_);have j10:=sI_ h;subst j10;replace h:=(osum_r hK2);intro _;obtain⟨rfl,rfl⟩:=inj2 h;exact ca_0
     ·refine aSk (aRg ?_);intro _;refine dr ?_;refine⟨(k14,(IntKind.i64.wrap (x3.2+1))),h,ltS m4,?_⟩;exact ca_0
    ·intro _;refine dr (aCd ?_);intro _;refine litT (aSR ?_);intro _;refine dr (aRt ?_);have j11:=sI_ h;subst j11;replace h:=(osum_r hK2);intro _;obtain⟨rfl,rfl⟩:=inj2 h;exact ca_0
   ·refine aEx ?_;refine⟨(),(sI_ h).symm,?_⟩;exact ca_0
 ·rintro _ ho;have ho:=ho.symm;subst ho;intro _;replace h:=(osum_l hK2);refine aSR ?_;intro _;obtain⟨z16,u12,h⟩:=ob1_ok h;refine clg [(0,24)] [] [] [(24,⟨2,some ⟨39,2,false,z16.map cF⟩⟩)] (.own 24 2 0 z16.length) rfl rfl (A_cloneF a0 u12) ?_;intro _;refine dr (aSR ?_);intro _;obtain⟨c17,u13,h⟩:=ob1_ok h;refine clg [(900,24)] [] [] [(24,⟨2,some ⟨39,2,false,c17.map cF⟩⟩)] (.tup []) rfl rfl (A_sortF z16 u13) ?_;obtain⟨q14,h⟩:=grd_ok h;intro _;refine dr (aSR ?_);intro _;obtain⟨z18,u15,h⟩:=ob1_ok h;refine clg [(0,24),(0,24)] [] [(24,⟨3,none⟩)] [(24,⟨4,some ⟨39,2,false,z18.map cF⟩⟩)] (.own 24 4 0 z18.length) rfl rfl (A_compactF c17 u15) ?_;intro _;refine dr (aSq (aSR ?_));intro _;obtain⟨q16,h⟩:=grd_ok h;obtain⟨z19,u17,h⟩:=ob1_ok h;refine clb [24] rfl rfl (A_p_valid z18 u17) ?_;intro _;refine dr (aCd ?_);intro _;refine spl h (fun c18 h=>?_) (fun c18 h=>?_)
  ·refine aSR ?_;intro _;refine dr (aRt ?_);intro _;obtain⟨rfl,rfl⟩:=inj2 h;exact ca_0
  ·refine aSk (aSR ?_);intro _;refine dr (aRt ?_);intro _;obtain⟨rfl,rfl⟩:=inj2 h;exact ca_0
def M_p_Join (a0:List Fact)(a1:List Fact):Option ((List Fact)×Bool):=ob1 (M_p_valid a0) (fun z1=>sel (!z1) (some ([],false)) (ob1 (M_p_valid a1) (fun z2=>sel (!z2) (some ([],false)) (ob1 (M_cloneF a0) (fun z3=>grd ((z3++a1).length≤140737488355328) (ob2 (M_p_Make (z3++a1)) (fun z4 z5=>grd ((z3.length+a1.length)*16≤140737488355328) (erM z5 (some (z4,true)) (fun _=>some (z4,false))))))))))
theorem A_p_Join (a0:List Fact)(a1:List Fact){r1:List Fact}{r2:Bool}(h:M_p_Join a0 a1=some (r1,r2)):ACall cx 117 [.sl 2 (a0.map cF),.sl 2 (a1.map cF)] (.tup [.sl 2 (r1.map cF),.c (.bool r2)]):=by
 refine aOf Tryz.func117 rfl (by decide) rfl (bT0 rfl) ?_;intro _;unfold M_p_Join at h;refine aSR ?_;intro _;refine dr (aSq (aSR ?_));intro _;obtain⟨z1,u1,h⟩:=ob1_ok h;refine cl rfl (A_p_valid a0 u1) ?_;intro _;refine spf h (fun c2 h=>?_) (fun c2 h=>?_)
 ·intro _;obtain⟨z2,u3,h⟩:=ob1_ok h;refine cl rfl (A_p_valid a1 u3) ?_;intro _;refine dr (aCd ?_);intro _;refine spl h (fun c4 h=>?_) (fun c4 h=>?_)
  ·refine aSR ?_;intro _;refine dr (aRt ?_);intro _;obtain⟨rfl,rfl⟩:=inj2 h;exact ca_0
  ·refine aSk (aSR ?_);intro _;obtain⟨z3,u5,h⟩:=ob1_ok h;refine clg [(0,18)] [] [] [(18,⟨2,some ⟨39,2,false,z3.map cF⟩⟩)] (.own 18 2 0 z3.length) rfl rfl (A_cloneF a0 u5) ?_;intro _;obtain⟨q6,h⟩:=grd_ok h;obtain⟨z4,z5,u7,h⟩:=ob2_ok h;refine clf [(18,⟨4,none⟩)] rfl rfl (A_p_Make (z3++a1) u7) ?_;intro _;obtain⟨q8,h⟩:=grd_ok h;refine pl ?_;refine And.intro (by first|with_reducible assumption|(show(z3.length+a1.length)*16≤140737488355328;with_reducible assumption)|omega|(simp;omega)) ?_;refine pe (dr (aSq ?_));rcases z5 with _|e6
   ·replace h:=erM_nil h;refine aRg ?_;intro _;refine dr (aRt ?_);intro _;obtain⟨rfl,rfl⟩:=inj2 h;exact ca_0
   ·replace h:=erM_no h;refine aRg ?_;intro _;refine dr (aRt ?_);intro _;obtain⟨rfl,rfl⟩:=inj2 h;exact ca_0
 ·intro _;refine dr (aCd ?_);intro _;refine litT (aSR ?_);intro _;refine dr (aRt ?_);intro _;obtain⟨rfl,rfl⟩:=inj2 h;exact ca_0
def M_s_BinarySearchFunc_Fact_L1 (a0:List (List Fact))(a1:List Fact)(a2:(List Fact)→(List Fact)→Option Int):Nat→Int→Int→Option (Int)|0,_,_=>none|k22+1,v20,v21=>sel (decide (v20<v21)) (ix a0 (IntKind.i64.wrap (Int.fdiv (IntKind.u64.wrap (IntKind.i64.wrap (v20+v21))) 2)) (fun y23=>ob1 (a2 y23 a1) (fun z24=>sel (decide (z24<0)) (M_s_BinarySearchFunc_Fact_L1 a0 a1 a2 k22 (IntKind.i64.wrap ((IntKind.i64.wrap (Int.fdiv (IntKind.u64.wrap (IntKind.i64.wrap (v20+v21))) 2))+1)) v21) (M_s_BinarySearchFunc_Fact_L1 a0 a1 a2 k22 v20 (IntKind.i64.wrap (Int.fdiv (IntKind.u64.wrap (IntKind.i64.wrap (v20+v21))) 2)))))) (some v20)
def M_s_BinarySearchFunc_Fact (g:Nat)(a0:List (List Fact))(a1:List Fact)(a2:(List Fact)→(List Fact)→Option Int):Option (Int×Bool):=ob1 (M_s_BinarySearchFunc_Fact_L1 a0 a1 a2 g 0 ((a0.map cL_cF).length:Int):Option (Int)) (fun v12=>sel (decide (v12<((a0.map cL_cF).length:Int))) (ix a0 v12 (fun y25=>ob1 (a2 y25 a1) (fun z26=>some (v12,(z26 == 0))))) (some (v12,false)))
theorem A_s_BinarySearchFunc_Fact (g:Nat)(a0:List (List Fact))(a1:List Fact)(a2:(List Fact)→(List Fact)→Option Int)(Fa2:AV)(hFa2:Fr Fa2)(ea2:∃ f fs cap,Fa2=.clo (.func f) fs cap)(ha2:∀ (x0:List Fact)(x1:List Fact)(y0:Int),a2 x0 x1=some y0→CCl cx Fa2 [.sl 2 (x0.map cF),.sl 2 (x1.map cF)] (.c (.int .i64 y0))){r1:Int}{r2:Bool}(h:M_s_BinarySearchFunc_Fact g a0 a1 a2=some (r1,r2)):ACall cx 118 [.sl 1 (a0.map cL_cF),.sl 2 (a1.map cF),Fa2] (.tup [.c (.int .i64 r1),.c (.bool r2)]):=by
 obtain⟨fa2,sa2,qa2,rfl⟩:=ea2;refine aOf Tryz.func118 rfl (by decide) rfl (bT0 rfl) ?_;intro _;unfold M_s_BinarySearchFunc_Fact at h;refine aSR ?_;intro _;refine dr (aSR ?_);intro _;refine dr (aSR ?_);intro _;refine dr ?_;obtain⟨o1,h,hK2⟩:=ob1_ok h;refine awp_cut (α:=Int) (fun v12=>mkS 49 [(0,.sl 1 (a0.map cL_cF)),(1,.sl 2 (a1.map cF)),(2,.clo (.func fa2) sa2 qa2),(8,.c (.int .i64 ((a0.map cL_cF).length:Int))),(9,.c (.int .i64 v12))] []) (fun v=>o1=v) ?_ ?_
 ·refine aBk ?_;refine awp_loop (α:=Nat×Int×Int) (fun x=>mkS 49 [(0,.sl 1 (a0.map cL_cF)),(1,.sl 2 (a1.map cF)),(2,.clo (.func fa2) sa2 qa2),(8,.c (.int .i64 ((a0.map cL_cF).length:Int))),(9,.c (.int .i64 x.2.1)),(10,.c (.int .i64 x.2.2))] []) (fun x=>M_s_BinarySearchFunc_Fact_L1 a0 a1 a2 x.1 x.2.1 x.2.2=some o1) (fun x=>x.1) (g,0,((a0.map cL_cF).length:Int)) h ?_ ?_
  ·exact ca_0
  ·intro x3 h;intro _;obtain⟨k22,m4,h⟩:=succ_of (f:=fun n=>M_s_BinarySearchFunc_Fact_L1 a0 a1 a2 n x3.2.1 x3.2.2) rfl h;replace h:M_s_BinarySearchFunc_Fact_L1 a0 a1 a2 (k22+1) x3.2.1 x3.2.2=some o1:=h;rw[M_s_BinarySearchFunc_Fact_L1]at h;refine aSq (aSR ?_);intro _;refine dr (aCd ?_);intro _;refine spl h (fun c5 h=>?_) (fun c5 h=>?_)
   ·refine aSk (aBk (aSR ?_));intro _;refine dr (aSR ?_);intro _;obtain⟨y23,w6,q7,h⟩:=ix_ok h;refine Exists.intro (cL_cF y23) (And.intro (map_at' w6) ?_);intro _;obtain⟨z24,u8,h⟩:=ob1_ok h;refine clc rfl (ha2 _ _ _ u8) hFa2 ?_;intro _;refine pr (dr (aCd ?_));intro _;refine spl h (fun c9 h=>?_) (fun c9 h=>?_)
    ·refine aRg ?_;intro _;refine dr ?_;refine⟨(k22,(IntKind.i64.wrap ((IntKind.i64.wrap (Int.fdiv (IntKind.u64.wrap (IntKind.i64.wrap (x3.2.1+x3.2.2))) 2))+1)),x3.2.2),h,ltS m4,?_⟩;exact ca_0
    ·refine aRg ?_;intro _;refine dr ?_;refine⟨(k22,x3.2.1,(IntKind.i64.wrap (Int.fdiv (IntKind.u64.wrap (IntKind.i64.wrap (x3.2.1+x3.2.2))) 2))),h,ltS m4,?_⟩;exact ca_0
   ·refine aEx ?_;refine⟨x3.2.1,(sI_ h).symm,?_⟩;exact ca_0
 ·rintro v12 ho;have ho:=ho.symm;subst ho;intro _;replace h:=hK2;refine aSR ?_;intro _;refine spl h (fun c10 h=>?_) (fun c10 h=>?_)
  ·intro _;obtain⟨y25,w11,q12,h⟩:=ix_ok h;refine Exists.intro (cL_cF y25) (And.intro (map_at' w11) ?_);intro _;obtain⟨z26,u13,h⟩:=ob1_ok h;refine clc rfl (ha2 _ _ _ u13) hFa2 ?_;intro _;refine pr (dr (aRt ?_));intro _;obtain⟨rfl,rfl⟩:=inj2 h;exact ca_0
  ·intro _;refine dr (aRt ?_);intro _;obtain⟨rfl,rfl⟩:=inj2 h;exact ca_0
def M_s_CompareFunc_Fact_L1 (a0:List Fact)(a1:List Fact)(a2:Fact→Fact→Option Int):Nat→Int→Option (Unit⊕Int)|0,_=>none|k23+1,v22=>sel (decide (v22<((a0.map cF).length:Int))) (ix a0 v22 (fun y24=>sel (decide (v22≥((a1.map cF).length:Int))) (some (.inr 1)) (ix a1 v22 (fun y25=>ob1 (a2 y24 y25) (fun z26=>sel (z26 != 0) (some (.inr z26)) (M_s_CompareFunc_Fact_L1 a0 a1 a2 k23 (IntKind.i64.wrap (v22+1)))))))) (some (.inl ()))
def M_s_CompareFunc_Fact (a0:List Fact)(a1:List Fact)(a2:Fact→Fact→Option Int):Option (Int):=ob1 (M_s_CompareFunc_Fact_L1 a0 a1 a2 ((((a0.map cF).length:Int)).toNat+1) 0:Option (Unit⊕Int)) (osum (fun _=>sel (decide (((a0.map cF).length:Int)<((a1.map cF).length:Int))) (some (-1)) (some 0)) (fun r13=>some r13))
theorem A_s_CompareFunc_Fact (a0:List Fact)(a1:List Fact)(a2:Fact→Fact→Option Int)(Fa2:AV)(hFa2:Fr Fa2)(ea2:∃ f fs cap,Fa2=.clo (.func f) fs cap)(ha2:∀ (x0:Fact)(x1:Fact)(y0:Int),a2 x0 x1=some y0→CCl cx Fa2 [.agg [.c (.int .i64 x0.1),.c (.int .i64 x0.2)],.agg [.c (.int .i64 x1.1),.c (.int .i64 x1.2)]] (.c (.int .i64 y0))){r1:Int}(h:M_s_CompareFunc_Fact a0 a1 a2=some r1):ACall cx 108 [.sl 2 (a0.map cF),.sl 2 (a1.map cF),Fa2] (.c (.int .i64 r1)):=by
 obtain⟨fa2,sa2,qa2,rfl⟩:=ea2;refine aOf Tryz.func108 rfl (by decide) rfl (bT0 rfl) ?_;intro _;unfold M_s_CompareFunc_Fact at h;refine aSR ?_;intro _;refine dr ?_;obtain⟨o1,h,hK2⟩:=ob1_ok h;refine awp_cut (α:=Unit) (fun _=>mkS 39 [(0,.sl 2 (a0.map cF)),(1,.sl 2 (a1.map cF))] []) (fun v=>o1=(.inl v)) ?_ ?_
 ·refine aSR ?_;intro _;refine dr (aBk ?_);refine awp_loop (α:=Nat×Int) (fun x=>mkS 39 [(0,.sl 2 (a0.map cF)),(1,.sl 2 (a1.map cF)),(2,.clo (.func fa2) sa2 qa2),(11,.sl 2 (a0.map cF)),(12,.c (.int .i64 ((a0.map cF).length:Int))),(13,.c (.int .i64 x.2))] []) (fun x=>M_s_CompareFunc_Fact_L1 a0 a1 a2 x.1 x.2=some o1) (fun x=>x.1) ((((a0.map cF).length:Int)).toNat+1,0) h ?_ ?_
  ·exact ca_0
  ·intro x3 h;intro _;obtain⟨k23,m4,h⟩:=succ_of (f:=fun n=>M_s_CompareFunc_Fact_L1 a0 a1 a2 n x3.2) rfl h;replace h:M_s_CompareFunc_Fact_L1 a0 a1 a2 (k23+1) x3.2=some o1:=h;rw[M_s_CompareFunc_Fact_L1]at h;refine aSR ?_;intro _;refine dr (aSq (aCd ?_));intro _;refine spl h (fun c5 h=>?_) (fun c5 h=>?_)
   ·refine aSk (aSq (aBk (aSR ?_)));intro _;obtain⟨y24,w6,q7,h⟩:=ix_ok h;refine Exists.intro (cF y24) (And.intro (map_at' w6) ?_);intro _;refine pr (dr (aSq (aSR ?_)));intro _;refine dr (aCd ?_);intro _;refine spl h (fun c8 h=>?_) (fun c8 h=>?_)
    ·refine aSR ?_;intro _;refine dr (aRt ?_);have j9:=sI_ h;subst j9;replace h:=(osum_r hK2);intro _;obtain rfl:=inj1 h;exact ca_0
    ·refine aSk (aSR ?_);intro _;obtain⟨y25,w10,q11,h⟩:=ix_ok h;refine Exists.intro (cF y25) (And.intro (map_at' w10) ?_);intro _;refine pr (dr (aSR ?_));intro _;obtain⟨z26,u12,h⟩:=ob1_ok h;refine clc rfl (ha2 _ _ _ u12) hFa2 ?_;intro _;refine dr (aSR ?_);intro _;refine dr (aCd ?_);intro _;refine spl h (fun c13 h=>?_) (fun c13 h=>?_)
     ·refine aSR ?_;intro _;refine dr (aRt ?_);have j14:=sI_ h;subst j14;replace h:=(osum_r hK2);intro _;obtain rfl:=inj1 h;exact ca_0
     ·refine aSk (aRg ?_);intro _;refine dr ?_;refine⟨(k23,(IntKind.i64.wrap (x3.2+1))),h,ltS m4,?_⟩;exact ca_0
   ·refine aEx ?_;refine⟨(),(sI_ h).symm,?_⟩;exact ca_0
 ·rintro _ ho;have ho:=ho.symm;subst ho;intro _;replace h:=(osum_l hK2);refine aSq (aSR ?_);intro _;refine dr (aCd ?_);intro _;refine spl h (fun c15 h=>?_) (fun c15 h=>?_)
  ·refine aSR ?_;intro _;refine dr (aRt ?_);intro _;obtain rfl:=inj1 h;exact ca_0
  ·refine aSk (aSR ?_);intro _;refine dr (aRt ?_);intro _;obtain rfl:=inj1 h;exact ca_0
def M_cmp_isNaN_int (a0:Int):Option (Bool):=some (a0 != a0)
theorem A_cmp_isNaN_int (a0:Int){r1:Bool}(h:M_cmp_isNaN_int a0=some r1):ACall cx 131 [.c (.int .i64 a0)] (.c (.bool r1)):=by
 refine aOf Tryz.func131 rfl (by decide) rfl (bT0 rfl) ?_;intro _;unfold M_cmp_isNaN_int at h;refine aSR ?_;intro _;refine dr (aSR ?_);intro _;refine dr (aRt ?_);intro _;obtain rfl:=inj1 h;exact ca_0
def M_cmp_Compare_int (a0:Int)(a1:Int):Option (Int):=ob1 (M_cmp_isNaN_int a0) (fun z1=>ob1 (M_cmp_isNaN_int a1) (fun z2=>sel z1 (sel z2 (some 0) (some (-1))) (sel z2 (some 1) (sel (decide (a0<a1)) (some (-1)) (sel (decide (a0>a1)) (some 1) (some 0))))))
theorem A_cmp_Compare_int (a0:Int)(a1:Int){r1:Int}(h:M_cmp_Compare_int a0 a1=some r1):ACall cx 111 [.c (.int .i64 a0),.c (.int .i64 a1)] (.c (.int .i64 r1)):=by
 refine aOf Tryz.func111 rfl (by decide) rfl (bT0 rfl) ?_;intro _;unfold M_cmp_Compare_int at h;refine aSR ?_;intro _;refine dr (aSR ?_);intro _;obtain⟨z1,u1,h⟩:=ob1_ok h;refine cl rfl (A_cmp_isNaN_int a0 u1) ?_;intro _;refine dr (aSR ?_);intro _;obtain⟨z2,u2,h⟩:=ob1_ok h;refine cl rfl (A_cmp_isNaN_int a1 u2) ?_;intro _;refine dr (aSq (aSR ?_));intro _;refine dr (aCd ?_);intro _;refine spl h (fun c3 h=>?_) (fun c3 h=>?_)
 ·refine aSq (aSR ?_);intro _;refine dr (aCd ?_);intro _;refine spl h (fun c4 h=>?_) (fun c4 h=>?_)
  ·refine aSR ?_;intro _;refine dr (aRt ?_);intro _;obtain rfl:=inj1 h;exact ca_0
  ·refine aSk (aSR ?_);intro _;refine dr (aRt ?_);intro _;obtain rfl:=inj1 h;exact ca_0
 ·refine aSk (aSq (aSR ?_));intro _;refine dr (aCd ?_);intro _;refine spl h (fun c5 h=>?_) (fun c5 h=>?_)
  ·refine aSR ?_;intro _;refine dr (aRt ?_);intro _;obtain rfl:=inj1 h;exact ca_0
  ·refine aSk (aSq (aSR ?_));intro _;refine dr (aCd ?_);intro _;refine spl h (fun c6 h=>?_) (fun c6 h=>?_)
   ·refine aSR ?_;intro _;refine dr (aRt ?_);intro _;obtain rfl:=inj1 h;exact ca_0
   ·refine aSk (aSq (aSR ?_));intro _;refine dr (aCd ?_);intro _;refine spl h (fun c7 h=>?_) (fun c7 h=>?_)
    ·refine aSR ?_;intro _;refine dr (aRt ?_);intro _;obtain rfl:=inj1 h;exact ca_0
    ·refine aSk (aSR ?_);intro _;refine dr (aRt ?_);intro _;obtain rfl:=inj1 h;exact ca_0
def M_cmp_Or_int_L1 (a0:List Int):Nat→Int→Option (Int)|0,_=>none|k5+1,v4=>sel (decide (v4<((a0.map cI).length:Int))) (ix a0 v4 (fun y6=>sel (y6 != 0) (some y6) (M_cmp_Or_int_L1 a0 k5 (IntKind.i64.wrap (v4+1))))) (some 0)
def M_cmp_Or_int (a0:List Int):Option (Int):=M_cmp_Or_int_L1 a0 ((((a0.map cI).length:Int)).toNat+1) 0
theorem A_cmp_Or_int (a0:List Int){r1:Int}(h:M_cmp_Or_int a0=some r1):ACall cx 110 [.sl 1 (a0.map cI)] (.c (.int .i64 r1)):=by
 refine aOf Tryz.func110 rfl (by decide) rfl (bT0 rfl) ?_;intro _;unfold M_cmp_Or_int at h;refine aSR ?_;intro _;refine dr (aSR ?_);intro _;refine dr (aSq (aSR ?_));intro _;refine dr (aBk ?_);refine awp_loop (α:=Nat×Int) (fun x=>mkS 18 [(3,.c (.int .i64 0)),(6,.sl 1 (a0.map cI)),(7,.c (.int .i64 ((a0.map cI).length:Int))),(8,.c (.int .i64 x.2))] []) (fun x=>M_cmp_Or_int_L1 a0 x.1 x.2=some r1) (fun x=>x.1) ((((a0.map cI).length:Int)).toNat+1,0) h ?_ ?_
 ·exact ca_0
 ·intro x1 h;intro _;obtain⟨k5,m2,h⟩:=succ_of (f:=fun n=>M_cmp_Or_int_L1 a0 n x1.2) rfl h;replace h:M_cmp_Or_int_L1 a0 (k5+1) x1.2=some r1:=h;rw[M_cmp_Or_int_L1]at h;refine aSR ?_;intro _;refine dr (aSq (aCd ?_));intro _;refine spl h (fun c3 h=>?_) (fun c3 h=>?_)
  ·refine aSk (aSq (aBk (aSR ?_)));intro _;obtain⟨y6,w4,q5,h⟩:=ix_ok h;refine Exists.intro (cI y6) (And.intro (map_at' w4) ?_);intro _;refine pr (dr (aSR ?_));intro _;refine dr (aCd ?_);intro _;refine spl h (fun c6 h=>?_) (fun c6 h=>?_)
   ·refine aSR ?_;intro _;refine dr (aRt ?_);intro _;obtain rfl:=inj1 h;exact ca_0
   ·refine aSk (aRg ?_);intro _;refine dr ?_;refine⟨(k5,(IntKind.i64.wrap (x1.2+1))),h,ltS m2,?_⟩;exact ca_0
  ·refine aEx (aSR ?_);intro _;refine dr (aRt ?_);intro _;obtain rfl:=inj1 h;exact ca_0
def M_g_compare_1 (a0:Fact)(a1:Fact):Option (Int):=ob1 (M_cmp_Compare_int a0.1 a1.1) (fun z1=>ob1 (M_cmp_Compare_int a0.2 a1.2) (fun z2=>ob1 (M_cmp_Or_int [z1,z2]) (fun z3=>some z3)))
theorem A_g_compare_1 (a0:Fact)(a1:Fact){r1:Int}(h:M_g_compare_1 a0 a1=some r1):ACall cx 109 [.agg [.c (.int .i64 a0.1),.c (.int .i64 a0.2)],.agg [.c (.int .i64 a1.1),.c (.int .i64 a1.2)]] (.c (.int .i64 r1)):=by
 refine aOf Tryz.func109 rfl (by decide) rfl (bT0 rfl) ?_;intro _;unfold M_g_compare_1 at h;refine aSR ?_;intro _;refine dr (aSR ?_);intro _;obtain⟨z1,u1,h⟩:=ob1_ok h;refine cl rfl (A_cmp_Compare_int a0.1 a1.1 u1) ?_;intro _;obtain⟨z2,u2,h⟩:=ob1_ok h;refine cl rfl (A_cmp_Compare_int a0.2 a1.2 u2) ?_;intro _;obtain⟨z3,u3,h⟩:=ob1_ok h;refine clb [15] rfl rfl (A_cmp_Or_int [z1,z2] u3) ?_;intro _;refine dr (aRt ?_);intro _;obtain rfl:=inj1 h;exact ca_0
def M_g_compare (a0:List Fact)(a1:List Fact):Option (Int):=ob1 (M_s_CompareFunc_Fact a0 a1 M_g_compare_1) (fun z1=>some z1)
theorem A_g_compare (a0:List Fact)(a1:List Fact){r1:Int}(h:M_g_compare a0 a1=some r1):ACall cx 94 [.sl 2 (a0.map cF),.sl 2 (a1.map cF)] (.c (.int .i64 r1)):=by
 refine aOf Tryz.func94 rfl (by decide) rfl (bT0 rfl) ?_;intro _;unfold M_g_compare at h;refine aSR ?_;intro _;refine dr (aSR ?_);intro _;obtain⟨z1,u1,h⟩:=ob1_ok h;refine clb [] rfl rfl (A_s_CompareFunc_Fact a0 a1 M_g_compare_1 (.clo (.func 109) [] []) (Fr.clo FrC_nil FrE.h) ⟨_,_,_,rfl⟩ (fun x0 x1 y0 hx=>⟨109,[],_,rfl,A_g_compare_1 x0 x1 hx⟩) u1) ?_;intro _;refine dr (aRt ?_);intro _;obtain rfl:=inj1 h;exact ca_0
def M_g_join_L1 (a1:List (List Fact))(g:Nat)(y153:List Fact):Nat→Int→(List (List Fact))→(List (List Fact))→Option (((List (List Fact))×(List (List Fact)))⊕((List (List Fact))×Er))|0,_,_,_=>none|k172+1,v169,v170,v171=>sel (decide (v169<((a1.map cL_cF).length:Int))) (ix a1 v169 (fun y173=>ob2 (M_p_Join y153 y173) (fun z174 z175=>sel (!z175) (M_g_join_L1 a1 g y153 k172 (IntKind.i64.wrap (v169+1)) v170 v171) (grd (v170.length≤140737488355328) (ob2 (M_s_BinarySearchFunc_Fact g v170 z174 M_g_compare) (fun z176 z177=>sel z177 (M_g_join_L1 a1 g y153 k172 (IntKind.i64.wrap (v169+1)) v170 v171) (sel (((v171.length:Nat):Int) == 1024) (some (.inr ([],(Er.no 5)))) (ob1 (M_insertL v170 z176 [z174]) (fun z178=>grd ((v171.length+1)*24≤140737488355328) (M_g_join_L1 a1 g y153 k172 (IntKind.i64.wrap (v169+1)) z178 (v171++[z174]))))))))))) (some (.inl (v170,v171)))
def M_g_join_L2 (a0:List (List Fact))(a1:List (List Fact))(g:Nat):Nat→Int→(List (List Fact))→(List (List Fact))→Option ((List (List Fact))×Er)|0,_,_,_=>none|k121+1,v118,v119,v120=>sel (decide (v118<((a0.map cL_cF).length:Int))) (ob1 (ix a0 v118 (fun y153=>M_g_join_L1 a1 g y153 ((((a1.map cL_cF).length:Int)).toNat+1) 0 v119 v120):Option (((List (List Fact))×(List (List Fact)))⊕((List (List Fact))×Er))) (osum (fun(v148,v149)=>M_g_join_L2 a0 a1 g k121 (IntKind.i64.wrap (v118+1)) v148 v149) (fun(r150,r151)=>some (r150,r151)))) (grd (v120.length≤140737488355328) (some (v120,Er.nil)))
def M_g_join (g:Nat)(a0:List (List Fact))(a1:List (List Fact)):Option ((List (List Fact))×Er):=M_g_join_L2 a0 a1 g ((((a0.map cL_cF).length:Int)).toNat+1) 0 [] []
theorem A_g_join (g:Nat)(a0:List (List Fact))(a1:List (List Fact)){r1:List (List Fact)}{r2:Er}(h:M_g_join g a0 a1=some (r1,r2)):ACall cx 103 [.sl 1 (a0.map cL_cF),.sl 1 (a1.map cL_cF)] (.tup [.sl 1 (r1.map cL_cF),eA r2]):=by
 refine aOf Tryz.func103 rfl (by decide) rfl (bT0 rfl) ?_;intro _;unfold M_g_join at h;refine aSR ?_;intro _;refine dr (aSR ?_);intro _;refine dr (aSq (aSR ?_));intro _;refine dr (aBk ?_);refine awp_loop (α:=Nat×Int×(List (List Fact))×(List (List Fact))) (fun x=>mkS 59 [(1,.sl 1 (a1.map cL_cF)),(6,.own 55 0 0 x.2.2.2.length),(7,.own 51 0 0 x.2.2.1.length),(16,.sl 1 (a0.map cL_cF)),(17,.c (.int .i64 ((a0.map cL_cF).length:Int))),(18,.c (.int .i64 x.2.1))] [(51,⟨23,1,false,x.2.2.1.map cL_cF⟩),(55,⟨23,1,false,x.2.2.2.map cL_cF⟩)]) (fun x=>M_g_join_L2 a0 a1 g x.1 x.2.1 x.2.2.1 x.2.2.2=some (r1,r2)) (fun x=>x.1) ((((a0.map cL_cF).length:Int)).toNat+1,0,[],[]) h ?_ ?_
 ·exact ca_0
 ·intro x1 h;intro _;obtain⟨k121,m2,h⟩:=succ_of (f:=fun n=>M_g_join_L2 a0 a1 g n x1.2.1 x1.2.2.1 x1.2.2.2) rfl h;replace h:M_g_join_L2 a0 a1 g (k121+1) x1.2.1 x1.2.2.1 x1.2.2.2=some (r1,r2):=h;rw[M_g_join_L2]at h;refine aSR ?_;intro _;refine dr (aSq (aCd ?_));intro _;refine spl h (fun c3 h=>?_) (fun c3 h=>?_)
  ·refine aSk ?_;obtain⟨o4,h,hK5⟩:=ob1_ok h;refine awp_cut (α:=(List (List Fact))×(List (List Fact))) (fun(v148,v149)=>mkS 59 [(1,.sl 1 (a1.map cL_cF)),(6,.own 55 0 0 v149.length),(7,.own 51 0 0 v148.length),(16,.sl 1 (a0.map cL_cF)),(17,.c (.int .i64 ((a0.map cL_cF).length:Int))),(18,.c (.int .i64 x1.2.1))] [(51,⟨23,1,false,v148.map cL_cF⟩),(55,⟨23,1,false,v149.map cL_cF⟩)]) (fun v=>o4=(.inl v)) ?_ ?_
   ·refine aBk (aSR ?_);intro _;obtain⟨y153,w6,q7,h⟩:=ix_ok h;refine Exists.intro (cL_cF y153) (And.intro (map_at' w6) ?_);intro _;refine pr (dr (aSR ?_));intro _;refine dr (aBk ?_);refine awp_loop (α:=Nat×Int×(List (List Fact))×(List (List Fact))) (fun x=>mkS 59 [(1,.sl 1 (a1.map cL_cF)),(6,.own 55 0 0 x.2.2.2.length),(7,.own 51 0 0 x.2.2.1.length),(9,.sl 2 (y153.map cF)),(16,.sl 1 (a0.map cL_cF)),(17,.c (.int .i64 ((a0.map cL_cF).length:Int))),(18,.c (.int .i64 x1.2.1)),(22,.sl 1 (a1.map cL_cF)),(23,.c (.int .i64 ((a1.map cL_cF).length:Int))),(24,.c (.int .i64 x.2.1))] [(51,⟨23,1,false,x.2.2.1.map cL_cF⟩),(55,⟨23,1,false,x.2.2.2.map cL_cF⟩)]) (fun x=>M_g_join_L1 a1 g y153 x.1 x.2.1 x.2.2.1 x.2.2.2=some o4) (fun x=>x.1) ((((a1.map cL_cF).length:Int)).toNat+1,0,x1.2.2.1,x1.2.2.2) h ?_ ?_
    ·exact ca_0
    ·intro x8 h;intro _;obtain⟨k172,m9,h⟩:=succ_of (f:=fun n=>M_g_join_L1 a1 g y153 n x8.2.1 x8.2.2.1 x8.2.2.2) rfl h;replace h:M_g_join_L1 a1 g y153 (k172+1) x8.2.1 x8.2.2.1 x8.2.2.2=some o4:=h;rw[M_g_join_L1]at h;refine aSR ?_;intro _;refine dr (aSq (aCd ?_));intro _;refine spl h (fun c10 h=>?_) (fun c10 h=>?_)
     ·refine aSk (aSq (aBk (aSR ?_)));intro _;obtain⟨y173,w11,q12,h⟩:=ix_ok h;refine Exists.intro (cL_cF y173) (And.intro (map_at' w11) ?_);intro _;refine pr (dr (aSR ?_));intro _;obtain⟨z174,z175,u13,h⟩:=ob2_ok h;refine cl rfl (A_p_Join y153 y173 u13) ?_;intro _;refine dr (aSq (aSR ?_));intro _;refine dr (aCd ?_);intro _;refine spl h (fun c14 h=>?_) (fun c14 h=>?_)
      ·refine aEx (aRg ?_);intro _;refine dr ?_;refine⟨(k172,(IntKind.i64.wrap (x8.2.1+1)),x8.2.2.1,x8.2.2.2),h,ltS m9,?_⟩;exact ca_0
      ·refine aSk (aSR ?_);intro _;obtain⟨q15,h⟩:=grd_ok h;obtain⟨z176,z177,u16,h⟩:=ob2_ok h;refine clb [51] rfl rfl (A_s_BinarySearchFunc_Fact g x8.2.2.1 z174 M_g_compare (.clo (.func 94) [] []) (Fr.clo FrC_nil FrE.h) ⟨_,_,_,rfl⟩ (fun x0 x1 y0 hx=>⟨94,[],_,rfl,A_g_compare x0 x1 hx⟩) u16) ?_;intro _;refine dr (aSq (aSR ?_));intro _;refine dr (aCd ?_);intro _;refine spl h (fun c17 h=>?_) (fun c17 h=>?_)
       ·refine aEx (aRg ?_);intro _;refine dr ?_;refine⟨(k172,(IntKind.i64.wrap (x8.2.1+1)),x8.2.2.1,x8.2.2.2),h,ltS m9,?_⟩;exact ca_0
       ·refine aSk (aSq (aSR ?_));intro _;refine dr (aCd ?_);intro _;refine spl h (fun c18 h=>?_) (fun c18 h=>?_)
        ·refine aSR ?_;intro _;refine dr (aRt ?_);have j19:=sI_ h;subst j19;replace h:=(osum_r hK5);intro _;obtain⟨rfl,rfl⟩:=inj2 h;exact ca_0
        ·refine aSk (aSR ?_);intro _;obtain⟨z178,u20,h⟩:=ob1_ok h;refine clg [(0,51),(2,50),(0,51)] [] [(50,⟨2,none⟩),(51,⟨1,none⟩)] [(51,⟨2,some ⟨23,1,false,z178.map cL_cF⟩⟩)] (.own 51 2 0 z178.length) rfl rfl (A_insertL x8.2.2.1 z176 [z174] u20) ?_;intro _;refine dr (aRg ?_);intro _;obtain⟨q21,h⟩:=grd_ok h;refine pl (pl ?_);refine And.intro (by first|with_reducible assumption|(show(x8.2.2.2.length+1)*24≤140737488355328;with_reducible assumption)|omega|(simp;omega)) ?_;refine pe (dr (aRg ?_));intro _;refine dr ?_;refine⟨(k172,(IntKind.i64.wrap (x8.2.1+1)),z178,(x8.2.2.2++[z174])),h,ltS m9,?_⟩;exact ca_0
     ·refine aEx ?_;refine⟨(x8.2.2.1,x8.2.2.2),(sI_ h).symm,?_⟩;exact ca_0
   ·rintro⟨v148,v149⟩ ho;have ho:=ho.symm;subst ho;intro _;replace h:=(osum_l hK5);refine aRg ?_;intro _;refine dr ?_;refine⟨(k121,(IntKind.i64.wrap (x1.2.1+1)),v148,v149),h,ltS m2,?_⟩;exact ca_0
  ·refine aEx (aSR ?_);intro _;refine dr (aRt ?_);obtain⟨q22,h⟩:=grd_ok h;intro _;obtain⟨rfl,rfl⟩:=inj2 h;exact ca_0
def M_g_cases_1 (b0:List Fact)(a0:List Fact):Option (Bool):=ob1 (M_g_compare a0 b0) (fun z1=>some (z1 == 0))
theorem A_g_cases_1 (b0:List Fact)(a0:List Fact){r1:Bool}(h:M_g_cases_1 b0 a0=some r1):ACall cx 116 [.sl 2 (a0.map cF),.pim [.sl 2 (b0.map cF)] 0] (.c (.bool r1)):=by
 refine aOf Tryz.func116 rfl (by decide) rfl (bT0 rfl) ?_;intro _;unfold M_g_cases_1 at h;refine aSR ?_;intro _;refine dr (aSR ?_);intro _;obtain⟨z1,u1,h⟩:=ob1_ok h;refine cl rfl (A_g_compare a0 b0 u1) ?_;intro _;refine dr (aRt ?_);intro _;obtain rfl:=inj1 h;exact ca_0
def M_g_cases_L1 (a1:GOp)(a2:Fact):Nat→Int→(List GEffect)→Option (List GEffect)|0,_,_=>none|k17+1,v15,v16=>sel (decide (v15<((a1.Effs.map cGEffect).length:Int))) (ix a1.Effs v15 (fun y18=>sel (y18.Var == a2.1) (grd ((v16.length+1)*40≤140737488355328) (M_g_cases_L1 a1 a2 k17 (IntKind.i64.wrap (v15+1)) (v16++[y18]))) (M_g_cases_L1 a1 a2 k17 (IntKind.i64.wrap (v15+1)) v16))) (some v16)
def M_g_cases_L2 (a0:List Int)(a2:Fact)(g:Nat)(v9:List GEffect)(v780:Int):Nat→(List (List Fact))→Int→Option ((List (List Fact))⊕((List (List Fact))×Er))|0,_,_=>none|k914+1,v912,v913=>sel (decide (v913<((v9.length-(IntKind.i64.wrap (v780+1)).toNat:Nat):Int))) (ixn v9 ((IntKind.i64.wrap (v780+1)).toNat+(v913).toNat) (fun y915=>grd (0≤v913) (grd (v913<((v9.length-(IntKind.i64.wrap (v780+1)).toNat:Nat):Int)) (sel (y915.Val == a2.2) (M_g_cases_L2 a0 a2 g v9 v780 k914 v912 (IntKind.i64.wrap (v913+1))) (ob2 (M_g_silent a0 y915) (fun z916 z917=>erM z917 (ob2 (M_g_join g v912 z916) (fun z919 z920=>erM z920 (M_g_cases_L2 a0 a2 g v9 v780 k914 z919 (IntKind.i64.wrap (v913+1))) (fun e921=>some (.inr ([],(Er.no e921)))))) (fun e918=>some (.inr ([],(Er.no e918)))))))))) (some (.inl v912))
def M_g_cases_L3 (v892:List (List Fact)):Nat→Int→(List (List Fact))→Option ((List (List Fact))⊕((List (List Fact))×Er))|0,_,_=>none|k930+1,v928,v929=>sel (decide (v928<((v892.map cL_cF).length:Int))) (ix v892 v928 (fun y931=>grd (v929.length≤140737488355328) (ob1 (M_s_ContainsFunc_Fact v929 (M_g_cases_1 y931)) (fun z932=>sel (!z932) (grd ((v929.length+1)*24≤140737488355328) (M_g_cases_L3 v892 k930 (IntKind.i64.wrap (v928+1)) (v929++[y931]))) (M_g_cases_L3 v892 k930 (IntKind.i64.wrap (v928+1)) v929))))) (some (.inl v929))
def M_g_cases_L4 (a0:List Int)(a2:Fact)(g:Nat)(v9:List GEffect):Nat→Int→(List (List Fact))→Option ((List (List Fact))⊕((List (List Fact))×Er))|0,_,_=>none|k782+1,v780,v781=>sel (decide (v780≥(-1))) (ob1 (ob1 (sel (decide (v780≥0)) (ixn v9 ((v780).toNat) (fun y864=>grd (0≤v780) (grd (v780<((v9.length:Nat):Int)) (sel (y864.Val != a2.2) (some (.inr ())) (ixn v9 ((v780).toNat) (fun y865=>some (.inl [y865.When]))))))) (some (.inl [[a2]])):Option ((List (List Fact))⊕Unit)) (osum (fun v862=>ob1 (grd (0≤(IntKind.i64.wrap (v780+1))) (grd ((IntKind.i64.wrap (v780+1)).toNat≤v9.length) (M_g_cases_L2 a0 a2 g v9 v780 ((((v9.length-(IntKind.i64.wrap (v780+1)).toNat:Nat):Int)).toNat+1) v862 0)):Option ((List (List Fact))⊕((List (List Fact))×Er))) (osum (fun v892=>M_g_cases_L3 v892 ((((v892.map cL_cF).length:Int)).toNat+1) 0 v781) (fun(r893,r894)=>some (.inr (r893,r894))))) (fun _=>some (.inl v781))):Option ((List (List Fact))⊕((List (List Fact))×Er))) (osum (fun v856=>M_g_cases_L4 a0 a2 g v9 k782 (IntKind.i64.wrap (v780-1)) v856) (fun(r857,r858)=>some (.inr (r857,r858))))) (some (.inl v781))
def M_g_cases (g:Nat)(a0:List Int)(a1:GOp)(a2:Fact):Option ((List (List Fact))×Er):=ob1 (M_g_cases_L1 a1 a2 ((((a1.Effs.map cGEffect).length:Int)).toNat+1) 0 []:Option (List GEffect)) (fun v9=>ob1 (M_g_cases_L4 a0 a2 g v9 g (IntKind.i64.wrap (((v9.length:Nat):Int)-1)) []:Option ((List (List Fact))⊕((List (List Fact))×Er))) (osum (fun v474=>sel (decide (((v474.length:Nat):Int)>1024)) (some ([],(Er.no 5))) (grd (v474.length≤140737488355328) (some (v474,Er.nil)))) (fun(r475,r476)=>some (r475,r476))))
theorem A_g_cases (g:Nat)(a0:List Int)(a1:GOp)(a2:Fact){r1:List (List Fact)}{r2:Er}(h:M_g_cases g a0 a1 a2=some (r1,r2)):ACall cx 102 [.sl 1 (a0.map cI),.agg [.c (.string a1.Name),.c (.int .i64 a1.Cost),.sl 2 (a1.Pre.map cF),.sl 3 (a1.Effs.map cGEffect)],.agg [.c (.int .i64 a2.1),.c (.int .i64 a2.2)]] (.tup [.sl 1 (r1.map cL_cF),eA r2]):=by
 refine aOf Tryz.func102 rfl (by decide) rfl (bT0 rfl) ?_;intro _;unfold M_g_cases at h;refine aSR ?_;intro _;refine dr (aSR ?_);intro _;refine dr ?_;obtain⟨o1,h,hK2⟩:=ob1_ok h;refine awp_cut (α:=List GEffect) (fun v9=>mkS 116 [(0,.sl 1 (a0.map cI)),(5,.ptr 5 0 0 0),(8,.own 35 0 0 v9.length)] [(5,⟨39,2,true,[[.c (.int .i64 a2.1),.c (.int .i64 a2.2)]]⟩),(35,⟨76,3,false,v9.map cGEffect⟩)]) (fun v=>o1=v) ?_ ?_
 ·refine aSR ?_;intro _;refine dr (aBk ?_);refine awp_loop (α:=Nat×Int×(List GEffect)) (fun x=>mkS 116 [(0,.sl 1 (a0.map cI)),(5,.ptr 5 0 0 0),(8,.own 35 0 0 x.2.2.length),(21,.sl 3 (a1.Effs.map cGEffect)),(22,.c (.int .i64 ((a1.Effs.map cGEffect).length:Int))),(23,.c (.int .i64 x.2.1))] [(5,⟨39,2,true,[[.c (.int .i64 a2.1),.c (.int .i64 a2.2)]]⟩),(35,⟨76,3,false,x.2.2.map cGEffect⟩)]) (fun x=>M_g_cases_L1 a1 a2 x.1 x.2.1 x.2.2=some o1) (fun x=>x.1) ((((a1.Effs.map cGEffect).length:Int)).toNat+1,0,[]) h ?_ ?_
  ·exact ca_0
  ·intro x3 h;intro _;obtain⟨k17,m4,h⟩:=succ_of (f:=fun n=>M_g_cases_L1 a1 a2 n x3.2.1 x3.2.2) rfl h;replace h:M_g_cases_L1 a1 a2 (k17+1) x3.2.1 x3.2.2=some o1:=h;rw[M_g_cases_L1]at h;refine aSR ?_;intro _;refine dr (aSq (aCd ?_));intro _;refine spl h (fun c5 h=>?_) (fun c5 h=>?_)
   ·refine aSk (aSq (aBk (aSR ?_)));intro _;obtain⟨y18,w6,q7,h⟩:=ix_ok h;refine Exists.intro (cGEffect y18) (And.intro (map_at' w6) ?_);intro _;refine pr (dr (aSR ?_));intro _;refine dr (aCd ?_);intro _;refine spl h (fun c8 h=>?_) (fun c8 h=>?_)
    ·refine aRg ?_;intro _;obtain⟨q9,h⟩:=grd_ok h;refine pl (pl ?_);refine And.intro (by first|with_reducible assumption|(show(x3.2.2.length+1)*40≤140737488355328;with_reducible assumption)|omega|(simp;omega)) ?_;refine pe (dr (aRg ?_));intro _;refine dr ?_;refine⟨(k17,(IntKind.i64.wrap (x3.2.1+1)),(x3.2.2++[y18])),h,ltS m4,?_⟩;exact ca_0
    ·refine aSk (aRg ?_);intro _;refine dr ?_;refine⟨(k17,(IntKind.i64.wrap (x3.2.1+1)),x3.2.2),h,ltS m4,?_⟩;exact ca_0
   ·refine aEx ?_;refine⟨x3.2.2,(sI_ h).symm,?_⟩;exact ca_0
 ·rintro v9 ho;have ho:=ho.symm;subst ho;intro _;replace h:=hK2;refine aSR ?_;intro _;refine dr ?_;obtain⟨o10,h,hK11⟩:=ob1_ok h;refine awp_cut (α:=List (List Fact)) (fun v474=>mkS 116 [(11,.own 109 0 0 v474.length)] [(109,⟨23,1,false,v474.map cL_cF⟩)]) (fun v=>o10=(.inl v)) ?_ ?_
  ·refine aSR ?_;intro _;refine dr (aBk ?_);refine awp_loop (α:=Nat×Int×(List (List Fact))) (fun x=>mkS 116 [(0,.sl 1 (a0.map cI)),(5,.ptr 5 0 0 0),(8,.own 35 0 0 v9.length),(11,.own 109 0 0 x.2.2.length),(12,.c (.int .i64 x.2.1))] [(5,⟨39,2,true,[[.c (.int .i64 a2.1),.c (.int .i64 a2.2)]]⟩),(35,⟨76,3,false,v9.map cGEffect⟩),(109,⟨23,1,false,x.2.2.map cL_cF⟩)]) (fun x=>M_g_cases_L4 a0 a2 g v9 x.1 x.2.1 x.2.2=some o10) (fun x=>x.1) (g,(IntKind.i64.wrap (((v9.length:Nat):Int)-1)),[]) h ?_ ?_
   ·exact ca_0
   ·intro x12 h;intro _;obtain⟨k782,m13,h⟩:=succ_of (f:=fun n=>M_g_cases_L4 a0 a2 g v9 n x12.2.1 x12.2.2) rfl h;replace h:M_g_cases_L4 a0 a2 g v9 (k782+1) x12.2.1 x12.2.2=some o10:=h;rw[M_g_cases_L4]at h;refine aSq (aSR ?_);intro _;refine dr (aCd ?_);intro _;refine spl h (fun c14 h=>?_) (fun c14 h=>?_)
    ·refine aSk ?_;obtain⟨o15,h,hK16⟩:=ob1_ok h;refine awp_cut (α:=List (List Fact)) (fun v856=>mkS 116 [(0,.sl 1 (a0.map cI)),(5,.ptr 5 0 0 0),(8,.own 35 0 0 v9.length),(11,.own 109 0 0 v856.length),(12,.c (.int .i64 x12.2.1))] [(5,⟨39,2,true,[[.c (.int .i64 a2.1),.c (.int .i64 a2.2)]]⟩),(35,⟨76,3,false,v9.map cGEffect⟩),(109,⟨23,1,false,v856.map cL_cF⟩)]) (fun v=>o15=(.inl v)) ?_ ?_
     ·refine aBk (aSR ?_);intro _;refine dr ?_;obtain⟨o17,h,hK18⟩:=ob1_ok h;refine awp_cut (α:=List (List Fact)) (fun v862=>mkS 116 [(0,.sl 1 (a0.map cI)),(5,.ptr 5 0 0 0),(8,.own 35 0 0 v9.length),(11,.own 109 0 0 x12.2.2.length),(12,.c (.int .i64 x12.2.1)),(13,.sl 1 (v862.map cL_cF))] [(5,⟨39,2,true,[[.c (.int .i64 a2.1),.c (.int .i64 a2.2)]]⟩),(35,⟨76,3,false,v9.map cGEffect⟩),(109,⟨23,1,false,x12.2.2.map cL_cF⟩)]) (fun v=>o17=(.inl v)) ?_ ?_
      ·refine aSR ?_;intro _;refine dr (aCd ?_);intro _;refine spl h (fun c19 h=>?_) (fun c19 h=>?_)
       ·refine aSq (aSR ?_);intro _;obtain⟨y864,w20,h⟩:=ixn_ok h;refine Exists.intro (cGEffect y864) (And.intro (by first|exact map_at' w20|(have w:=map_at' (f:=cGEffect) w20;simpa [cGTask,cI,cF,cGOp,cGEffect,cL_cF,cL_cL_cF,cL_cI,cGCover,cGCertificate,cN,cGChecker] using w)) ?_);intro _;obtain⟨q21,h⟩:=grd_ok h;obtain⟨q22,h⟩:=grd_ok h;refine pr (pr (dr (aCd ?_)));intro _;refine spl h (fun c23 h=>?_) (fun c23 h=>?_)
        ·refine aEx ?_;have j24:=sI_ h;subst j24;replace h:=(osum_r hK18);refine⟨x12.2.2,(sI_ h).symm,?_⟩;exact ca_0
        ·refine aSk (aRg ?_);intro _;obtain⟨y865,w25,h⟩:=ixn_ok h;refine Exists.intro (cGEffect y865) (And.intro (by first|exact map_at' w25|(have w:=map_at' (f:=cGEffect) w25;simpa [cGTask,cI,cF,cGOp,cGEffect,cL_cF,cL_cL_cF,cL_cI,cGCover,cGCertificate,cN,cGChecker] using w)) ?_);intro _;refine pr (pr (dr ?_));refine⟨[y865.When],(sI_ h).symm,?_⟩;exact ca_0
       ·refine aSk ?_;refine⟨[[a2]],(sI_ h).symm,?_⟩;exact ca_0
      ·rintro v862 ho;have ho:=ho.symm;subst ho;intro _;replace h:=(osum_l hK18);obtain⟨o26,h,hK27⟩:=ob1_ok h;refine awp_cut (α:=List (List Fact)) (fun v892=>mkS 116 [(0,.sl 1 (a0.map cI)),(5,.ptr 5 0 0 0),(8,.own 35 0 0 v9.length),(11,.own 109 0 0 x12.2.2.length),(12,.c (.int .i64 x12.2.1)),(13,.sl 1 (v892.map cL_cF))] [(5,⟨39,2,true,[[.c (.int .i64 a2.1),.c (.int .i64 a2.2)]]⟩),(35,⟨76,3,false,v9.map cGEffect⟩),(109,⟨23,1,false,x12.2.2.map cL_cF⟩)]) (fun v=>o26=(.inl v)) ?_ ?_
       ·refine aSR ?_;intro _;obtain⟨q28,h⟩:=grd_ok h;obtain⟨q29,h⟩:=grd_ok h;refine pr (pr (pr (dr (aBk ?_))));refine awp_loop (α:=Nat×(List (List Fact))×Int) (fun x=>mkS 116 [(0,.sl 1 (a0.map cI)),(5,.ptr 5 0 0 0),(8,.own 35 0 0 v9.length),(11,.own 109 0 0 x12.2.2.length),(12,.c (.int .i64 x12.2.1)),(13,.sl 1 (x.2.1.map cL_cF)),(66,.own 35 0 ((IntKind.i64.wrap (x12.2.1+1)).toNat) (v9.length-(IntKind.i64.wrap (x12.2.1+1)).toNat)),(67,.c (.int .i64 ((v9.length-(IntKind.i64.wrap (x12.2.1+1)).toNat:Nat):Int))),(68,.c (.int .i64 x.2.2))] [(5,⟨39,2,true,[[.c (.int .i64 a2.1),.c (.int .i64 a2.2)]]⟩),(35,⟨76,3,false,v9.map cGEffect⟩),(109,⟨23,1,false,x12.2.2.map cL_cF⟩)]) (fun x=>M_g_cases_L2 a0 a2 g v9 x12.2.1 x.1 x.2.1 x.2.2=some o26) (fun x=>x.1) ((((v9.length-(IntKind.i64.wrap (x12.2.1+1)).toNat:Nat):Int)).toNat+1,v862,0) h ?_ ?_
        ·exact ca_0
        ·intro x30 h;intro _;obtain⟨k914,m31,h⟩:=succ_of (f:=fun n=>M_g_cases_L2 a0 a2 g v9 x12.2.1 n x30.2.1 x30.2.2) rfl h;replace h:M_g_cases_L2 a0 a2 g v9 x12.2.1 (k914+1) x30.2.1 x30.2.2=some o26:=h;rw[M_g_cases_L2]at h;refine aSR ?_;intro _;refine dr (aSq (aCd ?_));intro _;refine spl h (fun c32 h=>?_) (fun c32 h=>?_)
         ·refine aSk (aSq (aBk (aSR ?_)));intro _;obtain⟨y915,w33,h⟩:=ixn_ok h;refine Exists.intro (cGEffect y915) (And.intro (by first|exact map_at' w33|(have w:=map_at' (f:=cGEffect) w33;simpa [cGTask,cI,cF,cGOp,cGEffect,cL_cF,cL_cL_cF,cL_cI,cGCover,cGCertificate,cN,cGChecker] using w)) ?_);intro _;obtain⟨q34,h⟩:=grd_ok h;obtain⟨q35,h⟩:=grd_ok h;refine pr (pr (dr (aSq (aSR ?_))));intro _;refine dr (aCd ?_);intro _;refine spl h (fun c36 h=>?_) (fun c36 h=>?_)
          ·refine aEx (aRg ?_);intro _;refine dr ?_;refine⟨(k914,x30.2.1,(IntKind.i64.wrap (x30.2.2+1))),h,ltS m31,?_⟩;exact ca_0
          ·refine aSk (aSR ?_);intro _;obtain⟨z916,z917,u37,h⟩:=ob2_ok h;refine cl rfl (A_g_silent a0 y915 u37) ?_;intro _;refine dr (aSq (aSq ?_));rcases z917 with _|e918
           ·replace h:=erM_nil h;refine aRg ?_;intro _;refine dr (aCd ?_);intro _;refine litF (aSk (aSR ?_));intro _;obtain⟨z919,z920,u38,h⟩:=ob2_ok h;refine cl rfl (A_g_join g x30.2.1 z916 u38) ?_;intro _;refine dr (aSq ?_);rcases z920 with _|e921
            ·replace h:=erM_nil h;refine aRg ?_;intro _;refine dr (aCd ?_);intro _;refine litF (aSk (aRg ?_));intro _;refine dr ?_;refine⟨(k914,z919,(IntKind.i64.wrap (x30.2.2+1))),h,ltS m31,?_⟩;exact ca_0
            ·replace h:=erM_no h;refine aRg ?_;intro _;refine dr (aCd ?_);intro _;refine litT (aSR ?_);intro _;refine dr (aRt ?_);have j39:=sI_ h;subst j39;replace h:=(osum_r hK27);have j40:=sI_ h;subst j40;replace h:=(osum_r hK16);have j41:=sI_ h;subst j41;replace h:=(osum_r hK11);intro _;obtain⟨rfl,rfl⟩:=inj2 h;exact ca_0
           ·replace h:=erM_no h;refine aRg ?_;intro _;refine dr (aCd ?_);intro _;refine litT (aSR ?_);intro _;refine dr (aRt ?_);have j42:=sI_ h;subst j42;replace h:=(osum_r hK27);have j43:=sI_ h;subst j43;replace h:=(osum_r hK16);have j44:=sI_ h;subst j44;replace h:=(osum_r hK11);intro _;obtain⟨rfl,rfl⟩:=inj2 h;exact ca_0
         ·refine aEx ?_;refine⟨x30.2.1,(sI_ h).symm,?_⟩;exact ca_0
       ·rintro v892 ho;have ho:=ho.symm;subst ho;intro _;replace h:=(osum_l hK27);refine aSR ?_;intro _;refine dr (aBk ?_);refine awp_loop (α:=Nat×Int×(List (List Fact))) (fun x=>mkS 116 [(0,.sl 1 (a0.map cI)),(5,.ptr 5 0 0 0),(8,.own 35 0 0 v9.length),(11,.own 109 0 0 x.2.2.length),(12,.c (.int .i64 x12.2.1)),(96,.sl 1 (v892.map cL_cF)),(97,.c (.int .i64 ((v892.map cL_cF).length:Int))),(98,.c (.int .i64 x.2.1))] [(5,⟨39,2,true,[[.c (.int .i64 a2.1),.c (.int .i64 a2.2)]]⟩),(35,⟨76,3,false,v9.map cGEffect⟩),(109,⟨23,1,false,x.2.2.map cL_cF⟩)]) (fun x=>M_g_cases_L3 v892 x.1 x.2.1 x.2.2=some o15) (fun x=>x.1) ((((v892.map cL_cF).length:Int)).toNat+1,0,x12.2.2) h ?_ ?_
        ·exact ca_0
        ·intro x45 h;intro _;obtain⟨k930,m46,h⟩:=succ_of (f:=fun n=>M_g_cases_L3 v892 n x45.2.1 x45.2.2) rfl h;replace h:M_g_cases_L3 v892 (k930+1) x45.2.1 x45.2.2=some o15:=h;rw[M_g_cases_L3]at h;refine aSR ?_;intro _;refine dr (aSq (aCd ?_));intro _;refine spl h (fun c47 h=>?_) (fun c47 h=>?_)
         ·refine aSk (aSq (aBk (aSR ?_)));intro _;obtain⟨y931,w48,q49,h⟩:=ix_ok h;refine Exists.intro (cL_cF y931) (And.intro (map_at' w48) ?_);intro _;refine pr (dr (aSR ?_));intro _;refine⟨_,lf_func rfl (bT0 rfl) rfl rfl,?_⟩;intro _;obtain⟨q50,h⟩:=grd_ok h;obtain⟨z932,u51,h⟩:=ob1_ok h;refine clb [19,109] rfl rfl (A_s_ContainsFunc_Fact x45.2.2 (M_g_cases_1 y931) (.clo (.func 116) [] [.pim [.sl 2 (y931.map cF)] 0]) (Fr.clo FrC_nil FrE.h) ⟨_,_,_,rfl⟩ (fun x0 y0 hx=>⟨116,[],_,rfl,A_g_cases_1 y931 x0 hx⟩) u51) ?_;intro _;refine dr (aCd ?_);intro _;refine spl h (fun c52 h=>?_) (fun c52 h=>?_)
          ·refine aRg ?_;intro _;obtain⟨q53,h⟩:=grd_ok h;refine pl (pl ?_);refine And.intro (by first|with_reducible assumption|(show(x45.2.2.length+1)*24≤140737488355328;with_reducible assumption)|omega|(simp;omega)) ?_;refine pe (dr (aRg ?_));intro _;refine dr ?_;refine⟨(k930,(IntKind.i64.wrap (x45.2.1+1)),(x45.2.2++[y931])),h,ltS m46,?_⟩;exact ca_0
          ·refine aSk (aRg ?_);intro _;refine dr ?_;refine⟨(k930,(IntKind.i64.wrap (x45.2.1+1)),x45.2.2),h,ltS m46,?_⟩;exact ca_0
         ·refine aEx ?_;refine⟨x45.2.2,(sI_ h).symm,?_⟩;exact ca_0
     ·rintro v856 ho;have ho:=ho.symm;subst ho;intro _;replace h:=(osum_l hK16);refine aRg ?_;intro _;refine dr ?_;refine⟨(k782,(IntKind.i64.wrap (x12.2.1-1)),v856),h,ltS m13,?_⟩;exact ca_0
    ·refine aEx ?_;refine⟨x12.2.2,(sI_ h).symm,?_⟩;exact ca_0
  ·rintro v474 ho;have ho:=ho.symm;subst ho;intro _;replace h:=(osum_l hK11);refine aSq (aSR ?_);intro _;refine dr (aCd ?_);intro _;refine spl h (fun c54 h=>?_) (fun c54 h=>?_)
   ·refine aSR ?_;intro _;refine dr (aRt ?_);intro _;obtain⟨rfl,rfl⟩:=inj2 h;exact ca_0
   ·refine aSk (aSR ?_);intro _;refine dr (aRt ?_);obtain⟨q55,h⟩:=grd_ok h;intro _;obtain⟨rfl,rfl⟩:=inj2 h;exact ca_0
def M_g_preimage_L1 (a0:GTask)(a2:List Fact)(g:Nat)(y7:GOp):Nat→Int→(List (List (List Fact)))→Option ((List (List (List Fact)))⊕((List (List Fact))×Er))|0,_,_=>none|k46+1,v44,v45=>sel (decide (v44<((a2.map cF).length:Int))) (ix a2 v44 (fun y47=>ob2 (M_g_cases g a0.Vars y7 y47) (fun z48 z49=>erM z49 (ixn v45 ((v44).toNat) (fun _=>grd (v44<((v45.length:Nat):Int)) (M_g_preimage_L1 a0 a2 g y7 k46 (IntKind.i64.wrap (v44+1)) (v45.set ((v44).toNat) z48)))) (fun e50=>some (.inr ([],(Er.no e50))))))) (some (.inl v45))
def M_g_preimage_L2 (g:Nat)(v28:List (List (List Fact))):Nat→(List (List Fact))→Int→Option ((List (List Fact))×Er)|0,_,_=>none|k65+1,v63,v64=>sel (decide (v64<((v28.length:Nat):Int))) (ixn v28 ((v64).toNat) (fun y66=>grd (0≤v64) (grd (v64<((v28.length:Nat):Int)) (ob2 (M_g_join g v63 y66) (fun z67 z68=>erM z68 (M_g_preimage_L2 g v28 k65 z67 (IntKind.i64.wrap (v64+1))) (fun e69=>some ([],(Er.no e69)))))))) (some (v63,Er.nil))
def M_g_preimage (g:Nat)(a0:GTask)(a1:Int)(a2:List Fact):Option ((List (List Fact))×Er):=ob1 (M_task_Check a0) (fun z1=>erM z1 (ob1 (sel (decide (a1<0)) (some (.inr ([],(Er.no 1)))) (sel (decide (a1≥((a0.Ops.map cGOp).length:Int))) (some (.inr ([],(Er.no 1)))) (some (.inl ()))):Option (Unit⊕((List (List Fact))×Er))) (osum (fun _=>ob1 (M_task_Facts a0.Vars a2) (fun z6=>sel (!z6) (some ([],(Er.no 2))) (ix a0.Ops a1 (fun y7=>grd (0≤((a2.map cF).length:Int)) (grd (((a2.map cF).length:Int)*24≤281474976710656) (ob1 (M_g_preimage_L1 a0 a2 g y7 ((((a2.map cF).length:Int)).toNat+1) 0 (List.replicate ((a2.map cF).length:Int).toNat []):Option ((List (List (List Fact)))⊕((List (List Fact))×Er))) (osum (fun v28=>ob1 (M_cloneF y7.Pre) (fun z52=>grd (z52.length≤140737488355328) (M_g_preimage_L2 g v28 ((((v28.length:Nat):Int)).toNat+1) [z52] 0))) (fun(r29,r30)=>some (r29,r30))))))))) (fun(r3,r4)=>some (r3,r4)))) (fun e2=>some ([],(Er.no e2))))
theorem A_g_preimage (g:Nat)(a0:GTask)(a1:Int)(a2:List Fact){r1:List (List Fact)}{r2:Er}(h:M_g_preimage g a0 a1 a2=some (r1,r2)):ACall cx 91 [.agg [.sl 1 (a0.Vars.map cI),.sl 1 (a0.Init.map cI),.sl 2 (a0.Goal.map cF),.sl 4 (a0.Ops.map cGOp)],.c (.int .i64 a1),.sl 2 (a2.map cF)] (.tup [.sl 1 (r1.map cL_cF),eA r2]):=by
 refine aOf Tryz.func91 rfl (by decide) rfl (bT0 rfl) ?_;intro _;unfold M_g_preimage at h;refine aSR ?_;intro _;refine dr (aSq (aSR ?_));intro _;obtain⟨z1,u1,h⟩:=ob1_ok h;refine cl rfl (A_task_Check a0 u1) ?_;intro _;refine dr (aSq ?_);rcases z1 with _|e2
 ·replace h:=erM_nil h;refine aRg ?_;intro _;refine dr (aCd ?_);intro _;refine litF (aSk ?_);obtain⟨o2,h,hK3⟩:=ob1_ok h;refine awp_cut (α:=Unit) (fun _=>mkS 94 [(1,.c (.int .i64 a1)),(2,.sl 2 (a2.map cF)),(3,.ptr 3 0 0 0)] [(3,⟨26,4,true,[[.sl 1 (a0.Vars.map cI),.sl 1 (a0.Init.map cI),.sl 2 (a0.Goal.map cF),.sl 4 (a0.Ops.map cGOp)]]⟩)]) (fun v=>o2=(.inl v)) ?_ ?_
  ·refine aSR ?_;intro _;refine spf h (fun c4 h=>?_) (fun c4 h=>?_)
   ·intro _;refine dr (aCd ?_);intro _;refine spl h (fun c5 h=>?_) (fun c5 h=>?_)
    ·refine aSR ?_;intro _;refine dr (aRt ?_);have j6:=sI_ h;subst j6;replace h:=(osum_r hK3);intro _;obtain⟨rfl,rfl⟩:=inj2 h;exact ca_0
    ·refine aSk ?_;refine⟨(),(sI_ h).symm,?_⟩;exact ca_0
   ·intro _;refine dr (aCd ?_);intro _;refine litT (aSR ?_);intro _;refine dr (aRt ?_);have j7:=sI_ h;subst j7;replace h:=(osum_r hK3);intro _;obtain⟨rfl,rfl⟩:=inj2 h;exact ca_0
  ·rintro _ ho;have ho:=ho.symm;subst ho;intro _;replace h:=(osum_l hK3);refine aSq (aSR ?_);intro _;obtain⟨z6,u8,h⟩:=ob1_ok h;refine cl rfl (A_task_Facts a0.Vars a2 u8) ?_;intro _;refine dr (aCd ?_);intro _;refine spl h (fun c9 h=>?_) (fun c9 h=>?_)
   ·refine aSR ?_;intro _;refine dr (aRt ?_);intro _;obtain⟨rfl,rfl⟩:=inj2 h;exact ca_0
   ·refine aSk (aSR ?_);intro _;obtain⟨y7,w10,q11,h⟩:=ix_ok h;refine Exists.intro (cGOp y7) (And.intro (map_at' w10) ?_);intro _;refine pr (dr (aSR ?_));intro _;obtain⟨q12,h⟩:=grd_ok h;obtain⟨q13,h⟩:=grd_ok h;refine⟨_,lf_make rfl rfl (bT0 rfl) (tyTab_ok 141 _ rfl) rfl (tyTab_ok 83 _ rfl) rfl rfl rfl (by first|assumption|omega) (by first|assumption|(show _*(24:Int)≤_;omega)|omega) (by omega) rfl (by simp only[Value.cells];simp[Value.oneCell']) (by decide),?_⟩;intro _;refine dr ?_;obtain⟨o14,h,hK15⟩:=ob1_ok h;refine awp_cut (α:=List (List (List Fact))) (fun v28=>mkS 94 [(9,.ptr 9 0 0 0),(10,.own 48 0 0 v28.length)] [(9,⟨60,4,true,[[.c (.string y7.Name),.c (.int .i64 y7.Cost),.sl 2 (y7.Pre.map cF),.sl 3 (y7.Effs.map cGEffect)]]⟩),(48,⟨83,1,false,v28.map cL_cL_cF⟩)]) (fun v=>o14=(.inl v)) ?_ ?_
    ·refine aSR ?_;intro _;refine dr (aBk ?_);refine awp_loop (α:=Nat×Int×(List (List (List Fact)))) (fun x=>mkS 94 [(3,.ptr 3 0 0 0),(9,.ptr 9 0 0 0),(10,.own 48 0 0 x.2.2.length),(49,.sl 2 (a2.map cF)),(50,.c (.int .i64 ((a2.map cF).length:Int))),(51,.c (.int .i64 x.2.1))] [(3,⟨26,4,true,[[.sl 1 (a0.Vars.map cI),.sl 1 (a0.Init.map cI),.sl 2 (a0.Goal.map cF),.sl 4 (a0.Ops.map cGOp)]]⟩),(9,⟨60,4,true,[[.c (.string y7.Name),.c (.int .i64 y7.Cost),.sl 2 (y7.Pre.map cF),.sl 3 (y7.Effs.map cGEffect)]]⟩),(48,⟨83,1,false,x.2.2.map cL_cL_cF⟩)]) (fun x=>M_g_preimage_L1 a0 a2 g y7 x.1 x.2.1 x.2.2=some o14) (fun x=>x.1) ((((a2.map cF).length:Int)).toNat+1,0,(List.replicate ((a2.map cF).length:Int).toNat [])) h ?_ ?_
     ·exact ca_0
     ·intro x16 h;intro _;obtain⟨k46,m17,h⟩:=succ_of (f:=fun n=>M_g_preimage_L1 a0 a2 g y7 n x16.2.1 x16.2.2) rfl h;replace h:M_g_preimage_L1 a0 a2 g y7 (k46+1) x16.2.1 x16.2.2=some o14:=h;rw[M_g_preimage_L1]at h;refine aSR ?_;intro _;refine dr (aSq (aCd ?_));intro _;refine spl h (fun c18 h=>?_) (fun c18 h=>?_)
      ·refine aSk (aSq (aBk (aSR ?_)));intro _;obtain⟨y47,w19,q20,h⟩:=ix_ok h;refine Exists.intro (cF y47) (And.intro (map_at' w19) ?_);intro _;refine pr (dr (aSR ?_));intro _;obtain⟨z48,z49,u21,h⟩:=ob2_ok h;refine cl rfl (A_g_cases g a0.Vars y7 y47 u21) ?_;intro _;refine dr (aSq (aSq ?_));rcases z49 with _|e50
       ·replace h:=erM_nil h;refine aRg ?_;intro _;refine dr (aCd ?_);intro _;refine litF (aSk (aRg ?_));intro _;obtain⟨y51,w22,h⟩:=ixn_ok h;refine Exists.intro (cL_cL_cF y51) (And.intro (by first|exact map_at' w22|(have w:=map_at' (f:=cL_cL_cF) w22;simpa [cGTask,cI,cF,cGOp,cGEffect,cL_cF,cL_cL_cF,cL_cI,cGCover,cGCertificate,cN,cGChecker] using w)) ?_);intro _;obtain⟨q23,h⟩:=grd_ok h;refine pr (pr (dr (aRg ?_)));intro _;refine dr ?_;refine⟨(k46,(IntKind.i64.wrap (x16.2.1+1)),(x16.2.2.set ((x16.2.1).toNat) z48)),h,ltS m17,?_⟩;exact ca_0
       ·replace h:=erM_no h;refine aRg ?_;intro _;refine dr (aCd ?_);intro _;refine litT (aSR ?_);intro _;refine dr (aRt ?_);have j24:=sI_ h;subst j24;replace h:=(osum_r hK15);intro _;obtain⟨rfl,rfl⟩:=inj2 h;exact ca_0
      ·refine aEx ?_;refine⟨x16.2.2,(sI_ h).symm,?_⟩;exact ca_0
    ·rintro v28 ho;have ho:=ho.symm;subst ho;intro _;replace h:=(osum_l hK15);refine aSR ?_;intro _;obtain⟨z52,u25,h⟩:=ob1_ok h;refine clg [(0,74)] [] [] [(74,⟨2,some ⟨39,2,false,z52.map cF⟩⟩)] (.own 74 2 0 z52.length) rfl rfl (A_cloneF y7.Pre u25) ?_;intro _;refine dr (aSq (aSR ?_));intro _;refine dr (aBk ?_);obtain⟨q26,h⟩:=grd_ok h;refine awp_loop (α:=Nat×(List (List Fact))×Int) (fun x=>mkS 94 [(15,.sl 1 (x.2.1.map cL_cF)),(76,.own 48 0 0 v28.length),(77,.c (.int .i64 ((v28.length:Nat):Int))),(78,.c (.int .i64 x.2.2))] [(48,⟨83,1,false,v28.map cL_cL_cF⟩)]) (fun x=>M_g_preimage_L2 g v28 x.1 x.2.1 x.2.2=some (r1,r2)) (fun x=>x.1) ((((v28.length:Nat):Int)).toNat+1,[z52],0) h ?_ ?_
     ·exact ca_0
     ·intro x27 h;intro _;obtain⟨k65,m28,h⟩:=succ_of (f:=fun n=>M_g_preimage_L2 g v28 n x27.2.1 x27.2.2) rfl h;replace h:M_g_preimage_L2 g v28 (k65+1) x27.2.1 x27.2.2=some (r1,r2):=h;rw[M_g_preimage_L2]at h;refine aSR ?_;intro _;refine dr (aSq (aCd ?_));intro _;refine spl h (fun c29 h=>?_) (fun c29 h=>?_)
      ·refine aSk (aSq (aBk (aSR ?_)));intro _;obtain⟨y66,w30,h⟩:=ixn_ok h;refine Exists.intro (cL_cL_cF y66) (And.intro (by first|exact map_at' w30|(have w:=map_at' (f:=cL_cL_cF) w30;simpa [cGTask,cI,cF,cGOp,cGEffect,cL_cF,cL_cL_cF,cL_cI,cGCover,cGCertificate,cN,cGChecker] using w)) ?_);intro _;obtain⟨q31,h⟩:=grd_ok h;obtain⟨q32,h⟩:=grd_ok h;refine pr (pr (dr (aSR ?_)));intro _;obtain⟨z67,z68,u33,h⟩:=ob2_ok h;refine cl rfl (A_g_join g x27.2.1 y66 u33) ?_;intro _;refine dr (aSq (aSq ?_));rcases z68 with _|e69
       ·replace h:=erM_nil h;refine aRg ?_;intro _;refine dr (aCd ?_);intro _;refine litF (aSk (aRg ?_));intro _;refine dr (aRg ?_);intro _;refine dr ?_;refine⟨(k65,z67,(IntKind.i64.wrap (x27.2.2+1))),h,ltS m28,?_⟩;exact ca_0
       ·replace h:=erM_no h;refine aRg ?_;intro _;refine dr (aCd ?_);intro _;refine litT (aSR ?_);intro _;refine dr (aRt ?_);intro _;obtain⟨rfl,rfl⟩:=inj2 h;exact ca_0
      ·refine aEx (aSR ?_);intro _;refine dr (aRt ?_);intro _;obtain⟨rfl,rfl⟩:=inj2 h;exact ca_0
 ·replace h:=erM_no h;refine aRg ?_;intro _;refine dr (aCd ?_);intro _;refine litT (aSR ?_);intro _;refine dr (aRt ?_);intro _;obtain⟨rfl,rfl⟩:=inj2 h;exact ca_0
def M_p_find_L1 (a0:List Fact)(a1:Int):Nat→Int→Option (Int)|0,_=>none|k5+1,v4=>sel (decide (v4<((a0.map cF).length:Int))) (ix a0 v4 (fun y6=>sel (y6.1 == a1) (some y6.2) (M_p_find_L1 a0 a1 k5 (IntKind.i64.wrap (v4+1))))) (some (-1))
def M_p_find (a0:List Fact)(a1:Int):Option (Int):=M_p_find_L1 a0 a1 ((((a0.map cF).length:Int)).toNat+1) 0
theorem A_p_find (a0:List Fact)(a1:Int){r1:Int}(h:M_p_find a0 a1=some r1):ACall cx 120 [.sl 2 (a0.map cF),.c (.int .i64 a1)] (.c (.int .i64 r1)):=by
 refine aOf Tryz.func120 rfl (by decide) rfl (bT0 rfl) ?_;intro _;unfold M_p_find at h;refine aSR ?_;intro _;refine dr (aSq (aSR ?_));intro _;refine dr (aBk ?_);refine awp_loop (α:=Nat×Int) (fun x=>mkS 20 [(1,.c (.int .i64 a1)),(7,.sl 2 (a0.map cF)),(8,.c (.int .i64 ((a0.map cF).length:Int))),(9,.c (.int .i64 x.2))] []) (fun x=>M_p_find_L1 a0 a1 x.1 x.2=some r1) (fun x=>x.1) ((((a0.map cF).length:Int)).toNat+1,0) h ?_ ?_
 ·exact ca_0
 ·intro x1 h;intro _;obtain⟨k5,m2,h⟩:=succ_of (f:=fun n=>M_p_find_L1 a0 a1 n x1.2) rfl h;replace h:M_p_find_L1 a0 a1 (k5+1) x1.2=some r1:=h;rw[M_p_find_L1]at h;refine aSR ?_;intro _;refine dr (aSq (aCd ?_));intro _;refine spl h (fun c3 h=>?_) (fun c3 h=>?_)
  ·refine aSk (aSq (aBk (aSR ?_)));intro _;obtain⟨y6,w4,q5,h⟩:=ix_ok h;refine Exists.intro (cF y6) (And.intro (map_at' w4) ?_);intro _;refine pr (dr (aSR ?_));intro _;refine dr (aCd ?_);intro _;refine spl h (fun c6 h=>?_) (fun c6 h=>?_)
   ·refine aSR ?_;intro _;refine dr (aRt ?_);intro _;obtain rfl:=inj1 h;exact ca_0
   ·refine aSk (aRg ?_);intro _;refine dr ?_;refine⟨(k5,(IntKind.i64.wrap (x1.2+1))),h,ltS m2,?_⟩;exact ca_0
  ·refine aEx (aSR ?_);intro _;refine dr (aRt ?_);intro _;obtain rfl:=inj1 h;exact ca_0
def M_p_contains_L1 (a0:List Fact)(a1:List Fact):Nat→Int→Option (Bool)|0,_=>none|k7+1,v6=>sel (decide (v6<((a1.map cF).length:Int))) (ix a1 v6 (fun y8=>ob1 (M_p_find a0 y8.1) (fun z9=>sel (z9 != y8.2) (some false) (M_p_contains_L1 a0 a1 k7 (IntKind.i64.wrap (v6+1)))))) (some true)
def M_p_contains (a0:List Fact)(a1:List Fact):Option (Bool):=M_p_contains_L1 a0 a1 ((((a1.map cF).length:Int)).toNat+1) 0
theorem A_p_contains (a0:List Fact)(a1:List Fact){r1:Bool}(h:M_p_contains a0 a1=some r1):ACall cx 105 [.sl 2 (a0.map cF),.sl 2 (a1.map cF)] (.c (.bool r1)):=by
 refine aOf Tryz.func105 rfl (by decide) rfl (bT0 rfl) ?_;intro _;unfold M_p_contains at h;refine aSR ?_;intro _;refine dr (aSq (aSR ?_));intro _;refine dr (aBk ?_);refine awp_loop (α:=Nat×Int) (fun x=>mkS 21 [(0,.sl 2 (a0.map cF)),(7,.sl 2 (a1.map cF)),(8,.c (.int .i64 ((a1.map cF).length:Int))),(9,.c (.int .i64 x.2))] []) (fun x=>M_p_contains_L1 a0 a1 x.1 x.2=some r1) (fun x=>x.1) ((((a1.map cF).length:Int)).toNat+1,0) h ?_ ?_
 ·exact ca_0
 ·intro x1 h;intro _;obtain⟨k7,m2,h⟩:=succ_of (f:=fun n=>M_p_contains_L1 a0 a1 n x1.2) rfl h;replace h:M_p_contains_L1 a0 a1 (k7+1) x1.2=some r1:=h;rw[M_p_contains_L1]at h;refine aSR ?_;intro _;refine dr (aSq (aCd ?_));intro _;refine spl h (fun c3 h=>?_) (fun c3 h=>?_)
  ·refine aSk (aSq (aBk (aSR ?_)));intro _;obtain⟨y8,w4,q5,h⟩:=ix_ok h;refine Exists.intro (cF y8) (And.intro (map_at' w4) ?_);intro _;refine pr (dr (aSR ?_));intro _;obtain⟨z9,u6,h⟩:=ob1_ok h;refine cl rfl (A_p_find a0 y8.1 u6) ?_;intro _;refine dr (aCd ?_);intro _;refine spl h (fun c7 h=>?_) (fun c7 h=>?_)
   ·refine aSR ?_;intro _;refine dr (aRt ?_);intro _;obtain rfl:=inj1 h;exact ca_0
   ·refine aSk (aRg ?_);intro _;refine dr ?_;refine⟨(k7,(IntKind.i64.wrap (x1.2+1))),h,ltS m2,?_⟩;exact ca_0
  ·refine aEx (aSR ?_);intro _;refine dr (aRt ?_);intro _;obtain rfl:=inj1 h;exact ca_0
def M_p_Minimal_L1 (a0:List (List Fact))(v115:Int)(y149:List Fact):Nat→Int→Option (Bool)|0,_=>none|k173+1,v172=>sel (decide (v172<((a0.map cL_cF).length:Int))) (ix a0 v172 (fun y174=>sel (v115 != v172) (ob1 (M_p_valid y174) (fun z175=>sel z175 (ob1 (M_p_contains y149 y174) (fun z176=>sel z176 (sel (decide (((y174.map cF).length:Int)<((y149.map cF).length:Int))) (some false) (sel (decide (v172<v115)) (some false) (M_p_Minimal_L1 a0 v115 y149 k173 (IntKind.i64.wrap (v172+1))))) (M_p_Minimal_L1 a0 v115 y149 k173 (IntKind.i64.wrap (v172+1))))) (M_p_Minimal_L1 a0 v115 y149 k173 (IntKind.i64.wrap (v172+1))))) (M_p_Minimal_L1 a0 v115 y149 k173 (IntKind.i64.wrap (v172+1))))) (some true)
def M_p_Minimal_L2 (a0:List (List Fact)):Nat→Int→(List (List Fact))→Option (List (List Fact))|0,_,_=>none|k117+1,v115,v116=>sel (decide (v115<((a0.map cL_cF).length:Int))) (ob1 (ix a0 v115 (fun y149=>ob1 (M_p_valid y149) (fun z150=>sel (!z150) (some v116) (ob1 (M_p_Minimal_L1 a0 v115 y149 ((((a0.map cL_cF).length:Int)).toNat+1) 0:Option (Bool)) (fun v163=>sel v163 (ob1 (M_cloneF y149) (fun z177=>grd ((v116.length+1)*24≤140737488355328) (grd (z177.length≤140737488355328) (some (v116++[z177]))))) (some v116))))):Option (List (List Fact))) (fun v147=>M_p_Minimal_L2 a0 k117 (IntKind.i64.wrap (v115+1)) v147)) (some v116)
def M_p_Minimal (a0:List (List Fact)):Option (List (List Fact)):=M_p_Minimal_L2 a0 ((((a0.map cL_cF).length:Int)).toNat+1) 0 []
theorem A_p_Minimal (a0:List (List Fact)){r1:List (List Fact)}(h:M_p_Minimal a0=some r1):ACallG cx 92 [.sl 1 (a0.map cL_cF)] [] [] (.own 0 0 0 r1.length) [(0,⟨23,1,false,r1.map cL_cF⟩)]:=by
 refine acallg_of 60 Tryz.func92 rfl (by decide) rfl (bT0 rfl) rfl rfl ?_;intro _;unfold M_p_Minimal at h;refine aSR ?_;intro _;refine dr (aSR ?_);intro _;refine dr (aSq (aSR ?_));intro _;refine dr (aBk ?_);refine awp_loop (α:=Nat×Int×(List (List Fact))) (fun x=>mkG 59 60 [(0,.sl 1 (a0.map cL_cF)),(3,.own 56 0 0 x.2.2.length),(9,.sl 1 (a0.map cL_cF)),(10,.c (.int .i64 ((a0.map cL_cF).length:Int))),(11,.c (.int .i64 x.2.1))] [(56,⟨23,1,false,x.2.2.map cL_cF⟩)]) (fun x=>M_p_Minimal_L2 a0 x.1 x.2.1 x.2.2=some r1) (fun x=>x.1) ((((a0.map cL_cF).length:Int)).toNat+1,0,[]) h ?_ ?_
 ·exact ca_0
 ·intro x1 h;intro _;obtain⟨k117,m2,h⟩:=succ_of (f:=fun n=>M_p_Minimal_L2 a0 n x1.2.1 x1.2.2) rfl h;replace h:M_p_Minimal_L2 a0 (k117+1) x1.2.1 x1.2.2=some r1:=h;rw[M_p_Minimal_L2]at h;refine aSR ?_;intro _;refine dr (aSq (aCd ?_));intro _;refine spl h (fun c3 h=>?_) (fun c3 h=>?_)
  ·refine aSk ?_;obtain⟨o4,h,hK5⟩:=ob1_ok h;refine awp_cut (α:=List (List Fact)) (fun v147=>mkG 59 60 [(0,.sl 1 (a0.map cL_cF)),(3,.own 56 0 0 v147.length),(9,.sl 1 (a0.map cL_cF)),(10,.c (.int .i64 ((a0.map cL_cF).length:Int))),(11,.c (.int .i64 x1.2.1))] [(56,⟨23,1,false,v147.map cL_cF⟩)]) (fun v=>o4=v) ?_ ?_
   ·refine aBk (aSR ?_);intro _;obtain⟨y149,w6,q7,h⟩:=ix_ok h;refine Exists.intro (cL_cF y149) (And.intro (map_at' w6) ?_);intro _;refine pr (dr (aSq (aSR ?_)));intro _;obtain⟨z150,u8,h⟩:=ob1_ok h;refine cl rfl (A_p_valid y149 u8) ?_;intro _;refine dr (aCd ?_);intro _;refine spl h (fun c9 h=>?_) (fun c9 h=>?_)
    ·refine aEx ?_;refine⟨x1.2.2,(sI_ h).symm,?_⟩;exact ca_0
    ·refine aSk (aSR ?_);intro _;refine dr ?_;obtain⟨o10,h,hK11⟩:=ob1_ok h;refine awp_cut (α:=Bool) (fun v163=>mkG 59 60 [(0,.sl 1 (a0.map cL_cF)),(3,.own 56 0 0 x1.2.2.length),(5,.sl 2 (y149.map cF)),(6,.c (.bool v163)),(9,.sl 1 (a0.map cL_cF)),(10,.c (.int .i64 ((a0.map cL_cF).length:Int))),(11,.c (.int .i64 x1.2.1))] [(56,⟨23,1,false,x1.2.2.map cL_cF⟩)]) (fun v=>o10=v) ?_ ?_
     ·refine aSR ?_;intro _;refine dr (aBk ?_);refine awp_loop (α:=Nat×Int) (fun x=>mkG 59 60 [(0,.sl 1 (a0.map cL_cF)),(3,.own 56 0 0 x1.2.2.length),(4,.c (.int .i64 x1.2.1)),(5,.sl 2 (y149.map cF)),(6,.c (.bool true)),(9,.sl 1 (a0.map cL_cF)),(10,.c (.int .i64 ((a0.map cL_cF).length:Int))),(11,.c (.int .i64 x1.2.1)),(19,.sl 1 (a0.map cL_cF)),(20,.c (.int .i64 ((a0.map cL_cF).length:Int))),(21,.c (.int .i64 x.2))] [(56,⟨23,1,false,x1.2.2.map cL_cF⟩)]) (fun x=>M_p_Minimal_L1 a0 x1.2.1 y149 x.1 x.2=some o10) (fun x=>x.1) ((((a0.map cL_cF).length:Int)).toNat+1,0) h ?_ ?_
      ·exact ca_0
      ·intro x12 h;intro _;obtain⟨k173,m13,h⟩:=succ_of (f:=fun n=>M_p_Minimal_L1 a0 x1.2.1 y149 n x12.2) rfl h;replace h:M_p_Minimal_L1 a0 x1.2.1 y149 (k173+1) x12.2=some o10:=h;rw[M_p_Minimal_L1]at h;refine aSR ?_;intro _;refine dr (aSq (aCd ?_));intro _;refine spl h (fun c14 h=>?_) (fun c14 h=>?_)
       ·refine aSk (aSq (aBk (aSR ?_)));intro _;obtain⟨y174,w15,q16,h⟩:=ix_ok h;refine Exists.intro (cL_cF y174) (And.intro (map_at' w15) ?_);intro _;refine pr (dr (aSR ?_));intro _;refine spl h (fun c17 h=>?_) (fun c17 h=>?_)
        ·intro _;obtain⟨z175,u18,h⟩:=ob1_ok h;refine cl rfl (A_p_valid y174 u18) ?_;intro _;refine spl h (fun c19 h=>?_) (fun c19 h=>?_)
         ·intro _;obtain⟨z176,u20,h⟩:=ob1_ok h;refine cl rfl (A_p_contains y149 y174 u20) ?_;intro _;refine spl h (fun c21 h=>?_) (fun c21 h=>?_)
          ·intro _;refine spf h (fun c22 h=>?_) (fun c22 h=>?_)
           ·intro _;refine dr (aCd ?_);intro _;refine spl h (fun c23 h=>?_) (fun c23 h=>?_)
            ·refine aSR ?_;intro _;refine dr (aEx ?_);refine⟨false,(sI_ h).symm,?_⟩;exact ca_0
            ·refine aSk (aRg ?_);intro _;refine dr ?_;refine⟨(k173,(IntKind.i64.wrap (x12.2+1))),h,ltS m13,?_⟩;exact ca_0
           ·intro _;refine dr (aCd ?_);intro _;refine litT (aSR ?_);intro _;refine dr (aEx ?_);refine⟨false,(sI_ h).symm,?_⟩;exact ca_0
          ·intro _;refine dr (aCd ?_);intro _;refine litF (aSk (aRg ?_));intro _;refine dr ?_;refine⟨(k173,(IntKind.i64.wrap (x12.2+1))),h,ltS m13,?_⟩;exact ca_0
         ·intro _;refine dr (aCd ?_);intro _;refine litF (aSk (aRg ?_));intro _;refine dr ?_;refine⟨(k173,(IntKind.i64.wrap (x12.2+1))),h,ltS m13,?_⟩;exact ca_0
        ·intro _;refine dr (aCd ?_);intro _;refine litF (aSk (aRg ?_));intro _;refine dr ?_;refine⟨(k173,(IntKind.i64.wrap (x12.2+1))),h,ltS m13,?_⟩;exact ca_0
       ·refine aEx ?_;refine⟨true,(sI_ h).symm,?_⟩;exact ca_0
     ·rintro v163 ho;have ho:=ho.symm;subst ho;intro _;replace h:=hK11;refine aSR ?_;intro _;refine dr (aCd ?_);intro _;refine spl h (fun c24 h=>?_) (fun c24 h=>?_)
      ·refine aRg ?_;intro _;obtain⟨z177,u25,h⟩:=ob1_ok h;refine clg [(0,54)] [] [] [(54,⟨2,some ⟨39,2,false,z177.map cF⟩⟩)] (.own 54 2 0 z177.length) rfl rfl (A_cloneF y149 u25) ?_;intro _;obtain⟨q26,h⟩:=grd_ok h;refine pl (pl ?_);refine And.intro (by first|with_reducible assumption|(show(x1.2.2.length+1)*24≤140737488355328;with_reducible assumption)|omega|(simp;omega)) ?_;refine pe (dr ?_);obtain⟨q27,h⟩:=grd_ok h;refine⟨(x1.2.2++[z177]),(sI_ h).symm,?_⟩;exact ca_0
      ·refine aSk ?_;refine⟨x1.2.2,(sI_ h).symm,?_⟩;exact ca_0
   ·rintro v147 ho;have ho:=ho.symm;subst ho;intro _;replace h:=hK5;refine aRg ?_;intro _;refine dr ?_;refine⟨(k117,(IntKind.i64.wrap (x1.2.1+1)),v147),h,ltS m2,?_⟩;exact ca_0
  ·refine aEx (aSR ?_);intro _;refine dr (aRt ?_);intro _;obtain rfl:=inj1 h;all_goals (refine Exists.intro [(0,56)] (And.intro rfl (And.intro ?_ ?_)));all_goals (repeat (first|exact True.intro|exact gb_nil rfl rfl|refine gb_some ⟨rfl,rfl,rfl⟩ ?_|refine And.intro ?_ ?_|refine gw_ren rfl rfl rfl rfl rfl ?_|exact gw_oren rfl rfl rfl rfl rfl|exact gw_opren rfl rfl rfl rfl rfl|exact gw_onil rfl rfl|refine gw_pren rfl rfl rfl rfl rfl|exact gw_thaw rfl rfl rfl|refine gw_tup ?_|exact GWL.nil|exact gwll_nil|exact gw_c|exact GW.sl|exact GW.nil|exact gwll_same rfl FrI.h|refine GWL.cons ?_ ?_|refine gwll_cons ?_ ?_|(refine gw_own3 rfl rfl rfl FrI.h ?_ ?_ ?_)|exact GW.fr FrV.h|exact GW.fr (by assumption)|refine gw_agg ?_|refine gw_clo ?_|refine gw_ptr rfl rfl rfl ?_|(refine gw_own rfl rfl rfl ?_ FrI.h ?_ ?_)|assumption|omega|rfl|(rw[lM_,← lA_];assumption)|(refine gwll_same ?_ FrI.h;(simp[cGTask,cI,cF,cGOp,cGEffect,cL_cF,cL_cL_cF,cL_cI,cGCover,cGCertificate,cN,cGChecker] <;> fail))|(rw[List.map_set];refine gwll_set (by first|rfl|omega|simp) ?_ ?_)|refine gwll_set (by first|rfl|omega|simp) ?_ ?_|(rw[List.map_replicate];refine gwll_rep ?_)|refine gwll_rep ?_|(rw[List.map_append];refine gwll_append ?_ ?_)|refine gwll_append ?_ ?_|(simp[cGTask,cI,cF,cGOp,cGEffect,cL_cF,cL_cL_cF,cL_cI,cGCover,cGCertificate,cN,cGChecker,take_len_map] <;> fail)|(rw[List.drop_zero,tL_] <;> first|rfl|(simp[cGTask,cI,cF,cGOp,cGEffect,cL_cF,cL_cL_cF,cL_cI,cGCover,cGCertificate,cN,cGChecker] <;> fail))|(simp;omega)|(simp only[lM_,lA_,List.drop_zero,lC_,lN_,Nat.zero_add,Nat.add_zero]at *;omega)))
def M_g_Regress_L1 (z4:List (List Fact)):Nat→Int→(List (List Fact))→Option ((List (List Fact))×Er)|0,_,_=>none|k16+1,v14,v15=>sel (decide (v14<((z4.length:Nat):Int))) (ixn v15 ((v14).toNat) (fun y17=>ob1 (M_cloneF y17) (fun z18=>ixn v15 ((v14).toNat) (fun _=>grd (0≤v14) (grd (v14<((v15.length:Nat):Int)) (grd (z18.length≤140737488355328) (M_g_Regress_L1 z4 k16 (IntKind.i64.wrap (v14+1)) (v15.set ((v14).toNat) z18)))))))) (grd (v15.length≤140737488355328) (some (v15,Er.nil)))
def M_g_Regress (g:Nat)(a0:GTask)(a1:Int)(a2:List Fact):Option ((List (List Fact))×Er):=ob2 (M_g_preimage g a0 a1 a2) (fun z1 z2=>erM z2 (ob1 (M_p_Minimal z1) (fun z4=>ob1 (M_sortL z4) (fun c5=>grd (c5.length=z4.length) (M_g_Regress_L1 z4 ((((z4.length:Nat):Int)).toNat+1) 0 c5)))) (fun e3=>some ([],(Er.no e3))))
theorem A_g_Regress (g:Nat)(a0:GTask)(a1:Int)(a2:List Fact){r1:List (List Fact)}{r2:Er}(h:M_g_Regress g a0 a1 a2=some (r1,r2)):ACall cx 76 [.agg [.sl 1 (a0.Vars.map cI),.sl 1 (a0.Init.map cI),.sl 2 (a0.Goal.map cF),.sl 4 (a0.Ops.map cGOp)],.c (.int .i64 a1),.sl 2 (a2.map cF)] (.tup [.sl 1 (r1.map cL_cF),eA r2]):=by
 refine aOf Tryz.func76 rfl (by decide) rfl (bT0 rfl) ?_;intro _;unfold M_g_Regress at h;refine aSR ?_;intro _;refine dr (aSR ?_);intro _;obtain⟨z1,z2,u1,h⟩:=ob2_ok h;refine cl rfl (A_g_preimage g a0 a1 a2 u1) ?_;intro _;refine dr (aSq (aSq ?_));rcases z2 with _|e3
 ·replace h:=erM_nil h;refine aRg ?_;intro _;refine dr (aCd ?_);intro _;refine litF (aSk (aSR ?_));intro _;obtain⟨z4,u2,h⟩:=ob1_ok h;refine clg [(0,23)] [] [] [(23,⟨2,some ⟨23,1,false,z4.map cL_cF⟩⟩)] (.own 23 2 0 z4.length) rfl rfl (A_p_Minimal z1 u2) ?_;intro _;refine dr (aSR ?_);intro _;obtain⟨c5,u3,h⟩:=ob1_ok h;refine clg [(900,23)] [] [] [(23,⟨2,some ⟨23,1,false,c5.map cL_cF⟩⟩)] (.tup []) rfl rfl (A_sortL z4 u3) ?_;obtain⟨q4,h⟩:=grd_ok h;intro _;refine dr (aSq (aSR ?_));intro _;refine dr (aBk ?_);refine awp_loop (α:=Nat×Int×(List (List Fact))) (fun x=>mkS 41 [(10,.own 23 0 0 x.2.2.length),(27,.c (.int .i64 ((z4.length:Nat):Int))),(28,.c (.int .i64 x.2.1))] [(23,⟨23,1,false,x.2.2.map cL_cF⟩)]) (fun x=>M_g_Regress_L1 z4 x.1 x.2.1 x.2.2=some (r1,r2)) (fun x=>x.1) ((((z4.length:Nat):Int)).toNat+1,0,c5) h ?_ ?_
  ·exact ca_0
  ·intro x5 h;intro _;obtain⟨k16,m6,h⟩:=succ_of (f:=fun n=>M_g_Regress_L1 z4 n x5.2.1 x5.2.2) rfl h;replace h:M_g_Regress_L1 z4 (k16+1) x5.2.1 x5.2.2=some (r1,r2):=h;rw[M_g_Regress_L1]at h;refine aSR ?_;intro _;refine dr (aSq (aCd ?_));intro _;refine spl h (fun c7 h=>?_) (fun c7 h=>?_)
   ·refine aSk (aSq (aBk (aSR ?_)));intro _;refine dr (aRg ?_);intro _;obtain⟨y17,w8,h⟩:=ixn_ok h;refine Exists.intro (cL_cF y17) (And.intro (by first|exact map_at' w8|(have w:=map_at' (f:=cL_cF) w8;simpa [cGTask,cI,cF,cGOp,cGEffect,cL_cF,cL_cL_cF,cL_cI,cGCover,cGCertificate,cN,cGChecker] using w)) ?_);intro _;obtain⟨z18,u9,h⟩:=ob1_ok h;refine clg [(0,37)] [] [] [(37,⟨2,some ⟨39,2,false,z18.map cF⟩⟩)] (.own 37 2 0 z18.length) rfl rfl (A_cloneF y17 u9) ?_;intro _;obtain⟨y19,w10,h⟩:=ixn_ok h;refine Exists.intro (cL_cF y19) (And.intro (by first|exact map_at' w10|(have w:=map_at' (f:=cL_cF) w10;simpa [cGTask,cI,cF,cGOp,cGEffect,cL_cF,cL_cL_cF,cL_cI,cGCover,cGCertificate,cN,cGChecker] using w)) ?_);intro _;obtain⟨q11,h⟩:=grd_ok h;obtain⟨q12,h⟩:=grd_ok h;refine pr (pr (pr (pr (dr (aRg ?_)))));intro _;refine dr ?_;obtain⟨q13,h⟩:=grd_ok h;refine⟨(k16,(IntKind.i64.wrap (x5.2.1+1)),(x5.2.2.set ((x5.2.1).toNat) z18)),h,ltS m6,?_⟩;exact ca_0
   ·refine aEx (aSR ?_);intro _;refine dr (aRt ?_);obtain⟨q14,h⟩:=grd_ok h;intro _;obtain⟨rfl,rfl⟩:=inj2 h;exact ca_0
 ·replace h:=erM_no h;refine aRg ?_;intro _;refine dr (aCd ?_);intro _;refine litT (aSR ?_);intro _;refine dr (aRt ?_);intro _;obtain⟨rfl,rfl⟩:=inj2 h;exact ca_0
def M_b_State_L1 (a0:List Int)(a1:List Int):Nat→Int→Option (Bool)|0,_=>none|k9+1,v8=>sel (decide (v8<((a1.map cI).length:Int))) (ix a1 v8 (fun y10=>sel (decide (y10<0)) (some false) (ix a1 v8 (fun y11=>ix a0 v8 (fun y12=>sel (decide (y11≥y12)) (some false) (M_b_State_L1 a0 a1 k9 (IntKind.i64.wrap (v8+1)))))))) (some true)
def M_b_State (a0:List Int)(a1:List Int):Option (Bool):=sel (((a1.map cI).length:Int) != ((a0.map cI).length:Int)) (some false) (M_b_State_L1 a0 a1 ((((a1.map cI).length:Int)).toNat+1) 0)
theorem A_b_State (a0:List Int)(a1:List Int){r1:Bool}(h:M_b_State a0 a1=some r1):ACall cx 33 [.sl 1 (a0.map cI),.sl 1 (a1.map cI)] (.c (.bool r1)):=by
 refine aOf Tryz.func33 rfl (by decide) rfl (bT0 rfl) ?_;intro _;unfold M_b_State at h;refine aSR ?_;intro _;refine dr (aSq (aSR ?_));intro _;refine dr (aCd ?_);intro _;refine spl h (fun c1 h=>?_) (fun c1 h=>?_)
 ·refine aSR ?_;intro _;refine dr (aRt ?_);intro _;obtain rfl:=inj1 h;exact ca_0
 ·refine aSk (aSq (aSR ?_));intro _;refine dr (aBk ?_);refine awp_loop (α:=Nat×Int) (fun x=>mkS 33 [(0,.sl 1 (a0.map cI)),(1,.sl 1 (a1.map cI)),(12,.c (.int .i64 ((a1.map cI).length:Int))),(13,.c (.int .i64 x.2))] []) (fun x=>M_b_State_L1 a0 a1 x.1 x.2=some r1) (fun x=>x.1) ((((a1.map cI).length:Int)).toNat+1,0) h ?_ ?_
  ·exact ca_0
  ·intro x2 h;intro _;obtain⟨k9,m3,h⟩:=succ_of (f:=fun n=>M_b_State_L1 a0 a1 n x2.2) rfl h;replace h:M_b_State_L1 a0 a1 (k9+1) x2.2=some r1:=h;rw[M_b_State_L1]at h;refine aSR ?_;intro _;refine dr (aSq (aCd ?_));intro _;refine spl h (fun c4 h=>?_) (fun c4 h=>?_)
   ·refine aSk (aSq (aBk (aSR ?_)));intro _;refine dr (aSR ?_);intro _;obtain⟨y10,w5,q6,h⟩:=ix_ok h;refine Exists.intro (cI y10) (And.intro (map_at' w5) ?_);intro _;refine spf h (fun c7 h=>?_) (fun c7 h=>?_)
    ·intro _;obtain⟨y11,w8,q9,h⟩:=ix_ok h;refine Exists.intro (cI y11) (And.intro (map_at' w8) ?_);intro _;obtain⟨y12,w10,q11,h⟩:=ix_ok h;refine Exists.intro (cI y12) (And.intro (map_at' w10) ?_);intro _;refine pr (pr (pr (dr (aCd ?_))));intro _;refine spl h (fun c12 h=>?_) (fun c12 h=>?_)
     ·refine aSR ?_;intro _;refine dr (aRt ?_);intro _;obtain rfl:=inj1 h;exact ca_0
     ·refine aSk (aRg ?_);intro _;refine dr ?_;refine⟨(k9,(IntKind.i64.wrap (x2.2+1))),h,ltS m3,?_⟩;exact ca_0
    ·intro _;refine pr (dr (aCd ?_));intro _;refine litT (aSR ?_);intro _;refine dr (aRt ?_);intro _;obtain rfl:=inj1 h;exact ca_0
   ·refine aEx (aSR ?_);intro _;refine dr (aRt ?_);intro _;obtain rfl:=inj1 h;exact ca_0
def M_b_Proper_L1 (a0:List Int)(a1:List Fact):Nat→Int→Option (Bool)|0,_=>none|k8+1,v7=>sel (decide (v7<((a1.map cF).length:Int))) (ix a1 v7 (fun y9=>sel (decide (y9.1<0)) (some false) (sel (decide (y9.1≥((a0.map cI).length:Int))) (some false) (sel (decide (y9.2<0)) (some false) (ix a0 y9.1 (fun y10=>sel (decide (y9.2≥y10)) (some false) (sel (decide (v7>0)) (ix a1 (IntKind.i64.wrap (v7-1)) (fun y11=>sel (decide (y11.1≥y9.1)) (some false) (M_b_Proper_L1 a0 a1 k8 (IntKind.i64.wrap (v7+1))))) (M_b_Proper_L1 a0 a1 k8 (IntKind.i64.wrap (v7+1)))))))))) (some true)
def M_b_Proper (a0:List Int)(a1:List Fact):Option (Bool):=M_b_Proper_L1 a0 a1 ((((a1.map cF).length:Int)).toNat+1) 0
theorem A_b_Proper (a0:List Int)(a1:List Fact){r1:Bool}(h:M_b_Proper a0 a1=some r1):ACall cx 32 [.sl 1 (a0.map cI),.sl 2 (a1.map cF)] (.c (.bool r1)):=by
 refine aOf Tryz.func32 rfl (by decide) rfl (bT0 rfl) ?_;intro _;unfold M_b_Proper at h;refine aSR ?_;intro _;refine dr (aSq (aSR ?_));intro _;refine dr (aBk ?_);refine awp_loop (α:=Nat×Int) (fun x=>mkS 55 [(0,.sl 1 (a0.map cI)),(1,.sl 2 (a1.map cF)),(7,.sl 2 (a1.map cF)),(8,.c (.int .i64 ((a1.map cF).length:Int))),(9,.c (.int .i64 x.2))] []) (fun x=>M_b_Proper_L1 a0 a1 x.1 x.2=some r1) (fun x=>x.1) ((((a1.map cF).length:Int)).toNat+1,0) h ?_ ?_
 ·exact ca_0
 ·intro x1 h;intro _;obtain⟨k8,m2,h⟩:=succ_of (f:=fun n=>M_b_Proper_L1 a0 a1 n x1.2) rfl h;replace h:M_b_Proper_L1 a0 a1 (k8+1) x1.2=some r1:=h;rw[M_b_Proper_L1]at h;refine aSR ?_;intro _;refine dr (aSq (aCd ?_));intro _;refine spl h (fun c3 h=>?_) (fun c3 h=>?_)
  ·refine aSk (aSq (aBk (aSR ?_)));intro _;obtain⟨y9,w4,q5,h⟩:=ix_ok h;refine Exists.intro (cF y9) (And.intro (map_at' w4) ?_);intro _;refine pr (dr (aSR ?_));intro _;refine spf h (fun c6 h=>?_) (fun c6 h=>?_)
   ·intro _;refine spf h (fun c7 h=>?_) (fun c7 h=>?_)
    ·intro _;refine spf h (fun c8 h=>?_) (fun c8 h=>?_)
     ·intro _;obtain⟨y10,w9,q10,h⟩:=ix_ok h;refine Exists.intro (cI y10) (And.intro (map_at' w9) ?_);intro _;refine spf h (fun c11 h=>?_) (fun c11 h=>?_)
      ·intro _;refine spl h (fun c12 h=>?_) (fun c12 h=>?_)
       ·intro _;obtain⟨y11,w13,q14,h⟩:=ix_ok h;refine Exists.intro (cF y11) (And.intro (map_at' w13) ?_);intro _;refine pr (pr (dr (aCd ?_)));intro _;refine spl h (fun c15 h=>?_) (fun c15 h=>?_)
        ·refine aSR ?_;intro _;refine dr (aRt ?_);intro _;obtain rfl:=inj1 h;exact ca_0
        ·refine aSk (aRg ?_);intro _;refine dr ?_;refine⟨(k8,(IntKind.i64.wrap (x1.2+1))),h,ltS m2,?_⟩;exact ca_0
       ·intro _;refine pr (dr (aCd ?_));intro _;refine litF (aSk (aRg ?_));intro _;refine dr ?_;refine⟨(k8,(IntKind.i64.wrap (x1.2+1))),h,ltS m2,?_⟩;exact ca_0
      ·intro _;refine pr (dr (aCd ?_));intro _;refine litT (aSR ?_);intro _;refine dr (aRt ?_);intro _;obtain rfl:=inj1 h;exact ca_0
     ·intro _;refine dr (aCd ?_);intro _;refine litT (aSR ?_);intro _;refine dr (aRt ?_);intro _;obtain rfl:=inj1 h;exact ca_0
    ·intro _;refine dr (aCd ?_);intro _;refine litT (aSR ?_);intro _;refine dr (aRt ?_);intro _;obtain rfl:=inj1 h;exact ca_0
   ·intro _;refine dr (aCd ?_);intro _;refine litT (aSR ?_);intro _;refine dr (aRt ?_);intro _;obtain rfl:=inj1 h;exact ca_0
  ·refine aEx (aSR ?_);intro _;refine dr (aRt ?_);intro _;obtain rfl:=inj1 h;exact ca_0
def M_b_operator_L1 (a1:GOp):Nat→Int→Option (Unit⊕Bool)|0,_=>none|k12+1,v11=>sel (decide (v11<(a1.Name.size:Int))) (sel (decide ((byt a1.Name v11)<32)) (grd (0≤v11) (grd (v11<(a1.Name.size:Int)) (some (.inr false)))) (grd (0≤v11) (grd (v11<(a1.Name.size:Int)) (sel (decide ((byt a1.Name v11)>126)) (some (.inr false)) (M_b_operator_L1 a1 k12 (IntKind.i64.wrap (v11+1))))))) (some (.inl ()))
def M_b_operator_L2 (a0:List Int)(a1:GOp):Nat→Int→Option (Bool)|0,_=>none|k21+1,v20=>sel (decide (v20<((a1.Effs.map cGEffect).length:Int))) (ix a1.Effs v20 (fun y22=>ob1 (M_b_Proper a0 y22.When) (fun z23=>sel (!z23) (some false) (ob1 (M_b_Proper a0 [(y22.Var,y22.Val)]) (fun z24=>sel (!z24) (some false) (M_b_operator_L2 a0 a1 k21 (IntKind.i64.wrap (v20+1)))))))) (some true)
def M_b_operator (a0:List Int)(a1:GOp):Option (Bool):=ob1 (sel (decide (a1.Cost<0)) (some (.inr false)) (sel (decide (a1.Cost>1048576)) (some (.inr false)) (sel (decide (((a1.Effs.map cGEffect).length:Int)>64)) (some (.inr false)) (sel (decide ((a1.Name.size:Int)>256)) (some (.inr false)) (ob1 (M_b_Proper a0 a1.Pre) (fun z4=>sel (!z4) (some (.inr false)) (some (.inl ()))))))):Option (Unit⊕Bool)) (osum (fun _=>ob1 (M_b_operator_L1 a1 (((a1.Name.size:Int)).toNat+1) 0:Option (Unit⊕Bool)) (osum (fun _=>M_b_operator_L2 a0 a1 ((((a1.Effs.map cGEffect).length:Int)).toNat+1) 0) (fun r8=>some r8))) (fun r2=>some r2))
theorem A_b_operator (a0:List Int)(a1:GOp){r1:Bool}(h:M_b_operator a0 a1=some r1):ACall cx 99 [.sl 1 (a0.map cI),.agg [.c (.string a1.Name),.c (.int .i64 a1.Cost),.sl 2 (a1.Pre.map cF),.sl 3 (a1.Effs.map cGEffect)]] (.c (.bool r1)):=by
 refine aOf Tryz.func99 rfl (by decide) rfl (bT0 rfl) ?_;intro _;unfold M_b_operator at h;refine aSR ?_;intro _;refine dr ?_;obtain⟨o1,h,hK2⟩:=ob1_ok h;refine awp_cut (α:=Unit) (fun _=>mkS 78 [(0,.sl 1 (a0.map cI)),(3,.ptr 3 0 0 0)] [(3,⟨60,4,true,[[.c (.string a1.Name),.c (.int .i64 a1.Cost),.sl 2 (a1.Pre.map cF),.sl 3 (a1.Effs.map cGEffect)]]⟩)]) (fun v=>o1=(.inl v)) ?_ ?_
 ·refine aSR ?_;intro _;refine spf h (fun c3 h=>?_) (fun c3 h=>?_)
  ·intro _;refine spf h (fun c4 h=>?_) (fun c4 h=>?_)
   ·intro _;refine spf h (fun c5 h=>?_) (fun c5 h=>?_)
    ·intro _;refine spf h (fun c6 h=>?_) (fun c6 h=>?_)
     ·intro _;obtain⟨z4,u7,h⟩:=ob1_ok h;refine cl rfl (A_b_Proper a0 a1.Pre u7) ?_;intro _;refine dr (aCd ?_);intro _;refine spl h (fun c8 h=>?_) (fun c8 h=>?_)
      ·refine aSR ?_;intro _;refine dr (aRt ?_);have j9:=sI_ h;subst j9;replace h:=(osum_r hK2);intro _;obtain rfl:=inj1 h;exact ca_0
      ·refine aSk ?_;refine⟨(),(sI_ h).symm,?_⟩;exact ca_0
     ·intro _;refine dr (aCd ?_);intro _;refine litT (aSR ?_);intro _;refine dr (aRt ?_);have j10:=sI_ h;subst j10;replace h:=(osum_r hK2);intro _;obtain rfl:=inj1 h;exact ca_0
    ·intro _;refine dr (aCd ?_);intro _;refine litT (aSR ?_);intro _;refine dr (aRt ?_);have j11:=sI_ h;subst j11;replace h:=(osum_r hK2);intro _;obtain rfl:=inj1 h;exact ca_0
   ·intro _;refine dr (aCd ?_);intro _;refine litT (aSR ?_);intro _;refine dr (aRt ?_);have j12:=sI_ h;subst j12;replace h:=(osum_r hK2);intro _;obtain rfl:=inj1 h;exact ca_0
  ·intro _;refine dr (aCd ?_);intro _;refine litT (aSR ?_);intro _;refine dr (aRt ?_);have j13:=sI_ h;subst j13;replace h:=(osum_r hK2);intro _;obtain rfl:=inj1 h;exact ca_0
 ·rintro _ ho;have ho:=ho.symm;subst ho;intro _;replace h:=(osum_l hK2);obtain⟨o14,h,hK15⟩:=ob1_ok h;refine awp_cut (α:=Unit) (fun _=>mkS 78 [(0,.sl 1 (a0.map cI)),(3,.ptr 3 0 0 0)] [(3,⟨60,4,true,[[.c (.string a1.Name),.c (.int .i64 a1.Cost),.sl 2 (a1.Pre.map cF),.sl 3 (a1.Effs.map cGEffect)]]⟩)]) (fun v=>o14=(.inl v)) ?_ ?_
  ·refine aSR ?_;intro _;refine dr (aBk ?_);refine awp_loop (α:=Nat×Int) (fun x=>mkS 78 [(0,.sl 1 (a0.map cI)),(3,.ptr 3 0 0 0),(37,.c (.int .i64 (a1.Name.size:Int))),(38,.c (.int .i64 x.2))] [(3,⟨60,4,true,[[.c (.string a1.Name),.c (.int .i64 a1.Cost),.sl 2 (a1.Pre.map cF),.sl 3 (a1.Effs.map cGEffect)]]⟩)]) (fun x=>M_b_operator_L1 a1 x.1 x.2=some o14) (fun x=>x.1) (((a1.Name.size:Int)).toNat+1,0) h ?_ ?_
   ·exact ca_0
   ·intro x16 h;intro _;obtain⟨k12,m17,h⟩:=succ_of (f:=fun n=>M_b_operator_L1 a1 n x16.2) rfl h;replace h:M_b_operator_L1 a1 (k12+1) x16.2=some o14:=h;rw[M_b_operator_L1]at h;refine aSR ?_;intro _;refine dr (aSq (aCd ?_));intro _;refine spl h (fun c18 h=>?_) (fun c18 h=>?_)
    ·refine aSk (aSq (aBk (aSR ?_)));intro _;refine dr (aSR ?_);intro _;refine spf h (fun c19 h=>?_) (fun c19 h=>?_)
     ·intro _;obtain⟨q20,h⟩:=grd_ok h;obtain⟨q21,h⟩:=grd_ok h;refine pr (pr (pr (pr (dr (aCd ?_)))));intro _;refine spl h (fun c22 h=>?_) (fun c22 h=>?_)
      ·refine aSR ?_;intro _;refine dr (aRt ?_);have j23:=sI_ h;subst j23;replace h:=(osum_r hK15);intro _;obtain rfl:=inj1 h;exact ca_0
      ·refine aSk (aRg ?_);intro _;refine dr ?_;refine⟨(k12,(IntKind.i64.wrap (x16.2+1))),h,ltS m17,?_⟩;exact ca_0
     ·intro _;obtain⟨q24,h⟩:=grd_ok h;obtain⟨q25,h⟩:=grd_ok h;refine pr (pr (dr (aCd ?_)));intro _;refine litT (aSR ?_);intro _;refine dr (aRt ?_);have j26:=sI_ h;subst j26;replace h:=(osum_r hK15);intro _;obtain rfl:=inj1 h;exact ca_0
    ·refine aEx ?_;refine⟨(),(sI_ h).symm,?_⟩;exact ca_0
  ·rintro _ ho;have ho:=ho.symm;subst ho;intro _;replace h:=(osum_l hK15);refine aSq (aSR ?_);intro _;refine dr (aBk ?_);refine awp_loop (α:=Nat×Int) (fun x=>mkS 78 [(0,.sl 1 (a0.map cI)),(55,.sl 3 (a1.Effs.map cGEffect)),(56,.c (.int .i64 ((a1.Effs.map cGEffect).length:Int))),(57,.c (.int .i64 x.2))] []) (fun x=>M_b_operator_L2 a0 a1 x.1 x.2=some r1) (fun x=>x.1) ((((a1.Effs.map cGEffect).length:Int)).toNat+1,0) h ?_ ?_
   ·exact ca_0
   ·intro x27 h;intro _;obtain⟨k21,m28,h⟩:=succ_of (f:=fun n=>M_b_operator_L2 a0 a1 n x27.2) rfl h;replace h:M_b_operator_L2 a0 a1 (k21+1) x27.2=some r1:=h;rw[M_b_operator_L2]at h;refine aSR ?_;intro _;refine dr (aSq (aCd ?_));intro _;refine spl h (fun c29 h=>?_) (fun c29 h=>?_)
    ·refine aSk (aSq (aBk (aSR ?_)));intro _;obtain⟨y22,w30,q31,h⟩:=ix_ok h;refine Exists.intro (cGEffect y22) (And.intro (map_at' w30) ?_);intro _;refine pr (dr (aSR ?_));intro _;obtain⟨z23,u32,h⟩:=ob1_ok h;refine cl rfl (A_b_Proper a0 y22.When u32) ?_;intro _;refine spf h (fun c33 h=>?_) (fun c33 h=>?_)
     ·intro _;obtain⟨z24,u34,h⟩:=ob1_ok h;refine clb [73] rfl rfl (A_b_Proper a0 [(y22.Var,y22.Val)] u34) ?_;intro _;refine dr (aCd ?_);intro _;refine spl h (fun c35 h=>?_) (fun c35 h=>?_)
      ·refine aSR ?_;intro _;refine dr (aRt ?_);intro _;obtain rfl:=inj1 h;exact ca_0
      ·refine aSk (aRg ?_);intro _;refine dr ?_;refine⟨(k21,(IntKind.i64.wrap (x27.2+1))),h,ltS m28,?_⟩;exact ca_0
     ·intro _;refine dr (aCd ?_);intro _;refine litT (aSR ?_);intro _;refine dr (aRt ?_);intro _;obtain rfl:=inj1 h;exact ca_0
    ·refine aEx (aSR ?_);intro _;refine dr (aRt ?_);intro _;obtain rfl:=inj1 h;exact ca_0
def M_b_Good_L1 (a0:GTask):Nat→Int→Option (Unit⊕Bool)|0,_=>none|k15+1,v14=>sel (decide (v14<((a0.Vars.map cI).length:Int))) (ix a0.Vars v14 (fun y16=>sel (decide (y16<1)) (some (.inr false)) (sel (decide (y16>64)) (some (.inr false)) (M_b_Good_L1 a0 k15 (IntKind.i64.wrap (v14+1)))))) (some (.inl ()))
def M_b_Good_L2 (a0:GTask):Nat→Int→Option (Bool)|0,_=>none|k29+1,v28=>sel (decide (v28<((a0.Ops.map cGOp).length:Int))) (ix a0.Ops v28 (fun y30=>ob1 (M_b_operator a0.Vars y30) (fun z31=>sel (!z31) (some false) (M_b_Good_L2 a0 k29 (IntKind.i64.wrap (v28+1)))))) (some true)
def M_b_Good (a0:GTask):Option (Bool):=ob1 (sel (decide (((a0.Vars.map cI).length:Int)>64)) (some (.inr false)) (sel (decide (((a0.Ops.map cGOp).length:Int)>4096)) (some (.inr false)) (some (.inl ()))):Option (Unit⊕Bool)) (osum (fun _=>ob1 (M_b_Good_L1 a0 ((((a0.Vars.map cI).length:Int)).toNat+1) 0:Option (Unit⊕Bool)) (osum (fun _=>ob1 (ob1 (M_b_State a0.Vars a0.Init) (fun z21=>sel (!z21) (some (.inr false)) (ob1 (M_b_Proper a0.Vars a0.Goal) (fun z22=>sel (!z22) (some (.inr false)) (some (.inl ()))))):Option (Unit⊕Bool)) (osum (fun _=>M_b_Good_L2 a0 ((((a0.Ops.map cGOp).length:Int)).toNat+1) 0) (fun r19=>some r19))) (fun r9=>some r9))) (fun r1=>some r1))
theorem A_b_Good (a0:GTask){r1:Bool}(h:M_b_Good a0=some r1):ACall cx 85 [.agg [.sl 1 (a0.Vars.map cI),.sl 1 (a0.Init.map cI),.sl 2 (a0.Goal.map cF),.sl 4 (a0.Ops.map cGOp)]] (.c (.bool r1)):=by
 refine aOf Tryz.func85 rfl (by decide) rfl (bT0 rfl) ?_;intro _;unfold M_b_Good at h;refine aSR ?_;intro _;refine dr ?_;obtain⟨o1,h,hK2⟩:=ob1_ok h;refine awp_cut (α:=Unit) (fun _=>mkS 58 [(1,.ptr 1 0 0 0)] [(1,⟨26,4,true,[[.sl 1 (a0.Vars.map cI),.sl 1 (a0.Init.map cI),.sl 2 (a0.Goal.map cF),.sl 4 (a0.Ops.map cGOp)]]⟩)]) (fun v=>o1=(.inl v)) ?_ ?_
 ·refine aSR ?_;intro _;refine spf h (fun c3 h=>?_) (fun c3 h=>?_)
  ·intro _;refine dr (aCd ?_);intro _;refine spl h (fun c4 h=>?_) (fun c4 h=>?_)
   ·refine aSR ?_;intro _;refine dr (aRt ?_);have j5:=sI_ h;subst j5;replace h:=(osum_r hK2);intro _;obtain rfl:=inj1 h;exact ca_0
   ·refine aSk ?_;refine⟨(),(sI_ h).symm,?_⟩;exact ca_0
  ·intro _;refine dr (aCd ?_);intro _;refine litT (aSR ?_);intro _;refine dr (aRt ?_);have j6:=sI_ h;subst j6;replace h:=(osum_r hK2);intro _;obtain rfl:=inj1 h;exact ca_0
 ·rintro _ ho;have ho:=ho.symm;subst ho;intro _;replace h:=(osum_l hK2);obtain⟨o7,h,hK8⟩:=ob1_ok h;refine awp_cut (α:=Unit) (fun _=>mkS 58 [(1,.ptr 1 0 0 0)] [(1,⟨26,4,true,[[.sl 1 (a0.Vars.map cI),.sl 1 (a0.Init.map cI),.sl 2 (a0.Goal.map cF),.sl 4 (a0.Ops.map cGOp)]]⟩)]) (fun v=>o7=(.inl v)) ?_ ?_
  ·refine aSR ?_;intro _;refine dr (aBk ?_);refine awp_loop (α:=Nat×Int) (fun x=>mkS 58 [(1,.ptr 1 0 0 0),(18,.sl 1 (a0.Vars.map cI)),(19,.c (.int .i64 ((a0.Vars.map cI).length:Int))),(20,.c (.int .i64 x.2))] [(1,⟨26,4,true,[[.sl 1 (a0.Vars.map cI),.sl 1 (a0.Init.map cI),.sl 2 (a0.Goal.map cF),.sl 4 (a0.Ops.map cGOp)]]⟩)]) (fun x=>M_b_Good_L1 a0 x.1 x.2=some o7) (fun x=>x.1) ((((a0.Vars.map cI).length:Int)).toNat+1,0) h ?_ ?_
   ·exact ca_0
   ·intro x9 h;intro _;obtain⟨k15,m10,h⟩:=succ_of (f:=fun n=>M_b_Good_L1 a0 n x9.2) rfl h;replace h:M_b_Good_L1 a0 (k15+1) x9.2=some o7:=h;rw[M_b_Good_L1]at h;refine aSR ?_;intro _;refine dr (aSq (aCd ?_));intro _;refine spl h (fun c11 h=>?_) (fun c11 h=>?_)
    ·refine aSk (aSq (aBk (aSR ?_)));intro _;obtain⟨y16,w12,q13,h⟩:=ix_ok h;refine Exists.intro (cI y16) (And.intro (map_at' w12) ?_);intro _;refine pr (dr (aSR ?_));intro _;refine spf h (fun c14 h=>?_) (fun c14 h=>?_)
     ·intro _;refine dr (aCd ?_);intro _;refine spl h (fun c15 h=>?_) (fun c15 h=>?_)
      ·refine aSR ?_;intro _;refine dr (aRt ?_);have j16:=sI_ h;subst j16;replace h:=(osum_r hK8);intro _;obtain rfl:=inj1 h;exact ca_0
      ·refine aSk (aRg ?_);intro _;refine dr ?_;refine⟨(k15,(IntKind.i64.wrap (x9.2+1))),h,ltS m10,?_⟩;exact ca_0
     ·intro _;refine dr (aCd ?_);intro _;refine litT (aSR ?_);intro _;refine dr (aRt ?_);have j17:=sI_ h;subst j17;replace h:=(osum_r hK8);intro _;obtain rfl:=inj1 h;exact ca_0
    ·refine aEx ?_;refine⟨(),(sI_ h).symm,?_⟩;exact ca_0
  ·rintro _ ho;have ho:=ho.symm;subst ho;intro _;replace h:=(osum_l hK8);obtain⟨o18,h,hK19⟩:=ob1_ok h;refine awp_cut (α:=Unit) (fun _=>mkS 58 [(1,.ptr 1 0 0 0)] [(1,⟨26,4,true,[[.sl 1 (a0.Vars.map cI),.sl 1 (a0.Init.map cI),.sl 2 (a0.Goal.map cF),.sl 4 (a0.Ops.map cGOp)]]⟩)]) (fun v=>o18=(.inl v)) ?_ ?_
   ·refine aSR ?_;intro _;obtain⟨z21,u20,h⟩:=ob1_ok h;refine cl rfl (A_b_State a0.Vars a0.Init u20) ?_;intro _;refine spf h (fun c21 h=>?_) (fun c21 h=>?_)
    ·intro _;obtain⟨z22,u22,h⟩:=ob1_ok h;refine cl rfl (A_b_Proper a0.Vars a0.Goal u22) ?_;intro _;refine dr (aCd ?_);intro _;refine spl h (fun c23 h=>?_) (fun c23 h=>?_)
     ·refine aSR ?_;intro _;refine dr (aRt ?_);have j24:=sI_ h;subst j24;replace h:=(osum_r hK19);intro _;obtain rfl:=inj1 h;exact ca_0
     ·refine aSk ?_;refine⟨(),(sI_ h).symm,?_⟩;exact ca_0
    ·intro _;refine dr (aCd ?_);intro _;refine litT (aSR ?_);intro _;refine dr (aRt ?_);have j25:=sI_ h;subst j25;replace h:=(osum_r hK19);intro _;obtain rfl:=inj1 h;exact ca_0
   ·rintro _ ho;have ho:=ho.symm;subst ho;intro _;replace h:=(osum_l hK19);refine aSq (aSR ?_);intro _;refine dr (aBk ?_);refine awp_loop (α:=Nat×Int) (fun x=>mkS 58 [(1,.ptr 1 0 0 0),(46,.sl 4 (a0.Ops.map cGOp)),(47,.c (.int .i64 ((a0.Ops.map cGOp).length:Int))),(48,.c (.int .i64 x.2))] [(1,⟨26,4,true,[[.sl 1 (a0.Vars.map cI),.sl 1 (a0.Init.map cI),.sl 2 (a0.Goal.map cF),.sl 4 (a0.Ops.map cGOp)]]⟩)]) (fun x=>M_b_Good_L2 a0 x.1 x.2=some r1) (fun x=>x.1) ((((a0.Ops.map cGOp).length:Int)).toNat+1,0) h ?_ ?_
    ·exact ca_0
    ·intro x26 h;intro _;obtain⟨k29,m27,h⟩:=succ_of (f:=fun n=>M_b_Good_L2 a0 n x26.2) rfl h;replace h:M_b_Good_L2 a0 (k29+1) x26.2=some r1:=h;rw[M_b_Good_L2]at h;refine aSR ?_;intro _;refine dr (aSq (aCd ?_));intro _;refine spl h (fun c28 h=>?_) (fun c28 h=>?_)
     ·refine aSk (aSq (aBk (aSR ?_)));intro _;obtain⟨y30,w29,q30,h⟩:=ix_ok h;refine Exists.intro (cGOp y30) (And.intro (map_at' w29) ?_);intro _;refine pr (dr (aSR ?_));intro _;obtain⟨z31,u31,h⟩:=ob1_ok h;refine cl rfl (A_b_operator a0.Vars y30 u31) ?_;intro _;refine dr (aCd ?_);intro _;refine spl h (fun c32 h=>?_) (fun c32 h=>?_)
      ·refine aSR ?_;intro _;refine dr (aRt ?_);intro _;obtain rfl:=inj1 h;exact ca_0
      ·refine aSk (aRg ?_);intro _;refine dr ?_;refine⟨(k29,(IntKind.i64.wrap (x26.2+1))),h,ltS m27,?_⟩;exact ca_0
     ·refine aEx (aSR ?_);intro _;refine dr (aRt ?_);intro _;obtain rfl:=inj1 h;exact ca_0
def M_b_Many_L1 (a0:List Int)(a1:Int):Nat→Int→Int→Option (Int)|0,_,_=>none|k7+1,v5,v6=>sel (decide (v6<((a0.map cI).length:Int))) (ix a0 v6 (fun y8=>sel (decide ((IntKind.i64.wrap (v5*(min (max y8 0) (IntKind.i64.wrap (a1+1)))))>a1)) (some (IntKind.i64.wrap (a1+1))) (M_b_Many_L1 a0 a1 k7 (IntKind.i64.wrap (v5*(min (max y8 0) (IntKind.i64.wrap (a1+1))))) (IntKind.i64.wrap (v6+1))))) (some v5)
def M_b_Many (a0:List Int)(a1:Int):Option (Int):=M_b_Many_L1 a0 a1 ((((a0.map cI).length:Int)).toNat+1) 1 0
theorem A_b_Many (a0:List Int)(a1:Int){r1:Int}(h:M_b_Many a0 a1=some r1):ACall cx 52 [.sl 1 (a0.map cI),.c (.int .i64 a1)] (.c (.int .i64 r1)):=by
 refine aOf Tryz.func52 rfl (by decide) rfl (bT0 rfl) ?_;intro _;unfold M_b_Many at h;refine aSR ?_;intro _;refine dr (aSR ?_);intro _;refine dr (aSq (aSR ?_));intro _;refine dr (aBk ?_);refine awp_loop (α:=Nat×Int×Int) (fun x=>mkS 28 [(1,.c (.int .i64 a1)),(5,.c (.int .i64 x.2.1)),(8,.sl 1 (a0.map cI)),(9,.c (.int .i64 ((a0.map cI).length:Int))),(10,.c (.int .i64 x.2.2))] []) (fun x=>M_b_Many_L1 a0 a1 x.1 x.2.1 x.2.2=some r1) (fun x=>x.1) ((((a0.map cI).length:Int)).toNat+1,1,0) h ?_ ?_
 ·exact ca_0
 ·intro x1 h;intro _;obtain⟨k7,m2,h⟩:=succ_of (f:=fun n=>M_b_Many_L1 a0 a1 n x1.2.1 x1.2.2) rfl h;replace h:M_b_Many_L1 a0 a1 (k7+1) x1.2.1 x1.2.2=some r1:=h;rw[M_b_Many_L1]at h;refine aSR ?_;intro _;refine dr (aSq (aCd ?_));intro _;refine spl h (fun c3 h=>?_) (fun c3 h=>?_)
  ·refine aSk (aSq (aBk (aSR ?_)));intro _;obtain⟨y8,w4,q5,h⟩:=ix_ok h;refine Exists.intro (cI y8) (And.intro (map_at' w4) ?_);intro _;refine pr (dr (aSR ?_));intro _;refine⟨_,lf_max rfl (bT0 rfl) rfl rfl,?_⟩;intro _;refine⟨_,lf_min rfl (bT0 rfl) rfl rfl,?_⟩;intro _;refine dr (aSR ?_);intro _;refine dr (aCd ?_);intro _;refine spl h (fun c6 h=>?_) (fun c6 h=>?_)
   ·refine aSR ?_;intro _;refine dr (aRt ?_);intro _;obtain rfl:=inj1 h;exact ca_0
   ·refine aSk (aRg ?_);intro _;refine dr ?_;refine⟨(k7,(IntKind.i64.wrap (x1.2.1*(min (max y8 0) (IntKind.i64.wrap (a1+1))))),(IntKind.i64.wrap (x1.2.2+1))),h,ltS m2,?_⟩;exact ca_0
  ·refine aEx (aSR ?_);intro _;refine dr (aRt ?_);intro _;obtain rfl:=inj1 h;exact ca_0
def M_b_Small_L1 (a0:GTask):Nat→Int→Option (Unit⊕Bool)|0,_=>none|k15+1,v14=>sel (decide (v14<((a0.Ops.map cGOp).length:Int))) (ix a0.Ops v14 (fun y16=>sel (decide (((y16.Effs.map cGEffect).length:Int)>8)) (some (.inr false)) (M_b_Small_L1 a0 k15 (IntKind.i64.wrap (v14+1))))) (some (.inl ()))
def M_b_Small (a0:GTask):Option (Bool):=ob1 (sel (decide (((a0.Vars.map cI).length:Int)>12)) (some (.inr false)) (sel (decide (((a0.Ops.map cGOp).length:Int)>20)) (some (.inr false)) (some (.inl ()))):Option (Unit⊕Bool)) (osum (fun _=>ob1 (M_b_Small_L1 a0 ((((a0.Ops.map cGOp).length:Int)).toNat+1) 0:Option (Unit⊕Bool)) (osum (fun _=>ob1 (M_b_Good a0) (fun z17=>sel z17 (ob1 (M_b_Many a0.Vars 512) (fun z18=>some (decide (z18≤512)))) (some false))) (fun r9=>some r9))) (fun r1=>some r1))
theorem A_b_Small (a0:GTask){r1:Bool}(h:M_b_Small a0=some r1):ACall cx 66 [.agg [.sl 1 (a0.Vars.map cI),.sl 1 (a0.Init.map cI),.sl 2 (a0.Goal.map cF),.sl 4 (a0.Ops.map cGOp)]] (.c (.bool r1)):=by
 refine aOf Tryz.func66 rfl (by decide) rfl (bT0 rfl) ?_;intro _;unfold M_b_Small at h;refine aSR ?_;intro _;refine dr ?_;obtain⟨o1,h,hK2⟩:=ob1_ok h;refine awp_cut (α:=Unit) (fun _=>mkS 35 [(1,.ptr 1 0 0 0)] [(1,⟨26,4,true,[[.sl 1 (a0.Vars.map cI),.sl 1 (a0.Init.map cI),.sl 2 (a0.Goal.map cF),.sl 4 (a0.Ops.map cGOp)]]⟩)]) (fun v=>o1=(.inl v)) ?_ ?_
 ·refine aSR ?_;intro _;refine spf h (fun c3 h=>?_) (fun c3 h=>?_)
  ·intro _;refine dr (aCd ?_);intro _;refine spl h (fun c4 h=>?_) (fun c4 h=>?_)
   ·refine aSR ?_;intro _;refine dr (aRt ?_);have j5:=sI_ h;subst j5;replace h:=(osum_r hK2);intro _;obtain rfl:=inj1 h;exact ca_0
   ·refine aSk ?_;refine⟨(),(sI_ h).symm,?_⟩;exact ca_0
  ·intro _;refine dr (aCd ?_);intro _;refine litT (aSR ?_);intro _;refine dr (aRt ?_);have j6:=sI_ h;subst j6;replace h:=(osum_r hK2);intro _;obtain rfl:=inj1 h;exact ca_0
 ·rintro _ ho;have ho:=ho.symm;subst ho;intro _;replace h:=(osum_l hK2);obtain⟨o7,h,hK8⟩:=ob1_ok h;refine awp_cut (α:=Unit) (fun _=>mkS 35 [(1,.ptr 1 0 0 0)] [(1,⟨26,4,true,[[.sl 1 (a0.Vars.map cI),.sl 1 (a0.Init.map cI),.sl 2 (a0.Goal.map cF),.sl 4 (a0.Ops.map cGOp)]]⟩)]) (fun v=>o7=(.inl v)) ?_ ?_
  ·refine aSR ?_;intro _;refine dr (aBk ?_);refine awp_loop (α:=Nat×Int) (fun x=>mkS 35 [(1,.ptr 1 0 0 0),(16,.sl 4 (a0.Ops.map cGOp)),(17,.c (.int .i64 ((a0.Ops.map cGOp).length:Int))),(18,.c (.int .i64 x.2))] [(1,⟨26,4,true,[[.sl 1 (a0.Vars.map cI),.sl 1 (a0.Init.map cI),.sl 2 (a0.Goal.map cF),.sl 4 (a0.Ops.map cGOp)]]⟩)]) (fun x=>M_b_Small_L1 a0 x.1 x.2=some o7) (fun x=>x.1) ((((a0.Ops.map cGOp).length:Int)).toNat+1,0) h ?_ ?_
   ·exact ca_0
   ·intro x9 h;intro _;obtain⟨k15,m10,h⟩:=succ_of (f:=fun n=>M_b_Small_L1 a0 n x9.2) rfl h;replace h:M_b_Small_L1 a0 (k15+1) x9.2=some o7:=h;rw[M_b_Small_L1]at h;refine aSR ?_;intro _;refine dr (aSq (aCd ?_));intro _;refine spl h (fun c11 h=>?_) (fun c11 h=>?_)
    ·refine aSk (aSq (aBk (aSR ?_)));intro _;obtain⟨y16,w12,q13,h⟩:=ix_ok h;refine Exists.intro (cGOp y16) (And.intro (map_at' w12) ?_);intro _;refine pr (dr (aSR ?_));intro _;refine dr (aCd ?_);intro _;refine spl h (fun c14 h=>?_) (fun c14 h=>?_)
     ·refine aSR ?_;intro _;refine dr (aRt ?_);have j15:=sI_ h;subst j15;replace h:=(osum_r hK8);intro _;obtain rfl:=inj1 h;exact ca_0
     ·refine aSk (aRg ?_);intro _;refine dr ?_;refine⟨(k15,(IntKind.i64.wrap (x9.2+1))),h,ltS m10,?_⟩;exact ca_0
    ·refine aEx ?_;refine⟨(),(sI_ h).symm,?_⟩;exact ca_0
  ·rintro _ ho;have ho:=ho.symm;subst ho;intro _;replace h:=(osum_l hK8);refine aSR ?_;intro _;obtain⟨z17,u16,h⟩:=ob1_ok h;refine cl rfl (A_b_Good a0 u16) ?_;intro _;refine spl h (fun c17 h=>?_) (fun c17 h=>?_)
   ·intro _;obtain⟨z18,u18,h⟩:=ob1_ok h;refine cl rfl (A_b_Many a0.Vars 512 u18) ?_;intro _;refine dr (aRt ?_);intro _;obtain rfl:=inj1 h;exact ca_0
   ·intro _;refine dr (aRt ?_);intro _;obtain rfl:=inj1 h;exact ca_0
def M_b_Tame_L1 (a0:GTask):Nat→Int→Option (Unit⊕Bool)|0,_=>none|k14+1,v13=>sel (decide (v13<((a0.Vars.map cI).length:Int))) (ix a0.Vars v13 (fun y15=>sel (decide (y15<2)) (some (.inr false)) (sel (decide (y15>4)) (some (.inr false)) (M_b_Tame_L1 a0 k14 (IntKind.i64.wrap (v13+1)))))) (some (.inl ()))
def M_b_Tame_L2 (y125:GOp):Nat→Int→Int→Option (Int⊕Bool)|0,_,_=>none|k143+1,v141,v142=>sel (decide (v142<((y125.Effs.map cGEffect).length:Int))) (ix y125.Effs v142 (fun y144=>sel (decide (((y144.When.map cF).length:Int)>2)) (some (.inr false)) (sel (decide (((y144.When.map cF).length:Int)>0)) (M_b_Tame_L2 y125 k143 (IntKind.i64.wrap (v141+1)) (IntKind.i64.wrap (v142+1))) (M_b_Tame_L2 y125 k143 v141 (IntKind.i64.wrap (v142+1)))))) (some (.inl v141))
def M_b_Tame_L3 (a0:GTask):Nat→Int→Option (Bool)|0,_=>none|k102+1,v101=>sel (decide (v101<((a0.Ops.map cGOp).length:Int))) (ob1 (ix a0.Ops v101 (fun y125=>ob1 (M_b_Tame_L2 y125 ((((y125.Effs.map cGEffect).length:Int)).toNat+1) 0 0:Option (Int⊕Bool)) (osum (fun v134=>sel (decide (v134>3)) (some (.inr false)) (some (.inl ()))) (fun r135=>some (.inr r135)))):Option (Unit⊕Bool)) (osum (fun _=>M_b_Tame_L3 a0 k102 (IntKind.i64.wrap (v101+1))) (fun r123=>some r123))) (some true)
def M_b_Tame (a0:GTask):Option (Bool):=ob1 (M_b_Small a0) (fun z1=>sel (!z1) (some false) (ob1 (M_b_Tame_L1 a0 ((((a0.Vars.map cI).length:Int)).toNat+1) 0:Option (Unit⊕Bool)) (osum (fun _=>M_b_Tame_L3 a0 ((((a0.Ops.map cGOp).length:Int)).toNat+1) 0) (fun r8=>some r8))))
theorem A_b_Tame (a0:GTask){r1:Bool}(h:M_b_Tame a0=some r1):ACall cx 39 [.agg [.sl 1 (a0.Vars.map cI),.sl 1 (a0.Init.map cI),.sl 2 (a0.Goal.map cF),.sl 4 (a0.Ops.map cGOp)]] (.c (.bool r1)):=by
 refine aOf Tryz.func39 rfl (by decide) rfl (bT0 rfl) ?_;intro _;unfold M_b_Tame at h;refine aSR ?_;intro _;refine dr (aSq (aSR ?_));intro _;obtain⟨z1,u1,h⟩:=ob1_ok h;refine cl rfl (A_b_Small a0 u1) ?_;intro _;refine dr (aCd ?_);intro _;refine spl h (fun c2 h=>?_) (fun c2 h=>?_)
 ·refine aSR ?_;intro _;refine dr (aRt ?_);intro _;obtain rfl:=inj1 h;exact ca_0
 ·refine aSk ?_;obtain⟨o3,h,hK4⟩:=ob1_ok h;refine awp_cut (α:=Unit) (fun _=>mkS 55 [(1,.ptr 1 0 0 0)] [(1,⟨26,4,true,[[.sl 1 (a0.Vars.map cI),.sl 1 (a0.Init.map cI),.sl 2 (a0.Goal.map cF),.sl 4 (a0.Ops.map cGOp)]]⟩)]) (fun v=>o3=(.inl v)) ?_ ?_
  ·refine aSR ?_;intro _;refine dr (aBk ?_);refine awp_loop (α:=Nat×Int) (fun x=>mkS 55 [(1,.ptr 1 0 0 0),(14,.sl 1 (a0.Vars.map cI)),(15,.c (.int .i64 ((a0.Vars.map cI).length:Int))),(16,.c (.int .i64 x.2))] [(1,⟨26,4,true,[[.sl 1 (a0.Vars.map cI),.sl 1 (a0.Init.map cI),.sl 2 (a0.Goal.map cF),.sl 4 (a0.Ops.map cGOp)]]⟩)]) (fun x=>M_b_Tame_L1 a0 x.1 x.2=some o3) (fun x=>x.1) ((((a0.Vars.map cI).length:Int)).toNat+1,0) h ?_ ?_
   ·exact ca_0
   ·intro x5 h;intro _;obtain⟨k14,m6,h⟩:=succ_of (f:=fun n=>M_b_Tame_L1 a0 n x5.2) rfl h;replace h:M_b_Tame_L1 a0 (k14+1) x5.2=some o3:=h;rw[M_b_Tame_L1]at h;refine aSR ?_;intro _;refine dr (aSq (aCd ?_));intro _;refine spl h (fun c7 h=>?_) (fun c7 h=>?_)
    ·refine aSk (aSq (aBk (aSR ?_)));intro _;obtain⟨y15,w8,q9,h⟩:=ix_ok h;refine Exists.intro (cI y15) (And.intro (map_at' w8) ?_);intro _;refine pr (dr (aSR ?_));intro _;refine spf h (fun c10 h=>?_) (fun c10 h=>?_)
     ·intro _;refine dr (aCd ?_);intro _;refine spl h (fun c11 h=>?_) (fun c11 h=>?_)
      ·refine aSR ?_;intro _;refine dr (aRt ?_);have j12:=sI_ h;subst j12;replace h:=(osum_r hK4);intro _;obtain rfl:=inj1 h;exact ca_0
      ·refine aSk (aRg ?_);intro _;refine dr ?_;refine⟨(k14,(IntKind.i64.wrap (x5.2+1))),h,ltS m6,?_⟩;exact ca_0
     ·intro _;refine dr (aCd ?_);intro _;refine litT (aSR ?_);intro _;refine dr (aRt ?_);have j13:=sI_ h;subst j13;replace h:=(osum_r hK4);intro _;obtain rfl:=inj1 h;exact ca_0
    ·refine aEx ?_;refine⟨(),(sI_ h).symm,?_⟩;exact ca_0
  ·rintro _ ho;have ho:=ho.symm;subst ho;intro _;replace h:=(osum_l hK4);refine aSq (aSR ?_);intro _;refine dr (aBk ?_);refine awp_loop (α:=Nat×Int) (fun x=>mkS 55 [(28,.sl 4 (a0.Ops.map cGOp)),(29,.c (.int .i64 ((a0.Ops.map cGOp).length:Int))),(30,.c (.int .i64 x.2))] []) (fun x=>M_b_Tame_L3 a0 x.1 x.2=some r1) (fun x=>x.1) ((((a0.Ops.map cGOp).length:Int)).toNat+1,0) h ?_ ?_
   ·exact ca_0
   ·intro x14 h;intro _;obtain⟨k102,m15,h⟩:=succ_of (f:=fun n=>M_b_Tame_L3 a0 n x14.2) rfl h;replace h:M_b_Tame_L3 a0 (k102+1) x14.2=some r1:=h;rw[M_b_Tame_L3]at h;refine aSR ?_;intro _;refine dr (aSq (aCd ?_));intro _;refine spl h (fun c16 h=>?_) (fun c16 h=>?_)
    ·refine aSk ?_;obtain⟨o17,h,hK18⟩:=ob1_ok h;refine awp_cut (α:=Unit) (fun _=>mkS 55 [(28,.sl 4 (a0.Ops.map cGOp)),(29,.c (.int .i64 ((a0.Ops.map cGOp).length:Int))),(30,.c (.int .i64 x14.2))] []) (fun v=>o17=(.inl v)) ?_ ?_
     ·refine aBk (aSR ?_);intro _;obtain⟨y125,w19,q20,h⟩:=ix_ok h;refine Exists.intro (cGOp y125) (And.intro (map_at' w19) ?_);intro _;refine pr (dr (aSR ?_));intro _;refine dr ?_;obtain⟨o21,h,hK22⟩:=ob1_ok h;refine awp_cut (α:=Int) (fun v134=>mkS 55 [(7,.c (.int .i64 v134)),(28,.sl 4 (a0.Ops.map cGOp)),(29,.c (.int .i64 ((a0.Ops.map cGOp).length:Int))),(30,.c (.int .i64 x14.2))] []) (fun v=>o21=(.inl v)) ?_ ?_
      ·refine aSR ?_;intro _;refine dr (aBk ?_);refine awp_loop (α:=Nat×Int×Int) (fun x=>mkS 55 [(7,.c (.int .i64 x.2.1)),(28,.sl 4 (a0.Ops.map cGOp)),(29,.c (.int .i64 ((a0.Ops.map cGOp).length:Int))),(30,.c (.int .i64 x14.2)),(35,.sl 3 (y125.Effs.map cGEffect)),(36,.c (.int .i64 ((y125.Effs.map cGEffect).length:Int))),(37,.c (.int .i64 x.2.2))] []) (fun x=>M_b_Tame_L2 y125 x.1 x.2.1 x.2.2=some o21) (fun x=>x.1) ((((y125.Effs.map cGEffect).length:Int)).toNat+1,0,0) h ?_ ?_
       ·exact ca_0
       ·intro x23 h;intro _;obtain⟨k143,m24,h⟩:=succ_of (f:=fun n=>M_b_Tame_L2 y125 n x23.2.1 x23.2.2) rfl h;replace h:M_b_Tame_L2 y125 (k143+1) x23.2.1 x23.2.2=some o21:=h;rw[M_b_Tame_L2]at h;refine aSR ?_;intro _;refine dr (aSq (aCd ?_));intro _;refine spl h (fun c25 h=>?_) (fun c25 h=>?_)
        ·refine aSk (aSq (aBk (aSR ?_)));intro _;obtain⟨y144,w26,q27,h⟩:=ix_ok h;refine Exists.intro (cGEffect y144) (And.intro (map_at' w26) ?_);intro _;refine pr (dr (aSq (aSR ?_)));intro _;refine dr (aCd ?_);intro _;refine spl h (fun c28 h=>?_) (fun c28 h=>?_)
         ·refine aSR ?_;intro _;refine dr (aRt ?_);have j29:=sI_ h;subst j29;replace h:=(osum_r hK22);have j30:=sI_ h;subst j30;replace h:=(osum_r hK18);intro _;obtain rfl:=inj1 h;exact ca_0
         ·refine aSk (aSR ?_);intro _;refine dr (aCd ?_);intro _;refine spl h (fun c31 h=>?_) (fun c31 h=>?_)
          ·refine aRg ?_;intro _;refine dr (aRg ?_);intro _;refine dr ?_;refine⟨(k143,(IntKind.i64.wrap (x23.2.1+1)),(IntKind.i64.wrap (x23.2.2+1))),h,ltS m24,?_⟩;exact ca_0
          ·refine aSk (aRg ?_);intro _;refine dr ?_;refine⟨(k143,x23.2.1,(IntKind.i64.wrap (x23.2.2+1))),h,ltS m24,?_⟩;exact ca_0
        ·refine aEx ?_;refine⟨x23.2.1,(sI_ h).symm,?_⟩;exact ca_0
      ·rintro v134 ho;have ho:=ho.symm;subst ho;intro _;replace h:=(osum_l hK22);refine aSR ?_;intro _;refine dr (aCd ?_);intro _;refine spl h (fun c32 h=>?_) (fun c32 h=>?_)
       ·refine aSR ?_;intro _;refine dr (aRt ?_);have j33:=sI_ h;subst j33;replace h:=(osum_r hK18);intro _;obtain rfl:=inj1 h;exact ca_0
       ·refine aSk ?_;refine⟨(),(sI_ h).symm,?_⟩;exact ca_0
     ·rintro _ ho;have ho:=ho.symm;subst ho;intro _;replace h:=(osum_l hK18);refine aRg ?_;intro _;refine dr ?_;refine⟨(k102,(IntKind.i64.wrap (x14.2+1))),h,ltS m15,?_⟩;exact ca_0
    ·refine aEx (aSR ?_);intro _;refine dr (aRt ?_);intro _;obtain rfl:=inj1 h;exact ca_0
def M_b_Holds_L1 (a0:List Fact)(a1:List Int):Nat→Int→Option (Bool)|0,_=>none|k7+1,v6=>sel (decide (v6<((a0.map cF).length:Int))) (ix a0 v6 (fun y8=>sel (decide (y8.1<0)) (some false) (sel (decide (y8.1≥((a1.map cI).length:Int))) (some false) (ix a1 y8.1 (fun y9=>sel (y9 != y8.2) (some false) (M_b_Holds_L1 a0 a1 k7 (IntKind.i64.wrap (v6+1)))))))) (some true)
def M_b_Holds (a0:List Fact)(a1:List Int):Option (Bool):=M_b_Holds_L1 a0 a1 ((((a0.map cF).length:Int)).toNat+1) 0
theorem A_b_Holds (a0:List Fact)(a1:List Int){r1:Bool}(h:M_b_Holds a0 a1=some r1):ACall cx 45 [.sl 2 (a0.map cF),.sl 1 (a1.map cI)] (.c (.bool r1)):=by
 refine aOf Tryz.func45 rfl (by decide) rfl (bT0 rfl) ?_;intro _;unfold M_b_Holds at h;refine aSR ?_;intro _;refine dr (aSq (aSR ?_));intro _;refine dr (aBk ?_);refine awp_loop (α:=Nat×Int) (fun x=>mkS 34 [(1,.sl 1 (a1.map cI)),(7,.sl 2 (a0.map cF)),(8,.c (.int .i64 ((a0.map cF).length:Int))),(9,.c (.int .i64 x.2))] []) (fun x=>M_b_Holds_L1 a0 a1 x.1 x.2=some r1) (fun x=>x.1) ((((a0.map cF).length:Int)).toNat+1,0) h ?_ ?_
 ·exact ca_0
 ·intro x1 h;intro _;obtain⟨k7,m2,h⟩:=succ_of (f:=fun n=>M_b_Holds_L1 a0 a1 n x1.2) rfl h;replace h:M_b_Holds_L1 a0 a1 (k7+1) x1.2=some r1:=h;rw[M_b_Holds_L1]at h;refine aSR ?_;intro _;refine dr (aSq (aCd ?_));intro _;refine spl h (fun c3 h=>?_) (fun c3 h=>?_)
  ·refine aSk (aSq (aBk (aSR ?_)));intro _;obtain⟨y8,w4,q5,h⟩:=ix_ok h;refine Exists.intro (cF y8) (And.intro (map_at' w4) ?_);intro _;refine pr (dr (aSR ?_));intro _;refine spf h (fun c6 h=>?_) (fun c6 h=>?_)
   ·intro _;refine spf h (fun c7 h=>?_) (fun c7 h=>?_)
    ·intro _;obtain⟨y9,w8,q9,h⟩:=ix_ok h;refine Exists.intro (cI y9) (And.intro (map_at' w8) ?_);intro _;refine pr (dr (aCd ?_));intro _;refine spl h (fun c10 h=>?_) (fun c10 h=>?_)
     ·refine aSR ?_;intro _;refine dr (aRt ?_);intro _;obtain rfl:=inj1 h;exact ca_0
     ·refine aSk (aRg ?_);intro _;refine dr ?_;refine⟨(k7,(IntKind.i64.wrap (x1.2+1))),h,ltS m2,?_⟩;exact ca_0
    ·intro _;refine dr (aCd ?_);intro _;refine litT (aSR ?_);intro _;refine dr (aRt ?_);intro _;obtain rfl:=inj1 h;exact ca_0
   ·intro _;refine dr (aCd ?_);intro _;refine litT (aSR ?_);intro _;refine dr (aRt ?_);intro _;obtain rfl:=inj1 h;exact ca_0
  ·refine aEx (aSR ?_);intro _;refine dr (aRt ?_);intro _;obtain rfl:=inj1 h;exact ca_0
end Go.Proofs.YtinnphmnhmdcgaaGreat.Am
namespace Go.Proofs.YtinnphmnhmdcgaaGreat.Am
open Go.RowKit
abbrev bl (s:ByteArray):List UInt8:=s.data.toList
theorem bl_len (s:ByteArray):(bl s).length=s.size:=(Lib.size_eq s).symm
theorem byt_bl (s:ByteArray)(n:Nat)(h:n<s.size):byt s (n:Int)=(((bl s)[n]'(by rw[bl_len];exact h)).toNat:Int):=by
 show((s.data.getD ((n:Int)).toNat 0).toNat:Int)=_
 have h2:n<s.data.size:=h
 simp only[Int.toNat_natCast,Array.getD_eq_getD_getElem?,Array.getElem?_eq_getElem h2]
 simp
section
variable {α β γ δ : Type}
theorem sel_dec {p:Prop} [Decidable p]{x y:Option α}:sel (decide p) x y=if p then x else y:=by
 unfold sel
 by_cases h:p <;> simp[h]
theorem sel_tt {x y:Option α}:sel true x y=x:=rfl
theorem sel_ff {x y:Option α}:sel false x y=y:=rfl
theorem grd_t {p:Prop} [Decidable p]{x:Option α}(h:p):grd p x=x:=if_pos h
theorem ixn_at {l:List α}{n:Nat}{y:α}{k:α→Option β}(h:l[n]?=some y):ixn l n k=k y:=by rw[ixn,h]
theorem ix_at {l:List α}{n:Nat}{y:α}{k:α→Option β}(h:l[n]?=some y):ix l (n:Int) k=k y:=by
 rw[ix,Int.toNat_natCast,ixn_at h,grd_t (Int.natCast_nonneg n)]
theorem ob1_some {a:α}{k:α→Option β}:ob1 (some a) k=k a:=rfl
theorem ob2_some {a:α}{b:β}{k:α→β→Option γ}:ob2 (some (a,b)) k=k a b:=rfl
theorem ob3_some {a:α}{b:β}{c:γ}{k:α→β→γ→Option δ}:ob3 (some (a,b,c)) k=k a b c:=rfl
theorem osum_inl {f:α→Option γ}{g:β→Option γ}{a:α}:osum f g (.inl a)=f a:=rfl
theorem osum_inr {f:α→Option γ}{g:β→Option γ}{b:β}:osum f g (.inr b)=g b:=rfl
theorem w64 {z:Int}(h1:-9223372036854775808≤z)(h2:z≤9223372036854775807):IntKind.i64.wrap z=z:=wrap_eq h1 h2
theorem w64s {n:Nat}(h:n<9223372036854775807):IntKind.i64.wrap ((n:Int)+1)=((n+1:Nat):Int):=by rw[w64 (by omega) (by omega)];rfl
theorem drop_at {l:List α}{n:Nat}(h:n<l.length):∃ y,l[n]?=some y∧l.drop n=y :: l.drop (n+1):=⟨l[n],List.getElem?_eq_getElem h,List.drop_eq_getElem_cons h⟩
end
end Go.Proofs.YtinnphmnhmdcgaaGreat.Am
namespace Go.Proofs.YtinnphmnhmdcgaaGreat.Am
section
variable {α β γ : Type}
def ixv (y:α)(k:α→Option γ):Option γ:=k y
def Rg (B:α→Int→β→(β→Option γ)→Option γ)(E:β→Option γ):List α→Int→β→Option γ
 | [],_,v=>E v
 | y :: r,i,v=>B y i v (Rg B E r (i+1))
def Rn (B:Int→β→(β→Option γ)→Option γ)(E:β→Option γ):Nat→Int→β→Option γ
 | 0,_,v=>E v
 | m+1,i,v=>B i v (Rn B E m (i+1))
theorem lt_some {l:List α}{n:Nat}{y:α}(h:l[n]?=some y):n<l.length:=(gS_.1 h).1
theorem decide_lt {n m:Nat}(h:n<m):decide ((n:Int)<(m:Int))=true:=by simp;omega
theorem decide_ge {n:Nat}:decide ((n:Int)<(n:Int))=false:=by simp
theorem rg_of {l:List α}{L:Nat→Int→β→Option γ}{B:α→Int→β→(β→Option γ)→Option γ}{E:β→Option γ}(hl:l.length<9223372036854775807)
  (hs:∀ (k n:Nat) (v:β) (y:α),l[n]?=some y→n<9223372036854775807→L (k+1) n v=B y n v (fun v'=>L k ((n+1:Nat):Int) v')) (he:∀ (k:Nat) (v:β),L (k+1) (l.length:Nat) v=E v) :
  ∀ (k n:Nat) (v:β),n≤l.length→l.length<k+n→L k n v=Rg B E (l.drop n) n v
 | 0,n,v,h1,h2=>by omega
 | k+1,n,v,h1,h2=>by
  rcases Nat.lt_or_ge n l.length with hn|hn
  ·obtain⟨y,hy,hd⟩:=drop_at hn
   rw[hs k n v y hy (by omega),hd,Rg]
   congr 1
   funext v'
   exact rg_of hl hs he k (n+1) v' hn (by omega)
  ·obtain rfl:n=l.length:=by omega
   rw[he,List.drop_length,Rg]
theorem rn_of {m:Nat}{L:Nat→Int→β→Option γ}{B:Int→β→(β→Option γ)→Option γ}{E:β→Option γ}(hl:m<9223372036854775807)
  (hs:∀ (k n:Nat) (v:β),n<m→L (k+1) n v=B n v (fun v'=>L k ((n+1:Nat):Int) v')) (he:∀ (k:Nat) (v:β),L (k+1) (m:Nat) v=E v) :
  ∀ (k n:Nat) (v:β),n≤m→m<k+n→L k n v=Rn B E (m-n) n v
 | 0,n,v,h1,h2=>by omega
 | k+1,n,v,h1,h2=>by
  rcases Nat.lt_or_ge n m with hn|hn
  ·rw[hs k n v hn,show m-n=(m-(n+1))+1 from by omega,Rn]
   congr 1
   funext v'
   exact rn_of hl hs he k (n+1) v' hn (by omega)
  ·obtain rfl:n=m:=by omega
   rw[he,Nat.sub_self,Rn]
theorem rg_e2 {l:List α}{f:α→List AV}{L:Nat→Int→β→Option γ}{B:α→Int→β→(β→Option γ)→Option γ}{E:β→Option γ}(hl:l.length<9223372036854775807)
  (hs:∀ (k n:Nat) (v:β) (y:α),l[n]?=some y→n<l.length→IntKind.i64.wrap ((n:Int)+1)=((n+1:Nat):Int)→L (k+1) n v=B y n v (fun v'=>L k ((n+1:Nat):Int) v')) (he:∀ (k:Nat) (v:β),L (k+1) (l.length:Nat) v=E v) (v:β) :
  L (((l.map f).length:Int).toNat+1) 0 v=Rg B E l 0 v:=by
 have h:=rg_of (L:=L) (B:=B) (E:=E) hl (fun k n v y hy hn=>hs k n v y hy (lt_some hy) (w64s hn)) he (l.length+1) 0 v (Nat.zero_le _) (by omega)
 rw[lM_,Int.toNat_natCast]
 exact h
theorem rg_e1 {l:List α}{f:α→List AV}{L:Nat→Int→β→Option γ}{B:α→Int→β→(β→Option γ)→Option γ}{E:β→Option γ}(hl:l.length<9223372036854775807)
  (hs:∀ (k:Nat) (i:Int) (v:β),L (k+1) i v=sel (decide (i<((l.map f).length:Int))) (ix l i fun y=>B y i v fun v'=>L k (IntKind.i64.wrap (i+1)) v') (E v)) (v:β) :
  L (((l.map f).length:Int).toNat+1) 0 v=Rg B E l 0 v :=
 rg_e2 hl (fun k n v y hy hn h2=>by rw[hs,lM_,decide_lt hn,sel_tt,ix_at hy,h2]) (fun k v=>by rw[hs,lM_,decide_ge,sel_ff]) v
theorem rn_e {m:Nat}{z:Int}{L:Nat→Int→β→Option γ}{B:Int→β→(β→Option γ)→Option γ}{E:β→Option γ}(hm:z=(m:Int))(hl:m<9223372036854775807)
  (hs:∀ (k:Nat) (i:Int) (v:β),L (k+1) i v=sel (decide (i<z)) (B i v fun v'=>L k (IntKind.i64.wrap (i+1)) v') (E v)) (v:β) :
  L (z.toNat+1) 0 v=Rn B E m 0 v:=by
 subst hm
 have h:=rn_of (L:=L) (B:=B) (E:=E) hl (fun k n v hn=>by rw[hs,decide_lt hn,sel_tt,w64s (Nat.lt_trans hn hl)]) (fun k v=>by rw[hs,decide_ge,sel_ff]) (m+1) 0 v (Nat.zero_le _) (by omega)
 rw[Int.toNat_natCast]
 exact h
end
end Go.Proofs.YtinnphmnhmdcgaaGreat.Am
