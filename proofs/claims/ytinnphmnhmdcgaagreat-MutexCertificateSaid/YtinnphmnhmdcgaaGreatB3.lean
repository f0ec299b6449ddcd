/- Texts of the proof, part 3 of 8. -/
import Derived.Test.YtinnphmnhmdcgaaGreatB2
import Derived.Shelf.SlSortCmp.Whole1
import Derived.Test.YtinnphmnhmdcgaaGreatB1
import Derived.Laws.StructEq
import Derived.Lib.SliceRun
import Derived.Deep.RegionHeld3
set_option linter.unusedVariables false
set_option linter.unusedSectionVars false
open List renaming length_map→lM_, length_append→lA_, take_of_length_le→tL_
open Option.some renaming inj→sI_
namespace Go.Proofs.YtinnphmnhmdcgaaGreat
open Go.RowKit Go.Sort Go.Shelf Go.Lib
def cmpLF : List Fact→List Fact→Int
 | [],[]=>0
 | [],_ :: _=>-1
 | _ :: _,[]=>1
 | x :: r,y :: s=>if cmpF x y≠0 then cmpF x y else cmpLF r s
theorem Grw.trans {a b c:World}(h:Grw a b)(k:Grw b c):Grw a c:=by
 obtain⟨q,os,rfl⟩:=h
 obtain⟨q2,os2,rfl⟩:=k
 refine⟨q+q2,os++os2,?_⟩
 show grow (grow ((a.drewN q).drewN q2) os) os2=_
 rw[grow_grow,World.drewN_drewN]
set_option maxHeartbeats 1000000 in
theorem cmpClosureR (x y:Fact)(w:World):Calls Tryz.prog 109 #[.agg #[.int .i64 x.1,.int .i64 x.2],.agg #[.int .i64 y.1,.int .i64 y.2]] w fun e w'=>e=.returned (.int .i64 (cmpF x y))∧Grw w w':=by
 obtain⟨x1,x2⟩:=x
 obtain⟨y1,y2⟩:=y
 have h1:=fun(W:World)=>Tryz.cmp_Compare_int x1 y1 W
 have h2:=fun(W:World)=>Tryz.cmp_Compare_int x2 y2 W
 have hfin:cmpF (x1,x2) (y1,y2)=if Lib.compareInt x1 y1≠0 then Lib.compareInt x1 y1 else Lib.compareInt x2 y2:=rfl
 generalize Lib.compareInt x1 y1=c1 at h1 hfin
 generalize Lib.compareInt x2 y2=c2 at h2 hfin
 generalize cmpF (x1,x2) (y1,y2)=r at hfin ⊢
 have H1:=Lib.hid h1
 have H2:=Lib.hid h2
 have HFIN:=Lib.hid hfin
 clear h1 h2 hfin
 simp only
 go_enter Tryz.func109,Tryz.ntmps109
 go_upto_region 1 with fail
 have c0:((w.alloc (.cells #[.int .i64 x1,.int .i64 x2] 39)).alloc (.cells #[.int .i64 y1,.int .i64 y2] 39)).cell? ⟨w.heap.size,0,none⟩=some (.int .i64 x1):=by simp
 have c1':((w.alloc (.cells #[.int .i64 x1,.int .i64 x2] 39)).alloc (.cells #[.int .i64 y1,.int .i64 y2] 39)).cell? ⟨w.heap.size,1,none⟩=some (.int .i64 x2):=by simp
 have c2':((w.alloc (.cells #[.int .i64 x1,.int .i64 x2] 39)).alloc (.cells #[.int .i64 y1,.int .i64 y2] 39)).cell? ⟨w.heap.size+1,0,none⟩=some (.int .i64 y1):=by simp
 have c3':((w.alloc (.cells #[.int .i64 x1,.int .i64 x2] 39)).alloc (.cells #[.int .i64 y1,.int .i64 y2] 39)).cell? ⟨w.heap.size+1,1,none⟩=some (.int .i64 y2):=by simp
 have hG:Grw w ((w.alloc (.cells #[.int .i64 x1,.int .i64 x2] 39)).alloc (.cells #[.int .i64 y1,.int .i64 y2] 39)):=((Grw.refl w).alloc _).alloc _
 have HG:=Lib.hid hG
 clear hG
 generalize (w.alloc (.cells #[.int .i64 x1,.int .i64 x2] 39)).alloc (.cells #[.int .i64 y1,.int .i64 y2] 39)=W0 at c0 c1' c2' c3' HG ⊢
 generalize w.heap.size=B0 at c0 c1' c2' c3' ⊢
 go_region_held3 (fun w'=>w'.cell? ⟨B0,0,none⟩=some (.int .i64 x1)∧w'.cell? ⟨B0,1,none⟩=some (.int .i64 x2)∧w'.cell? ⟨B0+1,0,none⟩=some (.int .i64 y1)∧w'.cell? ⟨B0+1,1,none⟩=some (.int .i64 y2))
  (first|exact⟨c0,c1',c2',c3'⟩|exact⟨kept (belowA (Below.refl _ _) _) c0,kept (belowA (Below.refl _ _) _) c1',kept (belowA (Below.refl _ _) _) c2',kept (belowA (Below.refl _ _) _) c3'⟩)
  (first
   | (go_at_call_of 111 (Value.int .i64 x1);refine(H1.out _).mono ?_;rintro e wa ⟨rfl,rfl⟩)
   | (go_at_call_of 111 (Value.int .i64 x2);refine(H2.out _).mono ?_;rintro e wb ⟨rfl,rfl⟩)
   | (go_at_call 110;refine(or_calls _ _ c1 c2 r HFIN.out _ (by simp) (by simp)).mono ?_;rintro e wc ⟨rfl,rfl⟩))
 go_wp2
 go_ret
 exact⟨rfl,(HG.out.alloc _).drew⟩
theorem Grw.keepF {w w':World}(h:Grw w w'){v:Value}{l:List Fact}(hv:FactsAt w v l):FactsAt w' v l:=hv.keep h.below
set_option maxHeartbeats 2000000 in
theorem compareFuncR (u v:Value)(a b:List Fact)(w:World)(hu:FactsAt w u a)(hv:FactsAt w v b) :
  Calls Tryz.prog 108 #[u,v,.func (.func 109) #[] #[]] w fun e w'=>e=.returned (.int .i64 (cmpLF a b))∧Grw w w':=by
 obtain⟨A,n,c,rfl,hn,hm⟩:=hu.form
 obtain⟨A',n',c',rfl,hn',hm'⟩:=hv.form
 obtain⟨D,hD⟩:∃ D,cmpLF a b=D:=⟨_,rfl⟩
 rw[hD]
 have HU:=Lib.hid hu
 have HV:=Lib.hid hv
 have HN:=Lib.hid hn
 have HN':=Lib.hid hn'
 have HD:=Lib.hid hD
 clear hu hv hn hn' hD
 go_enter Tryz.func108,Tryz.ntmps108
 go_wp2
 go_loopg [13] n (fun g i wr=>∃ k:Nat,k≤n∧k≤n'∧g=n-k∧i=.int .i64 k∧Grw w wr∧D=cmpLF (a.drop k) (b.drop k))
 case atStart=>exact⟨0,Nat.zero_le _,Nat.zero_le _,by omega,rfl,Grw.refl _,HD.out.symm⟩
 case round =>
  obtain⟨k,hk,hk',hg,rfl,hB,hF⟩:=hrel
  have HG:=Lib.hid hg
  have HF:=Lib.hid hF
  clear hg hF
  by_cases hlt:k<n
  ·obtain⟨bb,off,x1,x2,rfl,c0,c1,hx,hd⟩:=(hB.keepF HU.out).at hlt
   have hbr:bb<wr.heap.size:=lt_of_cell c0
   by_cases hlt':k<n'
   ·obtain⟨bb',off',y1,y2,rfl,d0,d1,hy,hd'⟩:=(hB.keepF HV.out).at hlt'
    have hbr':bb'<wr.heap.size:=lt_of_cell d0
    have hst:D=if cmpF (x1,x2) (y1,y2)≠0 then cmpF (x1,x2) (y1,y2)else cmpLF (a.drop (k+1)) (b.drop (k+1)):=by rw[HF.out,hd,hd',cmpLF]
    have h1:=fun(W:World)=>cmpClosureR (x1,x2) (y1,y2) W
    generalize cmpF (x1,x2) (y1,y2)=cc at hst h1
    by_cases hcc:cc=0
    ·have hb:(cc != 0)=false:=by simp[hcc]
     have hnext:D=cmpLF (a.drop (k+1)) (b.drop (k+1)):=by rw[hst,if_neg (by simp[hcc])]
     have HX:=Lib.hid hx
     have HD2:=Lib.hid hd
     have HY:=Lib.hid hy
     have HD3:=Lib.hid hd'
     have HST:=Lib.hid hst
     have H1:=Lib.hid h1
     have HCC:=Lib.hid hcc
     have HNEXT:=Lib.hid hnext
     clear hx hd hy hd' hst h1 hcc hnext
     go_wp2_with (go_at_call 109;refine(H1.out _).mono ?_;rintro e w1 ⟨rfl,hb1⟩)
     go_roundg (n-(k+1))
     case measure=>have:=HG.out;omega
     case rel=>exact⟨k+1,by omega,by omega,rfl,by go_num,Grw.trans ((hB.alloc _).alloc _) hb1,HNEXT.out⟩
    ·have hb:(cc != 0)=true:=by simp[hcc]
     have hfin:D=cc:=by rw[hst,if_pos hcc]
     have HX:=Lib.hid hx
     have HD2:=Lib.hid hd
     have HY:=Lib.hid hy
     have HD3:=Lib.hid hd'
     have HST:=Lib.hid hst
     have H1:=Lib.hid h1
     have HFIN:=Lib.hid hfin
     clear hx hd hy hd' hst h1 hfin
     go_wp2_with (go_at_call 109;refine(H1.out _).mono ?_;rintro e w1 ⟨rfl,hb1⟩)
     go_ret
     exact⟨by rw[HFIN.out];rfl,Grw.trans ((hB.alloc _).alloc _) hb1⟩
   ·have hfin:D=1:=by rw[HF.out,hd,show b.drop k=[]from List.drop_eq_nil_of_le (by have:=HN'.out;omega),cmpLF]
    have HX:=Lib.hid hx
    have HD2:=Lib.hid hd
    have HFIN:=Lib.hid hfin
    clear hx hd hfin
    go_wp2_with fail
    go_ret
    exact⟨by rw[HFIN.out];rfl,hB.alloc _⟩
  ·have hdn:a.drop k=[]:=List.drop_eq_nil_of_le (by have:=HN.out;omega)
   by_cases hlt':n<n'
   ·have hfin:D=-1:=by
     obtain⟨y,_,hd'⟩:=some_at (l:=b) (k:=k) HN'.out (by omega)
     rw[HF.out,hdn,hd',cmpLF]
    have HDN:=Lib.hid hdn
    have HFIN:=Lib.hid hfin
    clear hdn hfin
    go_wp2_with fail
    go_ret
    exact⟨by rw[HFIN.out];rfl,hB⟩
   ·have hfin:D=0:=by rw[HF.out,hdn,show b.drop k=[]from List.drop_eq_nil_of_le (by have:=HN'.out;omega),cmpLF]
    have HDN:=Lib.hid hdn
    have HFIN:=Lib.hid hfin
    clear hdn hfin
    go_wp2_with fail
    go_ret
    exact⟨by rw[HFIN.out];rfl,hB⟩
set_option maxHeartbeats 1000000 in
theorem compareR (u v:Value)(a b:List Fact)(w:World)(hu:FactsAt w u a)(hv:FactsAt w v b) :
  Calls Tryz.prog 94 #[u,v] w fun e w'=>e=.returned (.int .i64 (cmpLF a b))∧Grw w w':=by
 have h2:=fun W (hW:Grw w W)=>compareFuncR u v a b W (hW.keepF hu) (hW.keepF hv)
 obtain⟨A,n,c,rfl,hn,hm⟩:=hu.form
 obtain⟨A',n',c',rfl,hn',hm'⟩:=hv.form
 generalize cmpLF a b=r at h2 ⊢
 have H2:=Lib.hid h2
 have HU:=Lib.hid hu
 have HV:=Lib.hid hv
 have HN:=Lib.hid hn
 have HN':=Lib.hid hn'
 clear h2 hu hv hn hn'
 go_enter Tryz.func94,Tryz.ntmps94
 go_wp2_with fail
 refine(H2.out _ (Grw.refl _)).mono ?_
 rintro e w1 ⟨rfl,hb1⟩
 go_wp2_with fail
 go_ret
 exact⟨rfl,hb1⟩
theorem cmpF_zero {x y:Fact}:cmpF x y=0↔x=y:=by
 rw[Prod.ext_iff]
 unfold cmpF
 rcases compareInt_cases x.1 y.1 with⟨h,e⟩|⟨h,e⟩|⟨h,e⟩ <;> rcases compareInt_cases x.2 y.2 with⟨h',e'⟩|⟨h',e'⟩|⟨h',e'⟩ <;> rw[e,e'] <;> simp <;> omega
theorem cmpF_anti (x y:Fact):cmpF y x=- cmpF x y:=by
 unfold cmpF
 rcases compareInt_cases x.1 y.1 with⟨h,e⟩|⟨h,e⟩|⟨h,e⟩ <;> rcases compareInt_cases x.2 y.2 with⟨h',e'⟩|⟨h',e'⟩|⟨h',e'⟩ <;> rcases compareInt_cases y.1 x.1 with⟨k,f⟩|⟨k,f⟩|⟨k,f⟩ <;> rcases compareInt_cases y.2 x.2 with⟨k',f'⟩|⟨k',f'⟩|⟨k',f'⟩ <;> rw[e,e',f,f'] <;> first|omega|simp
theorem cmpF_trans {x y z:Fact}(h1:cmpF x y<0)(h2:cmpF y z<0):cmpF x z<0:=by
 have a1:=ltOf_cmpF x y
 have a2:=ltOf_cmpF y z
 have a3:=ltOf_cmpF x z
 unfold ltOf at a1 a2 a3
 simp only[decide_eq_true h1,decide_eq_true h2]at a1 a2
 have:ltF x z=true:=by simp[ltF]at a1 a2 ⊢;omega
 rw[this]at a3
 exact of_decide_eq_true a3
theorem cmpLF_zero : ∀ {a b:List Fact},cmpLF a b=0↔a=b
 | [],[]=>by simp[cmpLF]
 | [],_ :: _=>by simp[cmpLF]
 | _ :: _,[]=>by simp[cmpLF]
 | x :: r,y :: s=>by
  rw[cmpLF]
  by_cases h:cmpF x y=0
  ·rw[if_neg (by simp[h]),cmpLF_zero (a:=r) (b:=s),cmpF_zero.1 h];simp
  ·rw[if_pos h]
   refine⟨fun e=>absurd e h,fun e=>?_⟩
   injection e with e _
   exact cmpF_zero.2 e
theorem cmpLF_anti : ∀ (a b:List Fact),cmpLF b a=- cmpLF a b
 | [],[]=>by simp[cmpLF]
 | [],_ :: _=>by simp[cmpLF]
 | _ :: _,[]=>by simp[cmpLF]
 | x :: r,y :: s=>by
  have h1:=cmpF_anti x y
  by_cases h:cmpF x y=0
  ·have h':cmpF y x=0:=by omega
   rw[cmpLF,cmpLF,if_neg (fun q=>q h'),if_neg (fun q=>q h),cmpLF_anti r s]
  ·have h':cmpF y x≠0:=by omega
   rw[cmpLF,cmpLF,if_pos h',if_pos h,h1]
theorem cmpLF_trans : ∀ {a b c:List Fact},cmpLF a b<0→cmpLF b c<0→cmpLF a c<0
 | [],[],_,h,_=>by simp[cmpLF]at h
 | [],_ :: _,[],_,h=>by simp[cmpLF]at h
 | [],_ :: _,_ :: _,_,_=>by simp[cmpLF]
 | _ :: _,[],_,h,_=>by simp[cmpLF]at h
 | _ :: _,_ :: _,[],_,h=>by simp[cmpLF]at h
 | x :: r,y :: s,z :: t,h1,h2=>by
  rw[cmpLF]at h1 h2 ⊢
  by_cases e1:cmpF x y=0
  ·have:=cmpF_zero.1 e1
   subst this
   rw[if_neg (by simp[e1])]at h1
   by_cases e2:cmpF x z=0
   ·rw[if_neg (by simp[e2])]at h2 ⊢
    exact cmpLF_trans h1 h2
   ·rw[if_pos e2]at h2 ⊢
    exact h2
  ·rw[if_pos e1]at h1
   by_cases e2:cmpF y z=0
   ·have:=cmpF_zero.1 e2
    subst this
    rw[if_pos e1]
    exact h1
   ·rw[if_pos e2]at h2
    have h3:=cmpF_trans h1 h2
    rw[if_pos (by omega)]
    exact h3
theorem swoOf {α:Type}{c:α→α→Int}(ha:∀ x y,c y x=- c x y)(ht:∀ {x y z},c x y<0→c y z<0→c x z<0)(hz:∀ {x y z},c x y=0→c x z=c y z):SWO (ltOf c) where
 irrefl x:=by unfold ltOf;have:=ha x x;simp;omega
 trans x y z h1 h2:=by unfold ltOf at *;simp at *;exact ht h1 h2
 ntrans x y z h1 h2:=by
  unfold ltOf at *
  simp at *
  rcases Int.lt_or_eq_of_le h1 with h3|h3
  ·rcases Int.lt_or_eq_of_le h2 with h4|h4
   ·have h5:c y x<0:=by rw[ha x y];omega
    have h6:c z y<0:=by rw[ha y z];omega
    have h7:=ht h6 h5
    rw[ha x z]at h7
    omega
   ·have h5:c z y=0:=by rw[ha y z];omega
    have h6:=hz (z:=x) h5
    rw[ha x z,ha x y]at h6
    omega
  ·have:=hz (z:=z) h3.symm
   omega
theorem swoL : SWO (ltOf cmpLF):=swoOf cmpLF_anti cmpLF_trans (fun h=>by rw[cmpLF_zero.1 h])
def sortLL (l:List (List Fact)):List (List Fact):=l.mergeSort fun x y=>!(ltOf cmpLF) y x
theorem sortLL_length (l:List (List Fact)):(sortLL l).length=l.length:=List.length_mergeSort _
def ValidL (w:World)(blk:Nat)(p:Value×List Fact):Prop:=p.1.oneCell'=true∧∀ W:World,w.heap.size≤W.heap.size→(∀ b,b<w.heap.size→b≠blk→W.heap[b]?=w.heap[b]?)→FactsAt W p.1 p.2
abbrev LV (w:World)(blk:Nat):={ p:Value×List Fact // ValidL w blk p }
instance (w:World)(blk:Nat):Inhabited (LV w blk):=⟨⟨(.slice none 0 0,[]),rfl,fun _ _ _=>⟨none,0,rfl,by simp,fun k x hx=>by simp at hx⟩⟩⟩
theorem lv_list {w:World}{blk:Nat}:∀ (s:List (List Fact))(xs:List Value),s.length=xs.length→(∀ (k:Nat)(y:List Fact)(u:Value),s[k]?=some y→xs[k]?=some u→ValidL w blk (u,y))→∃ d:List (LV w blk),d.map (fun p=>p.1.1)=xs∧d.map (fun p=>p.1.2)=s
 | [],[],_,_=>⟨[],rfl,rfl⟩
 | y :: s,u :: xs,hl,h=>by
  obtain⟨d,h1,h2⟩:=lv_list s xs (by simpa using hl) (fun k y' u' q1 q2=>h (k+1) y' u' (by simpa using q1) (by simpa using q2))
  exact⟨⟨(u,y),h 0 y u rfl rfl⟩ :: d,by simp[h1],by simp[h2]⟩
 | [],_ :: _,hl,_=>by simp at hl
 | _ :: _,[],hl,_=>by simp at hl
theorem sortWorld_block {α:Type} [Inhabited α]{enc:α→Value}{w:World}{blk off m:Nat}{dk:Array α}{os:Array Obj}{b:Nat}(hb:b<w.heap.size)(hne:b≠blk):(sortWorld enc w blk off m dk os).heap[b]?=w.heap[b]?:=by
 show(grow (putRow enc (Sort.ahead w m) blk off dk) os).heap[b]?=_
 rw[heap_grow_old _ _ (by simpa [putRow,mapBlock,Sort.ahead] using hb)]
 have hne':¬ blk=b:=fun e=>hne e.symm
 simp[putRow,mapBlock,Sort.ahead,Array.getElem?_modify,hne']
theorem sortWorld_size {α:Type} [Inhabited α]{enc:α→Value}{w:World}{blk off m:Nat}{dk:Array α}{os:Array Obj}:w.heap.size≤(sortWorld enc w blk off m dk os).heap.size:=by
 show _≤(grow (putRow enc (Sort.ahead w m) blk off dk) os).heap.size
 simp[grow,putRow,mapBlock,Sort.ahead]
theorem cmpLaysL (w:World)(blk off size:Nat):CmpLays1 Tryz.prog 94 #[] (fun p:LV w blk=>p.1.1) (fun p q=>cmpLF p.1.2 q.1.2) blk off size w:=by
 intro m os dk _ x y
 have:=compareR x.1.1 y.1.1 x.1.2 y.1.2 (sortWorld (fun p:LV w blk=>p.1.1) w blk off m dk os) (x.2.2 _ sortWorld_size (fun b hb hne=>sortWorld_block hb hne)) (y.2.2 _ sortWorld_size (fun b hb hne=>sortWorld_block hb hne))
 exact this
set_option maxHeartbeats 1000000 in
theorem sortL_calls (v:Value)(s:List (List Fact))(xs:List Value)(w:World)(h:w.ownsRow 0 23 1 v s.length xs)(hl:s.length<4611686018427387904)
  (hval:∀ g,v.ownBlock=some g→∀ (k:Nat) (y:List Fact) (u:Value),s[k]?=some y→xs[k]?=some u→ValidL w g (u,y)) :
  Calls Tryz.prog 93 #[v,.func (.func 94) #[] #[]] w fun e w'=>e=.returned (.tuple #[])∧∃ ys,w'.ownsRow 0 23 1 v s.length ys∧w.grownBy w' v.ownBlock∧(∀ b,v.ownBlock=some b→w'.shape? b=w.shape? b) ∧
   ∀ (k:Nat) (y:List Fact),(sortLL s)[k]?=some y→∃ (u:Value) (q:Nat),ys[k]?=some u∧xs[q]?=some u∧s[q]?=some y:=by
 have hxl:xs.length=s.length:=by have:=h.1;omega
 rcases id h.2 with⟨rfl,h0⟩|⟨g,cap,cur,rfl,hbase,hb,hn,hm,hcs,htake⟩
 ·have hnil:s=[]:=List.length_eq_zero_iff.1 h0
  subst hnil
  refine(AnyF.slices_SortFunc_none { Tryz.sortList with } none 0 _ w).mono ?_
  rintro e w' ⟨rfl,rfl⟩
  exact⟨rfl,xs,h,World.grownBy.refl _ _,fun _ _=>rfl,fun k y hy=>by simp[sortLL]at hy⟩
 ·have eg:∀ args w,(callFunc 94 args).run Tryz.prog w=.ok (.enter 94 args) w:=enters_of Tryz.func94 (by kernel_rfl) rfl
  rw[Nat.mul_one]at htake hcs
  obtain⟨d,hd1,hd2⟩:=lv_list (w:=w) (blk:=g) s xs hxl.symm (hval g rfl)
  have hdl:d.length=s.length:=by rw[← hd2];simp
  have hblk:g<w.heap.size:=(Array.getElem?_eq_some_iff.1 hb).1
  have hH:Holds (fun p:LV w g=>p.1.1) w g 0 d.toArray:=by
   intro j hj
   have hj':j<d.length:=by simpa using hj
   have hjs:j<xs.length:=by omega
   have hxj:xs[j]?=some (d[j]).1.1:=by rw[← hd1];simp[hj']
   have hcj:cur[j]?=some (d[j]).1.1:=by
    have:(cur.toList.take s.length)[j]?=some (d[j]).1.1:=by rw[htake];exact hxj
    rw[List.getElem?_take]at this
    split at this
    ·simpa using this
    ·cases this
   refine⟨?_,by simp[World.frozen?,hb]⟩
   simp[World.cell?,hb,hcj,hj']
  have hcon:=Any.slices_SortFunc Tryz.sortList (fun p:LV w g=>p.1.1) (fun p=>p.2.1) (fun p q=>cmpLF p.1.2 q.1.2) (swoOf (fun x y=>cmpLF_anti _ _) (fun h1 h2=>cmpLF_trans h1 h2) (fun h=>by rw[cmpLF_zero.1 h])) 94 #[] g 0 cap d.toArray w eg (cmpLaysL w g 0 _) hH hblk (by simpa [hdl] using hl)
  have hsize:d.toArray.size=s.length:=by simp[hdl]
  rw[hsize]at hcon
  refine hcon.mono ?_
  rintro e w' ⟨rfl,d',n,os,hP,hS,rfl⟩
  have hd's:d'.size=s.length:=by rw[hP.1,hsize]
  have hsort:(d'.map (fun p=>p.1.2)).toList=sortLL s:=by
   have hP2:PermIn 0 (d.toArray.map (fun p:LV w g=>p.1.2)).size (d.toArray.map (fun p=>p.1.2)) (d'.map (fun p=>p.1.2)):=by
    refine⟨by simp[hd's,hdl],fun i hi=>?_,?_⟩
    ·have:s.length≤i:=by simpa [hdl] using hi
     simp[show ¬ i<d'.size by omega,show ¬ i<d.length by omega]
    ·have h3:=hP.2.2
     have e1:d'.extract 0 s.length=d':=by rw[← hd's];exact Array.extract_size
     have e2:d.toArray.extract 0 s.length=d.toArray:=by rw[← hsize];exact Array.extract_size
     rw[e1,e2]at h3
     have e3:(d'.map (fun p=>p.1.2)).extract 0 (d.toArray.map (fun p:LV w g=>p.1.2)).size=d'.map (fun p=>p.1.2):=by
      rw[show(d.toArray.map (fun p:LV w g=>p.1.2)).size=(d'.map (fun p=>p.1.2)).size by simp[hd's,hdl]]
      exact Array.extract_size
     rw[e3,Array.extract_size]
     simpa using h3.map (fun p=>p.1.2)
   have hS2:SortedIn (ltOf cmpLF) 0 (d.toArray.map (fun p:LV w g=>p.1.2)).size (d'.map (fun p=>p.1.2)):=by
    intro i j _ hij hj
    have hj':j<d'.size:=by simpa [hd's,hdl] using hj
    have:=hS i j (Nat.zero_le _) hij (by omega)
    simp only[ltOf]at this ⊢
    simpa [show i<d'.size by omega,hj'] using this
   have:=sorted_unique_holds swoL (fun x y h1 h2=>by
    unfold ltOf at h1 h2
    simp at h1 h2
    rw[cmpLF_anti x y]at h2
    exact cmpLF_zero.1 (by omega)) _ _ hP2 hS2
   rw[this]
   unfold sortLL
   congr 1
   simp[hd2]
  have hblock:(sortWorld (fun p:LV w g=>p.1.1) w g 0 n d' os).heap[g]?=some (.cells (putCells (fun p:LV w g=>p.1.1) 0 d' cur) 23 (0,0)):=by
   show(grow (putRow _ (Sort.ahead w n) g 0 d') os).heap[g]?=_
   rw[heap_grow_old _ _ (by simpa [putRow,mapBlock,Sort.ahead] using hblk)]
   simp[putRow,mapBlock,Sort.ahead,Array.getElem?_modify,hb,onCells]
  have hget:∀ j,j<d'.size→(putCells (fun p:LV w g=>p.1.1) 0 d' cur).toList[j]?=some (d'[j]!).1.1:=by
   intro j hj
   rw[Array.getElem?_toList]
   simp[putCells,show j<cur.size by omega,hj]
  refine⟨rfl,((putCells (fun p:LV w g=>p.1.1) 0 d' cur).toList.take s.length),⟨by simp[putCells];omega,.inr ⟨g,cap,_,rfl,hbase,hblock,hn,hm,by simp[putCells,hcs],by rw[Nat.mul_one]⟩⟩,?_,?_,?_⟩
  ·exact⟨rfl,rfl,rfl,sortWorld_size,fun k hk hne=>sortWorld_block hk (fun e=>hne (by rw[e];rfl))⟩
  ·intro b hbv
   have:b=g:=by simpa [Value.ownBlock] using hbv.symm
   subst this
   simp[World.shape?,hblock,hb,putCells]
  ·intro k y hy
   rw[← hsort]at hy
   have hk:k<d'.size:=by
    have:=(List.getElem?_eq_some_iff.1 hy).1
    simpa using this
   have hyk:y=(d'[k]!).1.2:=by
    simp[hk]at hy ⊢
    exact hy.symm
   have hmem:d'[k]!∈d:=by
    have h3:=hP.2.2
    have e1:d'.extract 0 s.length=d':=by rw[← hd's];exact Array.extract_size
    have e2:d.toArray.extract 0 s.length=d.toArray:=by rw[← hsize];exact Array.extract_size
    rw[e1,e2]at h3
    have:d'[k]!∈d'.toList:=by
     rw[getElem!_pos d' k hk]
     simp
    simpa using h3.mem_iff.1 this
   obtain⟨q,hq⟩:=List.getElem?_of_mem hmem
   refine⟨(d'[k]!).1.1,q,?_,?_,?_⟩
   ·rw[List.getElem?_take_of_lt (by omega)]
    exact hget k hk
   ·rw[← hd1];simp[hq]
   ·rw[← hd2,hyk];simp[hq]
end Go.Proofs.YtinnphmnhmdcgaaGreat
namespace Go.Proofs.YtinnphmnhmdcgaaGreat
open Go.RowKit
set_option maxHeartbeats 1000000 in
theorem cloneF_calls (v:Value)(l:List Fact)(w:World)(hv:FactsAt w v l) :
  Calls Tryz.prog 72 #[v] w fun e w'=>∃ v',e=.returned v'∧OwnF w' w.heap.size v' l∧Below w.heap.size w w':=by
 obtain⟨A,n,c,rfl,hn,hm⟩:=hv.form
 obtain⟨i0,hi0,hz0,hz1,hz2⟩:=info_parts factInfo
 have hroom:n*16≤140737488355328:=by obtain⟨_,_,hv',hl,_⟩:=id hv;injection hv' with _ h2 _;omega
 rcases A with _|ad
 ·have hl0:l=[]:=by
   cases l with
   | nil=>rfl
   | cons x r=>obtain⟨b,off,_,_,hA,_⟩:=hv.at (k:=0) (by simp at hn;omega);cases hA
  subst hl0
  simp at hn
  subst hn
  have hk:=fun(W:World) (a:Option Addr) (n c:Nat)=>Lib.run_eql_slice_nil (P:=Tryz.prog) W 23 39 a n c 0 0 Tryz.underlying23
  clear hv
  go_enter Tryz.func72,Tryz.ntmps72
  go_wp2_with fail
  go_ret
  exact⟨_,rfl,⟨rfl,.inl ⟨rfl,rfl⟩⟩,Below.refl _ _⟩
 ·have hk:=fun(W:World) (a:Option Addr) (n c:Nat)=>Lib.run_eql_slice_nil (P:=Tryz.prog) W 23 39 a n c 0 0 Tryz.underlying23
  have hr:=(hv.keep (belowA (Below.refl _ _) (.cells #[] 39))).reads
  have hown:(w.alloc (.cells #[] 39)).ownsRow w.heap.size 39 2 (.slice (some ⟨w.heap.size,0,none⟩) 0 0) 0 []:=⟨rfl,.inr ⟨w.heap.size,0,#[],rfl,Nat.le_refl _,heap_alloc_new _ _,Nat.le_refl _,Nat.zero_le _,rfl,rfl⟩⟩
  have HV:=Lib.hid hv
  have HN:=Lib.hid hn
  have HR:=Lib.hid hr
  have HOWN:=Lib.hid hown
  clear hv hn hr hown
  go_enter Tryz.func72,Tryz.ntmps72
  go_wp2_with (at_builtin;refine wpList_append_any _ rfl (.tmp 5) (.tmp 6) _ rfl w.heap.size 39 i0 _ 2 16 Tryz.underlying23 hi0 hz0 hz1 hz2 rfl (by omega) (.slice (some ⟨w.heap.size,0,none⟩) 0 0) 0 [] rfl HOWN.out _ _ n c (factCells l) rfl HR.out (factCells_one l) (by simp only[maxLen];omega) (by omega) (by simp) ?_;intro v1 w1 hown1 hg1 hat1)
  go_ret
  refine⟨v1,rfl,?_,?_⟩
  ·rw[Nat.zero_add,List.nil_append,HN.out]at hown1
   exact hown1
  ·exact(belowA (Below.refl _ _) _).grown hg1 (by simp) (by intro k hk;simp[Value.ownBlock]at hk;omega)
end Go.Proofs.YtinnphmnhmdcgaaGreat
namespace Go.Proofs.YtinnphmnhmdcgaaGreat
def eqB (a b c d:Int):Bool:=decide (a=c∧b=d)
end Go.Proofs.YtinnphmnhmdcgaaGreat
namespace Go.Proofs.YtinnphmnhmdcgaaGreat
open Go.RowKit
def dd : Option Fact→List Fact→List Fact
 | _,[]=>[]
 | p,x :: r=>if p=some x then dd (some x) r else x :: dd (some x) r
def compactF (l:List Fact):List Fact:=dd none l
def lastO : Option Fact→List Fact→Option Fact
 | p,[]=>p
 | _,x :: r=>lastO (some x) r
theorem lastO_at (l:List Fact):∀ (p:Option Fact)(k:Nat)(x:Fact),l.length=k+1→l[k]?=some x→lastO p l=some x:=by
 induction l with
 | nil=>intro p k x h;simp at h
 | cons y r ih =>
  intro p k x h hx
  cases k with
  | zero =>
   have:r=[]:=List.length_eq_zero_iff.1 (by simpa using h)
   subst this
   simpa [lastO] using hx
  | succ k=>exact ih (some y) k x (by simpa using h) (by simpa using hx)
theorem dd_snoc (l:List Fact)(x:Fact):∀ p,dd p (l++[x])=if lastO p l=some x then dd p l else dd p l++[x]:=by
 induction l with
 | nil=>intro p;by_cases h:p=some x <;> simp[dd,lastO,h]
 | cons y r ih =>
  intro p
  simp only[List.cons_append,dd,ih,lastO]
  by_cases h1:p=some y <;> by_cases h2:lastO (some y) r=some x <;> simp[h1,h2]
theorem compact_step {l:List Fact}{k:Nat}{x y:Fact}(hx:l[k]?=some x)(hy:l[k-1]?=some y)(hk:1≤k) :
  compactF (l.take (k+1))=if y=x then compactF (l.take k)else compactF (l.take k)++[x]:=by
 have hlt:k<l.length:=(List.getElem?_eq_some_iff.1 hx).1
 have e:l.take (k+1)=l.take k++[x]:=by
  rw[List.take_add_one,hx];rfl
 have hlast:lastO none (l.take k)=some y:=lastO_at _ none (k-1) y (by rw[List.length_take,Nat.min_eq_left (by omega)];omega) (by rw[List.getElem?_take_of_lt (by omega),hy])
 rw[e,compactF,dd_snoc,hlast]
 simp[compactF]
theorem compact_one {l:List Fact}:compactF (l.take 1)=l.take 1:=by
 cases l with
 | nil=>rfl
 | cons x r=>simp[compactF,dd]
theorem compact_short {l:List Fact}(h:l.length<2):compactF l=l:=by
 match l,h with
 | [],_=>rfl
 | [x],_=>simp[compactF,dd]
theorem factCells_set (m:List Fact):∀ (k:Nat)(x:Fact),((factCells m).set (k*2) (.int .i64 x.1)).set (k*2+1) (.int .i64 x.2)=factCells (m.set k x):=by
 induction m with
 | nil=>intro k x;simp[factCells]
 | cons y r ih =>
  intro k x
  cases k with
  | zero=>simp[factCells]
  | succ k =>
   rw[show(k+1)*2=k*2+1+1 from by omega]
   simp only[factCells,List.set_cons_succ,ih]
theorem run_clear_facts (w:World)(ty:TypeId)(b o n c:Nat)(hn:0<n)
  (hc:∀ j,j<n*2→(w.cell? ⟨b,o+j,none⟩).isSome=true) (hf:∀ j,j<n*2→w.frozen? ⟨b,o+j,none⟩=false) :
  ∃ zs:List Value,(Builtin.clear_ #[23] ty #[.slice (some ⟨b,o,none⟩) n c]).run Tryz.prog w=.ok (.tuple #[]) (w.setCells b o zs):=by
 have hv:∀ w,(zeroValue 39).run Tryz.prog w=.ok (.agg #[.int .i64 0,.int .i64 0]) w:=fun w=>by kernel_rfl
 refine⟨(Builtin.zeroCells #[.int .i64 0,.int .i64 0] n).toList,?_⟩
 have hst:=run_storeCells_cells (P:=Tryz.prog) b o (Builtin.zeroCells #[.int .i64 0,.int .i64 0] n).toList 0 w (by simpa [Builtin.zeroCells,Nat.mul_comm] using hc) (by simpa [Builtin.zeroCells,Nat.mul_comm] using hf) (by
  intro v hv'
  simp[Builtin.zeroCells]at hv'
  obtain⟨a,_,rfl⟩:=hv'
  rcases Nat.mod_two_eq_zero_or_one a with h|h <;> simp[h] <;> rfl)
 simp only[Nat.add_zero]at hst
 obtain⟨m,rfl⟩:∃ m,n=m+1:=⟨n-1,by omega⟩
 simp[Builtin.clear_,run_underlying Tryz.underlying23,hv,Value.cells,hst]
theorem OwnF.cells {w:World}{base:Nat}{g n cap:Nat}{m:List Fact}(h:OwnF w base (.slice (some ⟨g,0,none⟩) n cap) m)(hn:n=m.length){k:Nat}{x:Fact}(hx:m[k]?=some x) :
  w.cell? ⟨g,k*2,none⟩=some (.int .i64 x.1)∧w.cell? ⟨g,k*2+1,none⟩=some (.int .i64 x.2):=by
 subst hn
 have hk:k<m.length:=(List.getElem?_eq_some_iff.1 hx).1
 rw[World.ownsRow.cellAt h (k*2) (by omega),World.ownsRow.cellAt h (k*2+1) (by omega)]
 exact factCells_at m k x hx
theorem only_drewN {a w:World}{row:Option Nat}(h:a.grownBy w row)(n:Nat):a.grownBy (w.drewN n) row:=⟨h.os,h.tape,h.output,h.size,h.block⟩
theorem only_setCell {a w:World}{g:Nat}(h:a.grownBy w (some g)){p:Addr}(hp:p.block=g∨a.heap.size≤p.block)(u:Value):a.grownBy (w.setCell p u) (some g) :=
 ⟨h.os,h.tape,h.output,by simpa [World.setCell] using h.size,fun i hi hne=>(Below.heap_setCell w p u i (by
  rintro rfl
  rcases hp with hp|hp
  ·exact hne (by rw[hp])
  ·omega)).trans (h.block i hi hne)⟩
theorem OwnF.store {w:World}{base:Nat}{g n cap:Nat}{m:List Fact}(h:OwnF w base (.slice (some ⟨g,0,none⟩) n cap) m)(hn:n=m.length)(k:Nat)(x:Fact) :
  OwnF ((w.setCell ⟨g,k*2,none⟩ (.int .i64 x.1)).setCell ⟨g,k*2+1,none⟩ (.int .i64 x.2)) base (.slice (some ⟨g,0,none⟩) n cap) (m.set k x):=by
 subst hn
 have h1:=(World.ownsRow.stored (World.ownsRow.stored h (k*2) (.int .i64 x.1)).1 (k*2+1) (.int .i64 x.2)).1
 rw[factCells_set]at h1
 unfold OwnF
 rw[List.length_set]
 exact h1
theorem setCells_own {base:Nat}{e:TypeId}{g n cap:Nat}(vs:List Value):∀ (w:World)(o:Nat)(xs:List Value),w.ownsRow base e 2 (.slice (some ⟨g,0,none⟩) n cap) n xs →
  ∃ xs',(w.setCells g o vs).ownsRow base e 2 (.slice (some ⟨g,0,none⟩) n cap) n xs'∧xs'.take o=xs.take o∧w.grownBy (w.setCells g o vs) (some g):=by
 induction vs with
 | nil=>intro w o xs h;exact⟨xs,h,rfl,World.grownBy.refl _ _⟩
 | cons v r ih =>
  intro w o xs h
  obtain⟨h1,h2⟩:=World.ownsRow.stored h o v
  obtain⟨xs',h3,h4,h5⟩:=ih (w.setCell ⟨g,o,none⟩ v) (o+1) _ h1
  refine⟨xs',h3,?_,World.grownBy.trans h2 h5⟩
  have:=congrArg (List.take o) h4
  rw[List.take_take,List.take_take,Nat.min_eq_left (by omega),List.take_set_of_le (by omega)]at this
  exact this
theorem own_cut {w:World}{base:Nat}{g n cap:Nat}{xs:List Value}(h:w.ownsRow base 39 2 (.slice (some ⟨g,0,none⟩) n cap) n xs){k:Nat}(hk:k≤n){l:List Fact}(hl:l.length=k)(hx:xs.take (k*2)=factCells l):OwnF w base (.slice (some ⟨g,0,none⟩) k cap) l:=by
 rcases h.2 with⟨hv,_⟩|⟨g',cap',cur,hv,hb,hh,h1,h2,h3,h4⟩
 ·cases hv
 ·injection hv with e1 _ e3
  injection e1 with e1
  injection e1 with e1 _
  subst e1 e3
  refine⟨by rw[factCells_length],.inr ⟨g,cap,cur,by rw[hl],hb,hh,by rw[hl];omega,h2,h3,?_⟩⟩
  rw[hl,← hx,← h4,List.take_take,Nat.min_eq_left (by omega)]
theorem at_drop {l m:List Fact}{a i:Nat}(h:m.drop a=l.drop a)(hi:a≤i):m[i]?=l[i]?:=by
 have:=congrArg (fun z=>z[i-a]?) h
 simpa [List.getElem?_drop,show a+(i-a)=i from by omega] using this
set_option maxHeartbeats 4000000 in
theorem compact_calls2 (base:Nat)(v:Value)(l:List Fact)(w:World)(h:OwnF w base v l)(hl:l.length*16≤140737488355328) :
  Calls Tryz.prog 145 #[v] w fun e w'=>∃ v',e=.returned v'∧OwnF w' base v' (compactF l)∧w.grownBy w' v.ownBlock∧v'.ownBlock=v.ownBlock:=by
 obtain⟨A,cap,rfl⟩:=h.form
 obtain⟨n,hn⟩:∃ n,n=l.length:=⟨_,rfl⟩
 rw[← hn]at h hl ⊢
 by_cases hshort:n<2
 ·have hfin:compactF l=l:=compact_short (by omega)
  rw[hfin]
  have HO:=Lib.hid h
  have HN:=Lib.hid hn
  have HFIN:=Lib.hid hfin
  clear h hn hfin
  go_enter Tryz.func145,Tryz.ntmps145
  go_wp2
  go_ret
  exact⟨_,rfl,HO.out,World.grownBy.refl _ _,rfl⟩
 ·obtain⟨g,rfl,hng,hcm⟩:∃ g,A=some ⟨g,0,none⟩∧n≤cap∧cap≤9223372036854775807:=by
   rcases h.2 with⟨hv,h0⟩|⟨g,cap',cur,hv,_,_,h1,h2,_⟩
   ·omega
   ·injection hv with e1 _ e3
    exact⟨g,e1,by omega,by rw[e3];exact h2⟩
  have hown:OwnF w base (.slice (some ⟨g,0,none⟩) n cap) l:=by rw[hn];rw[hn]at h;exact h
  clear h
  have HO:=Lib.hid hown
  have HN:=Lib.hid hn
  clear hown hn
  go_enter Tryz.func145,Tryz.ntmps145
  go_wp2
  go_loopg [3] (n-1) (fun gg i wr=>∃ k:Nat,1≤k∧k≤n∧gg=n-k∧i=.int .i64 k∧(∃ q,wr=w.drewN q)∧compactF (l.take k)=l.take k)
  case atStart=>exact⟨1,by omega,by omega,by omega,rfl,⟨0,rfl⟩,compact_one⟩
  case round =>
   obtain⟨k,hk1,hkn,hg,rfl,⟨q,rfl⟩,hF⟩:=hrel
   have HG:=Lib.hid hg
   have HF:=Lib.hid hF
   clear hg hF
   by_cases hlt:k<n
   ·obtain⟨x,hx,_⟩:=some_at (l:=l) (k:=k) HN.out hlt
    obtain⟨y,hy,_⟩:=some_at (l:=l) (k:=k-1) HN.out (by omega)
    obtain⟨c0,c1⟩:=HO.out.cells HN.out hx
    obtain⟨d0,d1⟩:=HO.out.cells HN.out hy
    have hstep:=compact_step hx hy hk1
    obtain⟨x1,x2⟩:=x
    obtain⟨y1,y2⟩:=y
    simp only at c0 c1 d0 d1
    have HX:=Lib.hid hx
    have HY:=Lib.hid hy
    have HST:=Lib.hid hstep
    clear hx hy hstep
    go_upto_region 6 with fail
    go_cut [25] (fun t wx=>t=.bool (eqB x1 x2 y1 y2)∧∃ q,wx=w.drewN q)
    case first =>
     by_cases h1:x1=y1
     ·subst h1
      by_cases h2:x2=y2
      ·subst h2
       refine wp_region_quiet_lit (by kernel_rfl) (by kernel_rfl) ?_
       repeat (any_goals (first|go_big_quiet_step (fail)|quiet_step (fail)|(refine wpQuiet_step (fun K hK=>?_);go_simp;split <;> (refine hK _ ?_;clear hK K))))
       all_goals (refine wpQuiet_nil ?_;intro _ hw';obtain⟨nq,hw''⟩:=hw';subst hw'')
       all_goals (go_wp2_with fail;go_meet;exact⟨by simp[eqB],_,by first|rfl|rw[World.drewN_drewN]⟩)
      ·refine wp_region_quiet_lit (by kernel_rfl) (by kernel_rfl) ?_
       repeat (any_goals (first|go_big_quiet_step (fail)|quiet_step (fail)|(refine wpQuiet_step (fun K hK=>?_);go_simp;split <;> (refine hK _ ?_;clear hK K))))
       all_goals (refine wpQuiet_nil ?_;intro _ hw';obtain⟨nq,hw''⟩:=hw';subst hw'')
       all_goals (go_wp2_with fail;go_meet;exact⟨by simp[eqB,h2],_,by first|rfl|rw[World.drewN_drewN]⟩)
     ·refine wp_region_quiet_lit (by kernel_rfl) (by kernel_rfl) ?_
      repeat (any_goals (first|go_big_quiet_step (fail)|quiet_step (fail)|(refine wpQuiet_step (fun K hK=>?_);go_simp;split <;> (refine hK _ ?_;clear hK K))))
      all_goals (refine wpQuiet_nil ?_;intro _ hw';obtain⟨nq,hw''⟩:=hw';subst hw'')
      all_goals (go_wp2_with fail;go_meet;exact⟨by simp[eqB,h1],_,by first|rfl|rw[World.drewN_drewN]⟩)
    case rest =>
     obtain⟨rfl,q',rfl⟩:=hcut
     cases hbad:eqB x1 x2 y1 y2
     ·have hne:¬ ((y1,y2):Fact)=(x1,x2):=by
       intro e
       injection e with e1 e2
       subst e1 e2
       simp[eqB]at hbad
      have hnext:compactF (l.take (k+1))=l.take (k+1):=by
       rw[HST.out,if_neg hne,HF.out,List.take_add_one,HX.out];rfl
      have HNE:=Lib.hid hne
      have HNEXT:=Lib.hid hnext
      clear hne hnext
      go_wp2
      go_roundg (n-(k+1))
      case measure=>have:=HG.out;omega
      case rel=>exact⟨k+1,by omega,by omega,rfl,by go_num,⟨_,rfl⟩,HNEXT.out⟩
     ·have heq:((y1,y2):Fact)=(x1,x2):=by simp[eqB]at hbad;rw[hbad.1,hbad.2]
      have hnext:compactF (l.take (k+1))=l.take k:=by rw[HST.out,if_pos heq,HF.out]
      have HEQ:=Lib.hid heq
      have HNEXT:=Lib.hid hnext
      clear heq hnext
      clear c0 c1 d0 d1
      have hcapk:¬ cap=k:=by omega
      have hstart:=only_drewN (World.grownBy.refl w (some g)) q'
      have HSTART:=Lib.hid hstart
      clear hstart
      go_wp2
      go_loopg [3,5] (n-k-1) (fun gg a i wx=>∃ (j kk:Nat) (m:List Fact),1≤j∧j≤n-k∧gg=n-k-j∧a=.int .i64 kk∧i=.int .i64 j∧k≤kk∧kk≤k+j-1∧OwnF wx base (.slice (some ⟨g,0,none⟩) n cap) m∧n=m.length∧compactF (l.take (k+j))=m.take kk∧m.drop (k+j-1)=l.drop (k+j-1)∧w.grownBy wx (some g))
      case atStart=>exact⟨1,k,l,by omega,by omega,by omega,rfl,rfl,by omega,by omega,HO.out,HN.out,HNEXT.out,rfl,HSTART.out⟩
      case round =>
       clear HSTART HNEXT HEQ
       obtain⟨j,kk,m,hj1,hjn,hg2,rfl,rfl,hkk,hkk2,hown2,hmn,hC,hD,hgr⟩:=hrel
       have HG2:=Lib.hid hg2
       have HC:=Lib.hid hC
       have HD:=Lib.hid hD
       have HGR:=Lib.hid hgr
       have HMN:=Lib.hid hmn
       have HO2:=Lib.hid hown2
       clear hg2 hC hD hgr hmn hown2
       by_cases hjt:j<n-k
       ·obtain⟨z,hz,_⟩:=some_at (l:=l) (k:=k+j) HN.out (by omega)
        obtain⟨u,hu,_⟩:=some_at (l:=l) (k:=k+j-1) HN.out (by omega)
        have hzm:m[k+j]?=some z:=by rw[at_drop HD.out (by omega)];exact hz
        have hum:m[k+j-1]?=some u:=by rw[at_drop HD.out (by omega)];exact hu
        obtain⟨s,hs,_⟩:=some_at (l:=m) (k:=kk) HMN.out (by omega)
        obtain⟨c0,c1⟩:=HO2.out.cells HMN.out hzm
        obtain⟨d0,d1⟩:=HO2.out.cells HMN.out hum
        obtain⟨s0,s1⟩:=HO2.out.cells HMN.out hs
        have f0:wr.frozen? ⟨g,kk*2,none⟩=false:=World.ownsRow.frozenAt (by have:=HO2.out;unfold OwnF at this;rw[← HMN.out]at this;exact this) (kk*2)
        have f1:wr.frozen? ⟨g,kk*2+1,none⟩=false:=World.ownsRow.frozenAt (by have:=HO2.out;unfold OwnF at this;rw[← HMN.out]at this;exact this) (kk*2+1)
        have hstep2:=compact_step hz hu (by omega)
        obtain⟨z1,z2⟩:=z
        obtain⟨u1,u2⟩:=u
        rw[show(k+j)*2=k*2+j*2 from by omega]at c0 c1
        rw[show(k+j-1)*2=k*2+(j-1)*2 from by omega]at d0 d1
        simp only at c0 c1 d0 d1
        have HZ:=Lib.hid hz
        have HU:=Lib.hid hu
        have HZM:=Lib.hid hzm
        have HUM:=Lib.hid hum
        have HS:=Lib.hid hs
        have HST2:=Lib.hid hstep2
        clear hz hu hzm hum hs hstep2
        go_upto_region 11 with fail
        go_cut [44] (fun t wx=>t=.bool !(eqB z1 z2 u1 u2)∧∃ q,wx=wr.drewN q)
        case first =>
         by_cases h1:z1=u1
         ·subst h1
          by_cases h2:z2=u2
          ·subst h2
           refine wp_region_quiet_lit (by kernel_rfl) (by kernel_rfl) ?_
           repeat (any_goals (first|go_big_quiet_step (fail)|quiet_step (fail)|(refine wpQuiet_step (fun K hK=>?_);go_simp;split <;> (refine hK _ ?_;clear hK K))))
           all_goals (refine wpQuiet_nil ?_;intro _ hw';obtain⟨nq,hw''⟩:=hw';subst hw'')
           all_goals (go_wp2_with fail;go_meet;exact⟨by simp[eqB],_,by first|rfl|rw[World.drewN_drewN]⟩)
          ·refine wp_region_quiet_lit (by kernel_rfl) (by kernel_rfl) ?_
           repeat (any_goals (first|go_big_quiet_step (fail)|quiet_step (fail)|(refine wpQuiet_step (fun K hK=>?_);go_simp;split <;> (refine hK _ ?_;clear hK K))))
           all_goals (refine wpQuiet_nil ?_;intro _ hw';obtain⟨nq,hw''⟩:=hw';subst hw'')
           all_goals (go_wp2_with fail;go_meet;exact⟨by simp[eqB,h2],_,by first|rfl|rw[World.drewN_drewN]⟩)
         ·refine wp_region_quiet_lit (by kernel_rfl) (by kernel_rfl) ?_
          repeat (any_goals (first|go_big_quiet_step (fail)|quiet_step (fail)|(refine wpQuiet_step (fun K hK=>?_);go_simp;split <;> (refine hK _ ?_;clear hK K))))
          all_goals (refine wpQuiet_nil ?_;intro _ hw';obtain⟨nq,hw''⟩:=hw';subst hw'')
          all_goals (go_wp2_with fail;go_meet;exact⟨by simp[eqB,h1],_,by first|rfl|rw[World.drewN_drewN]⟩)
        case rest =>
         obtain⟨rfl,q2,rfl⟩:=hcut
         cases hbad:eqB z1 z2 u1 u2
         ·have hne:¬ ((u1,u2):Fact)=(z1,z2):=by
           intro e
           injection e with e1 e2
           subst e1 e2
           simp[eqB]at hbad
          have hnext:compactF (l.take (k+(j+1)))=(m.set kk (z1,z2)).take (kk+1):=by
           rw[← Nat.add_assoc,HST2.out,if_neg hne,HC.out,List.take_add_one,List.take_set_of_le (by omega)]
           have:=HMN.out
           simp[show kk<m.length by omega]
          have hdrop:(m.set kk (z1,z2)).drop (k+(j+1)-1)=l.drop (k+(j+1)-1):=by
           rw[List.drop_set_of_lt (by omega)]
           have:=congrArg (List.drop 1) HD.out
           simpa [List.drop_drop,show 1+(k+j-1)=k+(j+1)-1 from by omega,show k+j-1+1=k+(j+1)-1 from by omega] using this
          have HNE:=Lib.hid hne
          have HNEXT:=Lib.hid hnext
          have HDROP:=Lib.hid hdrop
          clear hne hnext hdrop
          go_wp2
          go_roundg (n-k-(j+1))
          case measure=>have:=HG2.out;omega
          case rel=>exact⟨j+1,kk+1,m.set kk (z1,z2),by omega,by omega,rfl,by go_num,by go_num,by omega,by omega,OwnF.store (x:=(z1,z2)) HO2.out HMN.out kk,by rw[List.length_set];exact HMN.out,HNEXT.out,HDROP.out,only_setCell (only_setCell (only_drewN HGR.out q2) (.inl rfl) _) (.inl rfl) _⟩
         ·have heq:((u1,u2):Fact)=(z1,z2):=by simp[eqB]at hbad;rw[hbad.1,hbad.2]
          have hnext:compactF (l.take (k+(j+1)))=m.take kk:=by rw[← Nat.add_assoc,HST2.out,if_pos heq,HC.out]
          have hdrop:m.drop (k+(j+1)-1)=l.drop (k+(j+1)-1):=by
           have:=congrArg (List.drop 1) HD.out
           simpa [List.drop_drop,show 1+(k+j-1)=k+(j+1)-1 from by omega,show k+j-1+1=k+(j+1)-1 from by omega] using this
          have HEQ:=Lib.hid heq
          have HNEXT:=Lib.hid hnext
          have HDROP:=Lib.hid hdrop
          clear heq hnext hdrop
          go_wp2
          go_roundg (n-k-(j+1))
          case measure=>have:=HG2.out;omega
          case rel=>exact⟨j+1,kk,m,by omega,by omega,rfl,rfl,by go_num,by omega,by omega,HO2.out,HMN.out,HNEXT.out,HDROP.out,only_drewN HGR.out q2⟩
       ·have hjk:j=n-k:=by omega
        have hfin:compactF l=m.take kk:=by rw[← HC.out,tL_ (by have:=HN.out;omega)]
        have ho2:wr.ownsRow base 39 2 (.slice (some ⟨g,0,none⟩) n cap) n (factCells m):=by have:=HO2.out;unfold OwnF at this;rw[← HMN.out]at this;exact this
        have hcl:=fun(ty:TypeId)=>run_clear_facts wr ty g (kk*2) (n-kk) (cap-kk) (by omega)
         (fun i hi=>by rw[World.ownsRow.cellAt ho2 (kk*2+i) (by omega),List.getElem?_eq_getElem (by rw[factCells_length,← HMN.out];omega)];rfl)
         (fun i hi=>World.ownsRow.frozenAt ho2 (kk*2+i))
        obtain⟨zs,hclr⟩:=hcl 0
        obtain⟨xs',hx1,hx2,hx3⟩:=setCells_own zs wr (kk*2) _ ho2
        have hcapkk:¬ cap=kk:=by omega
        have hown3:OwnF (wr.setCells g (kk*2) zs) base (.slice (some ⟨g,0,none⟩) kk cap) (compactF l) :=
         own_cut hx1 (by omega) (by rw[hfin,List.length_take,← HMN.out];omega) (by rw[hx2,factCells_take,hfin])
        have hg3:=World.grownBy.trans HGR.out hx3
        clear hcl
        have HFIN:=Lib.hid hfin
        have HOO:=Lib.hid ho2
        have HX1:=Lib.hid hx1
        have HX2:=Lib.hid hx2
        have HX3:=Lib.hid hx3
        have HOWN3:=Lib.hid hown3
        have HG3:=Lib.hid hg3
        have HJK:=Lib.hid hjk
        clear hfin ho2 hx1 hx2 hx3 hown3 hg3 hjk
        go_wp2
        go_ret
        exact⟨_,rfl,HOWN3.out,HG3.out,rfl⟩
   ·have hfin:compactF l=l:=by rw[← tL_ (l:=l) (i:=k) (by have:=HN.out;omega)];rw[HF.out]
    have HFIN:=Lib.hid hfin
    clear hfin
    go_wp2
    go_ret
    exact⟨_,rfl,by rw[HFIN.out];exact HO.out,only_drewN (World.grownBy.refl _ _) _,rfl⟩
end Go.Proofs.YtinnphmnhmdcgaaGreat
namespace Go.Proofs.YtinnphmnhmdcgaaGreat.Am
open Go.RowKit
section
variable {w : World} {vs : Shp} {m : MM} {v : Value}
theorem rv_factsF {l:List Fact}(h:RV w vs m (.sl 2 (l.map cF)) v)(hl:l.length*16≤140737488355328):FactsAt w v l:=by
 obtain⟨A,cap,b,off,f,rfl,hA,_,_,_,hc,hr,_⟩:=rv_sl h
 refine⟨A,cap,by simp,hl,fun k x hx=>?_⟩
 have hk:(l.map cF)[k]?=some (cF x):=map_at' hx
 obtain⟨rfl,_⟩:=hA (fun e=>by rw[e]at hk;simp at hk)
 have h0:=(hc k 0 _ _ hk rfl).1
 have h1:=(hc k 1 _ _ hk rfl).1
 rw[rv_c (hr k 0 _ _ hk rfl)]at h0
 rw[rv_c (hr k 1 _ _ hk rfl)]at h1
 exact⟨b,off,rfl,by simpa using h0,by simpa [Nat.add_assoc] using h1⟩
theorem flat_facts {l:List Fact}{xs:List Value}(h:Flat w vs m 2 (l.map cF) xs.toArray)(hl:xs.length=l.length*2):xs=factCells l:=by
 apply List.ext_getElem?
 intro i
 by_cases hi:i<l.length*2
 ·obtain⟨k,j,hj,rfl⟩:∃ k j,j<2∧i=k*2+j:=⟨i / 2,i % 2,Nat.mod_lt _ (by omega),by omega⟩
  have hk:k<l.length:=by omega
  have hlk:=List.getElem?_eq_getElem hk
  obtain⟨c0,c1⟩:=factCells_at l k _ hlk
  obtain⟨_,h2⟩:=h.2 k (cF l[k]) (map_at' hlk)
  have hj2:j=0∨j=1:=by omega
  rcases hj2 with rfl|rfl
  ·obtain⟨u,u1,_,u3⟩:=h2 0 _ rfl
   rw[List.getElem?_toArray]at u1
   rw[u1,rv_c u3,Nat.add_zero,c0]
  ·obtain⟨u,u1,_,u3⟩:=h2 1 _ rfl
   rw[List.getElem?_toArray]at u1
   rw[u1,rv_c u3,c1]
 ·rw[List.getElem?_eq_none (by omega),List.getElem?_eq_none (by rw[factCells_length];omega)]
theorem cells_facts {l:List Fact}(k:Nat)(e:List AV)(he:(l.map cF)[k]?=some e):e.length=2∧∀ (j:Nat)(y:AV),e[j]?=some y→Fr y∧∃ u,(factCells l)[k*2+j]?=some u∧u.oneCell'=true∧RV w vs m y u:=by
 obtain⟨x,hx,rfl⟩:=get_map he
 obtain⟨c0,c1⟩:=factCells_at l k x hx
 refine⟨rfl,fun j y hy=>?_⟩
 match j,hy with
 | 0,hy=>simp[cF]at hy;subst hy;exact⟨.c _,_,c0,rfl,.c _⟩
 | 1,hy=>simp[cF]at hy;subst hy;exact⟨.c _,_,c1,rfl,.c _⟩
 | j+2,hy=>simp[cF]at hy
theorem own_shape {base E sz n n':Nat}{w':World}{xs xs':List Value}(h:w.ownsRow base E sz v n xs)(h':w'.ownsRow base E sz v n' xs'){b:Nat}(hb:v.ownBlock=some b):w'.shape? b=w.shape? b:=by
 rcases h.2 with⟨rfl,_⟩|⟨g,cap,cur,rfl,_,hh,_,_,hcs,_⟩
 ·cases hb
 ·rcases h'.2 with⟨e,_⟩|⟨g',cap',cur',e,_,hh',_,_,hcs',_⟩
  ·cases e
  ·injection e with e1 e2 e3
   injection e1 with e1
   injection e1 with e1 _
   subst e1 e3
   have:b=g:=by simpa [Value.ownBlock] using hb.symm
   subst this
   simp[World.shape?,hh,hh',hcs,hcs']
end
theorem cargs1 {α:Type}{c:Array α}(h:c.size=1):∃ a,c=#[a]:=by
 obtain⟨l⟩:=c
 match l,h with
 | [a],_=>exact⟨a,rfl⟩
theorem cargs2 {α:Type}{c:Array α}(h:c.size=2):∃ a b,c=#[a,b]:=by
 obtain⟨l⟩:=c
 match l,h with
 | [a,b],_=>exact⟨a,b,rfl⟩
def M_cloneF (l:List Fact):Option (List Fact):=grd (l.length*16≤140737488355328) (some l)
theorem A_cloneF (l:List Fact){r:List Fact}(h:M_cloneF l=some r):ACallG cx 72 [.sl 2 (l.map cF)] [] [] (.own 0 0 0 r.length) [(0,⟨39,2,false,r.map cF⟩)]:=by
 obtain⟨h0,h⟩:=grd_ok h
 have h:=sI_ h
 subst h
 refine⟨enter_g Tryz.func72 rfl (by decide),fun w m cargs hg hM hsz hargs=>?_⟩
 obtain⟨v,rfl⟩:=cargs1 hsz
 refine(cloneF_calls v l w (rv_factsF (hargs 0 _ v rfl rfl) h0)).mono ?_
 rintro e w' ⟨v',rfl,ho,hb⟩
 refine⟨v',⟨fun k=>if k=0 then v'.ownBlock else none,m.O⟩,rfl,?_⟩
 have hge:∀ b,v'.ownBlock=some b→w.heap.size≤b:=fun b hb=>by
  rcases ho.2 with⟨rfl,_⟩|⟨g,cap,cur,rfl,hbase,_⟩
  ·cases hb
  ·simp[Value.ownBlock]at hb;omega
 exact gr_row (i0:=0) (v:=.slice none 0 0) (row:=none) hM hg (.inl rfl) (own_mono ho (Nat.zero_le _)) ⟨hb.os,hb.tape,hb.output,hb.size,fun b hb' _=>hb.block b hb'⟩ (.inl rfl) (.inr hge) (lM_ _) (fun k e he=>cells_facts k e he)
def M_compactF (l:List Fact):Option (List Fact):=grd (l.length*16≤140737488355328) (some (compactF l))
theorem A_compactF (l:List Fact){r:List Fact}(h:M_compactF l=some r):ACallG cx 145 [.own 0 0 0 l.length] [(0,⟨39,2,false,l.map cF⟩)] [] (.own 0 0 0 r.length) [(0,⟨39,2,false,r.map cF⟩)]:=by
 obtain⟨h0,h⟩:=grd_ok h
 have h:=sI_ h
 subst h
 refine⟨enter_g Tryz.func145 rfl (by decide),fun w m cargs hg hM hsz hargs=>?_⟩
 obtain⟨v,rfl⟩:=cargs1 hsz
 obtain⟨xs,hrow,hfl,hm0⟩:=own_row (η:=fE [(0,⟨39,2,false,l.map cF⟩)]) (hargs 0 _ v rfl rfl) rfl (hM.ok 0 _ rfl) (by simp)
 simp only at hrow hfl
 have hxs:=flat_facts hfl hrow.1
 subst hxs
 refine(compact_calls2 0 v l w hrow h0).mono ?_
 rintro e w' ⟨v',rfl,ho,hgr,hv'⟩
 exact⟨v',⟨fun k=>if k=0 then v'.ownBlock else none,m.O⟩,rfl,gr_row (i0:=0) hM hg (.inr ⟨by simp[fE_live,keys],hm0⟩) ho hgr (.inl rfl) (.inl hv') (lM_ _) (fun k e he=>cells_facts k e he)⟩
def M_sortF (l:List Fact):Option (List Fact):=grd (l.length<4611686018427387904) (some (sortF l))
theorem A_sortF (l:List Fact){r:List Fact}(h:M_sortF l=some r):ACallG cx 143 [.own 900 0 0 l.length,.clo (.func 144) [] []] [(900,⟨39,2,false,l.map cF⟩)] [900] (.tup []) [(900,⟨39,2,false,r.map cF⟩)]:=by
 obtain⟨h0,h⟩:=grd_ok h
 have h:=sI_ h
 subst h
 refine⟨enter_g Tryz.func143 rfl (by decide),fun w m cargs hg hM hsz hargs=>?_⟩
 obtain⟨v,f,rfl⟩:=cargs2 hsz
 obtain⟨us,us',rfl,l1,_,l2,_⟩:=rv_clo (hargs 1 _ f rfl rfl)
 obtain rfl:us=#[]:=Array.eq_empty_of_size_eq_zero l1.symm
 obtain rfl:us'=#[]:=Array.eq_empty_of_size_eq_zero l2.symm
 obtain⟨xs,hrow,hfl,hm0⟩:=own_row (η:=fE [(900,⟨39,2,false,l.map cF⟩)]) (hargs 0 _ v rfl rfl) rfl (hM.ok 900 _ rfl) (by simp)
 simp only at hrow hfl
 have hxs:=flat_facts hfl hrow.1
 subst hxs
 refine(sort_calls 0 v l w hrow h0).mono ?_
 rintro e w' ⟨rfl,ho,hgr⟩
 have hlen:=sortF_length l
 unfold OwnF at ho
 exact⟨_,m,rfl,gr_kept hM hg hm0 (by rw[hlen]at ho;exact ho) hgr (fun b hb=>own_shape hrow ho hb) (by rw[lM_,hlen]) (fun m'=>.tup rfl (fun j x u hx=>by simp at hx)) (fun k e he=>cells_facts k e he)⟩
def M_sortL (l:List (List Fact)):Option (List (List Fact)):=grd (l.length<4611686018427387904) (grd (∀ y∈l,y.length*16≤140737488355328) (some (sortLL l)))
theorem A_sortL (l:List (List Fact)){r:List (List Fact)}(h:M_sortL l=some r):ACallG cx 93 [.own 900 0 0 l.length,.clo (.func 94) [] []] [(900,⟨23,1,false,l.map cL_cF⟩)] [900] (.tup []) [(900,⟨23,1,false,r.map cL_cF⟩)]:=by
 obtain⟨h0,h⟩:=grd_ok h
 obtain⟨h1,h⟩:=grd_ok h
 have h:=sI_ h
 subst h
 refine⟨enter_g Tryz.func93 rfl (by decide),fun w m cargs hg hM hsz hargs=>?_⟩
 obtain⟨v,f,rfl⟩:=cargs2 hsz
 obtain⟨us,us',rfl,l1,_,l2,_⟩:=rv_clo (hargs 1 _ f rfl rfl)
 obtain rfl:us=#[]:=Array.eq_empty_of_size_eq_zero l1.symm
 obtain rfl:us'=#[]:=Array.eq_empty_of_size_eq_zero l2.symm
 obtain⟨xs,hrow,hfl,hm0⟩:=own_row (η:=fE [(900,⟨23,1,false,l.map cL_cF⟩)]) (hargs 0 _ v rfl rfl) rfl (hM.ok 900 _ rfl) (by simp)
 simp only at hrow hfl
 have hat:∀ (k:Nat) (y:List Fact) (u:Value),l[k]?=some y→xs[k]?=some u→u.oneCell'=true∧RV w (shp (fE [(900,⟨23,1,false,l.map cL_cF⟩)])) m (.sl 2 (y.map cF)) u:=by
  intro k y u hy hu
  obtain⟨z,z1,z2,z3⟩:=(hfl.2 k (cL_cF y) (by simp[hy])).2 0 _ rfl
  simp only[Nat.mul_one,Nat.add_zero,List.getElem?_toArray]at z1
  rw[hu]at z1
  injection z1 with z1
  rw[z1]
  exact⟨z2,z3⟩
 refine(sortL_calls v l xs w hrow h0 (fun g hvg k y u hy hu=>?_)).mono ?_
 ·obtain⟨a1,a2⟩:=hat k y u hy hu
  refine⟨a1,fun W hW hc=>rv_factsF (rv_keep (.sl (frl_cF _)) a2 hW (fun b hb hno=>hc b hb (fun e=>hno ?_)) (fun _ _ h=>h)) (h1 y (List.mem_of_getElem? hy))⟩
  subst e
  exact .inr ⟨900,blk_live.2 (by simp[fE_live,keys]),by rw[hm0];exact hvg⟩
 ·rintro e w' ⟨rfl,ys,ho,hgr,hsh,hperm⟩
  have hlen:=sortLL_length l
  refine⟨_,m,rfl,gr_kept hM hg hm0 ho hgr hsh (by rw[lM_,hlen]) (fun m'=>.tup rfl (fun j x u hx=>by simp at hx)) (fun k e he=>?_)⟩
  obtain⟨y,hy,rfl⟩:=get_map he
  obtain⟨u,q,q1,q2,q3⟩:=hperm k y hy
  obtain⟨a1,a2⟩:=hat q y u q3 q2
  refine⟨rfl,fun j a hj=>?_⟩
  cases j with
  | zero =>
   simp only[cL_cF,List.getElem?_cons_zero,Option.some.injEq]at hj
   subst hj
   exact⟨.sl (frl_cF _),u,by simpa using q1,a1,a2⟩
  | succ j=>simp[cL_cF]at hj
end Go.Proofs.YtinnphmnhmdcgaaGreat.Am
namespace Go.Proofs.YtinnphmnhmdcgaaGreat
open Go.RowKit
def insF (l:List Fact)(i:Nat)(x:Fact):List Fact:=l.take i++x :: l.drop i
theorem insF_len (l:List Fact)(i:Nat)(x:Fact)(h:i≤l.length):(insF l i x).length=l.length+1:=by
 simp[insF];omega
theorem factCells_drop (l:List Fact):∀ n,(factCells l).drop (n*2)=factCells (l.drop n):=by
 induction l with
 | nil=>intro n;simp[factCells]
 | cons x r ih =>
  intro n
  cases n with
  | zero=>simp[factCells]
  | succ n=>rw[show(n+1)*2=n*2+1+1 from by omega];simp only[factCells,List.drop_succ_cons,ih]
set_option maxHeartbeats 4000000 in
set_option maxRecDepth 100000 in
theorem insert_room (g cap n i vb:Nat)(cur:Array Value)(l:List Fact)(x1 x2:Int)(w:World)(hn:l.length=n)(hi:i<n)(hcap:n+1≤cap)(hmax:cap≤maxLen)
  (hg:w.heap[g]?=some (.cells cur 39 (0,0))) (hsz:cur.size=cap*2) (htake:cur.toList.take (n*2)=factCells l)
  (hvb:w.heap[vb]?=some (.cells #[.int .i64 x1,.int .i64 x2] 39 (0,0))) (hne:vb≠g) :
  Calls Tryz.prog 142 #[.slice (some ⟨g,0,none⟩) n cap,.int .i64 i,.slice (some ⟨vb,0,none⟩) 1 1] w fun e w' =>
   e=.returned (.slice (some ⟨g,0,none⟩) (n+1) cap)∧(∃ new:Array Value,w'.heap[g]?=some (.cells new 39 (0,0))∧new.size=cap*2∧new.toList.take ((n+1)*2)=factCells (insF l i (x1,x2)))∧w.grownBy w' (some g):=by
 unfold maxLen at hmax
 have hov:∀ (W:World) lb cb,W.heap=w.heap→(callFunc 148 #[.slice (some ⟨vb,0,none⟩) 1 1,.slice (some ⟨g,(i+1)*2,none⟩) lb cb]).run Tryz.prog W=.ok (.value (.bool false)) W:=fun W lb cb hW=>by
  rw[run_callFunc_extern Tryz.func148 (by kernel_rfl) (by kernel_rfl) (by kernel_rfl) (e:=Extern.SlicesOverlaps.overlaps #[23,23] #[4]) (by kernel_rfl),
   Lib.run_overlaps_apart W 23 4 39 Tryz.underlying23 2 (fun _=>by kernel_rfl) ⟨vb,0,none⟩ ⟨g,(i+1)*2,none⟩ 1 1 lb cb hne 39 39 2 (cap*2) (by simp[World.shape?,hW,hvb]) (by simp[World.shape?,hW,hg,hsz]) (by omega) (by simp[World.frozen?,hW,hvb]) (by simp[World.frozen?,hW,hvb])]
  rfl
 have hlen:cur.toList.length=cap*2:=by simpa using hsz
 have hfl:(factCells l).length=n*2:=by rw[factCells_length,hn]
 have hdl:(factCells (l.drop i)).length=(n-i)*2:=by rw[factCells_length,List.length_drop,hn]
 have hB:(cur.toList.drop (i*2)).take ((n-i)*2)=factCells (l.drop i):=by
  rw[← factCells_drop,← htake,List.drop_take]
  congr 1
  omega
 obtain⟨C1,hC1⟩:∃ C1:Array Value,C1=(cur.toList.take ((i+1)*2)++factCells (l.drop i)++cur.toList.drop ((i+1)*2+(factCells (l.drop i)).length)).toArray:=⟨_,rfl⟩
 obtain⟨C2,hC2⟩:∃ C2:Array Value,C2=(C1.toList.take (i*2)++factCells [(x1,x2)]++C1.toList.drop (i*2+(factCells [(x1,x2)]).length)).toArray:=⟨_,rfl⟩
 have hC1s:C1.size=cap*2:=by
  rw[hC1]
  simp only[List.size_toArray,lA_,List.length_take,List.length_drop,hlen,hdl]
  omega
 have hx2:(factCells [(x1,x2)]).length=2:=rfl
 have htwo:=two_copies cur.toList (factCells (l.drop i)) (factCells [(x1,x2)]) (i*2) (by rw[hlen,hdl,hx2];omega)
 have hC2':C2.toList=cur.toList.take (i*2)++factCells [(x1,x2)]++factCells (l.drop i)++cur.toList.drop (i*2+2+(factCells (l.drop i)).length):=by
  rw[hC2,List.toList_toArray,hC1,List.toList_toArray,show(i+1)*2=i*2+2 by omega]
  exact htwo
 have hti:cur.toList.take (i*2)=factCells (l.take i):=by
  rw[← factCells_take,← htake,List.take_take]
  congr 1
  omega
 have hfin:C2.size=cap*2∧C2.toList.take ((n+1)*2)=factCells (insF l i (x1,x2)):=by
  have e:factCells (insF l i (x1,x2))=cur.toList.take (i*2)++factCells [(x1,x2)]++factCells (l.drop i):=by
   rw[hti,insF,factCells_append,show(x1,x2) :: l.drop i=[(x1,x2)]++l.drop i from rfl,factCells_append,List.append_assoc]
  constructor
  ·have:C2.toList.length=cap*2:=by
    rw[hC2']
    simp only[lA_,List.length_take,List.length_drop,hlen,hdl,hx2]
    omega
   simpa using this
  ·rw[hC2',e,List.take_append_of_le_length,tL_]
   ·simp only[lA_,List.length_take,hlen,hdl,hx2];omega
   ·simp only[lA_,List.length_take,hlen,hdl,hx2];omega
 have hsrc1:∀ j u,(factCells (l.drop i))[j]?=some u→cur.toList[i*2+j]?=some u:=by
  intro j u hu
  rw[← hB,List.getElem?_take]at hu
  split at hu
  ·rwa [List.getElem?_drop]at hu
  ·cases hu
 have hmin1:Nat.min (n+1-i) (n-i)=n-i:=by simp only[Nat.min_def];split <;> omega
 have hmin2:Nat.min 1 (n+1-i)=1:=by simp only[Nat.min_def];split <;> omega
 have hcut1:¬ (cap=i+1):=by omega
 have hcut2:¬ (cap=i):=by omega
 have hz2:¬ ((i:Int)=(n:Int)):=by omega
 have hz3:¬ ((cap:Int)<(n:Int)+1):=by omega
 have hw1:IntKind.i64.wrap ((i:Int)+1)=(i:Int)+1:=by rw[IntKind.wrap_i64];omega
 have hb1:(0:Int)≤(i:Int)+1:=by omega
 have htn:((i:Int)+1).toNat=i+1:=by omega
 have hin:i≤n:=by omega
 have hinI:(i:Int)≤n:=by omega
 have hb3:(i:Int)≤(n:Int)+1:=by omega
 have hc63:(cap:Int)≤9223372036854775807:=by omega
 have HOV:=Lib.hid hov
 have HLEN:=Lib.hid hlen
 have HFL:=Lib.hid hfl
 have HDL:=Lib.hid hdl
 have HBB:=Lib.hid hB
 have HC1:=Lib.hid hC1
 have HC2:=Lib.hid hC2
 have HC1S:=Lib.hid hC1s
 have HX2:=Lib.hid hx2
 have HTWO:=Lib.hid htwo
 have HC2':=Lib.hid hC2'
 have HTI:=Lib.hid hti
 have HFIN:=Lib.hid hfin
 have HSRC1:=Lib.hid hsrc1
 have HMIN1:=Lib.hid hmin1
 have HMIN2:=Lib.hid hmin2
 have HG:=Lib.hid hg
 have HSZ:=Lib.hid hsz
 have HTAKE:=Lib.hid htake
 have HVB:=Lib.hid hvb
 have HN:=Lib.hid hn
 clear hov hlen hfl hdl hB hC1 hC2 hC1s hx2 htwo hC2' hti hfin hsrc1 hmin1 hmin2 hg hsz htake hvb hn
 go_enter Tryz.func142,Tryz.ntmps142
 go_wp2_with (rw[HOV.out _ _ _ rfl])
 go_region_law (refine step_copyK rfl (.tmp 73) (.tmp 76) 23 23 rfl 39 2 Tryz.underlying23 (by kernel_rfl) g ((i+1)*2) (n-i) (cap-(i+1)) ⟨g,i*2,none⟩ (n+1-i) (cap-i) (by simp[Act.eval,Act.put]) (by simp[Act.eval,Act.put]) cur C1 39 HG.out (factCells (l.drop i)) (by rw[HMIN1.out];exact HDL.out) (cells_at (w:=w) HG.out _ _ HSRC1.out) (by rw[HDL.out,HSZ.out];omega) (factCells_one _) (by rw[HC1.out]) ?_;intro w2 hg2 hgr2)
 all_goals
  have hvb2:w2.heap[vb]?=some (.cells #[.int .i64 x1,.int .i64 x2] 39 (0,0)):=by
   rw[hgr2.out.block vb (Array.getElem?_eq_some_iff.1 HVB.out).1 (fun e=>hne (by injection e))]
   exact HVB.out
  have HVB2:=Lib.hid hvb2
  clear hvb2
  go_wp2_with (refine wpList_copyK rfl (.tmp 80) (.tmp 81) 23 23 rfl 39 2 Tryz.underlying23 (by kernel_rfl) g (i*2) (n+1-i) (cap-i) ⟨vb,0,none⟩ 1 1 rfl rfl C1 C2 39 hg2.out (factCells [(x1,x2)]) (by rw[HMIN2.out];rfl) (cells_at HVB2.out 0 _ (fun j u hu=>by simpa [factCells] using hu)) (by rw[HX2.out,HC1S.out];omega) (factCells_one _) (by rw[HC2.out]) ?_;intro w3 hg3 hgr3)
  go_ret
  refine⟨rfl,⟨C2,hg3.out,HFIN.out.1,HFIN.out.2⟩,?_⟩
  exact World.grownBy.trans (grown_undrew hgr2.out) hgr3.out
set_option maxHeartbeats 4000000 in
set_option maxRecDepth 100000 in
theorem insert_grow (g cap n i vb:Nat)(cur:Array Value)(l:List Fact)(x1 x2:Int)(w:World)(hn:l.length=n)(hi:i<n)(hcap:cap<n+1)(hnc:n≤cap)(hroom:(n+1)*16≤140737488355328)
  (hg:w.heap[g]?=some (.cells cur 39 (0,0))) (hsz:cur.size=cap*2) (htake:cur.toList.take (n*2)=factCells l)
  (hvb:w.heap[vb]?=some (.cells #[.int .i64 x1,.int .i64 x2] 39 (0,0))) :
  Calls Tryz.prog 142 #[.slice (some ⟨g,0,none⟩) n cap,.int .i64 i,.slice (some ⟨vb,0,none⟩) 1 1] w fun e w' =>
   ∃ cap2,e=.returned (.slice (some ⟨w.heap.size,0,none⟩) (n+1) cap2)∧n+1≤cap2∧cap2≤maxLen∧(∃ new:Array Value,w'.heap[w.heap.size]?=some (.cells new 39 (0,0))∧new.size=cap2*2∧new.toList.take ((n+1)*2)=factCells (insF l i (x1,x2)))∧w.grownBy w' (some w.heap.size):=by
 obtain⟨i0,hi0,hz0,hzs,hzb⟩:=info_parts factInfo
 have hlen:cur.toList.length=cap*2:=by simpa using hsz
 have hdl:(factCells (l.drop i)).length=(n-i)*2:=by rw[factCells_length,List.length_drop,hn]
 have hti:(factCells (l.take i)).length=i*2:=by rw[factCells_length,List.length_take,hn];omega
 have hx2:(factCells [(x1,x2)]).length=2:=rfl
 have hcur:∀ (j:Nat) (u:Value),(factCells l)[j]?=some u→cur.toList[j]?=some u:=by
  intro j u hu
  rw[← htake,List.getElem?_take]at hu
  split at hu
  ·exact hu
  ·cases hu
 have hsrc0:∀ j u,(factCells (l.take i))[j]?=some u→cur.toList[0+j]?=some u:=by
  intro j u hu
  rw[← factCells_take,List.getElem?_take]at hu
  split at hu
  ·rw[Nat.zero_add];exact hcur j u hu
  ·cases hu
 have hsrc1:∀ j u,(factCells (l.drop i))[j]?=some u→cur.toList[i*2+j]?=some u:=by
  intro j u hu
  rw[← factCells_drop,List.getElem?_drop]at hu
  exact hcur _ u hu
 have hold:∀ W:World,W.heap=w.heap→(Builtin.firstCells i0.size i (.slice (some ⟨g,0,none⟩) i cap)).run Tryz.prog W=.ok (factCells (l.take i)).toArray W:=fun W hW=>by
  rw[hzs]
  exact run_firstCells_some W 2 i ⟨g,0,none⟩ i cap (factCells (l.take i)) hti (cells_at (by rw[hW];exact hg) 0 _ hsrc0)
 obtain⟨G,hG⟩:∃ G,G=grownCap w (n+1) cap 39:=⟨_,rfl⟩
 have hGn:n+1≤G:=by rw[hG];exact grownCap_ge w _ _ _
 have hGm:G≤maxLen:=by rw[hG];exact grownCap_le_maxLen w _ _ _ (by unfold maxLen;omega)
 obtain⟨C0,hC0⟩:∃ C0:Array Value,C0=(factCells (l.take i)).toArray++Builtin.zeroCells (Value.agg #[.int .i64 0,.int .i64 0]).cells (n+1-i)++Builtin.zeroCells (Value.agg #[.int .i64 0,.int .i64 0]).cells (G-(n+1)):=⟨_,rfl⟩
 have hzc:∀ k,(Builtin.zeroCells (Value.agg #[.int .i64 0,.int .i64 0]).cells k).size=k*2:=fun k=>by
  have:(Value.agg #[.int .i64 0,.int .i64 0]).cells.size=2:=by kernel_rfl
  simp[Builtin.zeroCells,this]
 have hC0s:C0.size=G*2:=by
  rw[hC0]
  simp only[Array.size_append,hzc,List.size_toArray,hti]
  omega
 have hrz:∀ ty,(Builtin.append_ #[23,3] ty #[.slice (some ⟨g,0,none⟩) i cap,.int .i64 ((n:Int)+1-(i:Int))]).run Tryz.prog w =
   .ok (.slice (some ⟨w.heap.size,0,none⟩) (n+1) G) (w.drew.alloc (.cells C0 39)):=fun ty=>by
  have h:=Lib.run_append_grow_zeros w 23 3 ty 39 i0 _ .i64 .i64 Tryz.underlying23 Tryz.underlying3 hi0 hz0 (some ⟨g,0,none⟩) i cap (factCells (l.take i)) (hold w.drew rfl) (n+1-i) (by omega) (by omega) (by omega) (by omega) (by rw[hzb];omega) (by rw[hzb,show i+(n+1-i)=n+1 by omega];exact growslice_fits hcap hroom)
  rw[show i+(n+1-i)=n+1 by omega,← hG,← hC0]at h
  rw[show(n:Int)+1-(i:Int)=((n+1-i:Nat):Int)by omega]
  exact h
 obtain⟨C1,hC1⟩:∃ C1:Array Value,C1=(C0.toList.take (i*2)++factCells [(x1,x2)]++C0.toList.drop (i*2+(factCells [(x1,x2)]).length)).toArray:=⟨_,rfl⟩
 obtain⟨C2,hC2⟩:∃ C2:Array Value,C2=(C1.toList.take ((i+1)*2)++factCells (l.drop i)++C1.toList.drop ((i+1)*2+(factCells (l.drop i)).length)).toArray:=⟨_,rfl⟩
 have hC0l:C0.toList.length=G*2:=by simpa using hC0s
 have hC1s:C1.size=G*2:=by
  rw[hC1]
  simp only[List.size_toArray,lA_,List.length_take,List.length_drop,hC0l,hx2]
  omega
 have hC1l:C1.toList.length=G*2:=by simpa using hC1s
 have hC2s:C2.size=G*2:=by
  rw[hC2]
  simp only[List.size_toArray,lA_,List.length_take,List.length_drop,hC1l,hdl]
  omega
 have hfin:C2.toList.take ((n+1)*2)=factCells (insF l i (x1,x2)):=by
  have e:factCells (insF l i (x1,x2))=factCells (l.take i)++factCells [(x1,x2)]++factCells (l.drop i):=by
   rw[insF,factCells_append,show(x1,x2) :: l.drop i=[(x1,x2)]++l.drop i from rfl,factCells_append,List.append_assoc]
  have e0:C0.toList.take (i*2)=factCells (l.take i):=by
   rw[hC0,Array.toList_append,Array.toList_append,List.toList_toArray,List.append_assoc,List.take_append_of_le_length (by omega),tL_ (by omega)]
  have e1:C1.toList.take ((i+1)*2)=factCells (l.take i)++factCells [(x1,x2)]:=by
   rw[hC1,List.toList_toArray,e0,List.take_append_of_le_length (by rw[lA_,hti,hx2];omega),tL_ (by rw[lA_,hti,hx2];omega)]
  rw[hC2,List.toList_toArray,e1,e,List.take_append_of_le_length (by simp only[lA_,hti,hx2,hdl];omega),tL_ (by simp only[lA_,hti,hx2,hdl];omega)]
 have hgw:g<w.heap.size:=(Array.getElem?_eq_some_iff.1 hg).1
 have hvw:vb<w.heap.size:=(Array.getElem?_eq_some_iff.1 hvb).1
 have hmin1:Nat.min (n-i) (n-i)=n-i:=by simp only[Nat.min_def];split <;> omega
 have hmin2:Nat.min 1 (n+1-i)=1:=by simp only[Nat.min_def];split <;> omega
 have hcut0:¬ (cap=i):=by omega
 have hcut1:¬ (G=i+1):=by omega
 have hcut2:¬ (G=i):=by omega
 have hz2:¬ ((i:Int)=(n:Int)):=by omega
 have hz3:(cap:Int)<(n:Int)+1:=by omega
 have hw1:IntKind.i64.wrap ((i:Int)+1)=(i:Int)+1:=by rw[IntKind.wrap_i64];omega
 have hb1:(0:Int)≤(i:Int)+1:=by omega
 have htn:((i:Int)+1).toNat=i+1:=by omega
 have hin:i≤n:=by omega
 have hinI:(i:Int)≤n:=by omega
 have hb3:(i:Int)≤(n:Int)+1:=by omega
 have hic:i≤cap:=by omega
 have hG63:(G:Int)≤9223372036854775807:=by unfold maxLen at hGm;omega
 have hB0:Hid (w.grownBy (w.drew.alloc (.cells C0 39)) (some w.heap.size)):=grown_undrew (World.grownBy_alloc w.drew _ _)
 have hg0:Hid ((w.drew.alloc (.cells C0 39)).heap[w.heap.size]?=some (.cells C0 39 (0,0))):=heap_alloc_new w.drew _
 have hvbA:Hid ((w.alloc (.cells C0 39)).heap[vb]?=some (.cells #[.int .i64 x1,.int .i64 x2] 39 (0,0))):=by
  show _=_
  rw[(World.grownBy_alloc w (.cells C0 39) none).block vb hvw (by simp)]
  exact hvb
 have HLEN:=Lib.hid hlen
 have HDL:=Lib.hid hdl
 have HTI:=Lib.hid hti
 have HX2:=Lib.hid hx2
 have HCUR:=Lib.hid hcur
 have HSRC0:=Lib.hid hsrc0
 have HSRC1:=Lib.hid hsrc1
 have HOLD:=Lib.hid hold
 have HGG:=Lib.hid hG
 have HC0:=Lib.hid hC0
 have HZC:=Lib.hid hzc
 have HC0S:=Lib.hid hC0s
 have HRZ:=Lib.hid hrz
 have HC1:=Lib.hid hC1
 have HC2:=Lib.hid hC2
 have HC0L:=Lib.hid hC0l
 have HC1S:=Lib.hid hC1s
 have HC1L:=Lib.hid hC1l
 have HC2S:=Lib.hid hC2s
 have HFIN:=Lib.hid hfin
 have HMIN1:=Lib.hid hmin1
 have HMIN2:=Lib.hid hmin2
 have HG:=Lib.hid hg
 have HSZ:=Lib.hid hsz
 have HTAKE:=Lib.hid htake
 have HVB:=Lib.hid hvb
 have HN:=Lib.hid hn
 clear hlen hdl hti hx2 hcur hsrc0 hsrc1 hold hG hC0 hzc hC0s hrz hC1 hC2 hC0l hC1s hC1l hC2s hfin hmin1 hmin2 hg hsz htake hvb hn
 clear hi0 hz0 hzs hzb
 go_enter Tryz.func142,Tryz.ntmps142
 go_wp2_with (first
  | (at_builtin;refine Lib.wpList_append_run _ rfl _ _ _ _ rfl _ _ rfl rfl _ _ (HRZ.out _) ?_)
  | (refine wpList_copyK rfl (.tmp 43) (.tmp 44) 23 23 rfl 39 2 Tryz.underlying23 (by kernel_rfl) w.heap.size (i*2) (n+1-i) (G-i) ⟨vb,0,none⟩ 1 1 rfl rfl C0 C1 39 hg0.out (factCells [(x1,x2)]) (by rw[HMIN2.out];rfl) (cells_at (w:=(w.alloc (.cells C0 39)).drew) (hvbA.out) 0 _ (fun j u hu=>by simpa [factCells] using hu)) (by rw[HX2.out,HC0S.out];omega) (factCells_one _) (by rw[HC1.out]) ?_;intro w2 hg2 hgr2))
 have hgr2':Hid (w.grownBy w2 (some w.heap.size)):=World.grownBy.trans hB0.out (grown_undrew2 hgr2.out)
 have hgg2:Hid (w2.heap[g]?=some (.cells cur 39 (0,0))):=by
  show _=_
  rw[hgr2'.out.block g hgw (fun e=>by injection e;omega)]
  exact HG.out
 clear hgr2
 go_region_law (refine step_copyK rfl (.tmp 50) (.tmp 53) 23 23 rfl 39 2 Tryz.underlying23 (by kernel_rfl) w.heap.size ((i+1)*2) (n-i) (G-(i+1)) ⟨g,i*2,none⟩ (n-i) (cap-i) (by simp[Act.eval,Act.put]) (by simp[Act.eval,Act.put]) C1 C2 39 hg2.out (factCells (l.drop i)) (by rw[HMIN1.out];exact HDL.out) (cells_at hgg2.out _ _ HSRC1.out) (by rw[HDL.out,HC1S.out];omega) (factCells_one _) (by rw[HC2.out]) ?_;intro w3 hg3 hgr3)
 all_goals
  go_wp2_with fail
  go_ret
  exact⟨G,rfl,hGn,hGm,⟨C2,hg3.out,HC2S.out,HFIN.out⟩,World.grownBy.trans hgr2'.out (grown_undrew hgr3.out)⟩
theorem reads_block {w:World}{vb:Nat}{x1 x2:Int}(hvb:w.heap[vb]?=some (.cells #[.int .i64 x1,.int .i64 x2] 39 (0,0))):Reads w w.heap.size 2 (some ⟨vb,0,none⟩) 1 (factCells [(x1,x2)]) :=
 ⟨rfl,fun _=>⟨_,rfl,(Array.getElem?_eq_some_iff.1 hvb).1,cells_at hvb 0 _ (fun j u hu=>by simpa [factCells] using hu)⟩⟩
set_option maxHeartbeats 4000000 in
set_option maxRecDepth 100000 in
theorem insert_end (base vb:Nat)(v:Value)(l:List Fact)(x1 x2:Int)(w:World)(hown:OwnF w base v l)(hroom:(l.length+1)*16≤140737488355328)(hbase:base≤w.heap.size)
  (hvb:w.heap[vb]?=some (.cells #[.int .i64 x1,.int .i64 x2] 39 (0,0))) :
  Calls Tryz.prog 142 #[v,.int .i64 l.length,.slice (some ⟨vb,0,none⟩) 1 1] w fun e w'=>∃ v',e=.returned v'∧OwnF w' base v' (insF l l.length (x1,x2))∧Below base w w':=by
 obtain⟨i0,hi0,hz0,hz1,hz2⟩:=info_parts factInfo
 have hr:=reads_block hvb
 rcases id hown.2 with⟨rfl,h0⟩|⟨g,cap,cur,rfl,_,_,hnc,hm,_,_⟩
 ·have HR:=Lib.hid hr
  have HVB:=Lib.hid hvb
  have HOWN:=Lib.hid hown
  clear hr hvb hown
  obtain⟨n,hn⟩:∃ n,n=l.length:=⟨_,rfl⟩
  have hl:l=[]:=List.length_eq_zero_iff.1 h0
  subst hl
  clear h0 hn n
  simp only[List.length_nil,Int.natCast_zero]at *
  go_enter Tryz.func142,Tryz.ntmps142
  go_wp2_with (at_builtin;refine wpList_append_any _ rfl (.tmp 23) (.tmp 24) _ rfl base 39 i0 _ 2 16 Tryz.underlying23 hi0 hz0 hz1 hz2 rfl (by omega) _ 0 (factCells []) rfl HOWN.out _ _ 1 1 (factCells [(x1,x2)]) rfl HR.out (factCells_one _) (by simp only[maxLen];omega) (by omega) hbase ?_;intro v1 w1 hown1 hg1 hat1)
  go_ret
  exact⟨v1,rfl,hown1,below_of_grown hg1 hbase (fun k hk=>(HOWN.out.lt k hk).1)⟩
 ·have hown:w.ownsRow base 39 2 (.slice (some ⟨g,0,none⟩) l.length cap) l.length (factCells l):=hown
  generalize hnn:l.length=n at hnc hown hroom ⊢
  unfold maxLen at hm
  have hnI:(n:Int)≤(cap:Int):=by omega
  have e:factCells l++factCells [(x1,x2)]=factCells (insF l n (x1,x2)):=by rw[← factCells_append];simp[insF,← hnn]
  have e2:(insF l n (x1,x2)).length=n+1:=by simp[insF,← hnn]
  have HR:=Lib.hid hr
  have HVB:=Lib.hid hvb
  have HOWN:=Lib.hid hown
  have HNN:=Lib.hid hnn
  have HE:=Lib.hid e
  have HE2:=Lib.hid e2
  clear hr hvb hown hnn e e2
  by_cases hcc:cap=n
  ·subst hcc
   go_enter Tryz.func142,Tryz.ntmps142
   go_wp2_with (at_builtin;refine wpList_append_any _ rfl (.tmp 23) (.tmp 24) _ rfl base 39 i0 _ 2 16 Tryz.underlying23 hi0 hz0 hz1 hz2 rfl (by omega) _ cap (factCells l) rfl HOWN.out _ _ 1 1 (factCells [(x1,x2)]) rfl HR.out (factCells_one _) (by simp only[maxLen];omega) (by omega) hbase ?_;intro v1 w1 hown1 hg1 hat1)
   go_ret
   refine⟨v1,rfl,?_,below_of_grown hg1 hbase (fun k hk=>(HOWN.out.lt k hk).1)⟩
   rw[HE.out]at hown1
   unfold OwnF
   rw[HE2.out]
   exact hown1
  ·go_enter Tryz.func142,Tryz.ntmps142
   go_wp2_with (at_builtin;refine wpList_append_any _ rfl (.tmp 23) (.tmp 24) _ rfl base 39 i0 _ 2 16 Tryz.underlying23 hi0 hz0 hz1 hz2 rfl (by omega) _ n (factCells l) rfl HOWN.out _ _ 1 1 (factCells [(x1,x2)]) rfl HR.out (factCells_one _) (by simp only[maxLen];omega) (by omega) hbase ?_;intro v1 w1 hown1 hg1 hat1)
   go_ret
   refine⟨v1,rfl,?_,below_of_grown hg1 hbase (fun k hk=>(HOWN.out.lt k hk).1)⟩
   rw[HE.out]at hown1
   unfold OwnF
   rw[HE2.out]
   exact hown1
theorem insert_calls (base vb i:Nat)(v:Value)(l:List Fact)(x1 x2:Int)(w:World)(hown:OwnF w base v l)(hi:i≤l.length)(hroom:(l.length+1)*16≤140737488355328)(hbase:base≤w.heap.size)
  (hvb:w.heap[vb]?=some (.cells #[.int .i64 x1,.int .i64 x2] 39 (0,0))) (hne:∀ g,v.ownBlock=some g→vb≠g) :
  Calls Tryz.prog 142 #[v,.int .i64 i,.slice (some ⟨vb,0,none⟩) 1 1] w fun e w'=>∃ v',e=.returned v'∧OwnF w' base v' (insF l i (x1,x2))∧Below base w w':=by
 by_cases hin:i=l.length
 ·subst hin
  exact insert_end base vb v l x1 x2 w hown hroom hbase hvb
 ·rcases id hown.2 with⟨rfl,h0⟩|⟨g,cap,cur,rfl,hbg,hg,hnc,hm,hcs,htake⟩
  ·omega
  ·have hlen:=insF_len l i (x1,x2) hi
   by_cases hc:l.length+1≤cap
   ·refine(insert_room g cap l.length i vb cur l x1 x2 w rfl (by omega) hc hm hg hcs htake hvb (hne g rfl)).mono ?_
    rintro e w' ⟨rfl,⟨new,hn1,hn2,hn3⟩,hgr⟩
    refine⟨_,rfl,?_,below_of_grown hgr hbase (fun k hk=>by injection hk with hk;omega)⟩
    unfold OwnF
    rw[hlen]
    exact⟨by rw[factCells_length,hlen],.inr ⟨g,cap,new,rfl,hbg,hn1,hc,hm,hn2,hn3⟩⟩
   ·refine(insert_grow g cap l.length i vb cur l x1 x2 w rfl (by omega) (by omega) hnc hroom hg hcs htake hvb).mono ?_
    rintro e w' ⟨cap2,rfl,hc1,hc2,⟨new,hn1,hn2,hn3⟩,hgr⟩
    refine⟨_,rfl,?_,below_of_grown hgr hbase (fun k hk=>by injection hk with hk;omega)⟩
    unfold OwnF
    rw[hlen]
    exact⟨by rw[factCells_length,hlen],.inr ⟨w.heap.size,cap2,new,rfl,hbase,hn1,hc1,hc2,hn2,hn3⟩⟩
end Go.Proofs.YtinnphmnhmdcgaaGreat
namespace Go.Proofs.YtinnphmnhmdcgaaGreat
open Go.RowKit
abbrev AscW (l:List Fact):Prop:=l.Pairwise fun a b=>a.1<b.1
def posF : List Fact→Int→Nat
 | [],_=>0
 | x :: r,v=>if x.1<v then posF r v+1 else 0
theorem posF_le (l:List Fact)(v:Int):posF l v≤l.length:=by
 induction l with
 | nil=>simp[posF]
 | cons x r ih=>rw[posF];split <;> simp <;> omega
def pwithF (l:List Fact)(x:Fact):List Fact:=insF l (posF l x.1) x
theorem pwithF_mem (l:List Fact)(x z:Fact):z∈pwithF l x↔z∈l∨z=x:=by
 unfold pwithF insF
 have h:=List.take_append_drop (posF l x.1) l
 constructor
 ·intro hz
  rcases List.mem_append.1 hz with hz|hz
  ·exact .inl (List.mem_of_mem_take hz)
  ·rcases List.mem_cons.1 hz with hz|hz
   ·exact .inr hz
   ·exact .inl (List.mem_of_mem_drop hz)
 ·rintro(hz|hz)
  ·rw[← h]at hz
   rcases List.mem_append.1 hz with hz|hz
   ·exact List.mem_append.2 (.inl hz)
   ·exact List.mem_append.2 (.inr (List.mem_cons_of_mem _ hz))
  ·subst hz;simp
theorem pwithF_asc (l:List Fact)(x:Fact)(h:AscW l)(hx:∀ z∈l,z.1≠x.1):AscW (pwithF l x):=by
 induction l with
 | nil=>simp[pwithF,insF,posF,AscW]
 | cons y r ih =>
  obtain⟨h1,h2⟩:=List.pairwise_cons.1 h
  unfold pwithF
  rw[posF]
  split
  ·rename_i hlt
   have e:insF (y :: r) (posF r x.1+1) x=y :: pwithF r x:=by simp[insF,pwithF]
   rw[e]
   refine List.pairwise_cons.2 ⟨fun z hz=>?_,ih h2 (fun z hz=>hx z (by simp[hz]))⟩
   rcases(pwithF_mem r x z).1 hz with hz|hz
   ·exact h1 z hz
   ·subst hz;exact hlt
  ·rename_i hge
   have hne:=hx y (by simp)
   have e:insF (y :: r) 0 x=x :: y :: r:=by simp[insF]
   rw[e]
   refine List.pairwise_cons.2 ⟨fun z hz=>?_,h⟩
   rcases List.mem_cons.1 hz with hz|hz
   ·subst hz;omega
   ·have:=h1 z hz;omega
theorem pwithF_len (l:List Fact)(x:Fact):(pwithF l x).length=l.length+1:=insF_len l _ x (posF_le l _)
theorem posF_take (l:List Fact)(v:Int)(k:Nat)(h:posF l v=k+posF (l.drop k) v)(x:Fact)(hx:l.drop k=x :: l.drop (k+1)) :
  posF l v=if x.1<v then k+1+posF (l.drop (k+1)) v else k:=by
 rw[hx,posF]at h
 split at h
 ·rw[if_pos (by assumption)];omega
 ·rw[if_neg (by assumption)];omega
set_option maxHeartbeats 2000000 in
theorem pwith_calls (v:Value)(l:List Fact)(x1 x2:Int)(w:World)(hv:FactsAt w v l)(hroom:(l.length+1)*16≤140737488355328) :
  Calls Tryz.prog 133 #[v,.agg #[.int .i64 x1,.int .i64 x2]] w fun e w'=>∃ v',e=.returned v'∧OwnF w' w.heap.size v' (pwithF l (x1,x2))∧Below w.heap.size w w':=by
 obtain⟨A,n,c,rfl,hn,hm⟩:=hv.form
 have HV:=Lib.hid hv
 have HN:=Lib.hid hn
 clear hv hn
 go_enter Tryz.func133,Tryz.ntmps133
 go_wp2
 go_loopg [5] n (fun g i wr=>∃ k:Nat,k≤n∧g=n-k∧i=.int .i64 k∧Below w.heap.size w wr∧wr.heap[w.heap.size]?=some (.cells #[.int .i64 x1,.int .i64 x2] 39 (0,0))∧posF l x1=k+posF (l.drop k) x1)
 case atStart=>exact⟨0,Nat.zero_le _,by omega,rfl,belowA (Below.refl _ _) _,heap_alloc_new _ _,by simp⟩
 case round =>
  obtain⟨k,hk,hg,rfl,hB,hbox,hF⟩:=hrel
  have q0:wr.cell? ⟨w.heap.size,0,none⟩=some (.int .i64 x1):=by simp[World.cell?,hbox]
  have q1:wr.cell? ⟨w.heap.size,1,none⟩=some (.int .i64 x2):=by simp[World.cell?,hbox]
  have HG:=Lib.hid hg
  have HF:=Lib.hid hF
  have HBOX:=Lib.hid hbox
  clear hg hF hbox
  by_cases hlt:k<n
  ·obtain⟨bb,off,y1,y2,rfl,c0,c1,hx,hd⟩:=(HV.out.keep hB).at hlt
   have hst:=posF_take l x1 k HF.out (y1,y2) hd
   simp only at hst
   have HX:=Lib.hid hx
   have HD:=Lib.hid hd
   have HST:=Lib.hid hst
   clear hx hd hst
   have d0:decide (k<n)=true:=by simpa using hlt
   go_upto_if 19 with fail
   go_cut [19] (fun s wx=>s=.bool (decide (y1<x1))∧∃ q,wx=wr.drewN q)
   case first =>
    refine wp_region_quiet_lit (by kernel_rfl) (by kernel_rfl) ?_
    repeat (any_goals (first|go_big_quiet_step (fail)|quiet_step (fail)|(refine wpQuiet_step (fun K hK=>?_);go_simp;split <;> (refine hK _ ?_;clear hK K))))
    all_goals (refine wpQuiet_nil ?_;intro _ hw';obtain⟨nq,hw''⟩:=hw';subst hw'')
    all_goals (go_wp2_with fail;go_meet;exact⟨rfl,_,rfl⟩)
   case rest =>
    obtain⟨rfl,q,rfl⟩:=hcut
    by_cases hc:y1<x1
    ·have hnext:posF l x1=k+1+posF (l.drop (k+1)) x1:=by rw[HST.out,if_pos hc]
     have HNEXT:=Lib.hid hnext
     clear hnext
     go_wp2_with fail
     go_roundg (n-(k+1))
     case measure=>have:=HG.out;omega
     case rel=>exact⟨k+1,by omega,rfl,by go_num,below_drewN hB _,HBOX.out,HNEXT.out⟩
    ·have hpos:posF l x1=k:=by rw[HST.out,if_neg hc]
     have HPOS:=Lib.hid hpos
     clear hpos
     have hB':=below_drewN hB q
     have hB0:Below w.heap.size w (wr.drewN q):=hB'
     have hbox':((wr.drewN q)).heap[w.heap.size]?=some (.cells #[.int .i64 x1,.int .i64 x2] 39 (0,0)):=HBOX.out
     have hvk:FactsAt (wr.drewN q) _ l:=HV.out.keep hB'
     have HBB:=Lib.hid hB'
     have HBX:=Lib.hid hbox'
     have HVK:=Lib.hid hvk
     clear hB' hbox' hvk
     go_upto_region 4 with fail
     generalize (wr.drewN q)=W0 at hB0 HBX HVK ⊢
     have q0:W0.cell? ⟨w.heap.size,0,none⟩=some (.int .i64 x1):=by simp[World.cell?,HBX.out]
     have q1:W0.cell? ⟨w.heap.size,1,none⟩=some (.int .i64 x2):=by simp[World.cell?,HBX.out]
     generalize hBq:w.heap.size=B0 at *
     have HBQ:=Lib.hid hBq
     clear hBq
     go_region_held3 (fun w'=>w'.cell? ⟨B0,0,none⟩=some (.int .i64 x1)∧w'.cell? ⟨B0,1,none⟩=some (.int .i64 x2))
      (first|exact⟨s0,s1⟩|exact⟨kept (belowA (Below.refl _ _) _) r0,kept (belowA (Below.refl _ _) _) r1⟩|exact⟨r0,r1⟩|exact⟨q0,q1⟩|exact⟨kept ((belowA (Below.refl _ _) _).drew) q0,kept ((belowA (Below.refl _ _) _).drew) q1⟩|exact⟨kept (belowA (Below.refl _ _) _) q0,kept (belowA (Below.refl _ _) _) q1⟩)
      (first
       | (go_at_call 72;(with_reducible refine(cloneF_calls _ l _ (HVK.out.keep (Below.refl _ _).drew)).mono ?_);rintro e w1 ⟨v1,rfl,hown1,hb1⟩;have r0:=kept hb1 q0;have r1:=kept hb1 q1;have HOW1:=Lib.hid hown1;have HBW1:=Lib.hid hb1;clear hown1 hb1)
       | (go_at_call 142;(with_reducible refine(insert_calls W0.heap.size w1.heap.size k v1 l x1 x2 _ (ownF_keep HOW1.out (belowA (Below.refl _ _) _)) (by have:=posF_le l x1;have:=HPOS.out;omega) hroom (by have:=HBW1.out.size;simp at this ⊢;omega) (heap_alloc_new _ _) (fun g hg e=>by have:=(HOW1.out.lt g hg).2;omega)).mono ?_);rintro e w2 ⟨v2,rfl,hown2,hb2⟩;have HBW2:=Lib.hid (Below.trans HBW1.out (Below.trans (belowA (Below.refl _ _) _ |>.mono HBW1.out.size) hb2));have s0:=kept HBW2.out q0;have s1:=kept HBW2.out q1;have HOW2:=Lib.hid hown2;clear hown2 hb2)
       | (go_at_call 72;(with_reducible refine(cloneF_calls _ l _ (HVK.out.keep ((belowA (Below.refl _ _) (.cells #[.int .i64 x1,.int .i64 x2] 39)).drew))).mono ?_);rintro e w1 ⟨v1,rfl,hown1,hb1⟩;have HVB1:Hid (w1.heap[W0.heap.size]?=some (.cells #[.int .i64 x1,.int .i64 x2] 39 (0,0))):=(hb1.block W0.heap.size (by simp)).trans (heap_alloc_new W0 (.cells #[.int .i64 x1,.int .i64 x2] 39));have HBW1:Hid (Below W0.heap.size W0 w1):=belowT ((belowA (Below.refl W0.heap.size W0) (.cells #[.int .i64 x1,.int .i64 x2] 39)).drew) hb1;have HOW1:=Lib.hid hown1;have r0:=kept HBW1.out q0;have r1:=kept HBW1.out q1;clear hown1 hb1)
       | (go_at_call 142;(with_reducible refine(insert_calls W0.heap.size W0.heap.size k v1 l x1 x2 w1 (own_mono HOW1.out (by simp)) (by have:=posF_le l x1;have:=HPOS.out;omega) hroom HBW1.out.size HVB1.out (fun g hg e=>by have:=(HOW1.out.lt g hg).1;simp at this;omega)).mono ?_);rintro e w2 ⟨v2,rfl,hown2,hb2⟩;have HBW2:=Lib.hid (Below.trans HBW1.out hb2);have s0:=kept HBW2.out q0;have s1:=kept HBW2.out q1;have HOW2:=Lib.hid hown2;clear hown2 hb2)
       | fail)
     all_goals
      go_wp2_with fail
      go_ret
      have hBq:=HBQ.out
      subst hBq
      refine⟨v2,rfl,?_,by first|exact Below.trans hB0 (HBW2.out.mono hB0.size)|exact Below.trans hB0.drew (HBW2.out.mono hB0.size)⟩
      unfold pwithF
      rw[show posF l (x1,x2).1=k from HPOS.out]
      exact own_mono HOW2.out hB0.size
  ·have hpos:posF l x1=k:=by rw[HF.out,List.drop_eq_nil_of_le (by have:=HN.out;omega)];simp[posF]
   have HPOS:=Lib.hid hpos
   clear hpos
   have d0:decide (k<n)=false:=by simpa using hlt
   go_upto_if 19 with fail
   go_cut [19] (fun s wx=>s=.bool false∧∃ q,wx=wr.drewN q)
   case first =>
    refine wp_region_quiet_lit (by kernel_rfl) (by kernel_rfl) ?_
    repeat (any_goals (first|go_big_quiet_step (fail)|quiet_step (fail)|(refine wpQuiet_step (fun K hK=>?_);go_simp;split <;> (refine hK _ ?_;clear hK K))))
    all_goals (refine wpQuiet_nil ?_;intro _ hw';obtain⟨nq,hw''⟩:=hw';subst hw'')
    all_goals (go_wp2_with fail;go_meet;exact⟨rfl,_,rfl⟩)
   case rest =>
    obtain⟨rfl,q,rfl⟩:=hcut
    have hB':=below_drewN hB q
    have hB0:Below w.heap.size w (wr.drewN q):=hB'
    have hbox':((wr.drewN q)).heap[w.heap.size]?=some (.cells #[.int .i64 x1,.int .i64 x2] 39 (0,0)):=HBOX.out
    have hvk:FactsAt (wr.drewN q) _ l:=HV.out.keep hB'
    have HBB:=Lib.hid hB'
    have HBX:=Lib.hid hbox'
    have HVK:=Lib.hid hvk
    clear hB' hbox' hvk
    go_upto_region 4 with fail
    generalize (wr.drewN q)=W0 at hB0 HBX HVK ⊢
    have q0:W0.cell? ⟨w.heap.size,0,none⟩=some (.int .i64 x1):=by simp[World.cell?,HBX.out]
    have q1:W0.cell? ⟨w.heap.size,1,none⟩=some (.int .i64 x2):=by simp[World.cell?,HBX.out]
    generalize hBq:w.heap.size=B0 at *
    have HBQ:=Lib.hid hBq
    clear hBq
    go_region_held3 (fun w'=>w'.cell? ⟨B0,0,none⟩=some (.int .i64 x1)∧w'.cell? ⟨B0,1,none⟩=some (.int .i64 x2))
     (first|exact⟨s0,s1⟩|exact⟨kept (belowA (Below.refl _ _) _) r0,kept (belowA (Below.refl _ _) _) r1⟩|exact⟨r0,r1⟩|exact⟨q0,q1⟩|exact⟨kept ((belowA (Below.refl _ _) _).drew) q0,kept ((belowA (Below.refl _ _) _).drew) q1⟩|exact⟨kept (belowA (Below.refl _ _) _) q0,kept (belowA (Below.refl _ _) _) q1⟩)
     (first
      | (go_at_call 72;(with_reducible refine(cloneF_calls _ l _ (HVK.out.keep (Below.refl _ _).drew)).mono ?_);rintro e w1 ⟨v1,rfl,hown1,hb1⟩;have r0:=kept hb1 q0;have r1:=kept hb1 q1;have HOW1:=Lib.hid hown1;have HBW1:=Lib.hid hb1;clear hown1 hb1)
      | (go_at_call 142;(with_reducible refine(insert_calls W0.heap.size w1.heap.size k v1 l x1 x2 _ (ownF_keep HOW1.out (belowA (Below.refl _ _) _)) (by have:=posF_le l x1;have:=HPOS.out;omega) hroom (by have:=HBW1.out.size;simp at this ⊢;omega) (heap_alloc_new _ _) (fun g hg e=>by have:=(HOW1.out.lt g hg).2;omega)).mono ?_);rintro e w2 ⟨v2,rfl,hown2,hb2⟩;have HBW2:=Lib.hid (Below.trans HBW1.out (Below.trans (belowA (Below.refl _ _) _ |>.mono HBW1.out.size) hb2));have s0:=kept HBW2.out q0;have s1:=kept HBW2.out q1;have HOW2:=Lib.hid hown2;clear hown2 hb2)
      | (go_at_call 72;(with_reducible refine(cloneF_calls _ l _ (HVK.out.keep ((belowA (Below.refl _ _) (.cells #[.int .i64 x1,.int .i64 x2] 39)).drew))).mono ?_);rintro e w1 ⟨v1,rfl,hown1,hb1⟩;have HVB1:Hid (w1.heap[W0.heap.size]?=some (.cells #[.int .i64 x1,.int .i64 x2] 39 (0,0))):=(hb1.block W0.heap.size (by simp)).trans (heap_alloc_new W0 (.cells #[.int .i64 x1,.int .i64 x2] 39));have HBW1:Hid (Below W0.heap.size W0 w1):=belowT ((belowA (Below.refl W0.heap.size W0) (.cells #[.int .i64 x1,.int .i64 x2] 39)).drew) hb1;have HOW1:=Lib.hid hown1;have r0:=kept HBW1.out q0;have r1:=kept HBW1.out q1;clear hown1 hb1)
      | (go_at_call 142;(with_reducible refine(insert_calls W0.heap.size W0.heap.size k v1 l x1 x2 w1 (own_mono HOW1.out (by simp)) (by have:=posF_le l x1;have:=HPOS.out;omega) hroom HBW1.out.size HVB1.out (fun g hg e=>by have:=(HOW1.out.lt g hg).1;simp at this;omega)).mono ?_);rintro e w2 ⟨v2,rfl,hown2,hb2⟩;have HBW2:=Lib.hid (Below.trans HBW1.out hb2);have s0:=kept HBW2.out q0;have s1:=kept HBW2.out q1;have HOW2:=Lib.hid hown2;clear hown2 hb2)
      | fail)
    all_goals
     go_wp2_with fail
     go_ret
     have hBq:=HBQ.out
     subst hBq
     refine⟨v2,rfl,?_,by first|exact Below.trans hB0 (HBW2.out.mono hB0.size)|exact Below.trans hB0.drew (HBW2.out.mono hB0.size)⟩
     unfold pwithF
     rw[show posF l (x1,x2).1=k from HPOS.out]
     exact own_mono HOW2.out hB0.size
end Go.Proofs.YtinnphmnhmdcgaaGreat
namespace Go.Proofs.YtinnphmnhmdcgaaGreat.Am
open Go.RowKit
def M_with (l:List Fact)(x:Fact):Option (List Fact):=grd ((l.length+1)*16≤140737488355328) (some (pwithF l x))
theorem A_with (l:List Fact)(x:Fact){r:List Fact}(h:M_with l x=some r):ACallG cx 133 [.sl 2 (l.map cF),.agg [.c (.int .i64 x.1),.c (.int .i64 x.2)]] [] [] (.own 0 0 0 r.length) [(0,⟨39,2,false,r.map cF⟩)]:=by
 obtain⟨h0,h⟩:=grd_ok h
 have h:=sI_ h
 subst h
 refine⟨enter_g Tryz.func133 rfl (by decide),fun w m cargs hg hM hsz hargs=>?_⟩
 obtain⟨v,u,rfl⟩:=cargs2 hsz
 obtain⟨us,rfl,h1,h2⟩:=rv_agg (hargs 1 _ u rfl rfl)
 have hs:us.size=2:=h1.symm
 have g0:=rv_c (h2 0 _ us[0] rfl (Array.getElem?_eq_getElem (by omega)))
 have g1:=rv_c (h2 1 _ us[1] rfl (Array.getElem?_eq_getElem (by omega)))
 have hu:us=#[.int .i64 x.1,.int .i64 x.2]:=Array.ext (by simp[hs]) (fun i h1 h2=>by
  have:i=0∨i=1:=by omega
  rcases this with rfl|rfl
  ·simpa using g0
  ·simpa using g1)
 subst hu
 refine(pwith_calls v l x.1 x.2 w (rv_factsF (hargs 0 _ v rfl rfl) (by omega)) h0).mono ?_
 rintro e w' ⟨v',rfl,ho,hb⟩
 refine⟨v',⟨fun k=>if k=0 then v'.ownBlock else none,m.O⟩,rfl,?_⟩
 have hge:∀ b,v'.ownBlock=some b→w.heap.size≤b:=fun b hb=>by
  rcases ho.2 with⟨rfl,_⟩|⟨g,cap,cur,rfl,hbase,_⟩
  ·cases hb
  ·simp[Value.ownBlock]at hb;omega
 exact gr_row (i0:=0) (v:=.slice none 0 0) (row:=none) hM hg (.inl rfl) (own_mono ho (Nat.zero_le _)) ⟨hb.os,hb.tape,hb.output,hb.size,fun b hb' _=>hb.block b hb'⟩ (.inl rfl) (.inr hge) (lM_ _) (fun k e he=>cells_facts k e he)
end Go.Proofs.YtinnphmnhmdcgaaGreat.Am
