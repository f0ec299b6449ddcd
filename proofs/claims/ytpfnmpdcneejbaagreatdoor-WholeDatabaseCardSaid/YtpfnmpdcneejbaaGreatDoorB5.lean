/- Texts of the proof, part 5 of 8. -/
import Derived.Test.YtpfnmpdcneejbaaGreatDoorB4
import Derived.Test.YtpfnmpdcneejbaaGreatDoorB3
import Derived.Test.YtpfnmpdcneejbaaGreatDoorB2
set_option linter.unusedVariables false
set_option linter.unusedSectionVars false
set_option linter.unusedSimpArgs false
open List renaming getElem?_eq_getElem→gE_, length_map→lM_, length_append→lA_, mem_cons_of_mem→mC_, length_cons→lC_, mem_cons_self→mS_, mem_of_getElem?→mG_, getElem?_eq_some_iff→gS_, getD_eq_getElem?_getD→gD_, mem_singleton→mI_, take_of_length_le→tL_
open Option.some renaming inj→sI_
open Bool renaming and_eq_true→bA_
open Array renaming getD_eq_getD_getElem?→aD_, getElem?_eq_getElem→aE_
namespace Go.Proofs.YtpfnmpdcneejbaaGreatDoor.Am
open Go.RowKit
theorem bT2 {n m:Nat}(h:Nat.ble n m=true):n<=m:=Nat.le_of_ble_eq_true h
theorem Zabx (a b:Int):Zf6 a b=some (Lib.compareInt a b):=by
 have e:∀x:Int,Zho x=some false:=λx=>by simp[Zho]
 rw[Zf6,e,e]
 simp only[Zac,Zbb,Zar]
 rcases Zdu a b with⟨h,hc⟩|⟨h,hc⟩|⟨h,hc⟩ <;> rw[hc]
 ·rw[if_pos h]
 ·rw[if_neg (by omega),if_neg (by omega)]
 ·rw[if_neg (by omega),if_pos h]
theorem Zawp (a b:Int):Zmi [a,b]=some (if a≠0 then a else b):=by
 rw[Zmi,Zu1 [a,b] (by simp)]
 simp only[Rg,Zpl,Zpm,ixv]
 by_cases ha:a=0
 ·subst ha
  rw[show((0:Int) != 0)=false from rfl,Zbb,if_neg (by simp)]
  by_cases hb:b=0
  ·subst hb;rfl
  ·rw[show(b != 0)=true from by simp[hb],Zby]
 ·rw[show(a != 0)=true from by simp[ha],Zby,if_pos ha]
theorem Zary (x y:Zaa):Zg3 x y=some (Zrm x y):=by
 rw[Zg3,Zabx,Zac,Zabx,Zac,Zawp,Zac]
 rfl
theorem Zaln (a b:List Zaa):∀(r:List Zaa)(n:Nat),a.drop n=r->n<=a.length->n<=b.length ->
  ob1 (Rg (Zhf a b Zg3) (Zhg a b Zg3) r n ())
   (Zj9 (λ_=>sel (decide (((a.map cF).length:Int)<((b.map cF).length:Int))) (some (-1)) (some 0)) (λr13=>some r13))=some (Zeg r (b.drop n)):=by
 intro r
 induction r with
 | nil =>
  intro n h hn hm
  have hn':n=a.length:=by have:=congrArg List.length h;simp at this;omega
  subst hn'
  rw[Rg,Zhg,Zac,Zbv,Zar,lM_,lM_]
  by_cases hlt:a.length<b.length
  ·obtain⟨y,hy,hd⟩:=Zn4 hlt
   rw[if_pos (by omega),hd,Zeg]
  ·rw[if_neg (by omega),show b.drop a.length=[]from List.drop_eq_nil_of_le (by omega),Zeg]
 | cons y r ih =>
  intro n h hn hm
  obtain⟨hy,hd,hlt⟩:=Zc5 h
  rw[Rg,Zhf,ixv]
  by_cases hge:n<b.length
  ·obtain⟨z,hz,hdz⟩:=Zn4 hge
   rw[Zar,if_neg (by rw[lM_];omega),Zfv hz,Zary,Zac,hdz,Zeg]
   by_cases hc:Zrm y z=0
   ·rw[show(Zrm y z != 0)=false from by simp[hc],Zbb,if_neg (by simp[hc])]
    exact ih (n+1) hd hlt hge
   ·rw[show(Zrm y z != 0)=true from by simp[hc],Zby,Zac,Ziz,if_pos hc]
  ·rw[Zar,lM_,if_pos (by omega),Zac,Ziz,show b.drop n=[]from List.drop_eq_nil_of_le (by omega),Zeg]
theorem Zwz (a b:List Zaa)(ha:Sh a):Zga a b=some (Zeg a b):=by
 have h:=Zaln a b a 0 rfl (Nat.zero_le _) (Nat.zero_le _)
 rw[Zga,Zhk,Zod a b _ ha.lt]
 rw[List.drop_zero]at h
 exact(congrArg (λo=>ob1 o (λz1=>some z1)) h)
def Zzo (l:List (List Zaa)):Prop:=l.Pairwise λa b=>Zeg a b<0
theorem Zahi {a b:List Zaa}:Zeg a b<0↔0<Zeg b a:=by rw[Zp4 a b];omega
theorem Zawj {a b:Nat}(h:a+b<4611686018427387904):IntKind.i64.wrap (Int.fdiv (IntKind.u64.wrap (IntKind.i64.wrap ((a:Int)+b))) 2)=(((a+b) / 2:Nat):Int):=by
 rw[w64 (z:=(a:Int)+b) (by omega) (by omega)]
 have e:IntKind.u64.wrap ((a:Int)+b)=(a:Int)+b:=by
  show((a:Int)+b) % _=_
  exact Int.emod_eq_of_lt (by omega) (by show _<(18446744073709551616:Int);omega)
 rw[e,Int.fdiv_eq_ediv_of_nonneg _ (by decide),w64 (by omega) (by omega)]
 omega
theorem Zatw (l:List (List Zaa))(z:List Zaa)(hl:l.length<1000000)(hsh:∀x∈l,Sh x)(hs:Zzo l) :
  ∀(k:Nat) (lo hi:Nat),lo<=hi->hi<=l.length->hi-lo<2 ^ k->(∀(j:Nat) (y:List Zaa),j<lo->l[j]?=some y->Zeg y z<0)->(∀(j:Nat) (y:List Zaa),hi<=j->l[j]?=some y->¬ Zeg y z<0)->∀m:Nat,
  ∃p:Nat,Zax l z Zga (k+1+m) lo hi=some (p:Int)/\p<=l.length/\(∀(j:Nat) (y:List Zaa),j<p->l[j]?=some y->Zeg y z<0)/\(∀(j:Nat) (y:List Zaa),p<=j->l[j]?=some y->¬ Zeg y z<0):=by
 intro k
 induction k with
 | zero =>
  intro lo hi h1 h2 h3 h4 h5 m
  obtain rfl:lo=hi:=by omega
  refine⟨lo,?_,h2,h4,h5⟩
  rw[show 0+1+m=m+1 from by omega,Zax,Zfh,Zbb]
 | succ k ih =>
  intro lo hi h1 h2 h3 h4 h5 m
  rw[show k+1+1+m=(k+1+m)+1 from by omega,Zax]
  by_cases hlt:lo<hi
  ·obtain⟨y,hy,-⟩:=Zn4 (l:=l) (n:=(lo+hi) / 2) (by omega)
   rw[Zca hlt,Zby,Zawj (by omega),Zfv hy,Zwz y z (hsh y (mG_ hy)),Zac,Zar]
   have hp:2 ^ (k+1)=2*2 ^ k:=by rw[Nat.pow_succ];omega
   by_cases hc:Zeg y z<0
   ·rw[if_pos hc,w64s (by omega)]
    refine ih _ _ (by omega) h2 (by omega) (λj u hj hu=>?_) h5 m
    rcases Nat.lt_or_eq_of_le (Nat.lt_succ_iff.1 hj)with hj'|rfl
    ·obtain⟨hj1,hj2⟩:=gS_.1 hu
     obtain⟨hy1,hy2⟩:=gS_.1 hy
     have:=List.pairwise_iff_getElem.1 hs j _ hj1 hy1 hj'
     rw[hj2,hy2]at this
     exact Zn1 this hc
    ·rw[hy]at hu;cases hu;exact hc
   ·rw[if_neg hc]
    refine ih _ _ (by omega) (by omega) (by omega) h4 (λj u hj hu hn=>?_) m
    rcases Nat.lt_or_eq_of_le hj with hj'|rfl
    ·obtain⟨hj1,hj2⟩:=gS_.1 hu
     obtain⟨hy1,hy2⟩:=gS_.1 hy
     have:=List.pairwise_iff_getElem.1 hs _ j hy1 hj1 hj'
     rw[hj2,hy2]at this
     exact hc (Zn1 this hn)
    ·rw[hy]at hu;cases hu;exact hc hn
  ·obtain rfl:lo=hi:=by omega
   exact⟨lo,by rw[Zfh,Zbb],h2,h4,h5⟩
theorem Zall (l:List (List Zaa))(z:List Zaa)(g:Nat)(hg:21<=g)(hl:l.length<1000000)(hsh:∀x∈l,Sh x)(hs:Zzo l) :
  ∃(p:Nat) (f:Bool),Zcu g l z Zga=some ((p:Int),f)/\p<=l.length/\(f=true↔z∈l)/\(f=false->Zzo (l.take p++z :: l.drop p)):=by
 obtain⟨p,hp,hpl,h1,h2⟩:=Zatw l z hl hsh hs 20 0 l.length (Nat.zero_le _) (Nat.le_refl _) (by rw[Nat.sub_zero];exact Nat.lt_trans hl (by decide)) (λj y h=>by omega) (λj y hj hy=>by rw[List.getElem?_eq_none hj]at hy;cases hy) (g-21)
 rw[show 20+1+(g-21)=g from by omega]at hp
 have hlow:∀y∈l.take p,Zeg y z<0:=λy hy=>by
  obtain⟨j,hj⟩:=List.mem_iff_getElem?.1 hy
  rw[List.getElem?_take]at hj
  split at hj
  ·exact h1 j y ‹_› hj
  ·cases hj
 have hhigh:∀y∈l.drop p,¬ Zeg y z<0:=λy hy=>by
  obtain⟨j,hj⟩:=List.mem_iff_getElem?.1 hy
  rw[List.getElem?_drop]at hj
  exact h2 _ y (by omega) hj
 have hsplit:l.take p++l.drop p=l:=List.take_append_drop _ _
 have hpw:(l.take p++l.drop p).Pairwise λa b=>Zeg a b<0:=by rw[hsplit];exact hs
 obtain⟨q1,q2,q3⟩:=List.pairwise_append.1 hpw
 have hmem:z∈l↔z∈l.drop p:=by
  constructor
  ·intro h
   rw[<-hsplit]at h
   rcases List.mem_append.1 h with h|h
   ·have:=hlow z h;rw[Zjx.2 rfl]at this;omega
   ·exact h
  ·exact List.mem_of_mem_drop
 have hput:z∉l->Zzo (l.take p++z :: l.drop p):=λhn=>by
  refine List.pairwise_append.2 ⟨q1,List.pairwise_cons.2 ⟨λy hy=>?_,q2⟩,λa ha b hb=>?_⟩
  ·have h3:=hhigh y hy
   have h4:Zeg y z≠0:=λe=>hn (hmem.2 (by rw[<-Zjx.1 e];exact hy))
   rw[Zahi];omega
  ·rcases List.mem_cons.1 hb with rfl|hb
   ·exact hlow a ha
   ·exact q3 a ha b hb
 rw[Zcu,lM_]
 have hp':Zax l z Zga g 0 (l.length:Int)=some (p:Int):=hp
 rw[hp',Zac]
 by_cases hlt:p<l.length
 ·obtain⟨y,hy,hd⟩:=Zn4 hlt
  rw[Zca hlt,Zby,Zfv hy,Zwz y z (hsh y (mG_ hy)),Zac]
  have hiff:(Zeg y z == 0)=true↔z∈l:=by
   rw[beq_iff_eq,Zjx,hmem,hd]
   constructor
   ·rintro rfl;simp
   ·intro h
    rcases List.mem_cons.1 h with e|h
    ·exact e.symm
    ·rw[hd]at q2
     have:=(List.pairwise_cons.1 q2).1 z h
     exact absurd this (hhigh y (by rw[hd];simp))
  refine⟨p,_,rfl,hpl,hiff,λhf=>hput λhz=>?_⟩
  rw[hiff.2 hz]at hf;cases hf
 ·obtain rfl:p=l.length:=by omega
  have hn:z∉l:=λh=>by have:=hmem.1 h;rw[List.drop_length]at this;cases this
  exact⟨l.length,false,by rw[Zfh,Zbb],hpl,⟨(λh=>nomatch h),(λh=>absurd h hn)⟩,λ_=>hput hn⟩
abbrev Zfu (vars:List Int)(l:List (List Zaa)):Prop:=∀x∈l,Zbi vars (-1) x=true
def Zyk {α:Type} [DecidableEq α](out:List α)(z:α):List α:=if z∈out then out else out++[z]
theorem Zajc {α:Type} [DecidableEq α](out:List α)(z x:α):x∈Zyk out z↔x∈out\/x=z:=by
 unfold Zyk;split
 ·constructor
  ·exact Or.inl
  ·rintro(h|rfl) <;> assumption
 ·simp
theorem Zabv {α:Type} [DecidableEq α]{out:List α}(h:out.Nodup)(z:α):(Zyk out z).Nodup:=by
 unfold Zyk;split
 ·exact h
 ·rename_i hz
  refine List.nodup_append.2 ⟨h,by simp,λa ha b hb=>?_⟩
  rw[mI_]at hb;subst hb
  rintro rfl;exact hz ha
theorem Zaqn {α:Type} [DecidableEq α](out:List α)(z:α):out.length<=(Zyk out z).length:=by
 unfold Zyk;split
 ·exact Nat.le_refl _
 ·simp
theorem Zji {vars:List Int}{l:List Zaa}(h:Zbi vars (-1) l=true):vF (-1) l=true:=Zaks vars l (-1) h
theorem Zab5 {vars:List Int}{a b p:List Zaa}(ha:Zbi vars (-1) a=true)(hb:Zbi vars (-1) b=true)(h:Zui a b=some p):Zbi vars (-1) p=true:=by
 obtain⟨hv,hm⟩:=Zab6 h
 refine(Zfr vars p (-1)).2 ⟨hv,λx hx=>?_⟩
 rcases(hm x).1 hx with h|h
 ·exact((Zfr vars a (-1)).1 ha).2 x h
 ·exact((Zfr vars b (-1)).1 hb).2 x h
def Zoe (x:List Zaa):List (List Zaa)->List (List Zaa)->List (List Zaa)
 | [],out=>out
 | y :: r,out=>Zoe x r (match Zui x y with|some z=>Zyk out z|none=>out)
def Zt0 : List (List Zaa)->List (List Zaa)->List (List Zaa)->List (List Zaa)
 | [],_,out=>out
 | x :: r,b,out=>Zt0 r b (Zoe x b out)
def Zm7 (a b:List (List Zaa)):List (List Zaa):=Zt0 a b []
theorem Zaad (x:List Zaa):∀(b out:List (List Zaa)),out.length<=(Zoe x b out).length
 | [],_=>Nat.le_refl _
 | y :: r,out=>by
  rw[Zoe]
  refine Nat.le_trans ?_ (Zaad x r _)
  split
  ·exact Zaqn _ _
  ·exact Nat.le_refl _
theorem Zab7 : ∀(a b out:List (List Zaa)),out.length<=(Zt0 a b out).length
 | [],_,_=>Nat.le_refl _
 | x :: r,b,out=>Nat.le_trans (Zaad x b out) (Zab7 r b _)
theorem Zaae (x:List Zaa):∀(b out:List (List Zaa)),out.Nodup->(Zoe x b out).Nodup
 | [],_,h=>h
 | y :: r,out,h=>by
  rw[Zoe]
  refine Zaae x r _ ?_
  split
  ·exact Zabv h _
  ·exact h
theorem Zxy : ∀(a b out:List (List Zaa)),out.Nodup->(Zt0 a b out).Nodup
 | [],_,_,h=>h
 | x :: r,b,out,h=>Zxy r b _ (Zaae x b out h)
theorem Zsl (a b:List (List Zaa)):(Zm7 a b).Nodup:=Zxy a b [] List.nodup_nil
theorem Zafz (x:List Zaa)(z:List Zaa):∀(b out:List (List Zaa)),z∈Zoe x b out↔z∈out\/∃y∈b,Zui x y=some z
 | [],out=>by simp[Zoe]
 | y :: r,out=>by
  rw[Zoe,Zafz x z r]
  cases h:Zui x y with
  | none=>simp[h]
  | some w =>
   simp only[Zajc,List.mem_cons]
   constructor
   ·rintro((h'|rfl)|⟨u,hu,h'⟩)
    ·exact Or.inl h'
    ·exact Or.inr ⟨y,Or.inl rfl,h⟩
    ·exact Or.inr ⟨u,Or.inr hu,h'⟩
   ·rintro(h'|⟨u,rfl|hu,h'⟩)
    ·exact Or.inl (Or.inl h')
    ·rw[h]at h';cases h';exact Or.inl (Or.inr rfl)
    ·exact Or.inr ⟨u,hu,h'⟩
theorem Zab8 (z:List Zaa):∀(a b out:List (List Zaa)),z∈Zt0 a b out↔z∈out\/∃x∈a,∃y∈b,Zui x y=some z
 | [],b,out=>by simp[Zt0]
 | x :: r,b,out=>by
  rw[Zt0,Zab8 z r,Zafz,or_assoc]
  simp only[List.mem_cons,exists_eq_or_imp]
theorem Zw7 (z:List Zaa)(a b:List (List Zaa)):z∈Zm7 a b↔∃x∈a,∃y∈b,Zui x y=some z:=by
 rw[Zm7,Zab8];simp
theorem Zjh {vars:List Int}{a b:List (List Zaa)}(ha:Zfu vars a)(hb:Zfu vars b):Zfu vars (Zm7 a b):=λz hz=>by
 obtain⟨x,hx,y,hy,h⟩:=(Zw7 z a b).1 hz
 exact Zab5 (ha x hx) (hb y hy) h
structure JInv (vars:List Int)(s o:List (List Zaa)):Prop where
 asc:Zzo s
 len:s.length=o.length
 mem:∀z,z∈s↔z∈o
 prop:Zfu vars o
theorem Zkj {vars:List Int}(hv:vars.length<=64){x:List Zaa}(h:Zbi vars (-1) x=true):x.length<=64:=Nat.le_trans (Ztg h) hv
theorem Zjj {vars:List Int}(hv:vars.length<=64){x:List Zaa}(h:Zbi vars (-1) x=true):Sh x:=Nat.le_trans (Zkj hv h) (by decide)
theorem Zarb (vars:List Int)(hv:vars.length<=64)(g:Nat)(hg:21<=g)(b:List (List Zaa))(x:List Zaa)(hx:Zbi vars (-1) x=true) :
  ∀(r:List (List Zaa)) (i:Int) (s o:List (List Zaa)),Zfu vars r->JInv vars s o->o.length<=1024 ->
  ∃res,Rg (Zqj b g x) (Zu2 b g x) r i (s,o)=some res /\
   ((Zoe x r o).length<=1024->∃s',res=.inl (s',Zoe x r o)/\JInv vars s' (Zoe x r o))/\(1024<(Zoe x r o).length->res=.inr ([],Er.no 5))
 | [],i,s,o,hr,hi,ho=>⟨_,rfl,λ_=>⟨s,rfl,hi⟩,λh=>absurd h (by rw[Zoe];omega)⟩
 | y :: r,i,s,o,hr,hi,ho=>by
  have hy:=hr y (mS_ ..)
  have hr':Zfu vars r:=λu hu=>hr u (mC_ _ hu)
  have l1:=Zkj hv hx
  have l2:=Zkj hv hy
  rw[Rg,Zqj,ixv,Zauh x y (by omega) (Zji hx) (Zji hy)]
  cases h:Zui x y with
  | none =>
   rw[show Zoe x (y :: r) o=Zoe x r o from by rw[Zoe,h],Zarc,h,Zc6,Bool.not_false,Zby]
   exact Zarb vars hv g hg b x hx r _ s o hr' hi ho
  | some z =>
   have hz:=Zab5 hx hy h
   rw[show Zoe x (y :: r) o=Zoe x r (Zyk o z)from by rw[Zoe,h],Zarc,h,Zc6,Bool.not_true,Zbb,Zan (by rw[hi.len];omega)]
   obtain⟨p,f,he,hp,hf,hput⟩:=Zall s z g hg (by rw[hi.len];omega) (λu hu=>Zjj hv (hi.prop u ((hi.mem u).1 hu))) hi.asc
   rw[he,Zc6]
   cases f with
   | true =>
    rw[Zby,Zyk,if_pos ((hi.mem z).1 (hf.1 rfl))]
    exact Zarb vars hv g hg b x hx r _ s o hr' hi ho
   | false =>
    have hno:z∉o:=λhz=>by have:=hf.2 ((hi.mem z).2 hz);cases this
    rw[Zbb,Zyk,if_neg hno]
    by_cases hm:o.length=1024
    ·rw[show(((o.length:Nat):Int) == 1024)=true from by rw[hm];rfl,Zby]
     have:=Zaad x r (o++[z])
     rw[lA_,List.length_singleton,hm]at this
     exact⟨_,rfl,λh=>absurd h (by omega),λ_=>rfl⟩
    ·rw[show(((o.length:Nat):Int) == 1024)=false from by simp;omega,Zbb,Zr8,Zan (by omega),Zan (by omega),Zan (by rw[hi.len];omega),Zac,Zan (by omega),Int.toNat_natCast]
     refine Zarb vars hv g hg b x hx r _ _ (o++[z]) hr' ⟨hput rfl,?_,λu=>?_,λu hu=>?_⟩ (by rw[lA_,List.length_singleton];omega)
     ·have:=hi.len
      simp only[lA_,lC_,List.length_take,List.length_drop,List.length_nil];omega
     ·rw[List.mem_append,List.mem_cons,List.mem_append,mI_,<-hi.mem u]
      conv=>rhs;rw[<-List.take_append_drop p s,List.mem_append]
      constructor
      ·rintro(h|h|h)
       ·exact Or.inl (Or.inl h)
       ·exact Or.inr h
       ·exact Or.inl (Or.inr h)
      ·rintro((h|h)|h)
       ·exact Or.inl h
       ·exact Or.inr (Or.inr h)
       ·exact Or.inr (Or.inl h)
     ·rcases List.mem_append.1 hu with h|h
      ·exact hi.prop u h
      ·rw[mI_.1 h];exact hz
def capR (l:List (List Zaa)):List (List Zaa)×Er:=if l.length<=1024 then(l,Er.nil)else([],Er.no 5)
theorem Zawe (vars:List Int)(hv:vars.length<=64)(g:Nat)(hg:21<=g)(a b:List (List Zaa))(hb:Zfu vars b)(hbl:Sh b) :
  ∀(r:List (List Zaa)) (i:Int) (s o:List (List Zaa)),Zfu vars r->JInv vars s o->o.length<=1024 ->
  Rg (Zk6 a b g) (Znd a b g) r i (s,o)=some (capR (Zt0 r b o))
 | [],i,s,o,hr,hi,ho=>by rw[Rg,Znd,Zt0,capR,if_pos ho];exact Zan (by omega)
 | x :: r,i,s,o,hr,hi,ho=>by
  have hx:=hr x (mS_ ..)
  have hr':Zfu vars r:=λu hu=>hr u (mC_ _ hu)
  rw[Rg,Zk6,ixv,Zabd b g x s o hbl.lt,Zt0]
  obtain⟨res,he,h1,h2⟩:=Zarb vars hv g hg b x hx b 0 s o hb hi ho
  rw[he,Zac]
  by_cases h:(Zoe x b o).length<=1024
  ·obtain⟨s',rfl,hi'⟩:=h1 h
   rw[Zbv]
   exact Zawe vars hv g hg a b hb hbl r _ s' _ hr' hi' h
  ·rw[h2 (by omega),Ziz,capR,if_neg (by have:=Zab7 r b (Zoe x b o);omega)]
theorem Zakx (vars:List Int)(hv:vars.length<=64)(g:Nat)(hg:21<=g)(a b:List (List Zaa))(ha:Zfu vars a)(hb:Zfu vars b)(hal:Sh a)(hbl:Sh b) :
  Znc g a b=some (capR (Zm7 a b)):=by
 rw[Znc,Zabe a b g [] [] hal.lt]
 exact Zawe vars hv g hg a b hb hbl a 0 [] [] ha ⟨List.Pairwise.nil,rfl,λ_=>Iff.rfl,λ_ h=>nomatch h⟩ (by decide)
def Zt2 (f:Zaa):Nat->Int->List (List Zaa)
 | 0,_=>[]
 | m+1,i=>(if i≠f.2 then[[(f.1,i)]]else[])++Zt2 f m (i+1)
def silF (vars:List Int)(w:List Zaa):List (List Zaa):=w.flatMap λf=>Zt2 f (vars.getD f.1.toNat 0).toNat 0
theorem Zxk (f:Zaa):∀(m:Nat)(i:Int),(Zt2 f m i).length<=m
 | 0,_=>Nat.le_refl _
 | m+1,i=>by
  rw[Zt2,lA_]
  have:=Zxk f m (i+1)
  split <;> simp <;> omega
theorem Zxl (f:Zaa)(z:List Zaa):∀(m:Nat)(i:Int),z∈Zt2 f m i↔∃y:Int,i<=y/\y<i+m/\y≠f.2/\z=[(f.1,y)]
 | 0,i=>by rw[Zt2];constructor;exact(nofun);rintro⟨y,h1,h2,-⟩;omega
 | m+1,i=>by
  rw[Zt2,List.mem_append,Zxl f z m]
  constructor
  ·rintro(h|⟨y,h1,h2,h3⟩)
   ·split at h
    ·exact⟨i,Int.le_refl _,by omega,‹_›,mI_.1 h⟩
    ·cases h
   ·exact⟨y,by omega,by omega,h3⟩
  ·rintro⟨y,h1,h2,h3,h4⟩
   rcases Int.lt_or_eq_of_le h1 with h|rfl
   ·exact Or.inr ⟨y,by omega,by omega,h3,h4⟩
   ·left;rw[if_pos h3,h4];exact mI_.2 rfl
theorem Zad8 {vars:List Int}{w:List Zaa}{z:List Zaa}:z∈silF vars w↔∃f∈w,∃y:Int,0<=y/\y<(vars.getD f.1.toNat 0).toNat/\y≠f.2/\z=[(f.1,y)]:=by
 rw[silF,List.mem_flatMap]
 constructor
 ·rintro⟨f,hf,h⟩
  obtain⟨y,h1,h2,h3⟩:=(Zxl f z _ _).1 h
  exact⟨f,hf,y,h1,by omega,h3⟩
 ·rintro⟨f,hf,y,h1,h2,h3⟩
  exact⟨f,hf,(Zxl f z _ _).2 ⟨y,h1,by omega,h3⟩⟩
theorem Zak0 {vars:List Int}(hd:∀n∈vars,n<=64):∀w:List Zaa,(silF vars w).length<=w.length*64
 | []=>Nat.le_refl _
 | f :: r=>by
  have h1:=Zak0 hd r
  have h2:=Zxk f (vars.getD f.1.toNat 0).toNat 0
  have h3:vars.getD f.1.toNat 0<=64:=by
   rw[gD_]
   cases h:vars[f.1.toNat]? with
   | none=>simp
   | some n=>exact hd n (mG_ h)
  rw[silF,List.flatMap_cons,lA_,lC_]
  rw[silF]at h1
  omega
theorem Zv1 {vars:List Int}{w:List Zaa}(hw:Zbi vars (-1) w=true):Zfu vars (silF vars w):=λz hz=>by
 obtain⟨f,hf,y,h1,h2,-,rfl⟩:=Zad8.1 hz
 obtain⟨hv,hr⟩:=(Zfr vars w (-1)).1 hw
 have hn:=((Zgv w).1 hv).1 f hf
 have:=hr f hf
 refine(Zfr vars _ (-1)).2 ⟨(Zgv _).2 ⟨λx hx=>?_,List.pairwise_singleton ..⟩,λx hx=>?_⟩
 ·rw[mI_.1 hx];exact⟨hn.1,h1⟩
 ·rw[mI_.1 hx];exact⟨this.1,by show y<vars.getD f.1.toNat 0;omega⟩
theorem Zain (f:Zaa)(d:Int):∀(m n:Nat)(v:List (List Zaa)),(v.length+m)<=1000000->Rn (Znw f d) (Znx f d) m n v=some (v++Zt2 f m n)
 | 0,n,v,h=>by rw[Rn,Znx,Zt2,List.append_nil]
 | m+1,n,v,h=>by
  rw[Rn,Znw,Zt2]
  by_cases hn:(n:Int)=f.2
  ·rw[show((n:Int) != f.2)=false from by simp[hn],Zbb,if_neg (by simp[hn]),List.nil_append]
   exact Zain f d m (n+1) v (by omega)
  ·rw[show((n:Int) != f.2)=true from by simp[hn],Zby,if_pos hn,Zan (by omega),<-List.append_assoc]
   exact Zain f d m (n+1) _ (by simp;omega)
theorem Zapj (vars:List Int)(hd:∀n∈vars,0<=n/\n<=64)(e:Zaq):∀(r:List Zaa)(i:Int)(v:List (List Zaa)),(∀f∈r,0<=f.1/\f.1<vars.length)->v.length+r.length*64<=100000 ->
  Rg (Zi8 vars e) (Zk7 vars e) r i v=some (v++silF vars r)
 | [],i,v,hr,h=>by rw[Rg,Zk7,silF,List.flatMap_nil,List.append_nil]
 | f :: r,i,v,hr,h=>by
  have hf:=hr f (mS_ ..)
  obtain⟨d,hdd⟩:∃d,vars[f.1.toNat]?=some d:=⟨_,gE_ (by omega)⟩
  have hd':=hd d (mG_ hdd)
  rw[Rg,Zi8,ixv,Zlh (d:=0) hf.1 hf.2,gD_,hdd,Option.getD_some,Zyi f d v (m:=d.toNat) (by omega) (by omega)]
  have h1:=Zain f d d.toNat 0 v (by rw[lC_]at h;omega)
  rw[show((0:Nat):Int)=0 from rfl]at h1
  rw[h1,Zac,Zapj vars hd e r _ _ (λu hu=>hr u (mC_ _ hu)) (by have:=Zxk f d.toNat 0;rw[lC_]at h;rw[lA_];omega)]
  rw[silF,silF,List.flatMap_cons,List.append_assoc,gD_,hdd,Option.getD_some]
theorem Zapk (vars:List Int)(hd:∀n∈vars,0<=n/\n<=64)(e:Zaq)(hv:vars.length<=64)(hw:Zbi vars (-1) e.When=true) :
  Znj vars e=some (capR (silF vars e.When)):=by
 have hl:=Zkj hv hw
 obtain⟨h1,h2⟩:=(Zfr vars _ (-1)).1 hw
 have hn:=((Zgv _).1 h1).1
 rw[Znj,Zyj vars e [] (by omega),Zapj vars hd e e.When 0 [] (λf hf=>⟨(hn f hf).1,(h2 f hf).1⟩) (by simp;omega),Zac,List.nil_append,Zar,capR]
 by_cases h:(silF vars e.When).length<=1024
 ·rw[if_neg (by omega),if_pos h,Zan (by omega)]
 ·rw[if_pos (by omega),if_neg h]
def capO (l:List (List Zaa)):Option (List (List Zaa)):=if l.length<=1024 then some l else none
def resR : Option (List (List Zaa))->List (List Zaa)×Er
 | some l=>(l,Er.nil)
 | none=>([],Er.no 5)
theorem Zac6 (l:List (List Zaa)):capR l=resR (capO l):=by unfold capR capO;split <;> rfl
theorem Zjd {l m:List (List Zaa)}(h:capO l=some m):m=l/\l.length<=1024:=by
 unfold capO at h;split at h
 ·exact⟨(sI_ h).symm,‹_›⟩
 ·cases h
theorem Zw8 {γ:Type}{K:List (List Zaa)->Option γ}{F:Int->Option γ}:∀o:Option (List (List Zaa)),ob2 (some (resR o)) (λz e=>erM e (K z) F)=match o with|some l=>K l|none=>F 5
 | some _=>rfl
 | none=>rfl
def Zjk (vars:List Int)(f:Zaa):List Zaq->List (List Zaa)->Option (List (List Zaa))
 | [],l=>some l
 | e :: r,l=>if e.Val=f.2 then Zjk vars f r l else(capO (silF vars e.When)).bind λq=>(capO (Zm7 l q)).bind λj=>Zjk vars f r j
def Zjz (vars:List Int)(f:Zaa):List Zaq->Option (List (List Zaa))
 | []=>some []
 | e :: r=>(Zjz vars f r).bind λout=>if e.Val=f.2 then(Zjk vars f r [e.When]).map (λl=>l.foldl Zyk out)else some out
def Zvl (vars:List Int)(f:Zaa)(es:List Zaq):Option (List (List Zaa)):=(Zjz vars f es).bind λout=>(Zjk vars f es [[f]]).map (λl=>l.foldl Zyk out)
def Zn0 (vars:List Int)(o:GOp)(f:Zaa):Option (List (List Zaa)):=(Zvl vars f (o.Effs.filter (λe=>e.Var == f.1))).bind capO
structure Ok (vars:List Int):Prop where
 len:vars.length<=64
 dom:∀n∈vars,0<=n/\n<=64
abbrev Zle (vars:List Int)(es:List Zaq):Prop:=∀e∈es,Zbi vars (-1) e.When=true
theorem Zn7 {vars:List Int}{f:Zaa}:∀{es:List Zaq}{l j:List (List Zaa)},Zle vars es->Zfu vars l->l.length<=1024->Zjk vars f es l=some j->Zfu vars j/\j.length<=1024
 | [],l,j,_,hl,hc,h=>by rw[Zjk]at h;cases h;exact⟨hl,hc⟩
 | e :: r,l,j,he,hl,hc,h=>by
  have he':Zle vars r:=λu hu=>he u (mC_ _ hu)
  rw[Zjk]at h
  split at h
  ·exact Zn7 he' hl hc h
  ·cases hq:capO (silF vars e.When)with
   | none=>rw[hq]at h;cases h
   | some q =>
    rw[hq,Option.bind_some]at h
    cases hj:capO (Zm7 l q)with
    | none=>rw[hj]at h;cases h
    | some m =>
     rw[hj,Option.bind_some]at h
     obtain⟨rfl,-⟩:=Zjd hq
     obtain⟨rfl,hc'⟩:=Zjd hj
     exact Zn7 he' (Zjh hl (Zv1 (he e (mS_ ..)))) hc' h
theorem Zmn {α:Type} [DecidableEq α](x:α):∀(l out:List α),x∈l.foldl Zyk out↔x∈out\/x∈l
 | [],out=>by simp
 | y :: r,out=>by rw[List.foldl_cons,Zmn x r,Zajc,List.mem_cons,or_assoc]
theorem Zafk {α:Type} [DecidableEq α]:∀(l out:List α),(l.foldl Zyk out).length<=out.length+l.length
 | [],out=>by simp
 | y :: r,out=>by
  rw[List.foldl_cons]
  have h1:=Zafk r (Zyk out y)
  have h2:(Zyk out y).length<=out.length+1:=by unfold Zyk;split <;> simp
  rw[lC_];omega
theorem Zqy {vars:List Int}{f:Zaa}:∀{es:List Zaq}{j:List (List Zaa)},Zle vars es->Zjz vars f es=some j->Zfu vars j/\j.length<=es.length*1024
 | [],j,_,h=>by rw[Zjz]at h;cases h;exact⟨(λ_ h=>nomatch h),Nat.le_refl _⟩
 | e :: r,j,he,h=>by
  have he':Zle vars r:=λu hu=>he u (mC_ _ hu)
  rw[Zjz]at h
  cases hr:Zjz vars f r with
  | none=>rw[hr]at h;cases h
  | some out =>
   obtain⟨i1,i2⟩:=Zqy he' hr
   rw[hr,Option.bind_some]at h
   split at h
   ·cases hq:Zjk vars f r [e.When]with
    | none=>rw[hq]at h;cases h
    | some q =>
     rw[hq,Option.map_some]at h
     cases h
     obtain⟨q1,q2⟩:=Zn7 he' (λx hx=>by rw[mI_.1 hx];exact he e (mS_ ..)) (by simp) hq
     refine⟨λx hx=>?_,?_⟩
     ·rcases(Zmn x q out).1 hx with h|h
      ·exact i1 x h
      ·exact q1 x h
     ·have:=Zafk q out
      rw[lC_];omega
   ·obtain rfl:=sI_ h
    refine⟨i1,Nat.le_trans i2 (Nat.mul_le_mul_right _ ?_)⟩
    rw[lC_];omega
def sumR : Option (List (List Zaa))->List (List Zaa)⊕(List (List Zaa)×Er)
 | some l=>.inl l
 | none=>.inr ([],Er.no 5)
theorem Zann {vars:List Int}(ho:Ok vars)(f:Zaa)(g:Nat)(hg:21<=g)(es:List Zaq)(n:Nat)(hes:es.length<=64)(hp:Zle vars es)(i:Int)(hi:IntKind.i64.wrap (i+1)=(n:Int)):∀(r:List Zaq)(k:Nat)(l:List (List Zaa)),es.drop (n+k)=r->Zfu vars l->l.length<=1024 ->
  Rn (Zo5 vars f g es i) (Zo6 vars f g es i) r.length k l=some (sumR (Zjk vars f r l))
 | [],k,l,hr,hl,hc=>by rw[List.length_nil,Rn,Zo6,Zjk,sumR]
 | e :: r,k,l,hr,hl,hc=>by
  obtain⟨hy,hd,hlt⟩:=Zc5 hr
  have hd':es.drop (n+(k+1))=r:=hd
  have hw:=hp e (mG_ hy)
  rw[lC_,Rn,Zo5,hi,Int.toNat_natCast,Int.toNat_natCast,Zdp hy,Zan (by omega),Zan (by omega),Zjk]
  by_cases hv:e.Val=f.2
  ·rw[show(e.Val == f.2)=true from by simp[hv],Zby,if_pos hv]
   exact Zann ho f g hg es n hes hp i hi r (k+1) l hd' hl hc
  ·rw[show(e.Val == f.2)=false from by simp[hv],Zbb,if_neg hv,Zapk vars ho.dom e ho.len hw,Zac6,Zw8]
   cases hq:capO (silF vars e.When)with
   | none=>rfl
   | some q =>
    obtain⟨rfl,hqc⟩:=Zjd hq
    have hqp:=Zv1 hw
    rw[Option.bind_some]
    show ob2 (Znc g l (silF vars e.When)) _=_
    rw[Zakx vars ho.len g hg l _ hl hqp (Nat.le_trans hc (by decide)) (Nat.le_trans hqc (by decide)),Zac6,Zw8]
    cases hj:capO (Zm7 l (silF vars e.When))with
    | none=>rfl
    | some m =>
     obtain⟨rfl,hmc⟩:=Zjd hj
     rw[Option.bind_some]
     exact Zann ho f g hg es n hes hp i hi r (k+1) _ hd' (Zjh hl hqp) hmc
theorem Zalm (x y:List Zaa)(hy:Sh y):Zkm x y=some (decide (y=x)):=by
 rw[Zkm,Zwz y x hy,Zac]
 congr 1
 by_cases h:y=x
 ·rw[decide_eq_true h,beq_iff_eq,Zjx,h]
 ·rw[decide_eq_false h,beq_eq_false_iff_ne,Ne,Zjx];exact h
theorem Zatq (l:List (List Zaa))(x:List Zaa):l.any (λy=>decide (y=x))=decide (x∈l):=by
 rw[Bool.eq_iff_iff,List.any_eq_true,decide_eq_true_iff]
 constructor
 ·rintro⟨y,hy,h⟩;rw[<-of_decide_eq_true h];exact hy
 ·intro h;exact⟨x,h,decide_eq_true rfl⟩
theorem Zanp (q:List (List Zaa)):∀(r:List (List Zaa))(i:Int)(v:List (List Zaa)),v.length+r.length<=1000000->(∀x∈v,Sh x)->(∀x∈r,Sh x) ->
  Rg (Zo7 q) (Ztx q) r i v=some (.inl (r.foldl Zyk v))
 | [],i,v,_,_,_=>rfl
 | y :: r,i,v,h,hv,hr=>by
  have hr':∀x∈r,Sh x:=λu hu=>hr u (mC_ _ hu)
  rw[lC_]at h
  rw[Rg,Zo7,ixv,Zan (by omega),Zn2 (p:=λx=>decide (x=y)) (by show _<=_;omega) (λx hx=>Zalm y x (hv x hx)),Zac,Zatq,List.foldl_cons]
  by_cases hm:y∈v
  ·rw[decide_eq_true hm,Bool.not_true,Zbb,Zyk,if_pos hm]
   exact Zanp q r _ v (by omega) hv hr'
  ·rw[decide_eq_false hm,Bool.not_false,Zby,Zyk,if_neg hm,Zan (by omega)]
   refine Zanp q r _ _ (by rw[lA_,List.length_singleton];omega) (λx hx=>?_) hr'
   rcases List.mem_append.1 hx with h|h
   ·exact hv x h
   ·rw[mI_.1 h];exact hr y (mS_ ..)
theorem Zzv {vars:List Int}{f:Zaa}{es:List Zaq}:∀n:Nat,Zjz vars f (es.drop n)=none->Zjz vars f es=none
 | 0,h=>h
 | n+1,h=>by
  refine Zzv n ?_
  rcases Nat.lt_or_ge n es.length with hn|hn
  ·obtain⟨y,-,hd⟩:=Zn4 hn
   rw[hd,Zjz,h];rfl
  ·rw[List.drop_eq_nil_of_le hn]
   rw[List.drop_eq_nil_of_le (by omega)]at h
   exact h
theorem Zano {vars:List Int}(ho:Ok vars)(f:Zaa)(g:Nat)(hg:21<=g)(es:List Zaq)(n:Nat)(hes:es.length<=64)(hp:Zle vars es)(hn:n<=es.length)(l out:List (List Zaa))(hl:Zfu vars l)(hlc:l.length<=1024)(hout:Zfu vars out)(hoc:out.length<=70000) :
  ob1 (grd (0<=(IntKind.i64.wrap (((n:Int)-1)+1))) (grd ((IntKind.i64.wrap (((n:Int)-1)+1)).toNat<=es.length) (Zfz vars f g es ((n:Int)-1) ((((es.length-(IntKind.i64.wrap (((n:Int)-1)+1)).toNat:Nat):Int)).toNat+1) l 0)))
   (Zj9 (λv892=>Zf0 v892 ((((v892.map Zal).length:Int)).toNat+1) 0 out) (λ(r893,r894)=>some (.inr (r893,r894)))) =
  some (sumR ((Zjk vars f (es.drop n) l).map (λl=>l.foldl Zyk out))):=by
 have hi:IntKind.i64.wrap (((n:Int)-1)+1)=(n:Int):=by rw[w64 (by omega) (by omega)];omega
 have h2:=Zann ho f g hg es n hes hp _ hi (es.drop n) 0 l rfl hl hlc
 rw[Zzj vars f g es _ l (m:=(es.drop n).length) (by rw[hi,List.length_drop];rfl) (by rw[List.length_drop];omega),hi,Zan (by omega),Zan (by omega)]
 rw[show((0:Nat):Int)=0 from rfl]at h2
 rw[h2,Zac]
 cases hq:Zjk vars f (es.drop n) l with
 | none=>rfl
 | some q =>
  obtain⟨q1,q2⟩:=Zn7 (λe he=>hp e (List.mem_of_mem_drop he)) hl hlc hq
  rw[sumR,Zbv,Zzk q out (by omega),Zanp q q 0 out (by omega) (λx hx=>Zjj ho.len (hout x hx)) (λx hx=>Zjj ho.len (q1 x hx))]
  rfl
theorem Zanq {vars:List Int}(ho:Ok vars)(f:Zaa)(g:Nat)(hg:21<=g)(es:List Zaq)(hes:es.length<=64)(hp:Zle vars es)(hf:Zbi vars (-1) [f]=true):∀(n:Nat)(k:Nat)(out:List (List Zaa)),n<=es.length->Zjz vars f (es.drop n)=some out ->
  Zf1 vars f g es (n+2+k) ((n:Int)-1) out=some (sumR (Zvl vars f es))
 | 0,k,out,hn,h=>by
  obtain⟨o1,o2⟩:=Zqy (λe he=>hp e (List.mem_of_mem_drop he)) h
  rw[show 0+2+k=(0+1+k)+1 from by omega,Zf1,Zar,if_pos (by decide),Zar,if_neg (by decide),Zac,Zbv,
   Zano ho f g hg es 0 hes hp hn [[f]] out (λx hx=>by rw[mI_.1 hx];exact hf) (by simp) o1 (by rw[List.drop_zero]at o2;omega),Zac,Zvl]
  rw[List.drop_zero]at h ⊢
  rw[h,Option.bind_some]
  cases (Zjk vars f es [[f]])with
  | none=>rfl
  | some q =>
   rw[Option.map_some,sumR,Zbv,show 0+1+k=k+1 from by omega,Zf1,Zar,if_neg (by decide)]
 | n+1,k,out,hn,h=>by
  obtain⟨e,hy,hd⟩:=Zn4 (l:=es) (n:=n) (by omega)
  obtain⟨o1,o2⟩:=Zqy (λe he=>hp e (List.mem_of_mem_drop he)) h
  rw[show n+1+2+k=(n+2+k)+1 from by omega,Zf1,Zar,if_pos (by omega),Zar,if_pos (by omega),show((n+1:Nat):Int)-1=(n:Int)from by omega,Int.toNat_natCast,Zdp hy,Zan (by omega),Zan (by omega)]
  have hnext:IntKind.i64.wrap ((n:Int)-1)=(n:Int)-1:=w64 (by omega) (by omega)
  have hG:Zjz vars f (es.drop n)=if e.Val=f.2 then(Zjk vars f (es.drop (n+1)) [e.When]).map (λl=>l.foldl Zyk out)else some out:=by rw[hd,Zjz,h];rfl
  by_cases hv:e.Val=f.2
  ·rw[if_pos hv]at hG
   have h23:=Zano ho f g hg es (n+1) hes hp hn [e.When] out (λx hx=>by rw[mI_.1 hx];exact hp e (mG_ hy)) (by simp) o1 (by rw[List.length_drop]at o2;omega)
   rw[show((n+1:Nat):Int)-1=(n:Int)from by omega,<-hG]at h23
   rw[show(e.Val != f.2)=false from by simp[hv],Zbb,Zdp hy,Zac,Zbv,h23,Zac]
   cases hc:Zjz vars f (es.drop n)with
   | none=>rw[sumR,Ziz,Zvl,Zzv n hc];rfl
   | some out' =>
    rw[sumR,Zbv,hnext]
    exact Zanq ho f g hg es hes hp hf n k out' (by omega) hc
  ·rw[if_neg hv]at hG
   rw[show(e.Val != f.2)=true from by simp[hv],Zby,Zac,Ziz,Zac,Zbv,hnext]
   exact Zanq ho f g hg es hes hp hf n k out (by omega) hG
theorem Zanm (o:GOp)(f:Zaa):∀(r:List Zaq)(i:Int)(v:List Zaq),v.length+r.length<=1000000->Rg (Zo3 o f) (Zo4 o f) r i v=some (v++r.filter (λe=>e.Var == f.1))
 | [],i,v,h=>by rw[Rg,Zo4,List.filter_nil,List.append_nil]
 | e :: r,i,v,h=>by
  rw[lC_]at h
  rw[Rg,Zo3,ixv]
  cases hv:e.Var == f.1 with
  | true =>
   rw[Zby,Zan (by omega),Zanm o f r _ _ (by rw[lA_,List.length_singleton];omega),List.filter_cons,hv,if_pos rfl,List.append_assoc,List.singleton_append]
  | false =>
   rw[Zbb,Zanm o f r _ _ (by omega),List.filter_cons,hv,if_neg (by decide)]
theorem Zaqw {vars:List Int}(ho:Ok vars)(o:GOp)(f:Zaa)(g:Nat)(hg:70<=g)(hes:o.Effs.length<=64)(hp:Zle vars o.Effs)(hf:Zbi vars (-1) [f]=true) :
  Zpn g vars o f=some (resR (Zn0 vars o f)):=by
 rw[Zpn,Zzi o f [] (by omega),Zanm o f o.Effs 0 [] (by simp;omega),List.nil_append,Zac,Zn0]
 have hle:(o.Effs.filter (λe=>e.Var == f.1)).length<=64:=Nat.le_trans (List.length_filter_le _ _) hes
 have hp':Zle vars (o.Effs.filter (λe=>e.Var == f.1)):=λe he=>hp e (List.mem_filter.1 he).1
 generalize o.Effs.filter (λe=>e.Var == f.1)=es at hle hp'
 have h4:=Zanq ho f g (by omega) es hle hp' hf es.length (g-(es.length+2)) [] (Nat.le_refl _) (by rw[List.drop_length,Zjz])
 rw[show es.length+2+(g-(es.length+2))=g from by omega]at h4
 rw[w64 (by omega) (by omega),h4,Zac]
 cases Zvl vars f es with
 | none=>rfl
 | some l =>
  rw[sumR,Zbv,Zar,Option.bind_some,capO]
  by_cases h:l.length<=1024
  ·rw[if_neg (by omega),if_pos h];exact Zan (by omega)
  ·rw[if_pos (by omega),if_neg h];rfl
def mapC (vars:List Int)(o:GOp):List Zaa->Option (List (List (List Zaa)))
 | []=>some []
 | f :: r=>(Zn0 vars o f).bind λc=>(mapC vars o r).map (c :: ·)
def Zahs : List (List (List Zaa))->List (List Zaa)->Option (List (List Zaa))
 | [],l=>some l
 | c :: r,l=>(capO (Zm7 l c)).bind (Zahs r)
def regG (vars:List Int)(o:GOp):List Zaa->List (List Zaa)->Option (List (List Zaa))
 | [],l=>some l
 | f :: r,l=>(Zn0 vars o f).bind λc=>(capO (Zm7 l c)).bind (regG vars o r)
theorem Zab9 (vars:List Int)(o:GOp):∀(p:List Zaa)(l:List (List Zaa)),(mapC vars o p).bind (λcs=>Zahs cs l)=regG vars o p l
 | [],l=>rfl
 | f :: r,l=>by
  rw[mapC,regG]
  cases Zn0 vars o f with
  | none=>rfl
  | some c =>
   rw[Option.bind_some,Option.bind_some]
   cases hc:capO (Zm7 l c)with
   | none=>cases mapC vars o r <;> simp[Zahs,hc]
   | some j =>
    rw[Option.bind_some,<-Zab9 vars o r j]
    cases mapC vars o r <;> simp[Zahs,hc]
theorem Zue {vars:List Int}{o:GOp}{f:Zaa}{c:List (List Zaa)}(hp:Zle vars o.Effs)(hf:Zbi vars (-1) [f]=true)(h:Zn0 vars o f=some c):Zfu vars c/\c.length<=1024:=by
 unfold Zn0 at h
 have hp':Zle vars (o.Effs.filter (λe=>e.Var == f.1)):=λe he=>hp e (List.mem_filter.1 he).1
 generalize o.Effs.filter (λe=>e.Var == f.1)=es at h hp'
 cases he:Zvl vars f es with
 | none=>rw[he]at h;cases h
 | some l =>
  rw[he,Option.bind_some]at h
  obtain⟨rfl,hc⟩:=Zjd h
  refine⟨?_,hc⟩
  unfold Zvl at he
  cases hg:Zjz vars f es with
  | none=>rw[hg]at he;cases he
  | some out =>
   rw[hg,Option.bind_some]at he
   cases hq:Zjk vars f es [[f]]with
   | none=>rw[hq]at he;cases he
   | some q =>
    rw[hq,Option.map_some]at he
    cases he
    intro x hx
    rcases(Zmn x q out).1 hx with h|h
    ·exact(Zqy hp' hg).1 x h
    ·exact(Zn7 hp' (λx hx=>by rw[mI_.1 hx];exact hf) (by simp) hq).1 x h
theorem Zsq {vars:List Int}{p:List Zaa}(h:Zbi vars (-1) p=true){f:Zaa}(hf:f∈p):Zbi vars (-1) [f]=true:=by
 obtain⟨h1,h2⟩:=(Zfr vars p (-1)).1 h
 have hn:=((Zgv p).1 h1).1 f hf
 refine(Zfr vars _ (-1)).2 ⟨(Zgv _).2 ⟨λx hx=>?_,List.pairwise_singleton ..⟩,λx hx=>?_⟩
 ·rw[mI_.1 hx];exact hn
 ·rw[mI_.1 hx];exact h2 f hf
def sumC : Option (List (List (List Zaa)))->List (List (List Zaa))⊕(List (List Zaa)×Er)
 | some l=>.inl l
 | none=>.inr ([],Er.no 5)
theorem pre1 (t:Zah)(ho:Ok t.Vars)(p:List Zaa)(hpf:Zbi t.Vars (-1) p=true)(g:Nat)(hg:70<=g)(o:GOp)(hes:o.Effs.length<=64)(hp:Zle t.Vars o.Effs):∀(r:List Zaa)(acc:List (List (List Zaa))),(∀f∈r,f∈p) ->
  Rg (Zjr t p g o) (Zjs t p g o) r acc.length (acc++List.replicate r.length [])=some (sumC ((mapC t.Vars o r).map (acc++·)))
 | [],acc,hr=>by rw[Rg,Zjs,mapC,Option.map_some];rfl
 | f :: r,acc,hr=>by
  have hf:=hr f (mS_ ..)
  rw[Rg,Zjr,ixv,Zaqw ho o f g hg hes hp (Zsq hpf hf),Zw8,mapC]
  cases Zn0 t.Vars o f with
  | none=>rfl
  | some c =>
   have he:(acc++List.replicate (f :: r).length ([]:List (List Zaa)))[acc.length]?=some []:=by simp[List.replicate_succ]
   have hs:(acc++List.replicate (f :: r).length ([]:List (List Zaa))).set acc.length c=(acc++[c])++List.replicate r.length []:=by
    rw[List.set_append_right _ _ (Nat.le_refl _),Nat.sub_self,lC_,List.replicate_succ,List.set_cons_zero,List.append_assoc,List.singleton_append]
   rw[Option.bind_some]
   show ixn _ _ _=_
   rw[Int.toNat_natCast,Zdp he,Zan (by simp;omega),hs]
   have ih:=pre1 t ho p hpf g hg o hes hp r (acc++[c]) (λu hu=>hr u (mC_ _ hu))
   rw[show((acc++[c]).length:Int)=(acc.length:Int)+1 from by simp]at ih
   rw[ih]
   cases mapC t.Vars o r with
   | none=>rfl
   | some cs=>simp
theorem pre2 {vars:List Int}(hv:vars.length<=64)(g:Nat)(hg:21<=g)(cs:List (List (List Zaa)))(hcs:∀c∈cs,Zfu vars c/\c.length<=1024):∀(r:List (List (List Zaa)))(n:Nat)(l:List (List Zaa)),cs.drop n=r->Zfu vars l->l.length<=1024 ->
  Rn (Zl2 g cs) (Zl3 g cs) r.length n l=some (resR (Zahs r l))
 | [],n,l,h,hl,hc=>by rw[List.length_nil,Rn,Zl3,Zahs,resR]
 | c :: r,n,l,h,hl,hc=>by
  obtain⟨hy,hd,hlt⟩:=Zc5 h
  obtain⟨c1,c2⟩:=hcs c (mG_ hy)
  rw[lC_,Rn,Zl2,Int.toNat_natCast,Zdp hy,Zan (by omega),Zan (by omega),Zakx vars hv g hg l c hl c1 (Nat.le_trans hc (by decide)) (Nat.le_trans c2 (by decide)),Zac6,Zw8,Zahs]
  cases hj:capO (Zm7 l c)with
  | none=>rfl
  | some m =>
   obtain⟨rfl,hm⟩:=Zjd hj
   rw[Option.bind_some]
   exact pre2 hv g hg cs hcs r (n+1) _ hd (Zjh hl c1) hm
theorem Zaf5 {vars:List Int}{o:GOp}(hp:Zle vars o.Effs):∀{p:List Zaa}{cs:List (List (List Zaa))},(∀f∈p,Zbi vars (-1) [f]=true)->mapC vars o p=some cs->(∀c∈cs,Zfu vars c/\c.length<=1024)/\cs.length=p.length
 | [],cs,_,h=>by rw[mapC]at h;cases h;exact⟨(λ_ h=>nomatch h),rfl⟩
 | f :: r,cs,hf,h=>by
  rw[mapC]at h
  cases hc:Zn0 vars o f with
  | none=>rw[hc]at h;cases h
  | some c =>
   rw[hc,Option.bind_some]at h
   cases hr:mapC vars o r with
   | none=>rw[hr]at h;cases h
   | some ds =>
    rw[hr,Option.map_some]at h
    obtain rfl:=sI_ h
    obtain⟨i1,i2⟩:=Zaf5 hp (λu hu=>hf u (mC_ _ hu)) hr
    refine⟨λx hx=>?_,by rw[lC_,lC_,i2]⟩
    rcases List.mem_cons.1 hx with rfl|hx
    ·exact Zue hp (hf f (mS_ ..)) hc
    ·exact i1 x hx
structure OkO (vars:List Int)(o:GOp):Prop where
 effs:o.Effs.length<=64
 when:Zle vars o.Effs
 pre:Zbi vars (-1) o.Pre=true
theorem Zn6 {t:Zah}(h:Ze5 t=true):Ok t.Vars:=by
 unfold Ze5 at h
 simp only[bA_,decide_eq_true_iff,List.all_eq_true]at h
 exact⟨h.1.1,λn hn=>by have:=h.2.1 n hn;omega⟩
theorem Zq1 {t:Zah}(h:Ze5 t=true){o:GOp}(ho:o∈t.Ops):OkO t.Vars o:=by
 unfold Ze5 at h
 simp only[bA_,List.all_eq_true]at h
 have h1:=h.2.2.2.2 o ho
 unfold opF at h1
 simp only[bA_,decide_eq_true_iff,List.all_eq_true]at h1
 refine⟨h1.1.2.2.1,λe he=>?_,h1.2.1⟩
 have h2:=h1.2.2.2 e he
 unfold effF at h2
 exact(bA_ _ _ ▸ h2).1
theorem Zaih (t:Zah)(ht:ShT t)(hgood:Ze5 t=true)(p:List Zaa)(hpf:Zbi t.Vars (-1) p=true)(g:Nat)(hg:70<=g)(op:Int)(o:GOp)(h0:0<=op)(hop:t.Ops[op.toNat]?=some o) :
  Zmj g t op p=some (resR (regG t.Vars o p [o.Pre])):=by
 have ok:=Zn6 hgood
 have oo:=Zq1 hgood (mG_ hop)
 have hlt:=Zah8 hop
 have hpl:=Zkj ok.len hpf
 have hpre:=Zkj ok.len oo.pre
 obtain⟨k,rfl⟩:∃k:Nat,op=k:=⟨op.toNat,by omega⟩
 rw[Int.toNat_natCast]at hop hlt
 rw[Zmj,Zvo t ht,(Znk t).1 hgood,Zac]
 show ob1 _ _=_
 rw[Zar,if_neg (by omega),Zar,if_neg (by rw[lM_];omega),Zac,Zbv,Zta _ _ (by show _<=_;omega),hpf,Zac,Bool.not_true,Zbb,Zfv hop,
  Zan (by omega),Zan (by rw[lM_];omega),Zu3 t p g o _ (by omega)]
 have h1:=pre1 t ok p hpf g hg o oo.effs oo.when p [] (λ_ h=>h)
 rw[List.nil_append]at h1
 rw[lM_,Int.toNat_natCast]
 have h1':Rg (Zjr t p g o) (Zjs t p g o) p 0 (List.replicate p.length [])=some (sumC (mapC t.Vars o p)):=by
  rw[show((([]:List (List (List Zaa))).length:Nat):Int)=0 from rfl]at h1
  rw[h1];cases mapC t.Vars o p <;> rfl
 rw[h1',Zac,<-Zab9]
 cases hm:mapC t.Vars o p with
 | none=>rfl
 | some cs =>
  obtain⟨c1,c2⟩:=Zaf5 oo.when (λf hf=>Zsq hpf hf) hm
  rw[sumC,Zbv,Zh8,Zan (by omega),Zac,Zan (by omega),Zu4 g cs [o.Pre] (m:=cs.length) rfl (by omega),Option.bind_some]
  exact pre2 ok.len g (by omega) cs c1 cs 0 [o.Pre] rfl (λx hx=>by rw[mI_.1 hx];exact oo.pre) (by simp)
def Zgq : List Zaa->Int->Int
 | [],_=>-1
 | f :: r,v=>if f.1=v then f.2 else Zgq r v
theorem Zafi (l:List Zaa)(v:Int):∀(r:List Zaa)(i:Int),Rg (Zqk l v) (Zva l v) r i ()=some (Zgq r v)
 | [],i=>rfl
 | f :: r,i=>by
  rw[Rg,Zqk,ixv,Zgq]
  by_cases h:f.1=v
  ·rw[show(f.1 == v)=true from by simp[h],Zby,if_pos h]
  ·rw[show(f.1 == v)=false from by simp[h],Zbb,if_neg h,Zafi l v r]
theorem Zahr (l:List Zaa)(v:Int)(hl:Sh l):Zmd l v=some (Zgq l v):=by rw[Zmd,Zabg l v hl.lt,Zafi]
theorem Zvr : ∀{l:List Zaa}{f:Zaa},Asc l->0<=f.2->(Zgq l f.1=f.2↔f∈l)
 | [],f,_,h0=>by rw[Zgq];constructor;(intro h;omega);exact(nofun)
 | x :: r,f,ha,h0=>by
  obtain⟨h1,h2⟩:=List.pairwise_cons.1 ha
  rw[Zgq,List.mem_cons]
  by_cases h:x.1=f.1
  ·rw[if_pos h]
   constructor
   ·intro e;exact Or.inl (Prod.ext h.symm e.symm)
   ·rintro(rfl|hm)
    ·rfl
    ·have:=h1 f hm;omega
  ·rw[if_neg h,Zvr h2 h0]
   constructor
   ·exact Or.inr
   ·rintro(rfl|hm)
    ·exact absurd rfl h
    ·exact hm
def subF (b a:List Zaa):Bool:=b.all λf=>decide (f∈a)
theorem Zy0 {a b:List Zaa}:subF b a=true↔∀f∈b,f∈a:=by simp[subF]
theorem Zzy (a b:List Zaa)(ha:Sh a)(hb:Sh b)(hva:vF (-1) a=true)(hvb:vF (-1) b=true):Zg4 a b=some (subF b a):=by
 rw[Zg4,Zu9 a b hb.lt,Zh1 (p:=λf=>decide (f∈a)) (c:=some false)]
 ·rw[Zpr];show _=some (b.all _);cases b.all λf=>decide (f∈a) <;> rfl
 ·intro y hy i rc
  have h:=Zvr (f:=y) ((Zgv a).1 hva).2 ((Zgv b).1 hvb |>.1 y hy).2
  rw[Zpq,ixv,Zahr a _ ha,Zac]
  by_cases hm:y∈a
  ·rw[show(Zgq a y.1 != y.2)=false from by rw[h.2 hm];simp,Zbb,decide_eq_true hm,if_pos rfl]
  ·rw[show(Zgq a y.1 != y.2)=true from by rw[bne_iff_ne];exact λe=>hm (h.1 e),Zby,decide_eq_false hm,if_neg (by decide)]
theorem Zaeb : ∀{a b:List Zaa},Asc a->Asc b->(∀f∈b,f∈a)->b.length<=a.length/\(b.length=a.length->b=a)
 | [],[],_,_,_=>⟨Nat.le_refl _,λ_=>rfl⟩
 | [],y :: s,_,_,h=>nomatch h y (mS_ ..)
 | x :: r,[],_,_,_=>⟨Nat.zero_le _,λe=>by cases e⟩
 | x :: r,y :: s,ha,hb,h=>by
  obtain⟨h1,h2⟩:=List.pairwise_cons.1 ha
  obtain⟨k1,k2⟩:=List.pairwise_cons.1 hb
  rcases List.mem_cons.1 (h y (mS_ ..))with e|hy
  ·subst e
   obtain⟨i1,i2⟩:=Zaeb h2 k2 (λz hz=>by
    rcases List.mem_cons.1 (h z (mC_ _ hz))with e|h'
    ·have:=k1 z hz;rw[e]at this;omega
    ·exact h')
   refine⟨by rw[lC_,lC_];omega,λe=>?_⟩
   rw[lC_,lC_]at e
   rw[i2 (by omega)]
  ·obtain⟨i1,-⟩:=Zaeb (a:=r) h2 hb (λz hz=>by
    rcases List.mem_cons.1 (h z hz)with e|h'
    ·have l1:=h1 y hy
     rcases List.mem_cons.1 hz with e2|hz
     ·rw[e]at e2;rw[<-e2]at l1;omega
     ·have l2:=k1 z hz;rw[e]at l2;omega
    ·exact h')
   rw[lC_]at i1
   exact⟨by rw[lC_,lC_];omega,λe=>by rw[lC_,lC_]at e;omega⟩
theorem Zarn {α:Type}{l:List α}(h:l.Nodup){i j:Nat}{x:α}(hi:l[i]?=some x)(hj:l[j]?=some x):i=j:=by
 obtain⟨b1,b2⟩:=gS_.1 hi
 obtain⟨b3,b4⟩:=gS_.1 hj
 rcases Nat.lt_trichotomy i j with hl|hl|hl
 ·exact absurd (b2.trans b4.symm) (List.pairwise_iff_getElem.1 h i j b1 b3 hl)
 ·exact hl
 ·exact absurd (b4.trans b2.symm) (List.pairwise_iff_getElem.1 h j i b3 b1 hl)
def keepF (l:List (List Zaa))(x:List Zaa):Bool:=l.all λy=>!(subF y x&&decide (y≠x))
theorem min1 (vars:List Int)(hv:vars.length<=64)(l:List (List Zaa))(hl:Zfu vars l)(hn:l.Nodup)(i:Nat)(x:List Zaa)(hx:l[i]?=some x):∀(r:List (List Zaa))(n:Nat),l.drop n=r ->
  Rg (Zmu l i x) (Zrf l i x) r n ()=some (r.all λy=>!(subF y x&&decide (y≠x)))
 | [],n,h=>rfl
 | y :: r,n,h=>by
  obtain⟨hy,hd,hlt⟩:=Zc5 h
  have hxp:=hl x (mG_ hx)
  have hyp:=hl y (mG_ hy)
  have ih:=min1 vars hv l hl hn i x hx r (n+1) hd
  have vx:=Zji hxp
  have vy:=Zji hyp
  rw[Rg,Zmu,ixv,List.all_cons]
  by_cases e:i=n
  ·subst e
   obtain rfl:x=y:=by rw[hx]at hy;exact sI_ hy
   rw[show((i:Int) != (i:Int))=false from by simp,Zbb,decide_eq_false (by simp),Bool.and_false,Bool.not_false,Bool.true_and]
   exact ih
  ·have hne:y≠x:=λh=>e (Zarn hn hx (h ▸ hy))
   rw[show((i:Int) != (n:Int))=true from by rw[bne_iff_ne];omega,Zby,Zv7 y (Zjj hv hyp),vy,Zac,Zby,Zzy x y (Zjj hv hxp) (Zjj hv hyp) vx vy,Zac,decide_eq_true hne,Bool.and_true]
   cases hs:subF y x with
   | false=>rw[Zbb,Bool.not_false,Bool.true_and];exact ih
   | true =>
    obtain⟨s1,s2⟩:=Zaeb ((Zgv x).1 vx).2 ((Zgv y).1 vy).2 (Zy0.1 hs)
    have:y.length≠x.length:=λe=>hne (s2 e)
    rw[Zby,Zar,if_pos (by rw[lM_,lM_];omega),Bool.not_true,Bool.false_and]
theorem min2 (vars:List Int)(hv:vars.length<=64)(l:List (List Zaa))(hl:Zfu vars l)(hn:l.Nodup)(hc:l.length<=100000):∀(r:List (List Zaa))(n:Nat)(v:List (List Zaa)),l.drop n=r->v.length<=n ->
  Rg (Zid l) (Zkf l) r n v=some (v++r.filter (keepF l))
 | [],n,v,h,hvl=>by rw[Rg,Zkf,List.filter_nil,List.append_nil]
 | x :: r,n,v,h,hvl=>by
  obtain⟨hy,hd,hlt⟩:=Zc5 h
  have hxp:=hl x (mG_ hy)
  have hxl:=Zkj hv hxp
  rw[Rg,Zid,ixv,Zv7 x (Zjj hv hxp),Zji hxp,Zac,Bool.not_true,Zbb,Zwj l n x (by omega)]
  have h1:=min1 vars hv l hl hn n x hy l 0 rfl
  rw[show((0:Nat):Int)=0 from rfl]at h1
  rw[h1,Zac,List.filter_cons]
  show ob1 (sel (keepF l x) _ _) _=_
  cases keepF l x with
  | true =>
   rw[Zby,Zh8,Zan (by omega),Zac,Zan (by omega),Zan (by omega),Zac,if_pos rfl]
   have:=min2 vars hv l hl hn hc r (n+1) (v++[x]) hd (by rw[lA_,List.length_singleton];omega)
   rw[List.append_assoc,List.singleton_append]at this
   exact this
  | false =>
   rw[Zbb,Zac,if_neg (by decide)]
   exact min2 vars hv l hl hn hc r (n+1) v hd (by omega)
def minF (l:List (List Zaa)):List (List Zaa):=l.filter (keepF l)
theorem Zal9 (vars:List Int)(hv:vars.length<=64)(l:List (List Zaa))(hl:Zfu vars l)(hn:l.Nodup)(hc:l.length<=100000):Zny l=some (minF l):=by
 rw[Zny,Zwk l [] (by omega)]
 exact min2 vars hv l hl hn hc l 0 [] rfl (Nat.le_refl _)
theorem Zqb (x:List Zaa)(l:List (List Zaa)):x∈Zt3 l↔x∈l:=(List.mergeSort_perm l _).mem_iff
theorem reg1 (z:List (List Zaa))(v:List (List Zaa))(hv:∀x∈v,x.length<=100000)(hl:v.length<=100000):∀(m n:Nat),n+m=v.length->Rn (Zms z) (Zmt z) m n v=some (v,Er.nil)
 | 0,n,h=>by rw[Rn,Zmt,Zan (by omega)]
 | m+1,n,h=>by
  obtain⟨y,hy,-⟩:=Zn4 (l:=v) (n:=n) (by omega)
  have hyl:=hv y (mG_ hy)
  obtain⟨b1,b2⟩:=gS_.1 hy
  have hs:v.set n y=v:=by rw[<-b2,List.set_getElem_self]
  rw[Rn,Zms,Int.toNat_natCast,Zdp hy,Zh8,Zan (by omega),Zac,Zdp hy,Zan (by omega),Zan (by omega),Zan (by omega),hs]
  exact reg1 z v hv hl m (n+1) (by omega)
theorem Zagh {vars:List Int}{o:GOp}(hp:Zle vars o.Effs):∀{p:List Zaa}{l j:List (List Zaa)},(∀f∈p,Zbi vars (-1) [f]=true)->Zfu vars l->l.Nodup->l.length<=1024->regG vars o p l=some j->Zfu vars j/\j.Nodup/\j.length<=1024
 | [],l,j,_,h1,h2,h3,h=>by rw[regG]at h;obtain rfl:=sI_ h;exact⟨h1,h2,h3⟩
 | f :: r,l,j,hf,h1,h2,h3,h=>by
  rw[regG]at h
  cases hc:Zn0 vars o f with
  | none=>rw[hc]at h;cases h
  | some c =>
   rw[hc,Option.bind_some]at h
   cases hj:capO (Zm7 l c)with
   | none=>rw[hj]at h;cases h
   | some m =>
    rw[hj,Option.bind_some]at h
    obtain⟨rfl,hm⟩:=Zjd hj
    exact Zagh hp (λu hu=>hf u (mC_ _ hu)) (Zjh h1 (Zue hp (hf f (mS_ ..)) hc).1) (Zsl _ _) hm h
def regO (vars:List Int)(o:GOp)(p:List Zaa):Option (List (List Zaa)):=(regG vars o p [o.Pre]).map λl=>Zt3 (minF l)
theorem Zyz {t:Zah}(hgood:Ze5 t=true){p:List Zaa}(hpf:Zbi t.Vars (-1) p=true){o:GOp}(ho:o∈t.Ops){l:List (List Zaa)}(h:regG t.Vars o p [o.Pre]=some l):Zfu t.Vars l/\l.Nodup/\l.length<=1024:=by
 have oo:=Zq1 hgood ho
 exact Zagh oo.when (λf hf=>Zsq hpf hf) (λx hx=>by rw[mI_.1 hx];exact oo.pre) (by simp) (by simp) h
theorem Zamj (t:Zah)(ht:ShT t)(hgood:Ze5 t=true)(p:List Zaa)(hpf:Zbi t.Vars (-1) p=true)(g:Nat)(hg:70<=g)(op:Int)(o:GOp)(h0:0<=op)(hop:t.Ops[op.toNat]?=some o) :
  Zkl g t op p=some (resR (regO t.Vars o p)):=by
 have ok:=Zn6 hgood
 rw[Zkl,Zaih t ht hgood p hpf g hg op o h0 hop,Zw8,regO]
 cases hr:regG t.Vars o p [o.Pre]with
 | none=>rfl
 | some l =>
  obtain⟨l1,l2,l3⟩:=Zyz hgood hpf (mG_ hop) hr
  have hml:(minF l).length<=1024:=Nat.le_trans (List.length_filter_le _ _) l3
  have hmp:∀y∈minF l,y.length<=64:=λy hy=>Zkj ok.len (l1 y (List.mem_filter.1 hy).1)
  show ob1 _ _=_
  rw[Zal9 t.Vars ok.len l l1 l2 (by omega),Zac,Zaha,Zan (by omega),Zan (λy hy=>by have:=hmp y hy;omega),Zac,Zan (Zjy _),Zwi (minF l) _ (m:=(minF l).length) rfl (by omega)]
  exact reg1 (minF l) (Zt3 (minF l)) (λx hx=>by have:=hmp x ((Zqb x _).1 hx);omega) (by rw[Zjy];omega) _ 0 (by rw[Zjy];omega)
def Zuh (s:List Int)(x:Zaa):Bool:=decide (0<=x.1)&&(decide (x.1<s.length)&&s.getD x.1.toNat 0 == x.2)
def Zay (s:List Int)(l:List Zaa):Bool:=l.all (Zuh s)
theorem Zadq (l:List Zaa)(s:List Int)(hl:Sh l):Zky l s=some (Zay s l):=by
 rw[Zky,Zze l s hl.lt,Zh1 (p:=Zuh s) (c:=some false)]
 ·rw[Zts,Zay];cases l.all (Zuh s) <;> rfl
 ·intro x _ i rc
  rw[Ztr,ixv,Zar,Zar,lM_,Zuh]
  by_cases h0:x.1<0
  ·rw[if_pos h0,decide_eq_false (by omega),Bool.false_and,if_neg (by decide)]
  ·rw[if_neg h0,decide_eq_true (p:=0<=x.1) (by omega),Bool.true_and]
   by_cases h1:x.1<s.length
   ·rw[if_neg (by omega),decide_eq_true h1,Bool.true_and,Zlh (d:=0) (by omega) h1,bne]
    cases s.getD x.1.toNat 0 == x.2 <;> rfl
   ·rw[if_pos (by omega),decide_eq_false h1,Bool.false_and,if_neg (by decide)]
def Zuk (most:Int):List Int->Int->Int
 | [],n=>n
 | k :: r,n=>if n*min (max k 0) (most+1)>most then most+1 else Zuk most r (n*min (max k 0) (most+1))
theorem Zaf4 (most:Int)(hm:0<=most/\most<=1048576)(vars:List Int):∀(r:List Int)(i n:Int),0<=n->n<=1048576->Rg (Zqe vars most) (Zuu vars most) r i n=some (Zuk most r n)
 | [],i,n,_,_=>rfl
 | k :: r,i,n,h0,h1=>by
  have hb:0<=min (max k 0) (most+1)/\min (max k 0) (most+1)<=1048577:=by omega
  have h2:0<=n*min (max k 0) (most+1):=Int.mul_nonneg h0 hb.1
  have h3:n*min (max k 0) (most+1)<=1048576*1048577:=Int.mul_le_mul h1 hb.2 hb.1 (by decide)
  rw[Rg,Zqe,ixv,w64 (z:=most+1) (by omega) (by omega),w64 (z:=n*min (max k 0) (most+1)) (by omega) (by omega),Zar,Zuk]
  by_cases h:n*min (max k 0) (most+1)>most
  ·rw[if_pos h,if_pos h]
  ·rw[if_neg h,if_neg h]
   exact Zaf4 most hm vars r _ _ h2 (by omega)
theorem Zaor (vars:List Int)(hv:Sh vars)(most:Int)(hm:0<=most/\most<=1048576):Zs1 vars most=some (Zuk most vars 1):=by
 rw[Zs1,Zaa8 vars most _ hv.lt,Zaf4 most hm vars vars 0 1 (by decide) (by decide)]
def Zjl (t:Zah):Bool:=decide (t.Vars.length<=12/\t.Ops.length<=20)&&(t.Ops.all (λo=>decide (o.Effs.length<=8))&&(Ze5 t&&decide (Zuk 512 t.Vars 1<=512)))
theorem Zar4 (t:Zah)(ht:ShT t):Zrz t=some (Zjl t):=by
 rw[Zrz,lM_,lM_,Zar,Zar,Zjl]
 by_cases h1:t.Vars.length<=12
 ·rw[if_neg (by omega)]
  by_cases h2:t.Ops.length<=20
  ·have e:=Zzf t ht.ops.lt
   rw[lM_]at e
   rw[if_neg (by omega),decide_eq_true ⟨h1,h2⟩,Bool.true_and,Zac,Zbv,e,Zh1 (p:=λo:GOp=>decide (o.Effs.length<=8)) (c:=some (.inr false))]
   ·cases t.Ops.all (λo=>decide (o.Effs.length<=8))with
    | false=>rfl
    | true =>
     rw[if_pos rfl,Ztu,Zac,Zbv,Zauc t ht,Zac,Bool.true_and]
     cases Ze5 t with
     | false=>rfl
     | true=>rw[Zby,Zaor _ ht.vars 512 (by decide),Zac,Bool.true_and]
   ·intro o _ i rc
    rw[Ztt,ixv,Zar,lM_]
    by_cases h:o.Effs.length<=8
    ·rw[if_neg (by omega),decide_eq_true h,if_pos rfl]
    ·rw[if_pos (by omega),decide_eq_false h,if_neg (by decide)]
  ·rw[if_pos (by omega),decide_eq_false (λh=>h2 h.2)];rfl
 ·rw[if_pos (by omega),decide_eq_false (λh=>h1 h.1)];rfl
theorem Zfo {t:Zah}(h:Zjl t=true):Ze5 t=true/\t.Vars.length<=12/\t.Ops.length<=20:=by
 unfold Zjl at h
 simp only[bA_,decide_eq_true_iff]at h
 exact⟨h.2.2.1,h.1.1,h.1.2⟩
structure StP (vars s:List Int):Prop where
 len:s.length=vars.length
 rng:∀v:Nat,v<vars.length->0<=s.getD v 0/\s.getD v 0<vars.getD v 0
def Zmc (s:List Int)(l:List (List Zaa)):Prop:=∃z∈l,Zay s z=true
theorem Zes {s:List Int}{x:Zaa}:Zuh s x=true↔0<=x.1/\x.1<s.length/\s.getD x.1.toNat 0=x.2:=by
 simp only[Zuh,bA_,decide_eq_true_iff,beq_iff_eq]
theorem Za7 {s:List Int}{l:List Zaa}:Zay s l=true↔∀x∈l,Zuh s x=true:=by rw[Zay,List.all_eq_true]
theorem Zz9 {s:List Int}{a b z:List Zaa}(h:Zui a b=some z):Zay s z=true↔Zay s a=true/\Zay s b=true:=by
 rw[Za7,Za7,Za7]
 have hm:=(Zab6 h).2
 constructor
 ·intro hz;exact⟨λx hx=>hz x ((hm x).2 (Or.inl hx)),λx hx=>hz x ((hm x).2 (Or.inr hx))⟩
 ·rintro⟨h1,h2⟩ x hx
  rcases(hm x).1 hx with h|h
  ·exact h1 x h
  ·exact h2 x h
theorem Zafs {s:List Int}{l:List Zaa}(h:Zay s l=true):Zaeo l:=λx hx y hy e=>by
 have h1:=Zes.1 (Za7.1 h x hx)
 have h2:=Zes.1 (Za7.1 h y hy)
 rw[<-h1.2.2,<-h2.2.2,e]
theorem Zaaz {vars s:List Int}{a b:List (List Zaa)}(ha:Zfu vars a)(hb:Zfu vars b):Zmc s (Zm7 a b)↔Zmc s a/\Zmc s b:=by
 constructor
 ·rintro⟨z,hz,hs⟩
  obtain⟨x,hx,y,hy,hj⟩:=(Zw7 z a b).1 hz
  obtain⟨h1,h2⟩:=(Zz9 hj).1 hs
  exact⟨⟨x,hx,h1⟩,⟨y,hy,h2⟩⟩
 ·rintro⟨⟨x,hx,h1⟩,⟨y,hy,h2⟩⟩
  cases hj:Zui x y with
  | none =>
   refine absurd (Zafs (s:=s) ?_) (Zal8 (Zji (ha x hx)) (Zji (hb y hy)) hj)
   rw[Za7]
   intro u hu
   rcases List.mem_append.1 hu with h|h
   ·exact Za7.1 h1 u h
   ·exact Za7.1 h2 u h
  | some z=>exact⟨z,(Zw7 z a b).2 ⟨x,hx,y,hy,hj⟩,(Zz9 hj).2 ⟨h1,h2⟩⟩
theorem Zapo {vars s:List Int}(hs:StP vars s){w:List Zaa}(hw:Zbi vars (-1) w=true):Zmc s (silF vars w)↔¬ Zay s w=true:=by
 obtain⟨hv,hr⟩:=(Zfr vars w (-1)).1 hw
 have hn:=((Zgv w).1 hv).1
 constructor
 ·rintro⟨z,hz,h⟩ hw'
  obtain⟨f,hf,y,h1,h2,hne,rfl⟩:=Zad8.1 hz
  have e1:=(Zes.1 (Za7.1 h _ (mI_.2 rfl))).2.2
  have e2:=(Zes.1 (Za7.1 hw' f hf)).2.2
  exact hne (e1.symm.trans e2)
 ·intro hw'
  rw[Za7]at hw'
  obtain⟨f,hf,hnf⟩:∃f∈w,¬ Zuh s f=true:=by
   refine Classical.byContradiction λhno=>hw' λx hx=>Classical.byContradiction λhx'=>hno ⟨x,hx,hx'⟩
  have h1:=hn f hf
  have h2:=hr f hf
  have hlen:=hs.len
  obtain⟨g1,g2⟩:=hs.rng f.1.toNat (by omega)
  refine⟨[(f.1,s.getD f.1.toNat 0)],Zad8.2 ⟨f,hf,_,g1,by omega,λe=>hnf (Zes.2 ⟨h1.1,by omega,e⟩),rfl⟩,?_⟩
  rw[Za7]
  intro x hx
  rw[mI_.1 hx]
  exact Zes.2 ⟨h1.1,by show f.1<_;omega,rfl⟩
def Zx6 (s:List Int)(f:Zaa)(es:List Zaq):Prop:=∀e∈es,e.Val≠f.2->¬ Zay s e.When=true
theorem Zq9 {vars s:List Int}(hs:StP vars s){f:Zaa}:∀{es:List Zaq}{l j:List (List Zaa)},Zle vars es->Zfu vars l->Zjk vars f es l=some j->(Zmc s j↔Zmc s l/\Zx6 s f es)
 | [],l,j,_,_,h=>by
  rw[Zjk]at h;obtain rfl:=sI_ h
  exact⟨λh=>⟨h,λ_ h=>nomatch h⟩,λh=>h.1⟩
 | e :: r,l,j,he,hl,h=>by
  have he':Zle vars r:=λu hu=>he u (mC_ _ hu)
  have hq0:Zx6 s f (e :: r)↔(e.Val≠f.2->¬ Zay s e.When=true)/\Zx6 s f r:=by
   unfold Zx6
   constructor
   ·intro h;exact⟨h e (mS_ ..),λu hu=>h u (mC_ _ hu)⟩
   ·rintro⟨h1,h2⟩ u hu
    rcases List.mem_cons.1 hu with rfl|hu
    ·exact h1
    ·exact h2 u hu
  rw[hq0]
  rw[Zjk]at h
  split at h
  ·rename_i hv
   rw[Zq9 hs he' hl h]
   constructor
   ·rintro⟨h1,h2⟩;exact⟨h1,λhn=>absurd hv hn,h2⟩
   ·rintro⟨h1,-,h2⟩;exact⟨h1,h2⟩
  ·rename_i hv
   have hw:=he e (mS_ ..)
   cases hq:capO (silF vars e.When)with
   | none=>rw[hq]at h;cases h
   | some q =>
    rw[hq,Option.bind_some]at h
    cases hj:capO (Zm7 l q)with
    | none=>rw[hj]at h;cases h
    | some m =>
     rw[hj,Option.bind_some]at h
     obtain⟨rfl,-⟩:=Zjd hq
     obtain⟨rfl,-⟩:=Zjd hj
     have hsp:=Zv1 hw
     rw[Zq9 hs he' (Zjh hl hsp) h,Zaaz hl hsp,Zapo hs hw]
     constructor
     ·rintro⟨⟨h1,h2⟩,h3⟩;exact⟨h1,λ_=>h2,h3⟩
     ·rintro⟨h1,h2,h3⟩;exact⟨⟨h1,h2 hv⟩,h3⟩
theorem Zaci {s:List Int}{l out:List (List Zaa)}:Zmc s (l.foldl Zyk out)↔Zmc s out\/Zmc s l:=by
 unfold Zmc
 constructor
 ·rintro⟨z,hz,h⟩
  rcases(Zmn z l out).1 hz with h'|h'
  ·exact Or.inl ⟨z,h',h⟩
  ·exact Or.inr ⟨z,h',h⟩
 ·rintro(⟨z,hz,h⟩|⟨z,hz,h⟩)
  ·exact⟨z,(Zmn z l out).2 (Or.inl hz),h⟩
  ·exact⟨z,(Zmn z l out).2 (Or.inr hz),h⟩
def finF (s:List Int):List Zaq->Int->Int
 | [],a=>a
 | e :: r,a=>finF s r (if Zay s e.When=true then e.Val else a)
theorem Zad9 {s:List Int}{x:List Zaa}:Zmc s [x]↔Zay s x=true:=by
 unfold Zmc
 constructor
 ·rintro⟨z,hz,h⟩;rw[mI_.1 hz]at h;exact h
 ·intro h;exact⟨x,mI_.2 rfl,h⟩
theorem Zaay {vars s:List Int}(hs:StP vars s){f:Zaa}:∀{es:List Zaq}{out:List (List Zaa)},Zle vars es->Zjz vars f es=some out->∀a:Int,(finF s es a=f.2↔Zmc s out\/(a=f.2/\Zx6 s f es))
 | [],out,_,h,a=>by
  rw[Zjz]at h;obtain rfl:=sI_ h
  rw[finF]
  constructor
  ·intro h;exact Or.inr ⟨h,λ_ h=>nomatch h⟩
  ·rintro(⟨z,hz,-⟩|h)
   ·cases hz
   ·exact h.1
 | e :: r,out,he,h,a=>by
  have he':Zle vars r:=λu hu=>he u (mC_ _ hu)
  have hq0:Zx6 s f (e :: r)↔(e.Val≠f.2->¬ Zay s e.When=true)/\Zx6 s f r:=by
   unfold Zx6
   constructor
   ·intro h;exact⟨h e (mS_ ..),λu hu=>h u (mC_ _ hu)⟩
   ·rintro⟨h1,h2⟩ u hu
    rcases List.mem_cons.1 hu with rfl|hu
    ·exact h1
    ·exact h2 u hu
  rw[Zjz]at h
  cases hr:Zjz vars f r with
  | none=>rw[hr]at h;cases h
  | some o1 =>
   rw[hr,Option.bind_some]at h
   rw[finF,Zaay hs he' hr,hq0]
   split at h
   ·rename_i hv
    cases hq:Zjk vars f r [e.When]with
    | none=>rw[hq]at h;cases h
    | some q =>
     rw[hq,Option.map_some]at h
     obtain rfl:=sI_ h
     rw[Zaci,Zq9 hs he' (λx hx=>by rw[mI_.1 hx];exact he e (mS_ ..)) hq,Zad9]
     by_cases hf:Zay s e.When=true
     ·simp only[hf,if_true,hv]
      constructor
      ·rintro(h|⟨-,h⟩)
       ·exact Or.inl (Or.inl h)
       ·exact Or.inl (Or.inr ⟨trivial,h⟩)
      ·rintro((h|⟨-,h⟩)|⟨-,-,h⟩)
       ·exact Or.inl h
       ·exact Or.inr ⟨trivial,h⟩
       ·exact Or.inr ⟨trivial,h⟩
     ·simp only[hf,hv]
      constructor
      ·rintro(h|⟨h1,h2⟩)
       ·exact Or.inl (Or.inl h)
       ·exact Or.inr ⟨by simpa using h1,λh=>absurd rfl h,h2⟩
      ·rintro((h|⟨h,-⟩)|⟨h1,-,h2⟩)
       ·exact Or.inl h
       ·cases h
       ·exact Or.inr ⟨by simpa using h1,h2⟩
   ·rename_i hv
    obtain rfl:=sI_ h
    by_cases hf:Zay s e.When=true
    ·rw[if_pos hf]
     constructor
     ·rintro(h|⟨h,-⟩)
      ·exact Or.inl h
      ·exact absurd h hv
     ·rintro(h|⟨-,h,-⟩)
      ·exact Or.inl h
      ·exact absurd hf (h hv)
    ·rw[if_neg hf]
     constructor
     ·rintro(h|⟨h1,h2⟩)
      ·exact Or.inl h
      ·exact Or.inr ⟨h1,λ_=>hf,h2⟩
     ·rintro(h|⟨h1,-,h2⟩)
      ·exact Or.inl h
      ·exact Or.inr ⟨h1,h2⟩
def valF (s:List Int)(o:GOp)(v:Int):Int:=finF s (o.Effs.filter (λe=>e.Var == v)) (s.getD v.toNat 0)
theorem Zaip {vars s:List Int}(hs:StP vars s){o:GOp}(hw:Zle vars o.Effs){f:Zaa}(hf:Zbi vars (-1) [f]=true){c:List (List Zaa)}(h:Zn0 vars o f=some c):Zmc s c↔valF s o f.1=f.2:=by
 unfold Zn0 at h
 unfold valF
 have hw':Zle vars (o.Effs.filter (λe=>e.Var == f.1)):=λe he=>hw e (List.mem_filter.1 he).1
 generalize o.Effs.filter (λe=>e.Var == f.1)=es at h hw'
 unfold Zvl at h
 cases hg:Zjz vars f es with
 | none=>rw[hg]at h;cases h
 | some out =>
  rw[hg,Option.bind_some]at h
  cases hq:Zjk vars f es [[f]]with
  | none=>rw[hq]at h;cases h
  | some q =>
   rw[hq,Option.map_some,Option.bind_some]at h
   obtain⟨rfl,-⟩:=Zjd h
   have hfp:Zfu vars [[f]]:=λx hx=>by rw[mI_.1 hx];exact hf
   rw[Zaay hs hw' hg,Zaci,Zq9 hs hw' hfp hq,Zad9]
   obtain⟨hv,hr⟩:=(Zfr vars _ (-1)).1 hf
   have hn:=((Zgv _).1 hv).1 f (mI_.2 rfl)
   have hr':=hr f (mI_.2 rfl)
   have hlen:=hs.len
   have e:Zay s [f]=true↔s.getD f.1.toNat 0=f.2:=by
    rw[Za7]
    constructor
    ·intro h;exact(Zes.1 (h f (mI_.2 rfl))).2.2
    ·intro h x hx;rw[mI_.1 hx];exact Zes.2 ⟨hn.1,by omega,h⟩
   rw[e]
theorem Zagt {vars s:List Int}(hs:StP vars s){o:GOp}(hw:Zle vars o.Effs):∀{p:List Zaa}{l j:List (List Zaa)},(∀f∈p,Zbi vars (-1) [f]=true)->Zfu vars l->regG vars o p l=some j->(Zmc s j↔Zmc s l/\∀f∈p,valF s o f.1=f.2)
 | [],l,j,_,_,h=>by
  rw[regG]at h;obtain rfl:=sI_ h
  exact⟨λh=>⟨h,λ_ h=>nomatch h⟩,λh=>h.1⟩
 | f :: r,l,j,hf,hl,h=>by
  rw[regG]at h
  have hf1:=hf f (mS_ ..)
  cases hc:Zn0 vars o f with
  | none=>rw[hc]at h;cases h
  | some c =>
   rw[hc,Option.bind_some]at h
   cases hj:capO (Zm7 l c)with
   | none=>rw[hj]at h;cases h
   | some m =>
    rw[hj,Option.bind_some]at h
    obtain⟨rfl,-⟩:=Zjd hj
    have hcp:=(Zue hw hf1 hc).1
    rw[Zagt hs hw (λu hu=>hf u (mC_ _ hu)) (Zjh hl hcp) h,Zaaz hl hcp,Zaip hs hw hf1 hc]
    constructor
    ·rintro⟨⟨h1,h2⟩,h3⟩
     refine⟨h1,λu hu=>?_⟩
     rcases List.mem_cons.1 hu with rfl|hu
     ·exact h2
     ·exact h3 u hu
    ·rintro⟨h1,h2⟩
     exact⟨⟨h1,h2 f (mS_ ..)⟩,λu hu=>h2 u (mC_ _ hu)⟩
theorem Zaeu {l:List (List Zaa)}(hl:∀x∈l,Asc x):∀(n:Nat)(z:List Zaa),z.length<=n->z∈l->∃x∈minF l,∀w∈x,w∈z
 | 0,z,hn,hz=>by
  refine⟨z,List.mem_filter.2 ⟨hz,?_⟩,λ_ h=>h⟩
  rw[keepF,List.all_eq_true]
  intro y hy
  obtain rfl:z=[]:=List.length_eq_zero_iff.1 (by omega)
  cases y with
  | nil=>simp
  | cons a b=>simp[subF]
 | n+1,z,hn,hz=>by
  by_cases hk:keepF l z=true
  ·exact⟨z,List.mem_filter.2 ⟨hz,hk⟩,λ_ h=>h⟩
  ·rw[keepF,List.all_eq_true]at hk
   obtain⟨y,hy,hyz⟩:∃y∈l,(subF y z&&decide (y≠z))=true:=by
    refine Classical.byContradiction λhno=>hk λy hy=>?_
    cases h:(subF y z&&decide (y≠z))with
    | false=>rfl
    | true=>exact absurd ⟨y,hy,h⟩ hno
   rw[bA_,decide_eq_true_iff]at hyz
   have hs:=Zy0.1 hyz.1
   obtain⟨h1,h2⟩:=Zaeb (hl z hz) (hl y hy) hs
   have:y.length≠z.length:=λe=>hyz.2 (h2 e)
   obtain⟨x,hx,hxy⟩:=Zaeu hl n y (by omega) hy
   exact⟨x,hx,λw hw=>hs w (hxy w hw)⟩
theorem Zar5 {s:List Int}{l:List (List Zaa)}(hl:∀x∈l,Asc x):Zmc s (Zt3 (minF l))↔Zmc s l:=by
 constructor
 ·rintro⟨z,hz,h⟩
  exact⟨z,(List.mem_filter.1 ((Zqb z _).1 hz)).1,h⟩
 ·rintro⟨z,hz,h⟩
  obtain⟨x,hx,hxz⟩:=Zaeu hl z.length z (Nat.le_refl _) hz
  exact⟨x,(Zqb x _).2 hx,Za7.2 λw hw=>Za7.1 h w (hxz w hw)⟩
theorem Zapn {t:Zah}(hgood:Ze5 t=true){o:GOp}(ho:o∈t.Ops){s:List Int}(hs:StP t.Vars s){p:List Zaa}(hp:Zbi t.Vars (-1) p=true){l:List (List Zaa)}(h:regO t.Vars o p=some l):Zmc s l↔Zay s o.Pre=true/\∀f∈p,valF s o f.1=f.2:=by
 unfold regO at h
 cases hr:regG t.Vars o p [o.Pre]with
 | none=>rw[hr]at h;cases h
 | some m =>
  rw[hr,Option.map_some]at h
  obtain rfl:=sI_ h
  have hm:=(Zyz hgood hp ho hr).1
  have oo:=Zq1 hgood ho
  rw[Zar5 (λx hx=>((Zgv x).1 (Zji (hm x hx))).2),Zagt hs oo.when (λf hf=>Zsq hp hf) (λx hx=>by rw[mI_.1 hx];exact oo.pre) hr,Zad9]
def Zz0 (s:List Int):Nat->Int->List (List Int)
 | 0,_=>[]
 | m+1,i=>(s++[i]) :: Zz0 s m (i+1)
def Zlj : List Int->List (List Int)->List (List Int)
 | [],out=>out
 | k :: r,out=>Zlj r (out.flatMap λs=>Zz0 s k.toNat 0)
theorem Zoi (s:List Int):∀(m:Nat)(i:Int),(Zz0 s m i).length=m
 | 0,_=>rfl
 | m+1,i=>by rw[Zz0,lC_,Zoi s m]
theorem Zyq (s z:List Int):∀(m:Nat)(i:Int),z∈Zz0 s m i↔∃x:Int,i<=x/\x<i+m/\z=s++[x]
 | 0,i=>by rw[Zz0];constructor;exact(nofun);rintro⟨y,h1,h2,-⟩;omega
 | m+1,i=>by
  rw[Zz0,List.mem_cons,Zyq s z m]
  constructor
  ·rintro(h|⟨x,h1,h2,h3⟩)
   ·exact⟨i,Int.le_refl _,by omega,h⟩
   ·exact⟨x,by omega,by omega,h3⟩
  ·rintro⟨x,h1,h2,h3⟩
   rcases Int.lt_or_eq_of_le h1 with h|rfl
   ·exact Or.inr ⟨x,by omega,by omega,h3⟩
   ·exact Or.inl h3
theorem Zsh (m:Nat):∀l:List (List Int),(l.flatMap λs=>Zz0 s m 0).length=l.length*m
 | []=>by simp
 | s :: r=>by rw[List.flatMap_cons,lA_,Zoi,Zsh m r,lC_,Nat.succ_mul];omega
theorem Zaps (d:Int)(s:List Int)(hs:s.length<=1000):∀(m n:Nat)(v:List (List Int)),v.length+m<=1000000->Rn (Znr d s) (Zns d s) m n v=some (v++Zz0 s m n)
 | 0,n,v,h=>by rw[Rn,Zns,Zz0,List.append_nil]
 | m+1,n,v,h=>by
  rw[Rn,Znr,Zan (by omega),Zan (by omega),Zan (by omega),Zan (by omega),Zz0]
  have ih:=Zaps d s hs m (n+1) (v++[s++[(n:Int)]]) (by rw[lA_,List.length_singleton];omega)
  rw[List.append_assoc,List.singleton_append]at ih
  exact ih
theorem Zapt (q:List (List Int))(d:Int)(hd:0<=d/\d<=1000):∀(r:List (List Int))(i:Int)(v:List (List Int)),(∀s∈r,s.length<=1000)->v.length+r.length*d.toNat<=1000000 ->
  Rg (Zi2 q d) (Zk1 q d) r i v=some (v++r.flatMap λs=>Zz0 s d.toNat 0)
 | [],i,v,_,_=>by rw[Rg,Zk1,List.flatMap_nil,List.append_nil]
 | s :: r,i,v,hs,h=>by
  rw[lC_,Nat.succ_mul]at h
  have h1:=Zaps d s (hs s (mS_ ..)) d.toNat 0 v (by omega)
  rw[show((0:Nat):Int)=0 from rfl]at h1
  rw[Rg,Zi2,ixv,Zyd d s v (m:=d.toNat) (by omega) (by omega),h1,Zac,Zapt q d hd r _ _ (λu hu=>hs u (mC_ _ hu)) (by rw[lA_,Zoi];omega),List.flatMap_cons,List.append_assoc]
theorem Zapu (vars:List Int):∀(r:List Int)(i:Int)(out:List (List Int))(c:Nat),(∀k∈r,1<=k/\k<=64)->(∀s∈out,s.length<=c)->c+r.length<=1000->0<out.length->out.length<=512->Zuk 512 r out.length<=512 ->
  Rg (Zi3 vars) (Znt vars) r i out=some (Zlj r out)
 | [],i,out,c,_,_,_,_,_,_=>rfl
 | k :: r,i,out,c,hk,hs,hc,h0,hl,hm=>by
  obtain⟨k1,k2⟩:=hk k (mS_ ..)
  rw[lC_]at hc
  have hmin:min (max k 0) (512+1)=k:=by omega
  rw[Zuk,hmin]at hm
  have hb:¬ ((out.length:Int)*k>512):=λh=>by rw[if_pos h]at hm;omega
  rw[if_neg hb]at hm
  obtain⟨m,rfl⟩:∃m:Nat,k=m:=⟨k.toNat,by omega⟩
  have hlen:(out.flatMap λs=>Zz0 s m 0).length=out.length*m:=Zsh m out
  have hcast:(out.length:Int)*(m:Int)=((out.length*m:Nat):Int):=by rw[Int.natCast_mul]
  have h2:=Zapt out (m:Int) (by omega) out 0 [] (λs hs'=>by have:=hs s hs';omega) (by rw[Int.toNat_natCast];simp;omega)
  rw[List.nil_append,Int.toNat_natCast]at h2
  rw[Rg,Zi3,ixv,Zye out (m:Int) [] (by omega),h2,Zac,Zan (by rw[hlen];omega),Zlj,Int.toNat_natCast]
  refine Zapu vars r _ _ (c+1) (λu hu=>hk u (mC_ _ hu)) (λs hs'=>?_) (by omega) (by rw[hlen];exact Nat.mul_pos h0 (by omega)) (by rw[hlen];omega) (by rw[hlen,<-hcast];exact hm)
  obtain⟨u,hu,hsu⟩:=List.mem_flatMap.1 hs'
  obtain⟨x,-,-,rfl⟩:=(Zyq u s m 0).1 hsu
  have:=hs u hu
  rw[lA_,List.length_singleton];omega
theorem Zaa3 : ∀(r:List Int)(out:List (List Int))(z:List Int),z∈Zlj r out↔∃s∈out,∃t,z=s++t/\Za6 r t=true
 | [],out,z=>by
  rw[Zlj]
  constructor
  ·intro h;exact⟨z,h,[],(List.append_nil z).symm,rfl⟩
  ·rintro⟨s,hs,t,rfl,ht⟩
   cases t with
   | nil=>rw[List.append_nil];exact hs
   | cons a b=>simp[Za6]at ht
 | k :: r,out,z=>by
  rw[Zlj,Zaa3 r]
  constructor
  ·rintro⟨s,hs,t,rfl,ht⟩
   obtain⟨u,hu,hsu⟩:=List.mem_flatMap.1 hs
   obtain⟨x,h1,h2,rfl⟩:=(Zyq u s _ 0).1 hsu
   refine⟨u,hu,x :: t,by rw[List.append_assoc,List.singleton_append],?_⟩
   simp only[Za6,ht,Bool.and_true,decide_eq_true_iff]
   omega
  ·rintro⟨s,hs,t,rfl,ht⟩
   cases t with
   | nil=>simp[Za6]at ht
   | cons x t =>
    simp only[Za6,bA_,decide_eq_true_iff]at ht
    refine⟨s++[x],List.mem_flatMap.2 ⟨s,hs,(Zyq s _ _ 0).2 ⟨x,by omega,by omega,rfl⟩⟩,t,by rw[List.append_assoc,List.singleton_append],?_⟩
    first|exact ht.2|exact ht.2.2
def Zik (t:Zah):List (List Int):=Zlj t.Vars [[]]
theorem Zs4 (t:Zah)(s:List Int):s∈Zik t↔Za6 t.Vars s=true:=by
 rw[Zik,Zaa3]
 constructor
 ·rintro⟨u,hu,v,rfl,h⟩
  rw[mI_.1 hu,List.nil_append];exact h
 ·intro h;exact⟨[],mI_.2 rfl,s,rfl,h⟩
theorem Zv3 (t:Zah)(hs:Zjl t=true):Znh t.Vars=some (Zik t):=by
 obtain⟨hgood,hv,-⟩:=Zfo hs
 have hm:Zuk 512 t.Vars 1<=512:=by
  unfold Zjl at hs
  simp only[bA_,decide_eq_true_iff]at hs
  exact hs.2.2.2
 have hk:∀k∈t.Vars,1<=k/\k<=64:=by
  unfold Ze5 at hgood
  simp only[bA_,decide_eq_true_iff,List.all_eq_true]at hgood
  exact hgood.2.1
 rw[Znh,Zyf t.Vars [[]] (by omega)]
 exact Zapu t.Vars t.Vars 0 [[]] 0 hk (λs hs=>by rw[mI_.1 hs];exact Nat.le_refl _) (by omega) (by decide) (by decide) hm
theorem Zaa2 : ∀(r:List Int)(out:List (List Int)),(∀k∈r,1<=k/\k<=64)->out.length<=512->Zuk 512 r out.length<=512->(Zlj r out).length<=512
 | [],out,_,hl,_=>hl
 | k :: r,out,hk,hl,hm=>by
  obtain⟨k1,k2⟩:=hk k (mS_ ..)
  have hmin:min (max k 0) (512+1)=k:=by omega
  rw[Zuk,hmin]at hm
  have hb:¬ ((out.length:Int)*k>512):=λh=>by rw[if_pos h]at hm;omega
  rw[if_neg hb]at hm
  obtain⟨m,rfl⟩:∃m:Nat,k=m:=⟨k.toNat,by omega⟩
  have hlen:(out.flatMap λs=>Zz0 s m 0).length=out.length*m:=Zsh m out
  have hcast:(out.length:Int)*(m:Int)=((out.length*m:Nat):Int):=by rw[Int.natCast_mul]
  rw[Zlj,Int.toNat_natCast]
  exact Zaa2 r _ (λu hu=>hk u (mC_ _ hu)) (by rw[hlen];omega) (by rw[hlen,<-hcast];exact hm)
theorem Zs3 (t:Zah)(hs:Zjl t=true):(Zik t).length<=512:=by
 obtain⟨hgood,hv,-⟩:=Zfo hs
 have hm:Zuk 512 t.Vars 1<=512:=by
  unfold Zjl at hs
  simp only[bA_,decide_eq_true_iff]at hs
  exact hs.2.2.2
 have hk:∀k∈t.Vars,1<=k/\k<=64:=by
  unfold Ze5 at hgood
  simp only[bA_,decide_eq_true_iff,List.all_eq_true]at hgood
  exact hgood.2.1
 exact Zaa2 t.Vars [[]] hk (by decide) hm
theorem Zcs : ∀{v s:List Int},Za6 v s=true->StP v s
 | [],[],_=>⟨rfl,λi h=>by simp at h⟩
 | [],_ :: _,h=>by simp[Za6]at h
 | _ :: _,[],h=>by simp[Za6]at h
 | n :: r,x :: s,h=>by
  simp only[Za6,bA_,decide_eq_true_iff]at h
  have ih:=Zcs h.2
  refine⟨by rw[lC_,lC_,ih.len],λi hi=>?_⟩
  cases i with
  | zero=>simpa using h.1
  | succ i=>simpa using ih.rng i (by simpa using hi)
def Zoh (s:List Int):List Zaq->List Int->List Int
 | [],v=>v
 | e :: r,v=>Zoh s r (if Zay s e.When=true then v.set e.Var.toNat e.Val else v)
theorem Zwx (s:List Int)(o:GOp):∀(r:List Zaq)(i:Int)(v:List Int),(∀e∈r,Sh e.When/\0<=e.Var/\e.Var<v.length)->v.length<=1000->Rg (Zox s o) (Zoy s o) r i v=some (Zoh s r v,true)
 | [],i,v,_,h=>by rw[Rg,Zoy,Zan (by omega),Zoh]
 | e :: r,i,v,he,h=>by
  obtain⟨h1,h2,h3⟩:=he e (mS_ ..)
  have he':∀u∈r,Sh u.When/\0<=u.Var/\u.Var<v.length:=λu hu=>he u (mC_ _ hu)
  rw[Rg,Zox,ixv,Zadq _ s h1,Zac,Zoh]
  by_cases hf:Zay s e.When=true
  ·obtain⟨y,hy,-⟩:=Zn4 (l:=v) (n:=e.Var.toNat) (by omega)
   rw[hf,Zby,if_pos rfl,Zdp hy,Zan h2,Zan h3]
   exact Zwx s o r _ _ (by rw[List.length_set];exact he') (by rw[List.length_set];exact h)
  ·rw[if_neg hf,Bool.eq_false_iff.2 hf,Zbb]
   exact Zwx s o r _ v he' h
theorem Zp3 (s:List Int)(x:Int)(hx:0<=x):∀(r:List Zaq)(v:List Int),(∀e∈r,0<=e.Var/\e.Var<v.length)->(Zoh s r v).getD x.toNat 0=finF s (r.filter (λe=>e.Var == x)) (v.getD x.toNat 0)
 | [],v,_=>rfl
 | e :: r,v,he=>by
  obtain⟨h2,h3⟩:=he e (mS_ ..)
  have he':∀u∈r,0<=u.Var/\u.Var<v.length:=λu hu=>he u (mC_ _ hu)
  rw[Zoh]
  have hset:∀w,(v.set e.Var.toNat w).length=v.length:=λw=>List.length_set
  by_cases hv:e.Var=x
  ·rw[List.filter_cons_of_pos (by simp[hv]),finF]
   by_cases hf:Zay s e.When=true
   ·rw[if_pos hf,if_pos hf,Zp3 s x hx r _ (by rw[hset];exact he')]
    congr 1
    rw[<-hv,gD_,List.getElem?_set_self (by omega),Option.getD_some]
   ·rw[if_neg hf,if_neg hf,Zp3 s x hx r v he']
  ·rw[List.filter_cons_of_neg (by simp[hv])]
   by_cases hf:Zay s e.When=true
   ·rw[if_pos hf,Zp3 s x hx r _ (by rw[hset];exact he')]
    congr 1
    rw[gD_,List.getElem?_set_ne (by omega),<-gD_]
   ·rw[if_neg hf,Zp3 s x hx r v he']
theorem Zww (s:List Int):∀(r:List Zaq)(v:List Int),(Zoh s r v).length=v.length
 | [],v=>rfl
 | e :: r,v=>by rw[Zoh,Zww s r];split <;> simp
theorem Zq0 {t:Zah}(h:Ze5 t=true){o:GOp}(ho:o∈t.Ops){e:Zaq}(he:e∈o.Effs):0<=e.Var/\e.Var<t.Vars.length/\0<=e.Val/\e.Val<t.Vars.getD e.Var.toNat 0:=by
 unfold Ze5 at h
 simp only[bA_,List.all_eq_true]at h
 have h1:=h.2.2.2.2 o ho
 unfold opF at h1
 simp only[bA_,decide_eq_true_iff,List.all_eq_true]at h1
 have h2:=h1.2.2.2 e he
 unfold effF at h2
 have h3:=(bA_ _ _ ▸ h2).2
 obtain⟨hv,hr⟩:=(Zfr t.Vars _ (-1)).1 h3
 have hn:=((Zgv _).1 hv).1 _ (mI_.2 rfl)
 have hr':=hr _ (mI_.2 rfl)
 exact⟨hn.1,hr'.1,hn.2,hr'.2⟩
def Zp8 (s:List Int)(o:GOp):List Int:=Zoh s o.Effs s
theorem Zajf (t:Zah)(hgood:Ze5 t=true)(s:List Int)(hs:StP t.Vars s)(j:Nat)(o:GOp)(hj:t.Ops[j]?=some o) :
  Zpi t s (j:Int)=some (if Zay s o.Pre=true then(Zp8 s o,true)else([],false)):=by
 have ok:=Zn6 hgood
 have hom:=mG_ hj
 have oo:=Zq1 hgood hom
 have hlt:=Zah8 hj
 have hlen:=hs.len
 have okl:=ok.len
 have he:=oo.effs
 rw[Zpi,Zar,if_neg (by omega),Zar,if_neg (by rw[lM_];omega),Zfv hj,Zadq _ s (Zjj ok.len oo.pre),Zac]
 by_cases hf:Zay s o.Pre=true
 ·rw[hf,Bool.not_true,Zbb,Zac,Zbv,Zan (by omega),Zfv hj,Zzd s o s (by omega),Zwx s o o.Effs 0 s (λe he=>⟨Zjj ok.len (oo.when e he),by have:=Zq0 hgood hom he;omega,by have:=Zq0 hgood hom he;omega⟩) (by omega),if_pos rfl,Zp8]
 ·rw[if_neg hf,Bool.eq_false_iff.2 hf,Bool.not_false,Zby,Zac,Ziz]
theorem Zal6 {t:Zah}(hgood:Ze5 t=true){s:List Int}(hs:StP t.Vars s){o:GOp}(ho:o∈t.Ops){p:List Zaa}(hp:Zbi t.Vars (-1) p=true):Zay (Zp8 s o) p=true↔∀f∈p,valF s o f.1=f.2:=by
 obtain⟨hv,hr⟩:=(Zfr t.Vars p (-1)).1 hp
 have hn:=((Zgv p).1 hv).1
 have hlen:=hs.len
 rw[Za7]
 have key:∀f∈p,(Zuh (Zp8 s o) f=true↔valF s o f.1=f.2):=λf hf=>by
  have h1:=hn f hf
  have h2:=hr f hf
  rw[Zes,Zp8,Zp3 s f.1 h1.1 o.Effs s (λe he=>by have:=Zq0 hgood ho he;omega),Zww]
  constructor
  ·intro h;exact h.2.2
  ·intro h;exact⟨h1.1,by omega,h⟩
 exact⟨λh f hf=>(key f hf).1 (h f hf),λh f hf=>(key f hf).2 (h f hf)⟩
def Zabk (x:List Zaa):Int->List Int->List Int
 | _,[]=>[]
 | i,_ :: r=>max 0 (Zgq x i) :: Zabk x (i+1) r
theorem Zab1 {vars:List Int}(hd:∀n∈vars,1<=n){x:List Zaa}(hx:∀f∈x,0<=f.2/\0<=f.1/\f.1<vars.length/\f.2<vars.getD f.1.toNat 0):∀(r:List Int)(n:Nat),vars.drop n=r->Za6 r (Zabk x n r)=true
 | [],n,_=>rfl
 | k :: r,n,h=>by
  obtain⟨h1,h2,h3⟩:=Zc5 h
  have hk:=hd k (mG_ h1)
  rw[Zabk,Za6,bA_,decide_eq_true_iff]
  refine⟨⟨by omega,?_⟩,Zab1 hd hx r (n+1) h2⟩
  have:Zgq x n=-1\/∃f∈x,f.1=n/\Zgq x n=f.2:=by
   clear hx
   induction x with
   | nil=>exact Or.inl rfl
   | cons f x ih =>
    rw[Zgq]
    by_cases e:f.1=n
    ·rw[if_pos e];exact Or.inr ⟨f,mS_ ..,e,rfl⟩
    ·rw[if_neg e]
     rcases ih with h|⟨u,hu,h⟩
     ·exact Or.inl h
     ·exact Or.inr ⟨u,mC_ _ hu,h⟩
  rcases this with h|⟨f,hf,e1,e2⟩
  ·rw[h];omega
  ·have h4:=(hx f hf).2.2.2
   rw[e1,Int.toNat_natCast,gD_,h1,Option.getD_some]at h4
   omega
theorem Zajs (x:List Zaa):∀(r:List Int)(n:Int)(i:Nat),i<r.length->(Zabk x n r).getD i 0=max 0 (Zgq x (n+i))
 | [],n,i,h=>by cases h
 | k :: r,n,0,h=>by simp[Zabk]
 | k :: r,n,i+1,h=>by
  rw[Zabk,List.getD_cons_succ,Zajs x r (n+1) i (by simpa using h)]
  congr 2;omega
theorem Zaly {vars:List Int}{x:List Zaa}(hx:Zbi vars (-1) x=true):Zay (Zabk x 0 vars) x=true:=by
 obtain⟨hv,hr⟩:=(Zfr vars x (-1)).1 hx
 obtain⟨hn,ha⟩:=(Zgv x).1 hv
 have hlen:∀(r:List Int) (i:Int),(Zabk x i r).length=r.length:=by
  intro r;induction r with
  | nil=>intro i;rfl
  | cons k r ih=>intro i;rw[Zabk,lC_,ih,lC_]
 rw[Za7]
 intro f hf
 have h1:=hn f hf
 have h2:=hr f hf
 refine Zes.2 ⟨h1.1,by rw[hlen];exact h2.1,?_⟩
 rw[Zajs x vars 0 f.1.toNat (by omega),show(0:Int)+(f.1.toNat:Int)=f.1 from by omega,(Zvr ha h1.2).2 hf]
 omega
def Zxu (p x:List Zaa):Bool:=x.any λf=>decide (0<=Zgq p f.1)&&decide (Zgq p f.1≠f.2)
def lowF (p:List Zaa):List Zaa->Int->Int
 | [],v=>v
 | f :: r,v=>lowF p r (if f.1<v/\Zgq p f.1<0 then f.1 else v)
def Zun (p:List Zaa):List (List Zaa)->Int->Int
 | [],v=>v
 | x :: r,v=>Zun p r (lowF p x v)
def kids (f:Int->Bool×Int):Nat->Int->Int->Bool×Int
 | 0,_,c=>(true,c)
 | m+1,x,c=>if(f x).1=true then kids f m (x+1) (c+(f x).2)else(false,c+(f x).2)
def Zhv (p:List Zaa)(l:List (List Zaa)):List (List Zaa):=l.filter λx=>!Zxu p x
def decA (vars:List Int):Nat->List Zaa->List (List Zaa)->Bool×Int
 | 0,_,_=>(false,1)
 | d+1,p,l =>
  if l.any (λx=>subF x p)then(true,1)
  else if Zun p (Zhv p l) vars.length=vars.length then(false,1)
  else kids (λx=>decA vars d (Zli p (Zun p (Zhv p l) vars.length,x)) (Zhv p l)) (vars.getD (Zun p (Zhv p l) vars.length).toNat 0).toNat 0 1
theorem Zaag (p:List Zaa):∀(l:List Zaa)(v:Int),lowF p l v<=v/\(∀f∈l,Zgq p f.1<0->lowF p l v<=f.1)/\(lowF p l v=v\/∃f∈l,f.1=lowF p l v/\Zgq p f.1<0)
 | [],v=>⟨Int.le_refl _,(nofun),.inl rfl⟩
 | f :: r,v=>by
  rw[lowF]
  by_cases h:f.1<v/\Zgq p f.1<0
  ·rw[if_pos h]
   obtain⟨h1,h2,h3⟩:=Zaag p r f.1
   refine⟨by omega,λu hu hn=>?_,?_⟩
   ·rcases List.mem_cons.1 hu with rfl|hu
    ·exact h1
    ·exact h2 u hu hn
   ·rcases h3 with h3|⟨u,hu,e⟩
    ·exact .inr ⟨f,mS_ ..,h3.symm,h.2⟩
    ·exact .inr ⟨u,mC_ _ hu,e⟩
  ·rw[if_neg h]
   obtain⟨h1,h2,h3⟩:=Zaag p r v
   refine⟨h1,λu hu hn=>?_,?_⟩
   ·rcases List.mem_cons.1 hu with rfl|hu
    ·have:¬ u.1<v:=λhlt=>h ⟨hlt,hn⟩
     omega
    ·exact h2 u hu hn
   ·rcases h3 with h3|⟨u,hu,e⟩
    ·exact .inl h3
    ·exact .inr ⟨u,mC_ _ hu,e⟩
theorem Zaah (p:List Zaa):∀(l:List (List Zaa))(v:Int),Zun p l v<=v/\(∀x∈l,∀f∈x,Zgq p f.1<0->Zun p l v<=f.1)/\(Zun p l v=v\/∃x∈l,∃f∈x,f.1=Zun p l v/\Zgq p f.1<0)
 | [],v=>⟨Int.le_refl _,(nofun),.inl rfl⟩
 | x :: r,v=>by
  rw[Zun]
  obtain⟨g1,g2,g3⟩:=Zaag p x v
  obtain⟨h1,h2,h3⟩:=Zaah p r (lowF p x v)
  refine⟨by omega,λy hy f hf hn=>?_,?_⟩
  ·rcases List.mem_cons.1 hy with rfl|hy
   ·have:=g2 f hf hn;omega
   ·exact h2 y hy f hf hn
  ·rcases h3 with h3|⟨y,hy,f,hf,e⟩
   ·rcases g3 with g3|⟨f,hf,e,hn⟩
    ·exact .inl (by omega)
    ·exact .inr ⟨x,mS_ ..,f,hf,by omega,hn⟩
   ·exact .inr ⟨y,mC_ _ hy,f,hf,e⟩
theorem Zaf0 (f:Int->Bool×Int):∀(m:Nat)(x c:Int),(kids f m x c).1=true↔∀y:Int,x<=y->y<x+m->(f y).1=true
 | 0,x,c=>⟨λ_ y h1 h2=>by omega,λ_=>rfl⟩
 | m+1,x,c=>by
  rw[kids]
  by_cases h:(f x).1=true
  ·rw[if_pos h,Zaf0 f m]
   constructor
   ·intro hh y h1 h2
    rcases Int.lt_or_eq_of_le h1 with h3|rfl
    ·exact hh y (by omega) (by omega)
    ·exact h
   ·intro hh y h1 h2;exact hh y (by omega) (by omega)
  ·rw[if_neg h]
   exact⟨λhh=>(by cases hh),λhh=>absurd (hh x (Int.le_refl _) (by omega)) h⟩
theorem Zalz {p:List Zaa}{v:Int}(hn:Zabu p):Zgq p v<0↔∀z∈p,z.1≠v:=by
 induction p with
 | nil=>exact⟨λ_=>(nofun),λ_=>(by rw[Zgq];omega)⟩
 | cons f r ih =>
  have hr:Zabu r:=λx hx=>hn x (mC_ _ hx)
  have hf:=hn f (mS_ ..)
  rw[Zgq]
  by_cases e:f.1=v
  ·rw[if_pos e];exact⟨λh=>by omega,λh=>absurd e (h f (mS_ ..))⟩
  ·rw[if_neg e,ih hr]
   exact⟨λh z hz=>by rcases List.mem_cons.1 hz with rfl|hz;exact e;exact h z hz,λh z hz=>h z (mC_ _ hz)⟩
theorem Zal0 {p:List Zaa}{v:Int}(h:0<=Zgq p v):(v,Zgq p v)∈p:=by
 induction p with
 | nil=>rw[Zgq]at h;omega
 | cons f r ih =>
  rw[Zgq]at h ⊢
  by_cases e:f.1=v
  ·rw[if_pos e];rw[<-e];exact mS_ ..
  ·rw[if_neg e]at h ⊢;exact mC_ _ (ih h)
theorem Zaao {vars:List Int}{p:List Zaa}(h:Zbi vars (-1) p=true):Zabu p/\Asc p/\∀x∈p,x.1<vars.length/\x.2<vars.getD x.1.toNat 0:=by
 obtain⟨hv,hr⟩:=(Zfr vars p (-1)).1 h
 obtain⟨hn,ha⟩:=(Zgv p).1 hv
 exact⟨hn,ha,hr⟩
theorem Zami {vars:List Int}{p:List Zaa}(h:Zbi vars (-1) p=true){v x:Int}(v0:0<=v)(v1:v<vars.length)(hf:Zgq p v<0)(x0:0<=x)(x1:x<vars.getD v.toNat 0):Zbi vars (-1) (Zli p (v,x))=true:=by
 obtain⟨hn,ha,hr⟩:=Zaao h
 refine(Zfr _ _ _).2 ⟨(Zgv _).2 ⟨λz hz=>?_,Zamh p (v,x) ha ((Zalz hn).1 hf)⟩,λz hz=>?_⟩
 ·rcases(Znl p (v,x) z).1 hz with hz|rfl
  ·exact hn z hz
  ·exact⟨v0,x0⟩
 ·rcases(Znl p (v,x) z).1 hz with hz|rfl
  ·exact hr z hz
  ·exact⟨v1,x1⟩
theorem Zaaa {s:List Int}{p:List Zaa}{v x:Int}:Zay s (Zli p (v,x))=true↔Zay s p=true/\Zuh s (v,x)=true:=by
 rw[Za7,Za7]
 constructor
 ·intro h;exact⟨λz hz=>h z ((Znl _ _ _).2 (.inl hz)),h _ ((Znl _ _ _).2 (.inr rfl))⟩
 ·rintro⟨h1,h2⟩ z hz
  rcases(Znl _ _ _).1 hz with hz|rfl
  ·exact h1 z hz
  ·exact h2
theorem Zanu {s:List Int}{p x:List Zaa}(hp:Zay s p=true)(h:Zxu p x=true):¬ Zay s x=true:=by
 intro hx
 unfold Zxu at h
 obtain⟨f,hf,e⟩:=List.any_eq_true.1 h
 simp only[bA_,decide_eq_true_iff]at e
 have h1:=Zes.1 (Za7.1 hp _ (Zal0 e.1))
 have h2:=Zes.1 (Za7.1 hx f hf)
 exact e.2 (h1.2.2.symm.trans h2.2.2)
theorem Zaat {s:List Int}{p:List Zaa}(hp:Zay s p=true)(l:List (List Zaa)):Zmc s (Zhv p l)↔Zmc s l:=by
 unfold Zmc Zhv
 constructor
 ·rintro⟨z,hz,h⟩;exact⟨z,(List.mem_filter.1 hz).1,h⟩
 ·rintro⟨z,hz,h⟩
  refine⟨z,List.mem_filter.2 ⟨hz,?_⟩,h⟩
  cases hc:Zxu p z with
  | false=>rfl
  | true=>exact absurd h (Zanu hp hc)
structure DecP (vars:List Int)(d:Nat)(p:List Zaa)(l:List (List Zaa)):Prop where
 dom:∀n∈vars,1<=n
 prop:Zbi vars (-1) p=true
 all:Zfu vars l
 deep:vars.length<d+p.length
theorem DecP.low {vars:List Int}{d:Nat}{p:List Zaa}{l:List (List Zaa)}(h:DecP vars d p l)(hl:Zun p (Zhv p l) vars.length≠vars.length):0<=Zun p (Zhv p l) vars.length/\Zun p (Zhv p l) vars.length<vars.length/\Zgq p (Zun p (Zhv p l) vars.length)<0:=by
 obtain⟨h1,-,h3⟩:=Zaah p (Zhv p l) vars.length
 rcases h3 with h3|⟨x,hx,f,hf,e,hn⟩
 ·exact absurd h3 hl
 ·obtain⟨hxn,-,-⟩:=Zaao (h.all x (List.mem_filter.1 hx).1)
  have:=(hxn f hf).1
  exact⟨by omega,by omega,by rw[<-e];exact hn⟩
theorem DecP.kid {vars:List Int}{d:Nat}{p:List Zaa}{l:List (List Zaa)}(h:DecP vars (d+1) p l)(hl:Zun p (Zhv p l) vars.length≠vars.length){x:Int}(x0:0<=x)(x1:x<vars.getD (Zun p (Zhv p l) vars.length).toNat 0):DecP vars d (Zli p (Zun p (Zhv p l) vars.length,x)) (Zhv p l):=by
 obtain⟨h1,h2,h3⟩:=h.low hl
 exact⟨h.dom,Zami h.prop h1 h2 h3 x0 x1,λz hz=>h.all z (List.mem_filter.1 hz).1,by rw[Zace];have:=h.deep;omega⟩
theorem DecP.zero {vars:List Int}{p:List Zaa}{l:List (List Zaa)}(h:DecP vars 0 p l):False:=by
 have h1:=Ztg h.prop
 have h2:=h.deep
 omega
theorem Zamq {vars:List Int}(hd:∀n∈vars,1<=n){p:List Zaa}(h:Zbi vars (-1) p=true):∃s,Za6 vars s=true/\Zay s p=true:=by
 obtain⟨hn,-,hr⟩:=Zaao h
 exact⟨Zabk p 0 vars,Zab1 hd (λf hf=>⟨(hn f hf).2,(hn f hf).1,hr f hf⟩) vars 0 rfl,Zaly h⟩
theorem Zzz {vars:List Int}:∀(d:Nat)(p:List Zaa)(l:List (List Zaa)),DecP vars d p l->((decA vars d p l).1=true↔∀s,Za6 vars s=true->Zay s p=true->Zmc s l)
 | 0,p,l,h=>h.zero.elim
 | d+1,p,l,h=>by
  rw[decA]
  by_cases hc:l.any (λx=>subF x p)=true
  ·rw[if_pos hc]
   refine⟨λ_ s _ hp=>?_,λ_=>rfl⟩
   obtain⟨x,hx,hs⟩:=List.any_eq_true.1 hc
   exact⟨x,hx,Za7.2 λf hf=>Za7.1 hp f (Zy0.1 hs f hf)⟩
  ·rw[if_neg hc]
   by_cases hl:Zun p (Zhv p l) vars.length=vars.length
   ·rw[if_pos hl]
    refine⟨λhh=>(by cases hh),λhh=>?_⟩
    obtain⟨s,s1,s2⟩:=Zamq h.dom h.prop
    obtain⟨x,hx,-⟩:=(Zaat s2 l).2 (hh s s1 s2)
    obtain⟨hxl,hxc⟩:=List.mem_filter.1 hx
    obtain⟨hxn,-,hxr⟩:=Zaao (h.all x hxl)
    obtain⟨hpn,hpa,-⟩:=Zaao h.prop
    refine absurd ((List.any_eq_true (p:=λx=>subF x p)).2 ⟨x,hxl,Zy0.2 λf hf=>?_⟩) hc
    have h0:0<=Zgq p f.1:=by
     refine Int.not_lt.1 λhn=>?_
     have h1:=(Zaah p (Zhv p l) vars.length).2.1 x hx f hf hn
     have h2:=(hxr f hf).1
     omega
    have h3:Zgq p f.1=f.2:=by
     refine Decidable.byContradiction λhne=>?_
     have:Zxu p x=true:=List.any_eq_true.2 ⟨f,hf,by simp only[bA_,decide_eq_true_iff];exact⟨h0,hne⟩⟩
     rw[this]at hxc
     cases hxc
    exact(Zvr hpa (hxn f hf).2).1 h3
   ·rw[if_neg hl,Zaf0]
    obtain⟨h1,h2,h3⟩:=h.low hl
    have hdom:=h.dom
    constructor
    ·intro hh s s1 s2
     have st:=Zcs s1
     have hr:=st.rng (Zun p (Zhv p l) vars.length).toNat (by omega)
     have hx:=hh (s.getD (Zun p (Zhv p l) vars.length).toNat 0) hr.1 (by omega)
     have hk:=h.kid hl hr.1 hr.2
     have:=(Zzz d _ _ hk).1 hx s s1 (Zaaa.2 ⟨s2,Zes.2 ⟨h1,by rw[st.len];exact h2,rfl⟩⟩)
     exact(Zaat s2 l).1 this
    ·intro hh y y0 y1
     have y2:y<vars.getD (Zun p (Zhv p l) vars.length).toNat 0:=by omega
     refine(Zzz d _ _ (h.kid hl y0 y2)).2 λs s1 s2=>?_
     have s3:=(Zaaa.1 s2).1
     exact(Zaat s3 l).2 (hh s s1 s3)
end Go.Proofs.YtpfnmpdcneejbaaGreatDoor.Am
namespace Go.Proofs.YtpfnmpdcneejbaaGreatDoor.Am
set_option maxHeartbeats 16000000
set_option maxRecDepth 100000
open Go.RowKit
def Zk8 (b0:List Int)(a0:List Zaa):Option (Bool):=ob1 (Zdx b0 a0) (λz1=>some (!z1))
theorem Zacs (b0:List Int)(a0:List Zaa){r1:Bool}(h:Zk8 b0 a0=some r1):ACall cx 96 [.sl 2 (a0.map cF),.pim [.sl 1 (b0.map cI)] 0] (.c (.bool r1)):=by
 refine aOf Tryz.func96 rfl (by decide) rfl (bT2 rfl) ?_;intro _;unfold Zk8 at h;refine aSR λ_=>dr (aSR λ_=>?_);obtain⟨z1,u1,h⟩:=Zae h;refine cl rfl (Zkq b0 a0 u1) ?_;exact zz0
def Zd9 (a0:List Zaa)(a1:List Zaa):Nat->Int->Option (Bool)|0,_=>none|k7+1,v6=>sel (decide (v6<((a1.map cF).length:Int))) (ix a1 v6 (λy8=>ob1 (Zmd a0 y8.1) (λz9=>sel (decide (z9>=0)) (sel (z9 != y8.2) (some true) (Zd9 a0 a1 k7 (IntKind.i64.wrap (v6+1)))) (Zd9 a0 a1 k7 (IntKind.i64.wrap (v6+1)))))) (some false)
def Zks (a0:List Zaa)(a1:List Zaa):Option (Bool):=Zd9 a0 a1 ((((a1.map cF).length:Int)).toNat+1) 0
theorem Zael (a0:List Zaa)(a1:List Zaa){r1:Bool}(h:Zks a0 a1=some r1):ACall cx 122 [.sl 2 (a0.map cF),.sl 2 (a1.map cF)] (.c (.bool r1)):=by
 refine aOf Tryz.func122 rfl (by decide) rfl (bT2 rfl) ?_;intro _;unfold Zks at h;refine aSR λ_=>dr (aSq (aSR λ_=>dr (aBk ?_)));refine Zaj (α:=Nat×Int) (λx=>mkS 27 [(0,.sl 2 (a0.map cF)),(8,.sl 2 (a1.map cF)),(9,.c (.int .i64 ((a1.map cF).length:Int))),(10,.c (.int .i64 x.2))] []) (λx=>Zd9 a0 a1 x.1 x.2=some r1) (λx=>x.1) ((((a1.map cF).length:Int)).toNat+1,0) h ?_ ?_
 ·exact Zas
 ·intro x1 h;intro _;obtain⟨k7,m2,h⟩:=Zak (f:=λn=>Zd9 a0 a1 n x1.2) rfl h;replace h:Zd9 a0 a1 (k7+1) x1.2=some r1:=h;rw[Zd9]at h;refine aSR λ_=>dr (aSq (aCd λ_=>?_));refine spl h (λc3 h=>?_) (λc3 h=>?_)
  ·refine aSk (aSq (aBk (aSR λ_=>?_)));obtain⟨y8,w4,q5,h⟩:=Za9 h;refine Exists.intro (cF y8) (And.intro (Zad w4) λ_=>pr (dr (aSR λ_=>?_)));obtain⟨z9,u6,h⟩:=Zae h;refine cl rfl (Zact a0 y8.1 u6) λ_=>dr (aSR λ_=>?_);refine spl h (λc7 h=>?_) (λc7 h=>?_)
   ·intro _;refine dr (aCd λ_=>?_);refine spl h (λc8 h=>?_) (λc8 h=>?_)
    ·exact zz2
    ·refine aSk (aRg λ_=>dr ⟨(k7,(IntKind.i64.wrap (x1.2+1))),h,ltS m2,?_⟩);exact Zas
   ·intro _;refine dr (aCd λ_=>Znf (aSk (aRg λ_=>dr ⟨(k7,(IntKind.i64.wrap (x1.2+1))),h,ltS m2,?_⟩)));exact Zas
  ·exact zz9
def Ze3 (a0:Zdd)(a1:List Zaa)(a2:List (List Zaa)):Nat->Int->(List (List Zaa))->Option ((List (List Zaa))⊕(Bool×Zdd))|0,_,_=>none|k29+1,v27,v28=>sel (decide (v27<((a2.map Zal).length:Int))) (ix a2 v27 (λy30=>ob1 (Zg4 a1 y30) (λz31=>sel z31 (some (.inr (true,{ vars:=a0.vars,used:=(IntKind.i64.wrap (a0.used+1)),steps:=a0.steps,full:=a0.full:Zdd }))) (ob1 (Zks a1 y30) (λz32=>sel (!z32) (grd ((v28.length+1)*24<=140737488355328) (Ze3 a0 a1 a2 k29 (IntKind.i64.wrap (v27+1)) (v28++[y30]))) (Ze3 a0 a1 a2 k29 (IntKind.i64.wrap (v27+1)) v28)))))) (some (.inl v28))
def Zdk (a1:List Zaa)(y189:List Zaa):Nat->Int->Int->Option (Int)|0,_,_=>none|k198+1,v196,v197=>sel (decide (v197<((y189.map cF).length:Int))) (ix y189 v197 (λy199=>sel (decide (y199.1<v196)) (ob1 (Zmd a1 y199.1) (λz200=>sel (decide (z200<0)) (Zdk a1 y189 k198 y199.1 (IntKind.i64.wrap (v197+1))) (Zdk a1 y189 k198 v196 (IntKind.i64.wrap (v197+1))))) (Zdk a1 y189 k198 v196 (IntKind.i64.wrap (v197+1))))) (some v196)
def Zf2 (a1:List Zaa)(v15:List (List Zaa)):Nat->Int->Int->Option (Int)|0,_,_=>none|k174+1,v172,v173=>sel (decide (v173<((v15.length:Nat):Int))) (ob1 (ixn v15 ((v173).toNat) (λy189=>grd (0<=v173) (grd (v173<((v15.length:Nat):Int)) (Zdk a1 y189 ((((y189.map cF).length:Int)).toNat+1) v172 0))):Option (Int)) (λv187=>Zf2 a1 v15 k174 v187 (IntKind.i64.wrap (v173+1)))) (some v172)
def Zf3 (a1:List Zaa)(rec:Zdd->(List Zaa)->(List (List Zaa))->Option (Bool×Zdd))(v116:Int)(y201:Int):Nat->(List (List Zaa))->Int->(List Int)->Int->Int->Bool->Option (Bool×Zdd)|0,_,_,_,_,_,_=>none|k221+1,v215,v216,v217,v218,v219,v220=>sel (decide (v216<y201)) (ob1 (Zaja a1 (v116,v216)) (λz222=>grd (z222.length<=140737488355328) (ob2 (rec ({ vars:=v217,used:=v218,steps:=v219,full:=v220:Zdd }) z222 v215) (λz223 c224=>sel (!z223) (some (false,c224)) (Zf3 a1 rec v116 y201 k221 v215 (IntKind.i64.wrap (v216+1)) c224.vars c224.used c224.steps c224.full))))) (some (true,{ vars:=v217,used:=v218,steps:=v219,full:=v220:Zdd }))
def Zhe : Nat->Zdd->(List Zaa)->(List (List Zaa))->Option (Bool×Zdd)|0,_,_,_=>none|g+1,a0,a1,a2=>sel (decide (a0.used>=a0.steps)) (some (false,{ vars:=a0.vars,used:=a0.used,steps:=a0.steps,full:=true:Zdd })) (ob1 (Ze3 a0 a1 a2 ((((a2.map Zal).length:Int)).toNat+1) 0 []:Option ((List (List Zaa))⊕(Bool×Zdd))) (Zj9 (λv15=>ob1 (Zf2 a1 v15 ((((v15.length:Nat):Int)).toNat+1) ((a0.vars.map cI).length:Int) 0:Option (Int)) (λv116=>sel (v116 == ((a0.vars.map cI).length:Int)) (some (false,{ vars:=a0.vars,used:=(IntKind.i64.wrap (a0.used+1)),steps:=a0.steps,full:=a0.full:Zdd })) (ix a0.vars v116 (λy201=>grd (v15.length<=140737488355328) (Zf3 a1 (Zhe g) v116 y201 ((y201).toNat+1) v15 0 a0.vars (IntKind.i64.wrap (a0.used+1)) a0.steps a0.full))))) (λ(r16,r17)=>some (r16,r17))))
theorem Zag7 : ∀(g:Nat)(a0:Zdd)(a1:List Zaa)(a2:List (List Zaa)){r1:Bool}{r2:Zdd}(_:Zhe g a0 a1 a2=some (r1,r2)),Zc8 cx 97 [.ptr 112 0 0 0,.sl 2 (a1.map cF),.sl 1 (a2.map Zal)] [(112,⟨174,4,true,[[.sl 1 (a0.vars.map cI),.c (.int .i64 a0.used),.c (.int .i64 a0.steps),.c (.bool a0.full)]]⟩)] [112] (.c (.bool r1)) [(112,⟨174,4,true,[[.sl 1 (r2.vars.map cI),.c (.int .i64 r2.used),.c (.int .i64 r2.steps),.c (.bool r2.full)]]⟩)]
 := by
 intro g
 induction g with
 | zero=>intros;rename_i h;rw[Zhe]at h;cases h
 | succ g ih =>
  intro a0 a1 a2 r1 r2 h;refine Zc4 115 Tryz.func97 rfl (by decide) rfl (bT2 rfl) rfl rfl ?_;intro _;rw[Zhe]at h;refine aSR λ_=>dr (aSq (aSR λ_=>dr (aCd λ_=>?_)));refine spl h (λc1 h=>?_) (λc1 h=>?_)
  ·refine aSR λ_=>dr (aSR λ_=>dr (aRt λ_=>?_));obtain⟨rfl,rfl⟩:=Zw6 h;all_goals (refine Exists.intro [] (And.intro rfl (And.intro ?_ ?_)));all_goals (exact gz3)
  ·refine aSk (aSR λ_=>dr (aSR λ_=>dr ?_));obtain⟨o2,h,hK3⟩:=Zae h;refine Zat (α:=List (List Zaa)) (λv15=>mkG 112 115 [(0,.ptr 112 0 0 0),(1,.sl 2 (a1.map cF)),(7,.own 51 0 0 v15.length)] [(51,⟨23,1,false,v15.map Zal⟩),(112,⟨174,4,true,[[.sl 1 (a0.vars.map cI),.c (.int .i64 (IntKind.i64.wrap (a0.used+1))),.c (.int .i64 a0.steps),.c (.bool a0.full)]]⟩)]) (λv=>o2=(.inl v)) ?_ ?_
   ·refine aSR λ_=>dr (aBk ?_);refine Zaj (α:=Nat×Int×(List (List Zaa))) (λx=>mkG 112 115 [(0,.ptr 112 0 0 0),(1,.sl 2 (a1.map cF)),(7,.own 51 0 0 x.2.2.length),(35,.sl 1 (a2.map Zal)),(36,.c (.int .i64 ((a2.map Zal).length:Int))),(37,.c (.int .i64 x.2.1))] [(51,⟨23,1,false,x.2.2.map Zal⟩),(112,⟨174,4,true,[[.sl 1 (a0.vars.map cI),.c (.int .i64 (IntKind.i64.wrap (a0.used+1))),.c (.int .i64 a0.steps),.c (.bool a0.full)]]⟩)]) (λx=>Ze3 a0 a1 a2 x.1 x.2.1 x.2.2=some o2) (λx=>x.1) ((((a2.map Zal).length:Int)).toNat+1,0,[]) h ?_ ?_
    ·exact Zas
    ·intro x4 h;intro _;obtain⟨k29,m5,h⟩:=Zak (f:=λn=>Ze3 a0 a1 a2 n x4.2.1 x4.2.2) rfl h;replace h:Ze3 a0 a1 a2 (k29+1) x4.2.1 x4.2.2=some o2:=h;rw[Ze3]at h;refine aSR λ_=>dr (aSq (aCd λ_=>?_));refine spl h (λc6 h=>?_) (λc6 h=>?_)
     ·refine aSk (aSq (aBk (aSR λ_=>?_)));obtain⟨y30,w7,q8,h⟩:=Za9 h;refine Exists.intro (Zal y30) (And.intro (Zad w7) λ_=>pr (dr (aSq (aSR λ_=>?_))));obtain⟨z31,u9,h⟩:=Zae h;refine cl rfl (Zrt a1 y30 u9) λ_=>dr (aCd λ_=>?_);refine spl h (λc10 h=>?_) (λc10 h=>?_)
      ·refine aSR λ_=>dr (aRt ?_);have j11:=sI_ h;subst j11;replace h:=(Za4 hK3);intro _;obtain⟨rfl,rfl⟩:=Zw6 h;all_goals (refine Exists.intro [] (And.intro rfl (And.intro ?_ ?_)));all_goals (exact gz3)
      ·refine aSk (aSR λ_=>?_);obtain⟨z32,u12,h⟩:=Zae h;refine cl rfl (Zael a1 y30 u12) λ_=>dr (aCd λ_=>?_);refine spl h (λc13 h=>?_) (λc13 h=>?_)
       ·refine aRg λ_=>?_;obtain⟨q14,h⟩:=Zaf h;refine pl (pl ?_);refine And.intro (by first|with_reducible assumption|(show(x4.2.2.length+1)*24<=140737488355328;with_reducible assumption)|omega|(simp;omega)) ?_;refine pe (dr (aRg λ_=>dr ⟨(k29,(IntKind.i64.wrap (x4.2.1+1)),(x4.2.2++[y30])),h,ltS m5,?_⟩));exact Zas
       ·refine aSk (aRg λ_=>dr ⟨(k29,(IntKind.i64.wrap (x4.2.1+1)),x4.2.2),h,ltS m5,?_⟩);exact Zas
     ·refine aEx ⟨x4.2.2,(sI_ h).symm,?_⟩;exact Zas
   ·rintro v15 ho;have ho:=ho.symm;subst ho;intro _;replace h:=(Zcx hK3);refine aSR λ_=>dr ?_;obtain⟨o15,h,hK16⟩:=Zae h;refine Zat (α:=Int) (λv116=>mkG 112 115 [(0,.ptr 112 0 0 0),(1,.sl 2 (a1.map cF)),(7,.own 51 0 0 v15.length),(10,.c (.int .i64 v116))] [(51,⟨23,1,false,v15.map Zal⟩),(112,⟨174,4,true,[[.sl 1 (a0.vars.map cI),.c (.int .i64 (IntKind.i64.wrap (a0.used+1))),.c (.int .i64 a0.steps),.c (.bool a0.full)]]⟩)]) (λv=>o15=v) ?_ ?_
    ·refine aSR λ_=>dr (aBk ?_);refine Zaj (α:=Nat×Int×Int) (λx=>mkG 112 115 [(0,.ptr 112 0 0 0),(1,.sl 2 (a1.map cF)),(7,.own 51 0 0 v15.length),(10,.c (.int .i64 x.2.1)),(58,.own 51 0 0 v15.length),(59,.c (.int .i64 ((v15.length:Nat):Int))),(60,.c (.int .i64 x.2.2))] [(51,⟨23,1,false,v15.map Zal⟩),(112,⟨174,4,true,[[.sl 1 (a0.vars.map cI),.c (.int .i64 (IntKind.i64.wrap (a0.used+1))),.c (.int .i64 a0.steps),.c (.bool a0.full)]]⟩)]) (λx=>Zf2 a1 v15 x.1 x.2.1 x.2.2=some o15) (λx=>x.1) ((((v15.length:Nat):Int)).toNat+1,((a0.vars.map cI).length:Int),0) h ?_ ?_
     ·exact Zas
     ·intro x17 h;intro _;obtain⟨k174,m18,h⟩:=Zak (f:=λn=>Zf2 a1 v15 n x17.2.1 x17.2.2) rfl h;replace h:Zf2 a1 v15 (k174+1) x17.2.1 x17.2.2=some o15:=h;rw[Zf2]at h;refine aSR λ_=>dr (aSq (aCd λ_=>?_));refine spl h (λc19 h=>?_) (λc19 h=>?_)
      ·refine aSk ?_;obtain⟨o20,h,hK21⟩:=Zae h;refine Zat (α:=Int) (λv187=>mkG 112 115 [(0,.ptr 112 0 0 0),(1,.sl 2 (a1.map cF)),(7,.own 51 0 0 v15.length),(10,.c (.int .i64 v187)),(58,.own 51 0 0 v15.length),(59,.c (.int .i64 ((v15.length:Nat):Int))),(60,.c (.int .i64 x17.2.2))] [(51,⟨23,1,false,v15.map Zal⟩),(112,⟨174,4,true,[[.sl 1 (a0.vars.map cI),.c (.int .i64 (IntKind.i64.wrap (a0.used+1))),.c (.int .i64 a0.steps),.c (.bool a0.full)]]⟩)]) (λv=>o20=v) ?_ ?_
       ·refine aBk (aSR λ_=>?_);obtain⟨y189,w22,h⟩:=Zcm h;refine Exists.intro (Zal y189) (And.intro (by first|exact Zad w22|(have w:=Zad (f:=Zal) w22;simpa [Zal,Value.cells] using w)) ?_);intro _;obtain⟨q23,h⟩:=Zaf h;obtain⟨q24,h⟩:=Zaf h;refine pr (pr (dr (aSR λ_=>dr (aBk ?_))));refine Zaj (α:=Nat×Int×Int) (λx=>mkG 112 115 [(0,.ptr 112 0 0 0),(1,.sl 2 (a1.map cF)),(7,.own 51 0 0 v15.length),(10,.c (.int .i64 x.2.1)),(58,.own 51 0 0 v15.length),(59,.c (.int .i64 ((v15.length:Nat):Int))),(60,.c (.int .i64 x17.2.2)),(64,.sl 2 (y189.map cF)),(65,.c (.int .i64 ((y189.map cF).length:Int))),(66,.c (.int .i64 x.2.2))] [(51,⟨23,1,false,v15.map Zal⟩),(112,⟨174,4,true,[[.sl 1 (a0.vars.map cI),.c (.int .i64 (IntKind.i64.wrap (a0.used+1))),.c (.int .i64 a0.steps),.c (.bool a0.full)]]⟩)]) (λx=>Zdk a1 y189 x.1 x.2.1 x.2.2=some o20) (λx=>x.1) ((((y189.map cF).length:Int)).toNat+1,x17.2.1,0) h ?_ ?_
        ·exact Zas
        ·intro x25 h;intro _;obtain⟨k198,m26,h⟩:=Zak (f:=λn=>Zdk a1 y189 n x25.2.1 x25.2.2) rfl h;replace h:Zdk a1 y189 (k198+1) x25.2.1 x25.2.2=some o20:=h;rw[Zdk]at h;refine aSR λ_=>dr (aSq (aCd λ_=>?_));refine spl h (λc27 h=>?_) (λc27 h=>?_)
         ·refine aSk (aSq (aBk (aSR λ_=>?_)));obtain⟨y199,w28,q29,h⟩:=Za9 h;refine Exists.intro (cF y199) (And.intro (Zad w28) λ_=>pr (dr (aSR λ_=>?_)));refine spl h (λc30 h=>?_) (λc30 h=>?_)
          ·intro _;obtain⟨z200,u31,h⟩:=Zae h;refine cl rfl (Zact a1 y199.1 u31) λ_=>dr (aCd λ_=>?_);refine spl h (λc32 h=>?_) (λc32 h=>?_)
           ·refine aRg λ_=>dr (aRg λ_=>dr ⟨(k198,y199.1,(IntKind.i64.wrap (x25.2.2+1))),h,ltS m26,?_⟩);exact Zas
           ·refine aSk (aRg λ_=>dr ⟨(k198,x25.2.1,(IntKind.i64.wrap (x25.2.2+1))),h,ltS m26,?_⟩);exact Zas
          ·intro _;refine dr (aCd λ_=>Znf (aSk (aRg λ_=>dr ⟨(k198,x25.2.1,(IntKind.i64.wrap (x25.2.2+1))),h,ltS m26,?_⟩)));exact Zas
         ·refine aEx ⟨x25.2.1,(sI_ h).symm,?_⟩;exact Zas
       ·rintro v187 ho;have ho:=ho.symm;subst ho;intro _;replace h:=hK21;refine aRg λ_=>dr ⟨(k174,v187,(IntKind.i64.wrap (x17.2.2+1))),h,ltS m18,?_⟩;exact Zas
      ·refine aEx ⟨x17.2.1,(sI_ h).symm,?_⟩;exact Zas
    ·rintro v116 ho;have ho:=ho.symm;subst ho;intro _;replace h:=hK16;refine aSq (aSR λ_=>dr (aCd λ_=>?_));refine spl h (λc33 h=>?_) (λc33 h=>?_)
     ·refine aSR λ_=>dr (aRt λ_=>?_);obtain⟨rfl,rfl⟩:=Zw6 h;all_goals (refine Exists.intro [] (And.intro rfl (And.intro ?_ ?_)));all_goals (exact gz3)
     ·refine aSk (aSq (aSR λ_=>?_));obtain⟨y201,w34,q35,h⟩:=Za9 h;refine Exists.intro (cI y201) (And.intro (Zad w34) λ_=>pr (dr (aBk ?_)));obtain⟨q36,h⟩:=Zaf h;refine Zaj (α:=Nat×(List (List Zaa))×Int×(List Int)×Int×Int×Bool) (λx=>mkG 112 115 [(0,.ptr 112 0 0 0),(1,.sl 2 (a1.map cF)),(7,.sl 1 (x.2.1.map Zal)),(10,.c (.int .i64 v116)),(98,.c (.int .i64 y201)),(99,.c (.int .i64 x.2.2.1))] [(112,⟨174,4,true,[[.sl 1 (x.2.2.2.1.map cI),.c (.int .i64 x.2.2.2.2.1),.c (.int .i64 x.2.2.2.2.2.1),.c (.bool x.2.2.2.2.2.2)]]⟩)]) (λx=>Zf3 a1 (Zhe g) v116 y201 x.1 x.2.1 x.2.2.1 x.2.2.2.1 x.2.2.2.2.1 x.2.2.2.2.2.1 x.2.2.2.2.2.2=some (r1,r2)) (λx=>x.1) ((y201).toNat+1,v15,0,a0.vars,(IntKind.i64.wrap (a0.used+1)),a0.steps,a0.full) h ?_ ?_
      ·exact Zas
      ·intro x37 h;intro _;obtain⟨k221,m38,h⟩:=Zak (f:=λn=>Zf3 a1 (Zhe g) v116 y201 n x37.2.1 x37.2.2.1 x37.2.2.2.1 x37.2.2.2.2.1 x37.2.2.2.2.2.1 x37.2.2.2.2.2.2) rfl h;replace h:Zf3 a1 (Zhe g) v116 y201 (k221+1) x37.2.1 x37.2.2.1 x37.2.2.2.1 x37.2.2.2.2.1 x37.2.2.2.2.2.1 x37.2.2.2.2.2.2=some (r1,r2):=h;rw[Zf3]at h;refine aSR λ_=>dr (aSq (aCd λ_=>?_));refine spl h (λc39 h=>?_) (λc39 h=>?_)
       ·refine aSk (aSq (aBk (aSR λ_=>dr (aSR λ_=>?_))));obtain⟨z222,u40,h⟩:=Zae h;refine clg [(0,107)] [] [] [(107,⟨2,some ⟨53,2,false,z222.map cF⟩⟩)] (.own 107 2 0 z222.length) rfl rfl (Zavr a1 (v116,x37.2.2.1) u40) λ_=>?_;obtain⟨q41,h⟩:=Zaf h;obtain⟨z223,c224,u42,h⟩:=Zdv h;refine clg [(112,112)] [107] [(107,⟨3,none⟩)] [(112,⟨0,some ⟨174,4,true,[[.sl 1 (c224.vars.map cI),.c (.int .i64 c224.used),.c (.int .i64 c224.steps),.c (.bool c224.full)]]⟩⟩)] (.c (.bool z223)) rfl rfl (ih ({ vars:=x37.2.2.2.1,used:=x37.2.2.2.2.1,steps:=x37.2.2.2.2.2.1,full:=x37.2.2.2.2.2.2:Zdd }) z222 x37.2.1 u42) λ_=>dr (aCd λ_=>?_);refine spl h (λc43 h=>?_) (λc43 h=>?_)
        ·refine aSR λ_=>dr (aRt λ_=>?_);obtain⟨rfl,rfl⟩:=Zw6 h;all_goals (refine Exists.intro [] (And.intro rfl (And.intro ?_ ?_)));all_goals (exact gz3)
        ·refine aSk (aRg λ_=>dr ⟨(k221,x37.2.1,(IntKind.i64.wrap (x37.2.2.1+1)),c224.vars,c224.used,c224.steps,c224.full),h,ltS m38,?_⟩);exact Zas
       ·refine aEx (aSR λ_=>dr (aRt λ_=>?_));obtain⟨rfl,rfl⟩:=Zw6 h;all_goals (refine Exists.intro [] (And.intro rfl (And.intro ?_ ?_)));all_goals (exact gz3)
def Zl4 (g:Nat)(a0:List Int)(a1:List Zaa)(a2:List (List Zaa))(a3:Int):Option (Bool×Int×Er):=ob1 (ob1 (Zdx a0 a1) (λz7=>sel (!z7) (some (.inr (false,0,(Er.no 2)))) (ob1 (Zb3 a2 (Zk8 a0)) (λz8=>sel z8 (some (.inr (false,0,(Er.no 2)))) (some (.inl ()))))):Option (Unit⊕(Bool×Int×Er))) (Zj9 (λ_=>ob2 (Zhe g ({ vars:=a0,used:=0,steps:=a3,full:=false:Zdd }) a1 a2) (λz9 c10=>sel c10.full (some (false,0,(Er.no 10))) (some (z9,c10.used,Er.nil)))) (λ(r3,r4,r5)=>some (r3,r4,r5)))
theorem zz8 {P:Prop}(w:P:=by intro _;obtain⟨rfl,rfl,rfl⟩:=inj3 h;exact Zas):P:=w
theorem zz12 {P:Prop}(w:P:=by refine aSR ?_;intro _;refine dr (aRt ?_);exact zz8):P:=w
theorem Zag5 (g:Nat)(a0:List Int)(a1:List Zaa)(a2:List (List Zaa))(a3:Int){r1:Bool}{r2:Int}{r3:Er}(h:Zl4 g a0 a1 a2 a3=some (r1,r2,r3)):ACall cx 77 [.sl 1 (a0.map cI),.sl 2 (a1.map cF),.sl 1 (a2.map Zal),.c (.int .i64 a3)] (.tup [.c (.bool r1),.c (.int .i64 r2),eA r3]):=by
 refine aOf Tryz.func77 rfl (by decide) rfl (bT2 rfl) ?_;intro _;unfold Zl4 at h;refine aSR λ_=>dr ?_;obtain⟨o1,h,hK2⟩:=Zae h;refine Zat (α:=Unit) (λ_=>mkS 41 [(1,.sl 2 (a1.map cF)),(2,.sl 1 (a2.map Zal)),(3,.c (.int .i64 a3)),(4,.ptr 4 0 0 0)] [(4,⟨22,1,true,[[.sl 1 (a0.map cI)]]⟩)]) (λv=>o1=(.inl v)) ?_ ?_
 ·refine aSR λ_=>?_;obtain⟨z7,u3,h⟩:=Zae h;refine cl rfl (Zkq a0 a1 u3) λ_=>?_;refine spf h (λc4 h=>?_) (λc4 h=>?_)
  ·intro _;refine⟨_,Zadv rfl (bT2 rfl) rfl rfl,?_⟩;intro _;obtain⟨z8,u5,h⟩:=Zae h;refine clb [4] rfl rfl (Zi0 a2 (Zk8 a0) (.clo (.func 96) [] [.pim [.sl 1 (a0.map cI)] 0]) (Fr.clo Zd2 FrE.h) ⟨_,_,_,rfl⟩ (λx0 y0 hx=>⟨96,[],_,rfl,Zacs a0 x0 hx⟩) u5) ?_;intro _;refine dr (aCd λ_=>?_);refine spl h (λc6 h=>?_) (λc6 h=>?_)
   ·refine aSR λ_=>dr (aRt ?_);have j7:=sI_ h;subst j7;replace h:=(Za4 hK2);exact zz8
   ·exact zz10
  ·intro _;refine dr (aCd λ_=>Zll (aSR λ_=>dr (aRt ?_)));have j8:=sI_ h;subst j8;replace h:=(Za4 hK2);exact zz8
 ·rintro _ ho;have ho:=ho.symm;subst ho;intro _;replace h:=(Zcx hK2);refine aSR λ_=>dr (aSR λ_=>?_);obtain⟨z9,c10,u9,h⟩:=Zdv h;refine clg [(112,26)] [] [] [(26,⟨1,some ⟨174,4,true,[[.sl 1 (c10.vars.map cI),.c (.int .i64 c10.used),.c (.int .i64 c10.steps),.c (.bool c10.full)]]⟩⟩)] (.c (.bool z9)) rfl rfl (Zag7 g ({ vars:=a0,used:=0,steps:=a3,full:=false:Zdd }) a1 a2 u9) λ_=>dr (aSq (aSR λ_=>dr (aCd λ_=>?_)));refine spl h (λc10 h=>?_) (λc10 h=>?_)
  ·exact zz12
  ·refine aSk ?_;exact zz12
set_option maxHeartbeats 16000000
set_option maxRecDepth 100000
open Go.RowKit
def Zf5 (a0:Int):Option (Bool):=sel (decide (a0>=(-1))) (some (decide (a0<=1099511627776))) (some false)
theorem Zpf (a0:Int){r1:Bool}(h:Zf5 a0=some r1):ACall cx 24 [.c (.int .i64 a0)] (.c (.bool r1)):=by
 refine aOf Tryz.func24 rfl (by decide) rfl (bT2 rfl) ?_;intro _;unfold Zf5 at h;refine aSR λ_=>dr (aSR λ_=>?_);refine spl h (λc1 h=>?_) (λc1 h=>?_)
 ·exact zz0
 ·exact zz0
def Zdc (a0:List Zaw)(a1:Zaw->Option Bool):Nat->Int->Option (Int)|0,_=>none|k7+1,v6=>sel (decide (v6<((a0.map cN).length:Int))) (ix a0 v6 (λy8=>ob1 (a1 y8) (λz9=>sel z9 (some v6) (Zdc a0 a1 k7 (IntKind.i64.wrap (v6+1)))))) (some (-1))
def Zj8 (a0:List Zaw)(a1:Zaw->Option Bool):Option (Int):=Zdc a0 a1 ((((a0.map cN).length:Int)).toNat+1) 0
theorem Ztp (a0:List Zaw)(a1:Zaw->Option Bool)(Fa1:AV)(hFa1:Fr Fa1)(ea1:∃f fs cap,Fa1=.clo (.func f) fs cap)(ha1:∀(x0:Zaw)(y0:Bool),a1 x0=some y0->CCl cx Fa1 [.agg [.sl 2 (x0.1.map cF),.c (.int .i64 x0.2)]] (.c (.bool y0))){r1:Int}(h:Zj8 a0 a1=some r1):ACall cx 98 [.sl 2 (a0.map cN),Fa1] (.c (.int .i64 r1)):=by
 obtain⟨fa1,sa1,qa1,rfl⟩:=ea1;refine aOf Tryz.func98 rfl (by decide) rfl (bT2 rfl) ?_;intro _;unfold Zj8 at h;refine aSR λ_=>dr (aSq (aSR λ_=>dr (aBk ?_)));refine Zaj (α:=Nat×Int) (λx=>mkS 19 [(0,.sl 2 (a0.map cN)),(1,.clo (.func fa1) sa1 qa1),(7,.c (.int .i64 ((a0.map cN).length:Int))),(8,.c (.int .i64 x.2))] []) (λx=>Zdc a0 a1 x.1 x.2=some r1) (λx=>x.1) ((((a0.map cN).length:Int)).toNat+1,0) h ?_ ?_
 ·exact Zas
 ·intro x1 h;intro _;obtain⟨k7,m2,h⟩:=Zak (f:=λn=>Zdc a0 a1 n x1.2) rfl h;replace h:Zdc a0 a1 (k7+1) x1.2=some r1:=h;rw[Zdc]at h;refine aSR λ_=>dr (aSq (aCd λ_=>?_));refine spl h (λc3 h=>?_) (λc3 h=>?_)
  ·refine aSk (aSq (aBk (aSR λ_=>dr (aSR λ_=>?_))));obtain⟨y8,w4,q5,h⟩:=Za9 h;refine Exists.intro (cN y8) (And.intro (Zad w4) λ_=>?_);obtain⟨z9,u6,h⟩:=Zae h;refine clc rfl (ha1 _ _ u6) hFa1 λ_=>pr (dr (aCd λ_=>?_));refine spl h (λc7 h=>?_) (λc7 h=>?_)
   ·exact zz2
   ·refine aSk (aRg λ_=>dr ⟨(k7,(IntKind.i64.wrap (x1.2+1))),h,ltS m2,?_⟩);exact Zas
  ·exact zz9
def Zh9 (a0:List Zaw)(a1:Zaw->Option Bool):Option (Bool):=ob1 (Zj8 a0 a1) (λz1=>some (decide (z1>=0)))
theorem Zqc (a0:List Zaw)(a1:Zaw->Option Bool)(Fa1:AV)(hFa1:Fr Fa1)(ea1:∃f fs cap,Fa1=.clo (.func f) fs cap)(ha1:∀(x0:Zaw)(y0:Bool),a1 x0=some y0->CCl cx Fa1 [.agg [.sl 2 (x0.1.map cF),.c (.int .i64 x0.2)]] (.c (.bool y0))){r1:Bool}(h:Zh9 a0 a1=some r1):ACall cx 80 [.sl 2 (a0.map cN),Fa1] (.c (.bool r1)):=by
 obtain⟨fa1,sa1,qa1,rfl⟩:=ea1;refine aOf Tryz.func80 rfl (by decide) rfl (bT2 rfl) ?_;intro _;unfold Zh9 at h;refine aSR λ_=>dr (aSR λ_=>?_);obtain⟨z1,u1,h⟩:=Zae h;refine cl rfl (Ztp a0 a1 (.clo (.func fa1) sa1 qa1) hFa1 ⟨_,_,_,rfl⟩ ha1 u1) ?_;exact zz0
def Zr9 (a0:List Zaa)(a1:List Zaa):Option (Bool):=ob1 (Zhp a0) (λz1=>sel z1 (ob1 (Zhp a1) (λz2=>sel z2 (ob1 (Zg4 a0 a1) (λz3=>some z3)) (some false))) (some false))
theorem Zaek (a0:List Zaa)(a1:List Zaa){r1:Bool}(h:Zr9 a0 a1=some r1):ACall cx 82 [.sl 2 (a0.map cF),.sl 2 (a1.map cF)] (.c (.bool r1)):=by
 refine aOf Tryz.func82 rfl (by decide) rfl (bT2 rfl) ?_;intro _;unfold Zr9 at h;refine aSR λ_=>dr (aSR λ_=>?_);obtain⟨z1,u1,h⟩:=Zae h;refine cl rfl (Znm a0 u1) λ_=>?_;refine spl h (λc2 h=>?_) (λc2 h=>?_)
 ·intro _;obtain⟨z2,u3,h⟩:=Zae h;refine cl rfl (Znm a1 u3) λ_=>?_;refine spl h (λc4 h=>?_) (λc4 h=>?_)
  ·intro _;obtain⟨z3,u5,h⟩:=Zae h;refine cl rfl (Zrt a0 a1 u5) ?_;exact zz0
  ·exact zz0
 ·exact zz0
def Zhh (b0:List Zaa)(a0:Zaw):Option (Bool):=ob1 (Zr9 b0 a0.1) (λz1=>some z1)
theorem Ztl (b0:List Zaa)(a0:Zaw){r1:Bool}(h:Zhh b0 a0=some r1):ACall cx 81 [.agg [.sl 2 (a0.1.map cF),.c (.int .i64 a0.2)],.pim [.sl 2 (b0.map cF)] 0] (.c (.bool r1)):=by
 refine aOf Tryz.func81 rfl (by decide) rfl (bT2 rfl) ?_;intro _;unfold Zhh at h;refine aSR λ_=>dr (aSR λ_=>?_);obtain⟨z1,u1,h⟩:=Zae h;refine cl rfl (Zaek b0 a0.1 u1) ?_;exact zz0
def Zk2 (a0:List Zaa)(a1:List Zaw):Option (Bool):=ob1 (Zh9 a1 (Zhh a0)) (λz1=>some z1)
theorem Zuo (a0:List Zaa)(a1:List Zaw){r1:Bool}(h:Zk2 a0 a1=some r1):ACall cx 61 [.sl 2 (a0.map cF),.sl 2 (a1.map cN)] (.c (.bool r1)):=by
 refine aOf Tryz.func61 rfl (by decide) rfl (bT2 rfl) ?_;intro _;unfold Zk2 at h;refine aSR λ_=>dr (aSR λ_=>?_);refine⟨_,Zadv rfl (bT2 rfl) rfl rfl,?_⟩;intro _;obtain⟨z1,u1,h⟩:=Zae h;refine clb [2] rfl rfl (Zqc a1 (Zhh a0) (.clo (.func 81) [] [.pim [.sl 2 (a0.map cF)] 0]) (Fr.clo Zd2 FrE.h) ⟨_,_,_,rfl⟩ (λx0 y0 hx=>⟨81,[],_,rfl,Ztl a0 x0 hx⟩) u1) ?_;exact zz0
def Zfl (g:Nat)(v843:Int)(z845:List (List Zaa)):Nat->Int->Int->(List Zbd)->Option ((Int×(List Zbd))⊕(Zab×Er))|0,_,_,_=>none|k858+1,v855,v856,v857=>sel (decide (v856<((z845.map Zal).length:Int))) (ix z845 v856 (λy859=>ob1 (Zi6 g v857 ({ facts:=y859,dist:=v843,order:=v855:Zbd })) (λc860=>Zfl g v843 z845 k858 (IntKind.i64.wrap (v855+1)) (IntKind.i64.wrap (v856+1)) c860))) (some (.inl (v855,v857)))
def Zfm (a0:Zah)(a1:Int)(g:Nat)(z580:Zbd):Nat->Int->Int->(List Zbd)->Option ((Int×(List Zbd))⊕(Zab×Er))|0,_,_,_=>none|k817+1,v814,v815,v816=>sel (decide (v815<((a0.Ops.map Za0).length:Int))) (ob1 (ix a0.Ops v815 (λy842=>ob1 (sel (decide (a1<0)) (some (.inl 0)) (sel (decide ((IntKind.i64.wrap (z580.dist+y842.Cost))>=a1)) (some (.inr ())) (some (.inl (IntKind.i64.wrap (z580.dist+y842.Cost))))):Option (Int⊕Unit)) (Zj9 (λv843=>ob2 (Zkl g a0 v815 z580.facts) (λz845 z846=>erM z846 (Zfl g v843 z845 ((((z845.map Zal).length:Int)).toNat+1) v814 0 v816) (λe847=>some (.inr ({ Bound:=0,Nogoods:=[]:Zab },(Er.no e847)))))) (λ_=>some (.inl (v814,v816))))):Option ((Int×(List Zbd))⊕(Zab×Er))) (Zj9 (λ(v837,v838)=>Zfm a0 a1 g z580 k817 v837 (IntKind.i64.wrap (v815+1)) v838) (λ(r839,r840)=>some (.inr (r839,r840))))) (some (.inl (v814,v816)))
def Zd7 (a0:Zah)(a1:Int)(a2:Int)(g:Nat):Nat->Int->(List Zbd)->(List Zaw)->Option (Zab×Er)|0,_,_,_=>none|k577+1,v574,v575,v576=>ob2 (Zcj v575) (λz578 c579=>grd (c579.length=v575.length) (sel (decide (z578>0)) (ob2 (Zj2 g c579) (λz580 c581=>grd (v576.length<=140737488355328) (ob1 (Zk2 z580.facts v576) (λz582=>sel z582 (Zd7 a0 a1 a2 g k577 v574 c581 v576) (ob1 (Zg7 z580.facts a0.Init) (λz583=>sel z583 (some ({ Bound:=0,Nogoods:=[]:Zab },(Er.no 13))) (sel (((v576.length:Nat):Int) == (max 0 (min a2 4096))) (some ({ Bound:=0,Nogoods:=[]:Zab },(Er.no 10))) (grd ((v576.length+1)*32<=140737488355328) (ob1 (Zfm a0 a1 g z580 ((((a0.Ops.map Za0).length:Int)).toNat+1) v574 0 c581:Option ((Int×(List Zbd))⊕(Zab×Er))) (Zj9 (λ(v720,v721)=>Zd7 a0 a1 a2 g k577 v720 v721 (v576++[(z580.facts,z580.dist)])) (λ(r722,r723)=>some (r722,r723)))))))))))) (grd (v576.length<=140737488355328) (some ({ Bound:=a1,Nogoods:=v576:Zab },Er.nil)))))
def Znu (g:Nat)(a0:Zah)(a1:Int)(a2:Int):Option (Zab×Er):=ob1 (Zf4 a0) (λz1=>erM z1 (ob1 (Zf5 a1) (λz3=>sel (!z3) (some ({ Bound:=0,Nogoods:=[]:Zab },(Er.no 1))) (sel (a1 == 0) (some ({ Bound:=a1,Nogoods:=[]:Zab },Er.nil)) (ob1 (Zh8 a0.Goal) (λz4=>grd (z4.length<=140737488355328) (Zd7 a0 a1 a2 g g 1 [{ facts:=z4,dist:=0,order:=0:Zbd }] [])))))) (λe2=>some ({ Bound:=0,Nogoods:=[]:Zab },(Er.no e2))))
theorem Zy4 (g:Nat)(a0:Zah)(a1:Int)(a2:Int){r1:Zab}{r2:Er}(h:Znu g a0 a1 a2=some (r1,r2)):ACall cx 32 [.agg [.sl 1 (a0.Vars.map cI),.sl 1 (a0.Init.map cI),.sl 2 (a0.Goal.map cF),.sl 4 (a0.Ops.map Za0)],.c (.int .i64 a1),.c (.int .i64 a2)] (.tup [.agg [.c (.int .i64 r1.Bound),.sl 2 (r1.Nogoods.map cN)],eA r2]):=by
 refine aOf Tryz.func32 rfl (by decide) rfl (bT2 rfl) ?_;intro _;unfold Znu at h;refine aSR λ_=>dr (aSq (aSR λ_=>?_));obtain⟨z1,u1,h⟩:=Zae h;refine cl rfl (Zkp a0 u1) λ_=>dr (aSq ?_);rcases z1 with _|e2
 ·replace h:=Zdn h;refine aRg λ_=>dr (aCd λ_=>Znf (aSk (aSq (aSR λ_=>?_))));obtain⟨z3,u2,h⟩:=Zae h;refine cl rfl (Zpf a1 u2) λ_=>dr (aCd λ_=>?_);refine spl h (λc3 h=>?_) (λc3 h=>?_)
  ·exact zz6
  ·refine aSk (aSR λ_=>dr (aSq (aSR λ_=>dr (aCd λ_=>?_))));refine spl h (λc4 h=>?_) (λc4 h=>?_)
   ·exact zz6
   ·refine aSk (aSR λ_=>⟨_,Zaf2 rfl (bT2 rfl) rfl rfl,λ_=>⟨_,Zaom rfl (bT2 rfl) rfl rfl,λ_=>dr (aSR λ_=>?_)⟩⟩);obtain⟨z4,u5,h⟩:=Zae h;refine clg [(0,42)] [] [] [(42,⟨2,some ⟨53,2,false,z4.map cF⟩⟩)] (.own 42 2 0 z4.length) rfl rfl (Zsz a0.Goal u5) λ_=>dr (aSR λ_=>dr (aSq (aBk ?_)));obtain⟨q6,h⟩:=Zaf h;refine Zaj (α:=Nat×Int×(List Zbd)×(List Zaw)) (λx=>mkS 136 [(1,.c (.int .i64 a1)),(2,.c (.int .i64 (max 0 (min a2 4096)))),(3,.ptr 3 0 0 0),(6,.ptr 6 0 0 0),(9,.ptr 9 0 0 0),(10,.ptr 45 0 0 0),(11,.c (.int .i64 x.2.1))] [(3,⟨26,4,true,[[.sl 1 (a0.Vars.map cI),.sl 1 (a0.Init.map cI),.sl 2 (a0.Goal.map cF),.sl 4 (a0.Ops.map Za0)]]⟩),(6,⟨38,2,true,[[.c (.int .i64 0),.c (.slice none 0 0)]]⟩),(9,⟨38,2,true,[[.c (.int .i64 a1),.own 85 0 0 x.2.2.2.length]]⟩),(44,⟨123,3,false,x.2.2.1.map Zap⟩),(45,⟨125,1,true,[[.own 44 0 0 x.2.2.1.length]]⟩),(85,⟨70,2,false,x.2.2.2.map cN⟩)]) (λx=>Zd7 a0 a1 a2 g x.1 x.2.1 x.2.2.1 x.2.2.2=some (r1,r2)) (λx=>x.1) (g,1,[{ facts:=z4,dist:=0,order:=0:Zbd }],[]) h ?_ ?_
    ·exact Zas
    ·intro x7 h;intro _;obtain⟨k577,m8,h⟩:=Zak (f:=λn=>Zd7 a0 a1 a2 g n x7.2.1 x7.2.2.1 x7.2.2.2) rfl h;replace h:Zd7 a0 a1 a2 g (k577+1) x7.2.1 x7.2.2.1 x7.2.2.2=some (r1,r2):=h;rw[Zd7]at h;refine aSq (aSR λ_=>?_);obtain⟨z578,c579,u9,h⟩:=Zdv h;refine clg [(5,44)] [] [] [(44,⟨0,some ⟨123,3,false,c579.map Zap⟩⟩)] (.c (.int .i64 z578)) rfl rfl (Zeu x7.2.2.1 u9) ?_;obtain⟨q10,h⟩:=Zaf h;intro _;refine dr (aCd λ_=>?_);refine spl h (λc11 h=>?_) (λc11 h=>?_)
     ·refine aSk (aBk (aSR λ_=>?_));obtain⟨z580,c581,u12,h⟩:=Zdv h;refine clg [(16,45),(0,44)] [] [(44,⟨1,none⟩)] [(45,⟨0,some ⟨125,1,true,[[.own 44 2 0 c581.length]]⟩⟩),(44,⟨2,some ⟨123,3,false,c581.map Zap⟩⟩)] (.ifc 123 (.agg [.sl 2 (z580.facts.map cF),.c (.int .i64 z580.dist),.c (.int .i64 z580.order)])) rfl rfl (Ztm g c579 u12) λ_=>?_;refine⟨_,Zsm rfl (bT2 rfl) rfl (λ_ _=>by kernel_rfl),?_⟩;intro _;refine dr (aSq (aSR λ_=>?_));obtain⟨q13,h⟩:=Zaf h;obtain⟨z582,u14,h⟩:=Zae h;refine clb [85] rfl rfl (Zuo z580.facts x7.2.2.2 u14) λ_=>dr (aCd λ_=>?_);refine spl h (λc15 h=>?_) (λc15 h=>?_)
      ·refine aEx ⟨(k577,x7.2.1,c581,x7.2.2.2),h,ltS m8,?_⟩;exact Zas
      ·refine aSk (aSq (aSR λ_=>?_));obtain⟨z583,u16,h⟩:=Zae h;refine cl rfl (Zrv z580.facts a0.Init u16) λ_=>dr (aCd λ_=>?_);refine spl h (λc17 h=>?_) (λc17 h=>?_)
       ·exact zz6
       ·refine aSk (aSq (aSR λ_=>dr (aCd λ_=>?_)));refine spl h (λc18 h=>?_) (λc18 h=>?_)
        ·exact zz6
        ·refine aSk (aSR λ_=>?_);obtain⟨q19,h⟩:=Zaf h;refine pl (pl ?_);refine And.intro (by first|with_reducible assumption|(show(x7.2.2.2.length+1)*32<=140737488355328;with_reducible assumption)|omega|(simp;omega)) ?_;refine pe (dr (aSR λ_=>dr ?_));obtain⟨o20,h,hK21⟩:=Zae h;refine Zac5 (α:=Int×(List Zbd)) (λ(v720,v721)=>mkS 136 [(1,.c (.int .i64 a1)),(2,.c (.int .i64 (max 0 (min a2 4096)))),(3,.ptr 3 0 0 0),(6,.ptr 6 0 0 0),(9,.ptr 9 0 0 0),(10,.ptr 45 0 0 0),(11,.c (.int .i64 v720))] [(3,⟨26,4,true,[[.sl 1 (a0.Vars.map cI),.sl 1 (a0.Init.map cI),.sl 2 (a0.Goal.map cF),.sl 4 (a0.Ops.map Za0)]]⟩),(6,⟨38,2,true,[[.c (.int .i64 0),.c (.slice none 0 0)]]⟩),(9,⟨38,2,true,[[.c (.int .i64 a1),.own 85 0 0 (x7.2.2.2.length+1)]]⟩),(44,⟨123,3,false,v721.map Zap⟩),(45,⟨125,1,true,[[.own 44 0 0 v721.length]]⟩),(85,⟨70,2,false,(x7.2.2.2++[(z580.facts,z580.dist)]).map cN⟩)]) (λv=>o20=(.inl v)) ?_ ?_
         ·refine aBk ?_;refine Zaj (α:=Nat×Int×Int×(List Zbd)) (λx=>mkS 136 [(1,.c (.int .i64 a1)),(2,.c (.int .i64 (max 0 (min a2 4096)))),(3,.ptr 3 0 0 0),(6,.ptr 6 0 0 0),(9,.ptr 9 0 0 0),(10,.ptr 45 0 0 0),(11,.c (.int .i64 x.2.1)),(12,.ptr 12 0 0 0),(88,.sl 4 (a0.Ops.map Za0)),(89,.c (.int .i64 ((a0.Ops.map Za0).length:Int))),(90,.c (.int .i64 x.2.2.1))] [(3,⟨26,4,true,[[.sl 1 (a0.Vars.map cI),.sl 1 (a0.Init.map cI),.sl 2 (a0.Goal.map cF),.sl 4 (a0.Ops.map Za0)]]⟩),(6,⟨38,2,true,[[.c (.int .i64 0),.c (.slice none 0 0)]]⟩),(9,⟨38,2,true,[[.c (.int .i64 a1),.own 85 0 0 (x7.2.2.2.length+1)]]⟩),(12,⟨123,3,true,[[.sl 2 (z580.facts.map cF),.c (.int .i64 z580.dist),.c (.int .i64 z580.order)]]⟩),(44,⟨123,3,false,x.2.2.2.map Zap⟩),(45,⟨125,1,true,[[.own 44 0 0 x.2.2.2.length]]⟩),(85,⟨70,2,false,(x7.2.2.2++[(z580.facts,z580.dist)]).map cN⟩)]) (λx=>Zfm a0 a1 g z580 x.1 x.2.1 x.2.2.1 x.2.2.2=some o20) (λx=>x.1) ((((a0.Ops.map Za0).length:Int)).toNat+1,x7.2.1,0,c581) h ?_ ?_
          ·exact Zas
          ·intro x22 h;intro _;obtain⟨k817,m23,h⟩:=Zak (f:=λn=>Zfm a0 a1 g z580 n x22.2.1 x22.2.2.1 x22.2.2.2) rfl h;replace h:Zfm a0 a1 g z580 (k817+1) x22.2.1 x22.2.2.1 x22.2.2.2=some o20:=h;rw[Zfm]at h;refine aSR λ_=>dr (aSq (aCd λ_=>?_));refine spl h (λc24 h=>?_) (λc24 h=>?_)
           ·refine aSk ?_;obtain⟨o25,h,hK26⟩:=Zae h;refine Zat (α:=Int×(List Zbd)) (λ(v837,v838)=>mkS 136 [(1,.c (.int .i64 a1)),(2,.c (.int .i64 (max 0 (min a2 4096)))),(3,.ptr 3 0 0 0),(6,.ptr 6 0 0 0),(9,.ptr 9 0 0 0),(10,.ptr 45 0 0 0),(11,.c (.int .i64 v837)),(12,.ptr 12 0 0 0),(88,.sl 4 (a0.Ops.map Za0)),(89,.c (.int .i64 ((a0.Ops.map Za0).length:Int))),(90,.c (.int .i64 x22.2.2.1))] [(3,⟨26,4,true,[[.sl 1 (a0.Vars.map cI),.sl 1 (a0.Init.map cI),.sl 2 (a0.Goal.map cF),.sl 4 (a0.Ops.map Za0)]]⟩),(6,⟨38,2,true,[[.c (.int .i64 0),.c (.slice none 0 0)]]⟩),(9,⟨38,2,true,[[.c (.int .i64 a1),.own 85 0 0 (x7.2.2.2.length+1)]]⟩),(12,⟨123,3,true,[[.sl 2 (z580.facts.map cF),.c (.int .i64 z580.dist),.c (.int .i64 z580.order)]]⟩),(44,⟨123,3,false,v838.map Zap⟩),(45,⟨125,1,true,[[.own 44 0 0 v838.length]]⟩),(85,⟨70,2,false,(x7.2.2.2++[(z580.facts,z580.dist)]).map cN⟩)]) (λv=>o25=(.inl v)) ?_ ?_
            ·refine aBk (aSR λ_=>?_);obtain⟨y842,w27,q28,h⟩:=Za9 h;refine Exists.intro (Za0 y842) (And.intro (Zad w27) λ_=>pr (dr (aSR λ_=>dr ?_)));obtain⟨o29,h,hK30⟩:=Zae h;refine Zat (α:=Int) (λv843=>mkS 136 [(1,.c (.int .i64 a1)),(2,.c (.int .i64 (max 0 (min a2 4096)))),(3,.ptr 3 0 0 0),(6,.ptr 6 0 0 0),(9,.ptr 9 0 0 0),(10,.ptr 45 0 0 0),(11,.c (.int .i64 x22.2.1)),(12,.ptr 12 0 0 0),(14,.c (.int .i64 x22.2.2.1)),(16,.c (.int .i64 v843)),(88,.sl 4 (a0.Ops.map Za0)),(89,.c (.int .i64 ((a0.Ops.map Za0).length:Int))),(90,.c (.int .i64 x22.2.2.1))] [(3,⟨26,4,true,[[.sl 1 (a0.Vars.map cI),.sl 1 (a0.Init.map cI),.sl 2 (a0.Goal.map cF),.sl 4 (a0.Ops.map Za0)]]⟩),(6,⟨38,2,true,[[.c (.int .i64 0),.c (.slice none 0 0)]]⟩),(9,⟨38,2,true,[[.c (.int .i64 a1),.own 85 0 0 (x7.2.2.2.length+1)]]⟩),(12,⟨123,3,true,[[.sl 2 (z580.facts.map cF),.c (.int .i64 z580.dist),.c (.int .i64 z580.order)]]⟩),(44,⟨123,3,false,x22.2.2.2.map Zap⟩),(45,⟨125,1,true,[[.own 44 0 0 x22.2.2.2.length]]⟩),(85,⟨70,2,false,(x7.2.2.2++[(z580.facts,z580.dist)]).map cN⟩)]) (λv=>o29=(.inl v)) ?_ ?_
             ·refine aSR λ_=>dr (aCd λ_=>?_);refine spl h (λc31 h=>?_) (λc31 h=>?_)
              ·refine aRg λ_=>dr ⟨0,(sI_ h).symm,?_⟩;exact Zas
              ·refine aSR λ_=>dr (aCd λ_=>?_);refine spl h (λc32 h=>?_) (λc32 h=>?_)
               ·refine aEx ?_;have j33:=sI_ h;subst j33;replace h:=(Za4 hK30);refine⟨(x22.2.1,x22.2.2.2),(sI_ h).symm,?_⟩;exact Zas
               ·refine aSk ⟨(IntKind.i64.wrap (z580.dist+y842.Cost)),(sI_ h).symm,?_⟩;exact Zas
             ·rintro v843 ho;have ho:=ho.symm;subst ho;intro _;replace h:=(Zcx hK30);refine aSR λ_=>?_;obtain⟨z845,z846,u34,h⟩:=Zdv h;refine cl rfl (Zy6 g a0 x22.2.2.1 z580.facts u34) λ_=>dr (aSq (aSq ?_));rcases z846 with _|e847
              ·replace h:=Zdn h;refine aRg λ_=>dr (aCd λ_=>Znf (aSk (aSR λ_=>dr (aBk ?_))));refine Zaj (α:=Nat×Int×Int×(List Zbd)) (λx=>mkS 136 [(1,.c (.int .i64 a1)),(2,.c (.int .i64 (max 0 (min a2 4096)))),(3,.ptr 3 0 0 0),(6,.ptr 6 0 0 0),(9,.ptr 9 0 0 0),(10,.ptr 45 0 0 0),(11,.c (.int .i64 x.2.1)),(12,.ptr 12 0 0 0),(16,.c (.int .i64 v843)),(88,.sl 4 (a0.Ops.map Za0)),(89,.c (.int .i64 ((a0.Ops.map Za0).length:Int))),(90,.c (.int .i64 x22.2.2.1)),(117,.sl 1 (z845.map Zal)),(118,.c (.int .i64 ((z845.map Zal).length:Int))),(119,.c (.int .i64 x.2.2.1))] [(3,⟨26,4,true,[[.sl 1 (a0.Vars.map cI),.sl 1 (a0.Init.map cI),.sl 2 (a0.Goal.map cF),.sl 4 (a0.Ops.map Za0)]]⟩),(6,⟨38,2,true,[[.c (.int .i64 0),.c (.slice none 0 0)]]⟩),(9,⟨38,2,true,[[.c (.int .i64 a1),.own 85 0 0 (x7.2.2.2.length+1)]]⟩),(12,⟨123,3,true,[[.sl 2 (z580.facts.map cF),.c (.int .i64 z580.dist),.c (.int .i64 z580.order)]]⟩),(44,⟨123,3,false,x.2.2.2.map Zap⟩),(45,⟨125,1,true,[[.own 44 0 0 x.2.2.2.length]]⟩),(85,⟨70,2,false,(x7.2.2.2++[(z580.facts,z580.dist)]).map cN⟩)]) (λx=>Zfl g v843 z845 x.1 x.2.1 x.2.2.1 x.2.2.2=some o25) (λx=>x.1) ((((z845.map Zal).length:Int)).toNat+1,x22.2.1,0,x22.2.2.2) h ?_ ?_
               ·exact Zas
               ·intro x35 h;intro _;obtain⟨k858,m36,h⟩:=Zak (f:=λn=>Zfl g v843 z845 n x35.2.1 x35.2.2.1 x35.2.2.2) rfl h;replace h:Zfl g v843 z845 (k858+1) x35.2.1 x35.2.2.1 x35.2.2.2=some o25:=h;rw[Zfl]at h;refine aSR λ_=>dr (aSq (aCd λ_=>?_));refine spl h (λc37 h=>?_) (λc37 h=>?_)
                ·refine aSk (aSq (aBk (aSR λ_=>?_)));obtain⟨y859,w38,q39,h⟩:=Za9 h;refine Exists.intro (Zal y859) (And.intro (Zad w38) λ_=>pr (dr (aSR λ_=>?_)));obtain⟨c860,u40,h⟩:=Zae h;refine clg [(14,45),(0,44)] [] [(44,⟨1,none⟩)] [(45,⟨0,some ⟨125,1,true,[[.own 44 2 0 c860.length]]⟩⟩),(44,⟨2,some ⟨123,3,false,c860.map Zap⟩⟩)] (.tup []) rfl rfl (Zrr g x35.2.2.2 ({ facts:=y859,dist:=v843,order:=x35.2.1:Zbd }) u40) λ_=>dr (aRg λ_=>dr (aRg λ_=>dr ⟨(k858,(IntKind.i64.wrap (x35.2.1+1)),(IntKind.i64.wrap (x35.2.2.1+1)),c860),h,ltS m36,?_⟩));exact Zas
                ·refine aEx ⟨(x35.2.1,x35.2.2.2),(sI_ h).symm,?_⟩;exact Zas
              ·replace h:=Zlf h;refine aRg λ_=>dr (aCd λ_=>Zll (aSR λ_=>dr (aRt ?_)));have j41:=sI_ h;subst j41;replace h:=(Za4 hK26);have j42:=sI_ h;subst j42;replace h:=(Za4 hK21);exact zz1
            ·rintro⟨v837,v838⟩ ho;have ho:=ho.symm;subst ho;intro _;replace h:=(Zcx hK26);refine aRg λ_=>dr ⟨(k817,v837,(IntKind.i64.wrap (x22.2.2.1+1)),v838),h,ltS m23,?_⟩;exact Zas
           ·refine aEx ⟨(x22.2.1,x22.2.2.2),(sI_ h).symm,?_⟩;exact Zas
         ·rintro⟨v720,v721⟩ ho;have ho:=ho.symm;subst ho;intro _;replace h:=(Zcx hK21);refine⟨(k577,v720,v721,(x7.2.2.2++[(z580.facts,z580.dist)])),h,ltS m8,?_⟩;exact Zas
     ·refine aEx (aSR λ_=>dr (aRt ?_));obtain⟨q43,h⟩:=Zaf h;exact zz1
 ·exact zz7
def Zpo (a0:List Zaa)(_:List Zaa)(_y8:Zaa)(_:Int):Unit->(Unit->Option (Bool))->Option (Bool):=λ_ rc=>ixv _y8 (λy8=>ob1 (Zmd a0 y8.1) (λz9=>sel (decide (z9>=0)) (sel (z9 != y8.2) (some true) (rc ())) (rc ())))
def Zpp (_:List Zaa)(_:List Zaa):Unit->Option (Bool):=λ_=>some false
theorem Zu8 (a0:List Zaa)(a1:List Zaa)  (hl:a1.length<9223372036854775807):Zd9 a0 a1 (((a1.map cF).length:Int).toNat+1) 0=Rg (Zpo a0 a1) (Zpp a0 a1) a1 0 ():=Zdy (L:=λk i _=>Zd9 a0 a1 k i) hl (λ_ _ _=>rfl) ()
def Zmv (a0:Zdd)(a1:List Zaa)(_:List (List Zaa))(_y30:List Zaa)(_:Int):((List (List Zaa)))->(((List (List Zaa)))->Option ((List (List Zaa))⊕(Bool×Zdd)))->Option ((List (List Zaa))⊕(Bool×Zdd)):=λv28 rc=>ixv _y30 (λy30=>ob1 (Zg4 a1 y30) (λz31=>sel z31 (some (.inr (true,{ vars:=a0.vars,used:=(IntKind.i64.wrap (a0.used+1)),steps:=a0.steps,full:=a0.full:Zdd }))) (ob1 (Zks a1 y30) (λz32=>sel (!z32) (grd ((v28.length+1)*24<=140737488355328) (rc ((v28++[y30])))) (rc (v28))))))
def Zmw (_:Zdd)(_:List Zaa)(_:List (List Zaa)):((List (List Zaa)))->Option ((List (List Zaa))⊕(Bool×Zdd)):=λv28=>some (.inl v28)
theorem Zwl (a0:Zdd)(a1:List Zaa)(a2:List (List Zaa))(v28:List (List Zaa))(hl:a2.length<9223372036854775807):Ze3 a0 a1 a2 (((a2.map Zal).length:Int).toNat+1) 0 v28=Rg (Zmv a0 a1 a2) (Zmw a0 a1 a2) a2 0 v28:=Zdy (L:=λk i v28=>Ze3 a0 a1 a2 k i v28) hl (λ_ _ _=>rfl) v28
def Zmx (a1:List Zaa)(_:List Zaa)(_y199:Zaa)(_:Int):((Int))->(((Int))->Option (Int))->Option (Int):=λv196 rc=>ixv _y199 (λy199=>sel (decide (y199.1<v196)) (ob1 (Zmd a1 y199.1) (λz200=>sel (decide (z200<0)) (rc (y199.1)) (rc (v196)))) (rc (v196)))
def Zrg (_:List Zaa)(_:List Zaa):((Int))->Option (Int):=λv196=>some v196
theorem Zwm (a1:List Zaa)(y189:List Zaa)(v196:Int)(hl:y189.length<9223372036854775807):Zdk a1 y189 (((y189.map cF).length:Int).toNat+1) v196 0=Rg (Zmx a1 y189) (Zrg a1 y189) y189 0 v196:=Zdy (L:=λk i v196=>Zdk a1 y189 k v196 i) hl (λ_ _ _=>rfl) v196
def Zkg (a1:List Zaa)(v15:List (List Zaa))(v173:Int):((Int))->(((Int))->Option (Int))->Option (Int):=λv172 rc=>ob1 (ixn v15 ((v173).toNat) (λy189=>grd (0<=v173) (grd (v173<((v15.length:Nat):Int)) (Zdk a1 y189 ((((y189.map cF).length:Int)).toNat+1) v172 0))):Option (Int)) (λv187=>rc (v187))
def Zkh (_:List Zaa)(_:List (List Zaa)):((Int))->Option (Int):=λv172=>some v172
theorem Zwn (a1:List Zaa)(v15:List (List Zaa))(v172:Int){m:Nat}(hm:((v15.length:Nat):Int)=(m:Int))(hl:m<9223372036854775807):Zf2 a1 v15 ((((v15.length:Nat):Int)).toNat+1) v172 0=Rn (Zkg a1 v15) (Zkh a1 v15) m 0 v172:=rn_e (L:=λk i v172=>Zf2 a1 v15 k v172 i) hm hl (λ_ _ _=>rfl) v172
def Zmy (a1:List Zaa)(rec:Zdd->(List Zaa)->(List (List Zaa))->Option (Bool×Zdd))(v116:Int)(_:Int)(v216:Int):((List (List Zaa))×(List Int)×(Int)×(Int)×(Bool))->(((List (List Zaa))×(List Int)×(Int)×(Int)×(Bool))->Option (Bool×Zdd))->Option (Bool×Zdd):=λ(v215,v217,v218,v219,v220) rc=>ob1 (Zaja a1 (v116,v216)) (λz222=>grd (z222.length<=140737488355328) (ob2 (rec ({ vars:=v217,used:=v218,steps:=v219,full:=v220:Zdd }) z222 v215) (λz223 c224=>sel (!z223) (some (false,c224)) (rc (v215,c224.vars,c224.used,c224.steps,c224.full)))))
def Zmz (_:List Zaa)(_:Zdd->(List Zaa)->(List (List Zaa))->Option (Bool×Zdd))(_:Int)(_:Int):((List (List Zaa))×(List Int)×(Int)×(Int)×(Bool))->Option (Bool×Zdd):=λ(_,v217,v218,v219,v220)=>some (true,{ vars:=v217,used:=v218,steps:=v219,full:=v220:Zdd })
theorem Zwo (a1:List Zaa)(rec:Zdd->(List Zaa)->(List (List Zaa))->Option (Bool×Zdd))(v116:Int)(y201:Int)(v215:List (List Zaa))(v217:List Int)(v218:Int)(v219:Int)(v220:Bool){m:Nat}(hm:y201=(m:Int))(hl:m<9223372036854775807):Zf3 a1 rec v116 y201 ((y201).toNat+1) v215 0 v217 v218 v219 v220=Rn (Zmy a1 rec v116 y201) (Zmz a1 rec v116 y201) m 0 (v215,v217,v218,v219,v220):=rn_e (L:=λk i p=>match p with|(v215,v217,v218,v219,v220)=>Zf3 a1 rec v116 y201 k v215 i v217 v218 v219 v220) hm hl (λ_ _ ⟨_,_,_,_,_⟩=>rfl) (v215,v217,v218,v219,v220)
end Go.Proofs.YtpfnmpdcneejbaaGreatDoor.Am
namespace Go.Proofs.YtpfnmpdcneejbaaGreatDoor.Am
open Go.RowKit
theorem Zahm (p x:List Zaa)(hp:Sh p)(hx:Sh x):Zks p x=some (Zxu p x):=by
 rw[Zks,Zu8 p x hx.lt,Zh1 (p:=λf=>!(decide (0<=Zgq p f.1)&&decide (Zgq p f.1≠f.2))) (c:=some true)]
 ·rw[Zpp,Zxu]
  have:(x.all λf=>!(decide (0<=Zgq p f.1)&&decide (Zgq p f.1≠f.2)))=!(x.any λf=>decide (0<=Zgq p f.1)&&decide (Zgq p f.1≠f.2)):=by rw[List.not_any_eq_all_not]
  rw[this]
  cases x.any λf=>decide (0<=Zgq p f.1)&&decide (Zgq p f.1≠f.2) <;> rfl
 ·intro y _ i rc
  rw[Zpo,ixv,Zahr p y.1 hp,Zac,Zar]
  by_cases h:0<=Zgq p y.1
  ·rw[if_pos h,decide_eq_true h,Bool.true_and]
   by_cases e:Zgq p y.1=y.2
   ·rw[show(Zgq p y.1 != y.2)=false from by simp[e],Zbb,if_pos (by simp[e])]
   ·rw[show(Zgq p y.1 != y.2)=true from by simp[e],Zby,if_neg (by simp[e])]
  ·rw[if_neg h,decide_eq_false h,Bool.false_and,Bool.not_false,if_pos rfl]
theorem dec1 (c:Zdd)(hu:IntKind.i64.wrap (c.used+1)=c.used+1)(p:List Zaa)(hp:Sh p)(hpv:vF (-1) p=true)(l:List (List Zaa)):∀(r:List (List Zaa))(i:Int)(v:List (List Zaa)),(∀x∈r,Sh x/\vF (-1) x=true)->v.length+r.length<=1000000 ->
  Rg (Zmv c p l) (Zmw c p l) r i v=some (if r.any (λx=>subF x p)=true then .inr (true,{ vars:=c.vars,used:=c.used+1,steps:=c.steps,full:=c.full:Zdd })else .inl (v++Zhv p r))
 | [],i,v,_,_=>by rw[Rg,Zmw];simp[Zhv]
 | x :: r,i,v,hr,hl=>by
  obtain⟨hx,hxv⟩:=hr x (mS_ ..)
  rw[lC_]at hl
  have hr2:∀x∈r,Sh x/\vF (-1) x=true:=λy hy=>hr y (mC_ _ hy)
  rw[Rg,Zmv,ixv,Zzy p x hp hx hpv hxv,Zac,List.any_cons]
  cases hs:subF x p with
  | true=>rw[Zby,Bool.true_or,if_pos rfl,hu]
  | false =>
   rw[Zbb,Bool.false_or,Zahm p x hp hx,Zac]
   cases hc:Zxu p x with
   | true =>
    rw[Bool.not_true,Zbb,dec1 c hu p hp hpv l r _ v hr2 (by omega)]
    simp only[Zhv,List.filter_cons,hc,Bool.not_true,Bool.false_eq_true,if_false]
   | false =>
    rw[Bool.not_false,Zby,Zan (by omega),dec1 c hu p hp hpv l r _ (v++[x]) hr2 (by simp;omega)]
    simp only[Zhv,List.filter_cons,hc,Bool.not_false,if_true,List.append_assoc,List.singleton_append]
theorem dec2 (p:List Zaa)(hp:Sh p)(x:List Zaa):∀(r:List Zaa)(i v:Int),Rg (Zmx p x) (Zrg p x) r i v=some (lowF p r v)
 | [],i,v=>rfl
 | f :: r,i,v=>by
  rw[Rg,Zmx,ixv,Zar,lowF]
  by_cases h1:f.1<v
  ·rw[if_pos h1,Zahr p f.1 hp,Zac,Zar]
   by_cases h2:Zgq p f.1<0
   ·rw[if_pos h2,if_pos ⟨h1,h2⟩,dec2 p hp x r]
   ·rw[if_neg h2,if_neg (λh=>h2 h.2),dec2 p hp x r]
  ·rw[if_neg h1,if_neg (λh=>h1 h.1),dec2 p hp x r]
theorem dec3 (p:List Zaa)(hp:Sh p)(l:List (List Zaa))(hl:∀x∈l,Sh x):∀(m n:Nat)(v:Int),n+m=l.length->Rn (Zkg p l) (Zkh p l) m n v=some (Zun p (l.drop n) v)
 | 0,n,v,h=>by rw[Rn,Zkh,List.drop_eq_nil_of_le (by omega)];rfl
 | m+1,n,v,h=>by
  obtain⟨y,hy,hd⟩:=Zn4 (show n<l.length by omega)
  rw[Rn,Zkg,Int.toNat_natCast,Zdp hy,Zan (by omega),Zan (by omega),Zwm p y v (hl y (mG_ hy)).lt,dec2 p hp y,Zac,show((n:Int)+1)=((n+1:Nat):Int)from rfl,dec3 p hp l hl m (n+1) _ (by omega),hd,Zun]
def limR (vars:List Int)(steps u:Int)(r:Bool×Int):Bool×Zdd :=
 if u+r.2<=steps then(r.1,{ vars:=vars,used:=u+r.2,steps:=steps,full:=false })else(false,{ vars:=vars,used:=max u steps,steps:=steps,full:=true })
theorem Zah4 (f:Int->Bool×Int)(hf:∀y,0<=(f y).2):∀(m:Nat)(x c:Int),c<=(kids f m x c).2
 | 0,x,c=>Int.le_refl _
 | m+1,x,c=>by
  rw[kids]
  have:=hf x
  split
  ·have:=Zah4 f hf m (x+1) (c+(f x).2);omega
  ·show c<=c+(f x).2;omega
theorem Zyp (vars:List Int):∀(d:Nat)(p:List Zaa)(l:List (List Zaa)),1<=(decA vars d p l).2
 | 0,_,_=>Int.le_refl _
 | d+1,p,l=>by
  rw[decA]
  split
  ·exact Int.le_refl _
  ·split
   ·exact Int.le_refl _
   ·exact Zah4 _ (λy=>by have:=Zyp vars d (Zli p (Zun p (Zhv p l) vars.length,y)) (Zhv p l);omega) _ _ _
theorem dec4 (vars:List Int)(steps u:Int)(p:List Zaa)(hp:p.length<=64)(v y:Int)(l:List (List Zaa))(rec:Zdd->List Zaa->List (List Zaa)->Option (Bool×Zdd))(f:Int->Bool×Int)(hf:∀y,1<=(f y).2)(top:Int)
  (hrec:∀x w:Int,0<=x->x<top->0<=w->rec { vars:=vars,used:=w,steps:=steps,full:=false } (Zli p (v,x)) l=some (limR vars steps w (f x))) (hu:0<=u):∀(m n:Nat) (c:Int),((n+m:Nat):Int)<=top->1<=c->u+c<=steps ->
  Rn (Zmy p rec v y) (Zmz p rec v y) m n (l,vars,u+c,steps,false)=some (limR vars steps u (kids f m n c))
 | 0,n,c,_,_,hc=>by rw[Rn,Zmz,kids,limR,if_pos hc]
 | m+1,n,c,ht,h1,hc=>by
  have hfn:=hf n
  rw[Rn,Zmy,Zaja,Zan (by omega),Zac,Zan (by rw[Zace];omega),hrec n (u+c) (by omega) (by omega) (by omega),kids]
  by_cases hk:u+c+(f n).2<=steps
  ·rw[limR,if_pos hk,Zc6]
   cases hb:(f n).1 with
   | false=>rw[Bool.not_false,Zby,if_neg (by simp),limR,if_pos (by show u+(c+(f n).2)<=steps;omega),Int.add_assoc]
   | true =>
    rw[Bool.not_true,Zbb,if_pos rfl]
    have:=dec4 vars steps u p hp v y l rec f hf top hrec hu m (n+1) (c+(f n).2) (by omega) (by omega) (by omega)
    rw[<-Int.add_assoc]at this
    exact this
  ·rw[limR,if_neg hk,Zc6,Bool.not_false,Zby]
   have hge:c+(f n).2<=(if(f n).1=true then kids f m (n+1) (c+(f n).2)else(false,c+(f n).2)).2:=by
    split
    ·exact Zah4 f (λy=>by have:=hf y;omega) m _ _
    ·exact Int.le_refl _
   rw[limR,if_neg (by omega),show max (u+c) steps=max u steps from by omega]
theorem Zafc (vars:List Int)(hv:vars.length<=64)(hd:∀n∈vars,n<=64)(steps:Int)(hst:steps<=9223372036854775806):∀(d:Nat)(p:List Zaa)(l:List (List Zaa)),DecP vars d p l->l.length<=100000->∀(g:Nat)(u:Int),d<=g->0<=u ->
  Zhe g { vars:=vars,used:=u,steps:=steps,full:=false } p l=some (limR vars steps u (decA vars d p l))
 | 0,p,l,h,_,_,_,_,_=>h.zero.elim
 | d+1,p,l,h,hl,g,u,hg,hu=>by
  obtain⟨g,rfl⟩:∃k,g=k+1:=⟨g-1,by omega⟩
  have hpl:=Zkj hv h.prop
  have hps:=Zjj hv h.prop
  rw[Zhe]
  simp only
  rw[Zar]
  by_cases hus:u>=steps
  ·have:=Zyp vars (d+1) p l
   rw[if_pos hus,limR,if_neg (by omega),show max u steps=u from by omega]
  ·have hw:IntKind.i64.wrap (u+1)=u+1:=Zpd (by omega) (by omega)
   have hall:∀x∈l,Sh x/\vF (-1) x=true:=λx hx=>⟨Zjj hv (h.all x hx),Zji (h.all x hx)⟩
   rw[if_neg hus,Zwl _ p l [] (by omega),dec1 _ hw p hps (Zji h.prop) l l 0 [] hall (by simp;omega),Zac,decA]
   by_cases hc:l.any (λx=>subF x p)=true
   ·rw[if_pos hc,if_pos hc,Ziz,limR,if_pos (by show u+1<=steps;omega)]
   ·have hrl:(Zhv p l).length<=l.length:=List.length_filter_le _ _
    have e3:Rn (Zkg p (Zhv p l)) (Zkh p (Zhv p l)) (Zhv p l).length 0 (vars.length:Int)=some (Zun p (Zhv p l) vars.length):=dec3 p hps (Zhv p l) (λx hx=>(hall x (List.mem_filter.1 hx).1).1) _ 0 _ (Nat.zero_add _)
    rw[if_neg hc,if_neg hc,Zbv,List.nil_append,Zwn p (Zhv p l) _ rfl (by omega),lM_,e3,Zac]
    by_cases hlo:Zun p (Zhv p l) vars.length=vars.length
    ·rw[if_pos hlo,hlo,beq_self_eq_true,Zby,hw,limR,if_pos (by show u+1<=steps;omega)]
    ·obtain⟨h1,h2,h3⟩:=h.low hlo
     have hmem:vars.getD (Zun p (Zhv p l) vars.length).toNat 0∈vars:=by
      rw[gD_,gE_ (by omega),Option.getD_some]
      exact List.getElem_mem _
     have hdo:=h.dom _ hmem
     have hd2:=hd _ hmem
     rw[if_neg hlo,show(Zun p (Zhv p l) vars.length == (vars.length:Int))=false from by simp[hlo],Zbb,Zlh (d:=0) h1 h2,Zan (by omega),Zwo p _ _ _ _ _ _ _ _ (m:=(vars.getD (Zun p (Zhv p l) vars.length).toNat 0).toNat) (by omega) (by omega),hw]
     exact dec4 vars steps u p hpl _ _ (Zhv p l) _ (λx=>decA vars d (Zli p (Zun p (Zhv p l) vars.length,x)) (Zhv p l)) (λy=>Zyp vars d _ _) (vars.getD (Zun p (Zhv p l) vars.length).toNat 0)
      (λx w x0 x1 w0=>Zafc vars hv hd steps hst d _ _ (h.kid hlo x0 x1) (by omega) g w (by omega) w0) hu _ 0 1 (by omega) (by omega) (by omega)
def covA (vars:List Int)(p:List Zaa)(l:List (List Zaa)):Bool×Int:=decA vars (vars.length+1) p l
structure DomP (vars:List Int):Prop where
 len:vars.length<=64
 dom:∀n∈vars,1<=n/\n<=64
theorem Ztb {t:Zah}(h:Ze5 t=true):DomP t.Vars:=by
 unfold Ze5 at h
 simp only[bA_,decide_eq_true_iff,List.all_eq_true]at h
 exact⟨h.1.1,h.2.1⟩
theorem Zan0 {vars:List Int}(h:DomP vars){p:List Zaa}(hp:Zbi vars (-1) p=true){l:List (List Zaa)}(hl:Zfu vars l):DecP vars (vars.length+1) p l:=⟨λn hn=>(h.dom n hn).1,hp,hl,by omega⟩
theorem Zanz {vars:List Int}(h:DomP vars){p:List Zaa}(hp:Zbi vars (-1) p=true){l:List (List Zaa)}(hl:Zfu vars l):(covA vars p l).1=true↔∀s,Za6 vars s=true->Zay s p=true->Zmc s l:=Zzz _ p l (Zan0 h hp hl)
def covR (r:Bool×Int)(steps:Int):Bool×Int×Er:=if r.2<=steps then(r.1,r.2,.nil)else(false,0,.no 10)
theorem Zalt {vars:List Int}(h:DomP vars){p:List Zaa}(hp:Zbi vars (-1) p=true){l:List (List Zaa)}(hl:Zfu vars l)(hlen:l.length<=100000)(steps:Int)(hst:steps<=9223372036854775806)(g:Nat)(hg:65<=g):Zl4 g vars p l steps=some (covR (covA vars p l) steps):=by
 have hv:=h.len
 rw[Zl4,Zta vars p (Zjj hv hp),hp,Zac,Bool.not_true,Zbb,Zn2 (p:=λx=>!Zbi vars (-1) x) (show _<=_ by omega) (λy hy=>by
  rw[Zk8,Zta vars y (Zjj hv (hl y hy)),Zac])]
 have hany:(l.any λx=>!Zbi vars (-1) x)=false:=by
  rw[Bool.eq_false_iff]
  intro hh
  obtain⟨x,hx,e⟩:=List.any_eq_true.1 hh
  rw[hl x hx]at e
  cases e
 rw[hany,Zac,Zbb,Zac,Zbv,Zafc vars hv (λn hn=>(h.dom n hn).2) steps hst _ p l (Zan0 h hp hl) hlen g 0 (by omega) (Int.le_refl _)]
 show ob2 (some (limR vars steps 0 (covA vars p l))) _=_
 unfold limR covR
 rw[Int.zero_add]
 split <;> rfl
end Go.Proofs.YtpfnmpdcneejbaaGreatDoor.Am
namespace Go.Proofs.YtpfnmpdcneejbaaGreatDoor.Am
set_option maxHeartbeats 16000000
set_option maxRecDepth 100000
open Go.RowKit
def Ze1 (a0:List Zaa):Nat->Int->Option (Bool)|0,_=>none|k6+1,v5=>sel (decide (v5<((a0.map cF).length:Int))) (ix a0 v5 (λy7=>sel (decide (y7.1<0)) (some false) (sel (decide (y7.1>=64)) (some false) (sel (decide (y7.2<0)) (some false) (sel (decide (y7.2>=64)) (some false) (sel (decide (v5>0)) (ix a0 (IntKind.i64.wrap (v5-1)) (λy8=>sel (decide (y8.1>=y7.1)) (some false) (Ze1 a0 k6 (IntKind.i64.wrap (v5+1))))) (Ze1 a0 k6 (IntKind.i64.wrap (v5+1))))))))) (some true)
def Zl1 (a0:List Zaa):Option (Bool):=Ze1 a0 ((((a0.map cF).length:Int)).toNat+1) 0
theorem Zag3 (a0:List Zaa){r1:Bool}(h:Zl1 a0=some r1):ACall cx 87 [.sl 2 (a0.map cF)] (.c (.bool r1)):=by
 refine aOf Tryz.func87 rfl (by decide) rfl (bT2 rfl) ?_;intro _;unfold Zl1 at h;refine aSR λ_=>dr (aSq (aSR λ_=>dr (aBk ?_)));refine Zaj (α:=Nat×Int) (λx=>mkS 46 [(0,.sl 2 (a0.map cF)),(5,.sl 2 (a0.map cF)),(6,.c (.int .i64 ((a0.map cF).length:Int))),(7,.c (.int .i64 x.2))] []) (λx=>Ze1 a0 x.1 x.2=some r1) (λx=>x.1) ((((a0.map cF).length:Int)).toNat+1,0) h ?_ ?_
 ·exact Zas
 ·intro x1 h;intro _;obtain⟨k6,m2,h⟩:=Zak (f:=λn=>Ze1 a0 n x1.2) rfl h;replace h:Ze1 a0 (k6+1) x1.2=some r1:=h;rw[Ze1]at h;refine aSR λ_=>dr (aSq (aCd λ_=>?_));refine spl h (λc3 h=>?_) (λc3 h=>?_)
  ·refine aSk (aSq (aBk (aSR λ_=>?_)));obtain⟨y7,w4,q5,h⟩:=Za9 h;refine Exists.intro (cF y7) (And.intro (Zad w4) λ_=>pr (dr (aSR λ_=>?_)));refine spf h (λc6 h=>?_) (λc6 h=>?_)
   ·intro _;refine spf h (λc7 h=>?_) (λc7 h=>?_)
    ·intro _;refine spf h (λc8 h=>?_) (λc8 h=>?_)
     ·intro _;refine spf h (λc9 h=>?_) (λc9 h=>?_)
      ·intro _;refine spl h (λc10 h=>?_) (λc10 h=>?_)
       ·intro _;obtain⟨y8,w11,q12,h⟩:=Za9 h;refine Exists.intro (cF y8) (And.intro (Zad w11) λ_=>pr (dr (aCd λ_=>?_)));refine spl h (λc13 h=>?_) (λc13 h=>?_)
        ·exact zz2
        ·refine aSk (aRg λ_=>dr ⟨(k6,(IntKind.i64.wrap (x1.2+1))),h,ltS m2,?_⟩);exact Zas
       ·intro _;refine dr (aCd λ_=>Znf (aSk (aRg λ_=>dr ⟨(k6,(IntKind.i64.wrap (x1.2+1))),h,ltS m2,?_⟩)));exact Zas
      ·exact zz5
     ·exact zz5
    ·exact zz5
   ·exact zz5
  ·exact zz9
def Zg0 (a0:Zab):Nat->Int->Option (Unit⊕Er)|0,_=>none|k20+1,v19=>sel (decide (v19<((a0.Nogoods.map cN).length:Int))) (ix a0.Nogoods v19 (λy21=>ob1 (Zl1 y21.1) (λz22=>sel (!z22) (some (.inr (Er.no 2))) (Zg0 a0 k20 (IntKind.i64.wrap (v19+1)))))) (some (.inl ()))
def Zd6 (a0:Zab):Nat->Int->Option (Er)|0,_=>none|k27+1,v26=>sel (decide (v26<((a0.Nogoods.map cN).length:Int))) (ix a0.Nogoods v26 (λy28=>sel (decide (y28.2<0)) (some (Er.no 1)) (sel (decide (a0.Bound>=0)) (sel (decide (y28.2>=a0.Bound)) (some (Er.no 1)) (sel (decide (a0.Bound<0)) (sel (y28.2 != 0) (some (Er.no 1)) (Zd6 a0 k27 (IntKind.i64.wrap (v26+1)))) (Zd6 a0 k27 (IntKind.i64.wrap (v26+1))))) (sel (decide (a0.Bound<0)) (sel (y28.2 != 0) (some (Er.no 1)) (Zd6 a0 k27 (IntKind.i64.wrap (v26+1)))) (Zd6 a0 k27 (IntKind.i64.wrap (v26+1))))))) (some Er.nil)
def Zni (a0:Zab):Option (Er):=ob1 (sel (decide (a0.Bound<(-1))) (some (.inr (Er.no 1))) (sel (decide (a0.Bound>1099511627776)) (some (.inr (Er.no 1))) (some (.inl ()))):Option (Unit⊕Er)) (Zj9 (λ_=>sel (decide (((a0.Nogoods.map cN).length:Int)>4096)) (some (Er.no 5)) (ob1 (Zg0 a0 ((((a0.Nogoods.map cN).length:Int)).toNat+1) 0:Option (Unit⊕Er)) (Zj9 (λ_=>Zd6 a0 ((((a0.Nogoods.map cN).length:Int)).toNat+1) 0) (λr12=>some r12)))) (λr1=>some r1))
theorem Zabt (a0:Zab){r1:Er}(h:Zni a0=some r1):ACall cx 63 [.agg [.c (.int .i64 a0.Bound),.sl 2 (a0.Nogoods.map cN)]] (eA r1):=by
 refine aOf Tryz.func63 rfl (by decide) rfl (bT2 rfl) ?_;intro _;unfold Zni at h;refine aSR λ_=>dr ?_;obtain⟨o1,h,hK2⟩:=Zae h;refine Zat (α:=Unit) (λ_=>mkS 68 [(1,.ptr 1 0 0 0)] [(1,⟨38,2,true,[[.c (.int .i64 a0.Bound),.sl 2 (a0.Nogoods.map cN)]]⟩)]) (λv=>o1=(.inl v)) ?_ ?_
 ·refine aSR λ_=>?_;refine spf h (λc3 h=>?_) (λc3 h=>?_)
  ·intro _;refine dr (aCd λ_=>?_);refine spl h (λc4 h=>?_) (λc4 h=>?_)
   ·refine aSR λ_=>dr (aRt ?_);have j5:=sI_ h;subst j5;replace h:=(Za4 hK2);exact zz4
   ·exact zz10
  ·intro _;refine dr (aCd λ_=>Zll (aSR λ_=>dr (aRt ?_)));have j6:=sI_ h;subst j6;replace h:=(Za4 hK2);exact zz4
 ·rintro _ ho;have ho:=ho.symm;subst ho;intro _;replace h:=(Zcx hK2);refine aSq (aSR λ_=>dr (aCd λ_=>?_));refine spl h (λc7 h=>?_) (λc7 h=>?_)
  ·exact zz2
  ·refine aSk ?_;obtain⟨o8,h,hK9⟩:=Zae h;refine Zat (α:=Unit) (λ_=>mkS 68 [(1,.ptr 1 0 0 0)] [(1,⟨38,2,true,[[.c (.int .i64 a0.Bound),.sl 2 (a0.Nogoods.map cN)]]⟩)]) (λv=>o8=(.inl v)) ?_ ?_
   ·refine aSR λ_=>dr (aBk ?_);refine Zaj (α:=Nat×Int) (λx=>mkS 68 [(1,.ptr 1 0 0 0),(22,.sl 2 (a0.Nogoods.map cN)),(23,.c (.int .i64 ((a0.Nogoods.map cN).length:Int))),(24,.c (.int .i64 x.2))] [(1,⟨38,2,true,[[.c (.int .i64 a0.Bound),.sl 2 (a0.Nogoods.map cN)]]⟩)]) (λx=>Zg0 a0 x.1 x.2=some o8) (λx=>x.1) ((((a0.Nogoods.map cN).length:Int)).toNat+1,0) h ?_ ?_
    ·exact Zas
    ·intro x10 h;intro _;obtain⟨k20,m11,h⟩:=Zak (f:=λn=>Zg0 a0 n x10.2) rfl h;replace h:Zg0 a0 (k20+1) x10.2=some o8:=h;rw[Zg0]at h;refine aSR λ_=>dr (aSq (aCd λ_=>?_));refine spl h (λc12 h=>?_) (λc12 h=>?_)
     ·refine aSk (aSq (aBk (aSR λ_=>?_)));obtain⟨y21,w13,q14,h⟩:=Za9 h;refine Exists.intro (cN y21) (And.intro (Zad w13) λ_=>pr (dr (aSR λ_=>?_)));obtain⟨z22,u15,h⟩:=Zae h;refine cl rfl (Zag3 y21.1 u15) λ_=>dr (aCd λ_=>?_);refine spl h (λc16 h=>?_) (λc16 h=>?_)
      ·refine aSR λ_=>dr (aRt ?_);have j17:=sI_ h;subst j17;replace h:=(Za4 hK9);exact zz4
      ·refine aSk (aRg λ_=>dr ⟨(k20,(IntKind.i64.wrap (x10.2+1))),h,ltS m11,?_⟩);exact Zas
     ·exact zz11
   ·rintro _ ho;have ho:=ho.symm;subst ho;intro _;replace h:=(Zcx hK9);refine aSq (aSR λ_=>dr (aBk ?_));refine Zaj (α:=Nat×Int) (λx=>mkS 68 [(1,.ptr 1 0 0 0),(35,.sl 2 (a0.Nogoods.map cN)),(36,.c (.int .i64 ((a0.Nogoods.map cN).length:Int))),(37,.c (.int .i64 x.2))] [(1,⟨38,2,true,[[.c (.int .i64 a0.Bound),.sl 2 (a0.Nogoods.map cN)]]⟩)]) (λx=>Zd6 a0 x.1 x.2=some r1) (λx=>x.1) ((((a0.Nogoods.map cN).length:Int)).toNat+1,0) h ?_ ?_
    ·exact Zas
    ·intro x18 h;intro _;obtain⟨k27,m19,h⟩:=Zak (f:=λn=>Zd6 a0 n x18.2) rfl h;replace h:Zd6 a0 (k27+1) x18.2=some r1:=h;rw[Zd6]at h;refine aSR λ_=>dr (aSq (aCd λ_=>?_));refine spl h (λc20 h=>?_) (λc20 h=>?_)
     ·refine aSk (aSq (aBk (aSR λ_=>?_)));obtain⟨y28,w21,q22,h⟩:=Za9 h;refine Exists.intro (cN y28) (And.intro (Zad w21) λ_=>pr (dr (aSR λ_=>?_)));refine spf h (λc23 h=>?_) (λc23 h=>?_)
      ·intro _;refine spl h (λc24 h=>?_) (λc24 h=>?_)
       ·intro _;refine spf h (λc25 h=>?_) (λc25 h=>?_)
        ·intro _;refine spl h (λc26 h=>?_) (λc26 h=>?_)
         ·intro _;refine dr (aCd λ_=>?_);refine spl h (λc27 h=>?_) (λc27 h=>?_)
          ·exact zz2
          ·refine aSk (aRg λ_=>dr ⟨(k27,(IntKind.i64.wrap (x18.2+1))),h,ltS m19,?_⟩);exact Zas
         ·intro _;refine dr (aCd λ_=>Znf (aSk (aRg λ_=>dr ⟨(k27,(IntKind.i64.wrap (x18.2+1))),h,ltS m19,?_⟩)));exact Zas
        ·exact zz5
       ·intro _;refine spl h (λc28 h=>?_) (λc28 h=>?_)
        ·intro _;refine dr (aCd λ_=>?_);refine spl h (λc29 h=>?_) (λc29 h=>?_)
         ·exact zz2
         ·refine aSk (aRg λ_=>dr ⟨(k27,(IntKind.i64.wrap (x18.2+1))),h,ltS m19,?_⟩);exact Zas
        ·intro _;refine dr (aCd λ_=>Znf (aSk (aRg λ_=>dr ⟨(k27,(IntKind.i64.wrap (x18.2+1))),h,ltS m19,?_⟩)));exact Zas
      ·exact zz5
     ·exact zz9
def Zfx (a0:List Int)(a1:Zab):Nat->Int->Option (Er)|0,_=>none|k9+1,v8=>sel (decide (v8<((a1.Nogoods.map cN).length:Int))) (ix a1.Nogoods v8 (λy10=>ob1 (Zdx a0 y10.1) (λz11=>sel (!z11) (some (Er.no 2)) (Zfx a0 a1 k9 (IntKind.i64.wrap (v8+1)))))) (some Er.nil)
def Zl0 (a0:List Int)(a1:Zab):Option (Er):=ob1 (Zni a1) (λz1=>erM z1 (Zfx a0 a1 ((((a1.Nogoods.map cN).length:Int)).toNat+1) 0) (λe2=>some (Er.no e2)))
theorem zz14 {P:Prop}(w:P:=by replace h:=Zlf h;refine aRg ?_;exact zz5):P:=w
theorem Zag2 (a0:List Int)(a1:Zab){r1:Er}(h:Zl0 a0 a1=some r1):ACall cx 49 [.sl 1 (a0.map cI),.agg [.c (.int .i64 a1.Bound),.sl 2 (a1.Nogoods.map cN)]] (eA r1):=by
 refine aOf Tryz.func49 rfl (by decide) rfl (bT2 rfl) ?_;intro _;unfold Zl0 at h;refine aSR λ_=>dr (aSq (aSR λ_=>?_));obtain⟨z1,u1,h⟩:=Zae h;refine cl rfl (Zabt a1 u1) λ_=>dr (aSq ?_);rcases z1 with _|e2
 ·replace h:=Zdn h;refine aRg λ_=>dr (aCd λ_=>Znf (aSk (aSq (aSR λ_=>dr (aBk ?_)))));refine Zaj (α:=Nat×Int) (λx=>mkS 27 [(0,.sl 1 (a0.map cI)),(14,.sl 2 (a1.Nogoods.map cN)),(15,.c (.int .i64 ((a1.Nogoods.map cN).length:Int))),(16,.c (.int .i64 x.2))] []) (λx=>Zfx a0 a1 x.1 x.2=some r1) (λx=>x.1) ((((a1.Nogoods.map cN).length:Int)).toNat+1,0) h ?_ ?_
  ·exact Zas
  ·intro x2 h;intro _;obtain⟨k9,m3,h⟩:=Zak (f:=λn=>Zfx a0 a1 n x2.2) rfl h;replace h:Zfx a0 a1 (k9+1) x2.2=some r1:=h;rw[Zfx]at h;refine aSR λ_=>dr (aSq (aCd λ_=>?_));refine spl h (λc4 h=>?_) (λc4 h=>?_)
   ·refine aSk (aSq (aBk (aSR λ_=>?_)));obtain⟨y10,w5,q6,h⟩:=Za9 h;refine Exists.intro (cN y10) (And.intro (Zad w5) λ_=>pr (dr (aSR λ_=>?_)));obtain⟨z11,u7,h⟩:=Zae h;refine cl rfl (Zkq a0 y10.1 u7) λ_=>dr (aCd λ_=>?_);refine spl h (λc8 h=>?_) (λc8 h=>?_)
    ·exact zz2
    ·refine aSk (aRg λ_=>dr ⟨(k9,(IntKind.i64.wrap (x2.2+1))),h,ltS m3,?_⟩);exact Zas
   ·exact zz9
 ·exact zz14
def Zdt (a0:Zbu)(a1:Int):Nat->Int->(List (List Zaa))->Option (List (List Zaa))|0,_,_=>none|k7+1,v5,v6=>sel (decide (v5<((a0.c.Nogoods.map cN).length:Int))) (ix a0.c.Nogoods v5 (λy8=>sel (decide (y8.2<=a1)) (grd ((v6.length+1)*24<=140737488355328) (Zdt a0 a1 k7 (IntKind.i64.wrap (v5+1)) (v6++[y8.1]))) (Zdt a0 a1 k7 (IntKind.i64.wrap (v5+1)) v6))) (grd (v6.length<=140737488355328) (some v6))
def Zk3 (a0:Zbu)(a1:Int):Option (List (List Zaa)):=Zdt a0 a1 ((((a0.c.Nogoods.map cN).length:Int)).toNat+1) 0 []
theorem Zacq (a0:Zbu)(a1:Int){r1:List (List Zaa)}(h:Zk3 a0 a1=some r1):Zc8 cx 78 [.ptr 29 0 0 0,.c (.int .i64 a1)] [(29,⟨109,7,true,[[.sl 1 (a0.t.Vars.map cI),.sl 1 (a0.t.Init.map cI),.sl 2 (a0.t.Goal.map cF),.sl 4 (a0.t.Ops.map Za0),.c (.int .i64 a0.c.Bound),.sl 2 (a0.c.Nogoods.map cN),.c (.int .i64 a0.steps)]]⟩)] [29] (.sl 1 (r1.map Zal)) [(29,⟨109,7,true,[[.sl 1 (a0.t.Vars.map cI),.sl 1 (a0.t.Init.map cI),.sl 2 (a0.t.Goal.map cF),.sl 4 (a0.t.Ops.map Za0),.c (.int .i64 a0.c.Bound),.sl 2 (a0.c.Nogoods.map cN),.c (.int .i64 a0.steps)]]⟩)]:=by
 refine Zc4 31 Tryz.func78 rfl (by decide) rfl (bT2 rfl) rfl rfl ?_;intro _;unfold Zk3 at h;refine aSR λ_=>dr (aSR λ_=>dr (aSq (aSR λ_=>dr (aBk ?_))));refine Zaj (α:=Nat×Int×(List (List Zaa))) (λx=>mkG 29 31 [(1,.c (.int .i64 a1)),(5,.own 26 0 0 x.2.2.length),(12,.sl 2 (a0.c.Nogoods.map cN)),(13,.c (.int .i64 ((a0.c.Nogoods.map cN).length:Int))),(14,.c (.int .i64 x.2.1))] [(26,⟨23,1,false,x.2.2.map Zal⟩),(29,⟨109,7,true,[[.sl 1 (a0.t.Vars.map cI),.sl 1 (a0.t.Init.map cI),.sl 2 (a0.t.Goal.map cF),.sl 4 (a0.t.Ops.map Za0),.c (.int .i64 a0.c.Bound),.sl 2 (a0.c.Nogoods.map cN),.c (.int .i64 a0.steps)]]⟩)]) (λx=>Zdt a0 a1 x.1 x.2.1 x.2.2=some r1) (λx=>x.1) ((((a0.c.Nogoods.map cN).length:Int)).toNat+1,0,[]) h ?_ ?_
 ·exact Zas
 ·intro x1 h;intro _;obtain⟨k7,m2,h⟩:=Zak (f:=λn=>Zdt a0 a1 n x1.2.1 x1.2.2) rfl h;replace h:Zdt a0 a1 (k7+1) x1.2.1 x1.2.2=some r1:=h;rw[Zdt]at h;refine aSR λ_=>dr (aSq (aCd λ_=>?_));refine spl h (λc3 h=>?_) (λc3 h=>?_)
  ·refine aSk (aSq (aBk (aSR λ_=>?_)));obtain⟨y8,w4,q5,h⟩:=Za9 h;refine Exists.intro (cN y8) (And.intro (Zad w4) λ_=>pr (dr (aSR λ_=>dr (aCd λ_=>?_))));refine spl h (λc6 h=>?_) (λc6 h=>?_)
   ·refine aRg λ_=>?_;obtain⟨q7,h⟩:=Zaf h;refine pl (pl ?_);refine And.intro (by first|with_reducible assumption|(show(x1.2.2.length+1)*24<=140737488355328;with_reducible assumption)|omega|(simp;omega)) ?_;refine pe (dr (aRg λ_=>dr ⟨(k7,(IntKind.i64.wrap (x1.2.1+1)),(x1.2.2++[y8.1])),h,ltS m2,?_⟩));exact Zas
   ·refine aSk (aRg λ_=>dr ⟨(k7,(IntKind.i64.wrap (x1.2.1+1)),x1.2.2),h,ltS m2,?_⟩);exact Zas
  ·refine aEx (aSR λ_=>dr (aRt ?_));obtain⟨q8,h⟩:=Zaf h;intro _;obtain rfl:=inj1 h;all_goals (refine Exists.intro [] (And.intro rfl (And.intro ?_ ?_)));all_goals (exact gz3)
def Zh0 (g:Nat)(a0:Zbu)(a1:List Zaa)(a2:Int):Option (Bool×Er×Zbu):=ob1 (Zk3 a0 a2) (λz1=>ob3 (Zl4 g a0.t.Vars a1 z1 a0.steps) (λz2 z3 z4=>erM z4 (some (z2,Er.nil,{ t:=a0.t,c:=a0.c,steps:=(IntKind.i64.wrap (a0.steps-z3)):Zbu })) (λe5=>some (false,(Er.no e5),a0))))
theorem Zxp (g:Nat)(a0:Zbu)(a1:List Zaa)(a2:Int){r1:Bool}{r2:Er}{r3:Zbu}(h:Zh0 g a0 a1 a2=some (r1,r2,r3)):Zc8 cx 51 [.ptr 41 0 0 0,.sl 2 (a1.map cF),.c (.int .i64 a2)] [(41,⟨109,7,true,[[.sl 1 (a0.t.Vars.map cI),.sl 1 (a0.t.Init.map cI),.sl 2 (a0.t.Goal.map cF),.sl 4 (a0.t.Ops.map Za0),.c (.int .i64 a0.c.Bound),.sl 2 (a0.c.Nogoods.map cN),.c (.int .i64 a0.steps)]]⟩)] [41] (.tup [.c (.bool r1),eA r2]) [(41,⟨109,7,true,[[.sl 1 (r3.t.Vars.map cI),.sl 1 (r3.t.Init.map cI),.sl 2 (r3.t.Goal.map cF),.sl 4 (r3.t.Ops.map Za0),.c (.int .i64 r3.c.Bound),.sl 2 (r3.c.Nogoods.map cN),.c (.int .i64 r3.steps)]]⟩)]:=by
 refine Zc4 44 Tryz.func51 rfl (by decide) rfl (bT2 rfl) rfl rfl ?_;intro _;unfold Zh0 at h;refine aSR λ_=>dr (aSR λ_=>?_);obtain⟨z1,u1,h⟩:=Zae h;refine clk [(29,41)] [(41,⟨0,some ⟨109,7,true,[[.sl 1 (a0.t.Vars.map cI),.sl 1 (a0.t.Init.map cI),.sl 2 (a0.t.Goal.map cF),.sl 4 (a0.t.Ops.map Za0),.c (.int .i64 a0.c.Bound),.sl 2 (a0.c.Nogoods.map cN),.c (.int .i64 a0.steps)]]⟩⟩)] (.sl 1 (z1.map Zal)) rfl rfl (Zacq a0 a2 u1) λ_=>?_;obtain⟨z2,z3,z4,u2,h⟩:=Zvx h;refine cl rfl (Zag5 g a0.t.Vars a1 z1 a0.steps u2) λ_=>dr (aSq (aSq ?_));rcases z4 with _|e5
 ·replace h:=Zdn h;refine aRg λ_=>dr (aCd λ_=>Znf (aSk (aSR λ_=>dr (aSR λ_=>dr (aRt λ_=>?_)))));obtain⟨rfl,rfl,rfl⟩:=inj3 h;all_goals (refine Exists.intro [] (And.intro rfl (And.intro ?_ ?_)));all_goals (exact gz3)
 ·replace h:=Zlf h;refine aRg λ_=>dr (aCd λ_=>Zll (aSR λ_=>dr (aRt λ_=>?_)));obtain⟨rfl,rfl,rfl⟩:=inj3 h;all_goals (refine Exists.intro [] (And.intro rfl (And.intro ?_ ?_)));all_goals (exact gz3)
def Zg1 (g:Nat)(v2:Int)(z7:List (List Zaa)):Nat->Int->(List Int)->(List Int)->(List Zaa)->(List GOp)->Int->(List Zaw)->Int->Option (Er×Zbu)|0,_,_,_,_,_,_,_,_=>none|k36+1,v28,v29,v30,v31,v32,v33,v34,v35=>sel (decide (v28<((z7.map Zal).length:Int))) (ix z7 v28 (λy37=>ob3 (Zh0 g ({ t:={ Vars:=v29,Init:=v30,Goal:=v31,Ops:=v32:Zah },c:={ Bound:=v33,Nogoods:=v34:Zab },steps:=v35:Zbu }) y37 v2) (λz38 z39 c40=>erM z39 (sel (!z38) (some ((Er.no 19),c40)) (Zg1 g v2 z7 k36 (IntKind.i64.wrap (v28+1)) c40.t.Vars c40.t.Init c40.t.Goal c40.t.Ops c40.c.Bound c40.c.Nogoods c40.steps)) (λe41=>some ((Er.no e41),c40))))) (some (Er.nil,{ t:={ Vars:=v29,Init:=v30,Goal:=v31,Ops:=v32:Zah },c:={ Bound:=v33,Nogoods:=v34:Zab },steps:=v35:Zbu }))
def Znv (g:Nat)(a0:Zbu)(a1:Zaw)(a2:Int):Option (Er×Zbu):=ob1 (sel (decide (a0.c.Bound>=0)) (ix a0.t.Ops a2 (λy6=>sel (decide ((IntKind.i64.wrap (a1.2+y6.Cost))>=a0.c.Bound)) (some (.inr (Er.nil,a0))) (some (.inl (IntKind.i64.wrap (a1.2+y6.Cost)))))) (some (.inl 0)):Option (Int⊕(Er×Zbu))) (Zj9 (λv2=>ob2 (Zkl g a0.t a2 a1.1) (λz7 z8=>erM z8 (Zg1 g v2 z7 ((((z7.map Zal).length:Int)).toNat+1) 0 a0.t.Vars a0.t.Init a0.t.Goal a0.t.Ops a0.c.Bound a0.c.Nogoods a0.steps) (λe9=>some ((Er.no e9),a0)))) (λ(r3,r4)=>some (r3,r4)))
theorem Zam1 (g:Nat)(a0:Zbu)(a1:Zaw)(a2:Int){r1:Er}{r2:Zbu}(h:Znv g a0 a1 a2=some (r1,r2)):Zc8 cx 52 [.ptr 73 0 0 0,.agg [.sl 2 (a1.1.map cF),.c (.int .i64 a1.2)],.c (.int .i64 a2)] [(73,⟨109,7,true,[[.sl 1 (a0.t.Vars.map cI),.sl 1 (a0.t.Init.map cI),.sl 2 (a0.t.Goal.map cF),.sl 4 (a0.t.Ops.map Za0),.c (.int .i64 a0.c.Bound),.sl 2 (a0.c.Nogoods.map cN),.c (.int .i64 a0.steps)]]⟩)] [73] (eA r1) [(73,⟨109,7,true,[[.sl 1 (r2.t.Vars.map cI),.sl 1 (r2.t.Init.map cI),.sl 2 (r2.t.Goal.map cF),.sl 4 (r2.t.Ops.map Za0),.c (.int .i64 r2.c.Bound),.sl 2 (r2.c.Nogoods.map cN),.c (.int .i64 r2.steps)]]⟩)]:=by
 refine Zc4 76 Tryz.func52 rfl (by decide) rfl (bT2 rfl) rfl rfl ?_;intro _;unfold Znv at h;refine aSR λ_=>dr (aSR λ_=>dr ?_);obtain⟨o1,h,hK2⟩:=Zae h;refine Zat (α:=Int) (λv2=>mkG 73 76 [(0,.ptr 73 0 0 0),(2,.c (.int .i64 a2)),(4,.ptr 4 0 0 0),(7,.c (.int .i64 v2))] [(4,⟨70,2,true,[[.sl 2 (a1.1.map cF),.c (.int .i64 a1.2)]]⟩),(73,⟨109,7,true,[[.sl 1 (a0.t.Vars.map cI),.sl 1 (a0.t.Init.map cI),.sl 2 (a0.t.Goal.map cF),.sl 4 (a0.t.Ops.map Za0),.c (.int .i64 a0.c.Bound),.sl 2 (a0.c.Nogoods.map cN),.c (.int .i64 a0.steps)]]⟩)]) (λv=>o1=(.inl v)) ?_ ?_
 ·refine aSR λ_=>dr (aCd λ_=>?_);refine spl h (λc3 h=>?_) (λc3 h=>?_)
  ·refine aSR λ_=>?_;obtain⟨y6,w4,q5,h⟩:=Za9 h;refine Exists.intro (Za0 y6) (And.intro (Zad w4) λ_=>pr (dr (aSR λ_=>dr (aCd λ_=>?_))));refine spl h (λc6 h=>?_) (λc6 h=>?_)
   ·refine aSR λ_=>dr (aRt ?_);have j7:=sI_ h;subst j7;replace h:=(Za4 hK2);intro _;obtain⟨rfl,rfl⟩:=Zw6 h;all_goals (refine Exists.intro [] (And.intro rfl (And.intro ?_ ?_)));all_goals (exact gz3)
   ·refine aSk ⟨(IntKind.i64.wrap (a1.2+y6.Cost)),(sI_ h).symm,?_⟩;exact Zas
  ·refine aSk ⟨0,(sI_ h).symm,?_⟩;exact Zas
 ·rintro v2 ho;have ho:=ho.symm;subst ho;intro _;replace h:=(Zcx hK2);refine aSR λ_=>?_;obtain⟨z7,z8,u8,h⟩:=Zdv h;refine cl rfl (Zy6 g a0.t a2 a1.1 u8) λ_=>dr (aSq (aSq ?_));rcases z8 with _|e9
  ·replace h:=Zdn h;refine aRg λ_=>dr (aCd λ_=>Znf (aSk (aSq (aSR λ_=>dr (aBk ?_)))));refine Zaj (α:=Nat×Int×(List Int)×(List Int)×(List Zaa)×(List GOp)×Int×(List Zaw)×Int) (λx=>mkG 73 76 [(0,.ptr 73 0 0 0),(7,.c (.int .i64 v2)),(53,.sl 1 (z7.map Zal)),(54,.c (.int .i64 ((z7.map Zal).length:Int))),(55,.c (.int .i64 x.2.1))] [(73,⟨109,7,true,[[.sl 1 (x.2.2.1.map cI),.sl 1 (x.2.2.2.1.map cI),.sl 2 (x.2.2.2.2.1.map cF),.sl 4 (x.2.2.2.2.2.1.map Za0),.c (.int .i64 x.2.2.2.2.2.2.1),.sl 2 (x.2.2.2.2.2.2.2.1.map cN),.c (.int .i64 x.2.2.2.2.2.2.2.2)]]⟩)]) (λx=>Zg1 g v2 z7 x.1 x.2.1 x.2.2.1 x.2.2.2.1 x.2.2.2.2.1 x.2.2.2.2.2.1 x.2.2.2.2.2.2.1 x.2.2.2.2.2.2.2.1 x.2.2.2.2.2.2.2.2=some (r1,r2)) (λx=>x.1) ((((z7.map Zal).length:Int)).toNat+1,0,a0.t.Vars,a0.t.Init,a0.t.Goal,a0.t.Ops,a0.c.Bound,a0.c.Nogoods,a0.steps) h ?_ ?_
   ·exact Zas
   ·intro x9 h;intro _;obtain⟨k36,m10,h⟩:=Zak (f:=λn=>Zg1 g v2 z7 n x9.2.1 x9.2.2.1 x9.2.2.2.1 x9.2.2.2.2.1 x9.2.2.2.2.2.1 x9.2.2.2.2.2.2.1 x9.2.2.2.2.2.2.2.1 x9.2.2.2.2.2.2.2.2) rfl h;replace h:Zg1 g v2 z7 (k36+1) x9.2.1 x9.2.2.1 x9.2.2.2.1 x9.2.2.2.2.1 x9.2.2.2.2.2.1 x9.2.2.2.2.2.2.1 x9.2.2.2.2.2.2.2.1 x9.2.2.2.2.2.2.2.2=some (r1,r2):=h;rw[Zg1]at h;refine aSR λ_=>dr (aSq (aCd λ_=>?_));refine spl h (λc11 h=>?_) (λc11 h=>?_)
    ·refine aSk (aSq (aBk (aSR λ_=>?_)));obtain⟨y37,w12,q13,h⟩:=Za9 h;refine Exists.intro (Zal y37) (And.intro (Zad w12) λ_=>pr (dr (aSR λ_=>?_)));obtain⟨z38,z39,c40,u14,h⟩:=Zvx h;refine clg [(41,73)] [] [] [(73,⟨0,some ⟨109,7,true,[[.sl 1 (c40.t.Vars.map cI),.sl 1 (c40.t.Init.map cI),.sl 2 (c40.t.Goal.map cF),.sl 4 (c40.t.Ops.map Za0),.c (.int .i64 c40.c.Bound),.sl 2 (c40.c.Nogoods.map cN),.c (.int .i64 c40.steps)]]⟩⟩)] (.tup [.c (.bool z38),eA z39]) rfl rfl (Zxp g ({ t:={ Vars:=x9.2.2.1,Init:=x9.2.2.2.1,Goal:=x9.2.2.2.2.1,Ops:=x9.2.2.2.2.2.1:Zah },c:={ Bound:=x9.2.2.2.2.2.2.1,Nogoods:=x9.2.2.2.2.2.2.2.1:Zab },steps:=x9.2.2.2.2.2.2.2.2:Zbu }) y37 v2 u14) λ_=>dr (aSq (aSq ?_));rcases z39 with _|e41
     ·replace h:=Zdn h;refine aRg λ_=>dr (aCd λ_=>Znf (aSk (aSR λ_=>dr (aCd λ_=>?_))));refine spl h (λc15 h=>?_) (λc15 h=>?_)
      ·refine aSR λ_=>dr (aRt λ_=>?_);obtain⟨rfl,rfl⟩:=Zw6 h;all_goals (refine Exists.intro [] (And.intro rfl (And.intro ?_ ?_)));all_goals (exact gz3)
      ·refine aSk (aRg λ_=>dr ⟨(k36,(IntKind.i64.wrap (x9.2.1+1)),c40.t.Vars,c40.t.Init,c40.t.Goal,c40.t.Ops,c40.c.Bound,c40.c.Nogoods,c40.steps),h,ltS m10,?_⟩);exact Zas
     ·replace h:=Zlf h;refine aRg λ_=>dr (aCd λ_=>Zll (aSR λ_=>dr (aRt λ_=>?_)));obtain⟨rfl,rfl⟩:=Zw6 h;all_goals (refine Exists.intro [] (And.intro rfl (And.intro ?_ ?_)));all_goals (exact gz3)
    ·refine aEx (aSR λ_=>dr (aRt λ_=>?_));obtain⟨rfl,rfl⟩:=Zw6 h;all_goals (refine Exists.intro [] (And.intro rfl (And.intro ?_ ?_)));all_goals (exact gz3)
  ·replace h:=Zlf h;refine aRg λ_=>dr (aCd λ_=>Zll (aSR λ_=>dr (aRt λ_=>?_)));obtain⟨rfl,rfl⟩:=Zw6 h;all_goals (refine Exists.intro [] (And.intro rfl (And.intro ?_ ?_)));all_goals (exact gz3)
def Zcy (a0:Zah)(a1:Zab):Nat->Int->Option (Unit⊕(Int×Int×Er))|0,_=>none|k24+1,v23=>sel (decide (v23<((a1.Nogoods.map cN).length:Int))) (ix a1.Nogoods v23 (λy25=>ob1 (Zg7 y25.1 a0.Init) (λz26=>sel z26 (some (.inr ((-1),(-1),(Er.no 20)))) (Zcy a0 a1 k24 (IntKind.i64.wrap (v23+1)))))) (some (.inl ()))
def Zcn (a0:Zah)(g:Nat)(v184:Int)(y231:Zaw):Nat->Int->(List Int)->(List Int)->(List Zaa)->(List GOp)->Int->(List Zaw)->Int->Option (((List Int)×(List Int)×(List Zaa)×(List GOp)×Int×(List Zaw)×Int)⊕(Int×Int×Er))|0,_,_,_,_,_,_,_,_=>none|k254+1,v246,v247,v248,v249,v250,v251,v252,v253=>sel (decide (v246<((a0.Ops.map Za0).length:Int))) (ob2 (Znv g ({ t:={ Vars:=v247,Init:=v248,Goal:=v249,Ops:=v250:Zah },c:={ Bound:=v251,Nogoods:=v252:Zab },steps:=v253:Zbu }) y231 v246) (λz255 c256=>erM z255 (Zcn a0 g v184 y231 k254 (IntKind.i64.wrap (v246+1)) c256.t.Vars c256.t.Init c256.t.Goal c256.t.Ops c256.c.Bound c256.c.Nogoods c256.steps) (λe257=>some (.inr (v184,v246,(Er.no e257)))))) (some (.inl (v247,v248,v249,v250,v251,v252,v253)))
def Zbt (a0:Zah)(a1:Zab)(g:Nat):Nat->Int->(List Int)->(List Int)->(List Zaa)->(List GOp)->Int->(List Zaw)->Int->Option (Int×Int×Er)|0,_,_,_,_,_,_,_,_=>none|k192+1,v184,v185,v186,v187,v188,v189,v190,v191=>sel (decide (v184<((a1.Nogoods.map cN).length:Int))) (ob1 (ix a1.Nogoods v184 (λy231=>Zcn a0 g v184 y231 ((((a0.Ops.map Za0).length:Int)).toNat+1) 0 v185 v186 v187 v188 v189 v190 v191):Option (((List Int)×(List Int)×(List Zaa)×(List GOp)×Int×(List Zaw)×Int)⊕(Int×Int×Er))) (Zj9 (λ(v220,v221,v222,v223,v224,v225,v226)=>Zbt a0 a1 g k192 (IntKind.i64.wrap (v184+1)) v220 v221 v222 v223 v224 v225 v226) (λ(r227,r228,r229)=>some (r227,r228,r229)))) (some ((-1),(-1),Er.nil))
def Zi5 (g:Nat)(a0:Zah)(a1:Zab)(a2:Int):Option (Int×Int×Er):=ob1 (Zf4 a0) (λz1=>erM z1 (ob1 (Zl0 a0.Vars a1) (λz3=>erM z3 (ob1 (Zcy a0 a1 ((((a1.Nogoods.map cN).length:Int)).toNat+1) 0:Option (Unit⊕(Int×Int×Er))) (Zj9 (λ_=>ob1 (sel (a1.Bound != 0) (ob3 (Zh0 g ({ t:=a0,c:=a1,steps:=(max 0 (min a2 1048576)):Zbu }) a0.Goal 0) (λz42 z43 c44=>erM z43 (sel (!z42) (some (.inr ((-1),(-1),(Er.no 13)))) (some (.inl (c44.t.Vars,c44.t.Init,c44.t.Goal,c44.t.Ops,c44.c.Bound,c44.c.Nogoods,c44.steps)))) (λe45=>some (.inr ((-1),(-1),(Er.no e45)))))) (some (.inl (a0.Vars,a0.Init,a0.Goal,a0.Ops,a1.Bound,a1.Nogoods,(max 0 (min a2 1048576))))):Option (((List Int)×(List Int)×(List Zaa)×(List GOp)×Int×(List Zaw)×Int)⊕(Int×Int×Er))) (Zj9 (λ(v31,v32,v33,v34,v35,v36,v37)=>Zbt a0 a1 g ((((a1.Nogoods.map cN).length:Int)).toNat+1) 0 v31 v32 v33 v34 v35 v36 v37) (λ(r38,r39,r40)=>some (r38,r39,r40)))) (λ(r14,r15,r16)=>some (r14,r15,r16)))) (λe4=>some ((-1),(-1),(Er.no e4))))) (λe2=>some ((-1),(-1),(Er.no e2))))
theorem Zy5 (g:Nat)(a0:Zah)(a1:Zab)(a2:Int){r1:Int}{r2:Int}{r3:Er}(h:Zi5 g a0 a1 a2=some (r1,r2,r3)):ACall cx 27 [.agg [.sl 1 (a0.Vars.map cI),.sl 1 (a0.Init.map cI),.sl 2 (a0.Goal.map cF),.sl 4 (a0.Ops.map Za0)],.agg [.c (.int .i64 a1.Bound),.sl 2 (a1.Nogoods.map cN)],.c (.int .i64 a2)] (.tup [.c (.int .i64 r1),.c (.int .i64 r2),eA r3]):=by
 refine aOf Tryz.func27 rfl (by decide) rfl (bT2 rfl) ?_;intro _;unfold Zi5 at h;refine aSR λ_=>dr (aSq (aSR λ_=>?_));obtain⟨z1,u1,h⟩:=Zae h;refine cl rfl (Zkp a0 u1) λ_=>dr (aSq ?_);rcases z1 with _|e2
 ·replace h:=Zdn h;refine aRg λ_=>dr (aCd λ_=>Znf (aSk (aSq (aSR λ_=>?_))));obtain⟨z3,u2,h⟩:=Zae h;refine cl rfl (Zag2 a0.Vars a1 u2) λ_=>dr (aSq ?_);rcases z3 with _|e4
  ·replace h:=Zdn h;refine aRg λ_=>dr (aCd λ_=>Znf (aSk ?_));obtain⟨o3,h,hK4⟩:=Zae h;refine Zat (α:=Unit) (λ_=>mkS 94 [(2,.c (.int .i64 a2)),(3,.ptr 3 0 0 0),(4,.ptr 4 0 0 0)] [(3,⟨26,4,true,[[.sl 1 (a0.Vars.map cI),.sl 1 (a0.Init.map cI),.sl 2 (a0.Goal.map cF),.sl 4 (a0.Ops.map Za0)]]⟩),(4,⟨38,2,true,[[.c (.int .i64 a1.Bound),.sl 2 (a1.Nogoods.map cN)]]⟩)]) (λv=>o3=(.inl v)) ?_ ?_
   ·refine aSR λ_=>dr (aBk ?_);refine Zaj (α:=Nat×Int) (λx=>mkS 94 [(2,.c (.int .i64 a2)),(3,.ptr 3 0 0 0),(4,.ptr 4 0 0 0),(33,.sl 2 (a1.Nogoods.map cN)),(34,.c (.int .i64 ((a1.Nogoods.map cN).length:Int))),(35,.c (.int .i64 x.2))] [(3,⟨26,4,true,[[.sl 1 (a0.Vars.map cI),.sl 1 (a0.Init.map cI),.sl 2 (a0.Goal.map cF),.sl 4 (a0.Ops.map Za0)]]⟩),(4,⟨38,2,true,[[.c (.int .i64 a1.Bound),.sl 2 (a1.Nogoods.map cN)]]⟩)]) (λx=>Zcy a0 a1 x.1 x.2=some o3) (λx=>x.1) ((((a1.Nogoods.map cN).length:Int)).toNat+1,0) h ?_ ?_
    ·exact Zas
    ·intro x5 h;intro _;obtain⟨k24,m6,h⟩:=Zak (f:=λn=>Zcy a0 a1 n x5.2) rfl h;replace h:Zcy a0 a1 (k24+1) x5.2=some o3:=h;rw[Zcy]at h;refine aSR λ_=>dr (aSq (aCd λ_=>?_));refine spl h (λc7 h=>?_) (λc7 h=>?_)
     ·refine aSk (aSq (aBk (aSR λ_=>?_)));obtain⟨y25,w8,q9,h⟩:=Za9 h;refine Exists.intro (cN y25) (And.intro (Zad w8) λ_=>pr (dr (aSR λ_=>?_)));obtain⟨z26,u10,h⟩:=Zae h;refine cl rfl (Zrv y25.1 a0.Init u10) λ_=>dr (aCd λ_=>?_);refine spl h (λc11 h=>?_) (λc11 h=>?_)
      ·refine aSR λ_=>dr (aRt ?_);have j12:=sI_ h;subst j12;replace h:=(Za4 hK4);exact zz8
      ·refine aSk (aRg λ_=>dr ⟨(k24,(IntKind.i64.wrap (x5.2+1))),h,ltS m6,?_⟩);exact Zas
     ·exact zz11
   ·rintro _ ho;have ho:=ho.symm;subst ho;intro _;replace h:=(Zcx hK4);refine aSR λ_=>⟨_,Zaf2 rfl (bT2 rfl) rfl rfl,λ_=>⟨_,Zaom rfl (bT2 rfl) rfl rfl,λ_=>dr ?_⟩⟩;obtain⟨o13,h,hK14⟩:=Zae h;refine Zat (α:=(List Int)×(List Int)×(List Zaa)×(List GOp)×Int×(List Zaw)×Int) (λ(v31,v32,v33,v34,v35,v36,v37)=>mkS 94 [(3,.ptr 3 0 0 0),(4,.ptr 4 0 0 0),(13,.ptr 52 0 0 0)] [(3,⟨26,4,true,[[.sl 1 (a0.Vars.map cI),.sl 1 (a0.Init.map cI),.sl 2 (a0.Goal.map cF),.sl 4 (a0.Ops.map Za0)]]⟩),(4,⟨38,2,true,[[.c (.int .i64 a1.Bound),.sl 2 (a1.Nogoods.map cN)]]⟩),(52,⟨109,7,true,[[.sl 1 (v31.map cI),.sl 1 (v32.map cI),.sl 2 (v33.map cF),.sl 4 (v34.map Za0),.c (.int .i64 v35),.sl 2 (v36.map cN),.c (.int .i64 v37)]]⟩)]) (λv=>o13=(.inl v)) ?_ ?_
    ·refine aSR λ_=>dr (aCd λ_=>?_);refine spl h (λc15 h=>?_) (λc15 h=>?_)
     ·refine aSR λ_=>?_;obtain⟨z42,z43,c44,u16,h⟩:=Zvx h;refine clg [(41,52)] [] [] [(52,⟨1,some ⟨109,7,true,[[.sl 1 (c44.t.Vars.map cI),.sl 1 (c44.t.Init.map cI),.sl 2 (c44.t.Goal.map cF),.sl 4 (c44.t.Ops.map Za0),.c (.int .i64 c44.c.Bound),.sl 2 (c44.c.Nogoods.map cN),.c (.int .i64 c44.steps)]]⟩⟩)] (.tup [.c (.bool z42),eA z43]) rfl rfl (Zxp g ({ t:=a0,c:=a1,steps:=(max 0 (min a2 1048576)):Zbu }) a0.Goal 0 u16) λ_=>dr (aSq (aSq ?_));rcases z43 with _|e45
      ·replace h:=Zdn h;refine aRg λ_=>dr (aCd λ_=>Znf (aSk (aSR λ_=>dr (aCd λ_=>?_))));refine spl h (λc17 h=>?_) (λc17 h=>?_)
       ·refine aSR λ_=>dr (aRt ?_);have j18:=sI_ h;subst j18;replace h:=(Za4 hK14);exact zz8
       ·refine aSk ⟨(c44.t.Vars,c44.t.Init,c44.t.Goal,c44.t.Ops,c44.c.Bound,c44.c.Nogoods,c44.steps),(sI_ h).symm,?_⟩;exact Zas
      ·replace h:=Zlf h;refine aRg λ_=>dr (aCd λ_=>Zll (aSR λ_=>dr (aRt ?_)));have j19:=sI_ h;subst j19;replace h:=(Za4 hK14);exact zz8
     ·refine aSk ⟨(a0.Vars,a0.Init,a0.Goal,a0.Ops,a1.Bound,a1.Nogoods,(max 0 (min a2 1048576))),(sI_ h).symm,?_⟩;exact Zas
    ·rintro⟨v31,v32,v33,v34,v35,v36,v37⟩ ho;have ho:=ho.symm;subst ho;intro _;replace h:=(Zcx hK14);refine aSq (aSR λ_=>dr (aBk ?_));refine Zaj (α:=Nat×Int×(List Int)×(List Int)×(List Zaa)×(List GOp)×Int×(List Zaw)×Int) (λx=>mkS 94 [(3,.ptr 3 0 0 0),(13,.ptr 52 0 0 0),(70,.sl 2 (a1.Nogoods.map cN)),(71,.c (.int .i64 ((a1.Nogoods.map cN).length:Int))),(72,.c (.int .i64 x.2.1))] [(3,⟨26,4,true,[[.sl 1 (a0.Vars.map cI),.sl 1 (a0.Init.map cI),.sl 2 (a0.Goal.map cF),.sl 4 (a0.Ops.map Za0)]]⟩),(52,⟨109,7,true,[[.sl 1 (x.2.2.1.map cI),.sl 1 (x.2.2.2.1.map cI),.sl 2 (x.2.2.2.2.1.map cF),.sl 4 (x.2.2.2.2.2.1.map Za0),.c (.int .i64 x.2.2.2.2.2.2.1),.sl 2 (x.2.2.2.2.2.2.2.1.map cN),.c (.int .i64 x.2.2.2.2.2.2.2.2)]]⟩)]) (λx=>Zbt a0 a1 g x.1 x.2.1 x.2.2.1 x.2.2.2.1 x.2.2.2.2.1 x.2.2.2.2.2.1 x.2.2.2.2.2.2.1 x.2.2.2.2.2.2.2.1 x.2.2.2.2.2.2.2.2=some (r1,r2,r3)) (λx=>x.1) ((((a1.Nogoods.map cN).length:Int)).toNat+1,0,v31,v32,v33,v34,v35,v36,v37) h ?_ ?_
     ·exact Zas
     ·intro x20 h;intro _;obtain⟨k192,m21,h⟩:=Zak (f:=λn=>Zbt a0 a1 g n x20.2.1 x20.2.2.1 x20.2.2.2.1 x20.2.2.2.2.1 x20.2.2.2.2.2.1 x20.2.2.2.2.2.2.1 x20.2.2.2.2.2.2.2.1 x20.2.2.2.2.2.2.2.2) rfl h;replace h:Zbt a0 a1 g (k192+1) x20.2.1 x20.2.2.1 x20.2.2.2.1 x20.2.2.2.2.1 x20.2.2.2.2.2.1 x20.2.2.2.2.2.2.1 x20.2.2.2.2.2.2.2.1 x20.2.2.2.2.2.2.2.2=some (r1,r2,r3):=h;rw[Zbt]at h;refine aSR λ_=>dr (aSq (aCd λ_=>?_));refine spl h (λc22 h=>?_) (λc22 h=>?_)
      ·refine aSk ?_;obtain⟨o23,h,hK24⟩:=Zae h;refine Zat (α:=(List Int)×(List Int)×(List Zaa)×(List GOp)×Int×(List Zaw)×Int) (λ(v220,v221,v222,v223,v224,v225,v226)=>mkS 94 [(3,.ptr 3 0 0 0),(13,.ptr 52 0 0 0),(70,.sl 2 (a1.Nogoods.map cN)),(71,.c (.int .i64 ((a1.Nogoods.map cN).length:Int))),(72,.c (.int .i64 x20.2.1))] [(3,⟨26,4,true,[[.sl 1 (a0.Vars.map cI),.sl 1 (a0.Init.map cI),.sl 2 (a0.Goal.map cF),.sl 4 (a0.Ops.map Za0)]]⟩),(52,⟨109,7,true,[[.sl 1 (v220.map cI),.sl 1 (v221.map cI),.sl 2 (v222.map cF),.sl 4 (v223.map Za0),.c (.int .i64 v224),.sl 2 (v225.map cN),.c (.int .i64 v226)]]⟩)]) (λv=>o23=(.inl v)) ?_ ?_
       ·refine aBk (aSR λ_=>?_);obtain⟨y231,w25,q26,h⟩:=Za9 h;refine Exists.intro (cN y231) (And.intro (Zad w25) λ_=>pr (dr (aSR λ_=>dr (aBk ?_))));refine Zaj (α:=Nat×Int×(List Int)×(List Int)×(List Zaa)×(List GOp)×Int×(List Zaw)×Int) (λx=>mkS 94 [(3,.ptr 3 0 0 0),(13,.ptr 52 0 0 0),(16,.c (.int .i64 x20.2.1)),(17,.ptr 17 0 0 0),(70,.sl 2 (a1.Nogoods.map cN)),(71,.c (.int .i64 ((a1.Nogoods.map cN).length:Int))),(72,.c (.int .i64 x20.2.1)),(79,.c (.int .i64 ((a0.Ops.map Za0).length:Int))),(80,.c (.int .i64 x.2.1))] [(3,⟨26,4,true,[[.sl 1 (a0.Vars.map cI),.sl 1 (a0.Init.map cI),.sl 2 (a0.Goal.map cF),.sl 4 (a0.Ops.map Za0)]]⟩),(17,⟨70,2,true,[[.sl 2 (y231.1.map cF),.c (.int .i64 y231.2)]]⟩),(52,⟨109,7,true,[[.sl 1 (x.2.2.1.map cI),.sl 1 (x.2.2.2.1.map cI),.sl 2 (x.2.2.2.2.1.map cF),.sl 4 (x.2.2.2.2.2.1.map Za0),.c (.int .i64 x.2.2.2.2.2.2.1),.sl 2 (x.2.2.2.2.2.2.2.1.map cN),.c (.int .i64 x.2.2.2.2.2.2.2.2)]]⟩)]) (λx=>Zcn a0 g x20.2.1 y231 x.1 x.2.1 x.2.2.1 x.2.2.2.1 x.2.2.2.2.1 x.2.2.2.2.2.1 x.2.2.2.2.2.2.1 x.2.2.2.2.2.2.2.1 x.2.2.2.2.2.2.2.2=some o23) (λx=>x.1) ((((a0.Ops.map Za0).length:Int)).toNat+1,0,x20.2.2.1,x20.2.2.2.1,x20.2.2.2.2.1,x20.2.2.2.2.2.1,x20.2.2.2.2.2.2.1,x20.2.2.2.2.2.2.2.1,x20.2.2.2.2.2.2.2.2) h ?_ ?_
        ·exact Zas
        ·intro x27 h;intro _;obtain⟨k254,m28,h⟩:=Zak (f:=λn=>Zcn a0 g x20.2.1 y231 n x27.2.1 x27.2.2.1 x27.2.2.2.1 x27.2.2.2.2.1 x27.2.2.2.2.2.1 x27.2.2.2.2.2.2.1 x27.2.2.2.2.2.2.2.1 x27.2.2.2.2.2.2.2.2) rfl h;replace h:Zcn a0 g x20.2.1 y231 (k254+1) x27.2.1 x27.2.2.1 x27.2.2.2.1 x27.2.2.2.2.1 x27.2.2.2.2.2.1 x27.2.2.2.2.2.2.1 x27.2.2.2.2.2.2.2.1 x27.2.2.2.2.2.2.2.2=some o23:=h;rw[Zcn]at h;refine aSR λ_=>dr (aSq (aCd λ_=>?_));refine spl h (λc29 h=>?_) (λc29 h=>?_)
         ·refine aSk (aSq (aBk (aSR λ_=>dr (aSR λ_=>?_))));obtain⟨z255,c256,u30,h⟩:=Zdv h;refine clg [(73,52)] [] [] [(52,⟨0,some ⟨109,7,true,[[.sl 1 (c256.t.Vars.map cI),.sl 1 (c256.t.Init.map cI),.sl 2 (c256.t.Goal.map cF),.sl 4 (c256.t.Ops.map Za0),.c (.int .i64 c256.c.Bound),.sl 2 (c256.c.Nogoods.map cN),.c (.int .i64 c256.steps)]]⟩⟩)] (eA z255) rfl rfl (Zam1 g ({ t:={ Vars:=x27.2.2.1,Init:=x27.2.2.2.1,Goal:=x27.2.2.2.2.1,Ops:=x27.2.2.2.2.2.1:Zah },c:={ Bound:=x27.2.2.2.2.2.2.1,Nogoods:=x27.2.2.2.2.2.2.2.1:Zab },steps:=x27.2.2.2.2.2.2.2.2:Zbu }) y231 x27.2.1 u30) λ_=>dr (aSq ?_);rcases z255 with _|e257
          ·replace h:=Zdn h;refine aRg λ_=>dr (aCd λ_=>Znf (aSk (aRg λ_=>dr ⟨(k254,(IntKind.i64.wrap (x27.2.1+1)),c256.t.Vars,c256.t.Init,c256.t.Goal,c256.t.Ops,c256.c.Bound,c256.c.Nogoods,c256.steps),h,ltS m28,?_⟩)));exact Zas
          ·replace h:=Zlf h;refine aRg λ_=>dr (aCd λ_=>Zll (aSR λ_=>dr (aRt ?_)));have j31:=sI_ h;subst j31;replace h:=(Za4 hK24);exact zz8
         ·refine aEx ⟨(x27.2.2.1,x27.2.2.2.1,x27.2.2.2.2.1,x27.2.2.2.2.2.1,x27.2.2.2.2.2.2.1,x27.2.2.2.2.2.2.2.1,x27.2.2.2.2.2.2.2.2),(sI_ h).symm,?_⟩;exact Zas
       ·rintro⟨v220,v221,v222,v223,v224,v225,v226⟩ ho;have ho:=ho.symm;subst ho;intro _;replace h:=(Zcx hK24);refine aRg λ_=>dr ⟨(k192,(IntKind.i64.wrap (x20.2.1+1)),v220,v221,v222,v223,v224,v225,v226),h,ltS m21,?_⟩;exact Zas
      ·refine aEx ?_;exact zz12
  ·replace h:=Zlf h;refine aRg λ_=>dr (aCd λ_=>Zll ?_);exact zz12
 ·replace h:=Zlf h;refine aRg λ_=>dr (aCd λ_=>Zll ?_);exact zz12
def Zei (g:Nat)(a0:Zah)(a1:Zab)(a2:Int):Option (Er):=ob3 (Zi5 g a0 a1 a2) (λ_ _ z3=>some z3)
theorem Zrb (g:Nat)(a0:Zah)(a1:Zab)(a2:Int){r1:Er}(h:Zei g a0 a1 a2=some r1):ACall cx 11 [.agg [.sl 1 (a0.Vars.map cI),.sl 1 (a0.Init.map cI),.sl 2 (a0.Goal.map cF),.sl 4 (a0.Ops.map Za0)],.agg [.c (.int .i64 a1.Bound),.sl 2 (a1.Nogoods.map cN)],.c (.int .i64 a2)] (eA r1):=by
 refine aOf Tryz.func11 rfl (by decide) rfl (bT2 rfl) ?_;intro _;unfold Zei at h;refine aSR λ_=>dr (aSR λ_=>?_);obtain⟨z1,z2,z3,u1,h⟩:=Zvx h;refine cl rfl (Zy5 g a0 a1 a2 u1) λ_=>dr (aSR λ_=>dr (aRt λ_=>?_));obtain rfl:=inj1 h;all_goals (cases z3);all_goals exact Zas
def Zke (a0:List Zaa)(_y7:Zaa)(v5:Int):Unit->(Unit->Option (Bool))->Option (Bool):=λ_ rc=>ixv _y7 (λy7=>sel (decide (y7.1<0)) (some false) (sel (decide (y7.1>=64)) (some false) (sel (decide (y7.2<0)) (some false) (sel (decide (y7.2>=64)) (some false) (sel (decide (v5>0)) (ix a0 (IntKind.i64.wrap (v5-1)) (λy8=>sel (decide (y8.1>=y7.1)) (some false) (rc ()))) (rc ()))))))
def Zmr (_:List Zaa):Unit->Option (Bool):=λ_=>some true
theorem Zwg (a0:List Zaa)  (hl:a0.length<9223372036854775807):Ze1 a0 (((a0.map cF).length:Int).toNat+1) 0=Rg (Zke a0) (Zmr a0) a0 0 ():=Zdy (L:=λk i _=>Ze1 a0 k i) hl (λ_ _ _=>rfl) ()
def Zr1 (_:Zab)(_y21:Zaw)(_:Int):Unit->(Unit->Option (Unit⊕Er))->Option (Unit⊕Er):=λ_ rc=>ixv _y21 (λy21=>ob1 (Zl1 y21.1) (λz22=>sel (!z22) (some (.inr (Er.no 2))) (rc ())))
def Zr2 (_:Zab):Unit->Option (Unit⊕Er):=λ_=>some (.inl ())
theorem Zyg (a0:Zab)  (hl:a0.Nogoods.length<9223372036854775807):Zg0 a0 (((a0.Nogoods.map cN).length:Int).toNat+1) 0=Rg (Zr1 a0) (Zr2 a0) a0.Nogoods 0 ():=Zdy (L:=λk i _=>Zg0 a0 k i) hl (λ_ _ _=>rfl) ()
def Zr3 (a0:Zab)(_y28:Zaw)(_:Int):Unit->(Unit->Option (Er))->Option (Er):=λ_ rc=>ixv _y28 (λy28=>sel (decide (y28.2<0)) (some (Er.no 1)) (sel (decide (a0.Bound>=0)) (sel (decide (y28.2>=a0.Bound)) (some (Er.no 1)) (sel (decide (a0.Bound<0)) (sel (y28.2 != 0) (some (Er.no 1)) (rc ())) (rc ()))) (sel (decide (a0.Bound<0)) (sel (y28.2 != 0) (some (Er.no 1)) (rc ())) (rc ()))))
def Zr4 (_:Zab):Unit->Option (Er):=λ_=>some Er.nil
theorem Zyh (a0:Zab)  (hl:a0.Nogoods.length<9223372036854775807):Zd6 a0 (((a0.Nogoods.map cN).length:Int).toNat+1) 0=Rg (Zr3 a0) (Zr4 a0) a0.Nogoods 0 ():=Zdy (L:=λk i _=>Zd6 a0 k i) hl (λ_ _ _=>rfl) ()
def Zrd (a0:List Int)(_:Zab)(_y10:Zaw)(_:Int):Unit->(Unit->Option (Er))->Option (Er):=λ_ rc=>ixv _y10 (λy10=>ob1 (Zdx a0 y10.1) (λz11=>sel (!z11) (some (Er.no 2)) (rc ())))
def Zre (_:List Int)(_:Zab):Unit->Option (Er):=λ_=>some Er.nil
theorem Zwf (a0:List Int)(a1:Zab)  (hl:a1.Nogoods.length<9223372036854775807):Zfx a0 a1 (((a1.Nogoods.map cN).length:Int).toNat+1) 0=Rg (Zrd a0 a1) (Zre a0 a1) a1.Nogoods 0 ():=Zdy (L:=λk i _=>Zfx a0 a1 k i) hl (λ_ _ _=>rfl) ()
def Zk4 (_:Zbu)(a1:Int)(_y8:Zaw)(_:Int):((List (List Zaa)))->(((List (List Zaa)))->Option (List (List Zaa)))->Option (List (List Zaa)):=λv6 rc=>ixv _y8 (λy8=>sel (decide (y8.2<=a1)) (grd ((v6.length+1)*24<=140737488355328) (rc ((v6++[y8.1])))) (rc (v6)))
def Zk5 (_:Zbu)(_:Int):((List (List Zaa)))->Option (List (List Zaa)):=λv6=>grd (v6.length<=140737488355328) (some v6)
theorem Zt9 (a0:Zbu)(a1:Int)(v6:List (List Zaa))(hl:a0.c.Nogoods.length<9223372036854775807):Zdt a0 a1 (((a0.c.Nogoods.map cN).length:Int).toNat+1) 0 v6=Rg (Zk4 a0 a1) (Zk5 a0 a1) a0.c.Nogoods 0 v6:=Zdy (L:=λk i v6=>Zdt a0 a1 k i v6) hl (λ_ _ _=>rfl) v6
def Zo2 (g:Nat)(v2:Int)(_:List (List Zaa))(_y37:List Zaa)(_:Int):((List Int)×(List Int)×(List Zaa)×(List GOp)×(Int)×(List Zaw)×(Int))->(((List Int)×(List Int)×(List Zaa)×(List GOp)×(Int)×(List Zaw)×(Int))->Option (Er×Zbu))->Option (Er×Zbu):=λ(v29,v30,v31,v32,v33,v34,v35) rc=>ixv _y37 (λy37=>ob3 (Zh0 g ({ t:={ Vars:=v29,Init:=v30,Goal:=v31,Ops:=v32:Zah },c:={ Bound:=v33,Nogoods:=v34:Zab },steps:=v35:Zbu }) y37 v2) (λz38 z39 c40=>erM z39 (sel (!z38) (some ((Er.no 19),c40)) (rc (c40.t.Vars,c40.t.Init,c40.t.Goal,c40.t.Ops,c40.c.Bound,c40.c.Nogoods,c40.steps))) (λe41=>some ((Er.no e41),c40))))
def Ztw (_:Nat)(_:Int)(_:List (List Zaa)):((List Int)×(List Int)×(List Zaa)×(List GOp)×(Int)×(List Zaw)×(Int))->Option (Er×Zbu):=λ(v29,v30,v31,v32,v33,v34,v35)=>some (Er.nil,{ t:={ Vars:=v29,Init:=v30,Goal:=v31,Ops:=v32:Zah },c:={ Bound:=v33,Nogoods:=v34:Zab },steps:=v35:Zbu })
theorem Zzh (g:Nat)(v2:Int)(z7:List (List Zaa))(v29:List Int)(v30:List Int)(v31:List Zaa)(v32:List GOp)(v33:Int)(v34:List Zaw)(v35:Int)(hl:z7.length<9223372036854775807):Zg1 g v2 z7 (((z7.map Zal).length:Int).toNat+1) 0 v29 v30 v31 v32 v33 v34 v35=Rg (Zo2 g v2 z7) (Ztw g v2 z7) z7 0 (v29,v30,v31,v32,v33,v34,v35):=Zdy (L:=λk i p=>match p with|(v29,v30,v31,v32,v33,v34,v35)=>Zg1 g v2 z7 k i v29 v30 v31 v32 v33 v34 v35) hl (λ_ _ ⟨_,_,_,_,_,_,_⟩=>rfl) (v29,v30,v31,v32,v33,v34,v35)
def Zm2 (a0:Zah)(_:Zab)(_y25:Zaw)(_:Int):Unit->(Unit->Option (Unit⊕(Int×Int×Er)))->Option (Unit⊕(Int×Int×Er)):=λ_ rc=>ixv _y25 (λy25=>ob1 (Zg7 y25.1 a0.Init) (λz26=>sel z26 (some (.inr ((-1),(-1),(Er.no 20)))) (rc ())))
def Zm3 (_:Zah)(_:Zab):Unit->Option (Unit⊕(Int×Int×Er)):=λ_=>some (.inl ())
theorem Zr5 (a0:Zah)(a1:Zab)  (hl:a1.Nogoods.length<9223372036854775807):Zcy a0 a1 (((a1.Nogoods.map cN).length:Int).toNat+1) 0=Rg (Zm2 a0 a1) (Zm3 a0 a1) a1.Nogoods 0 ():=Zdy (L:=λk i _=>Zcy a0 a1 k i) hl (λ_ _ _=>rfl) ()
def Zhi (_:Zah)(g:Nat)(v184:Int)(y231:Zaw)(v246:Int):((List Int)×(List Int)×(List Zaa)×(List GOp)×(Int)×(List Zaw)×(Int))->(((List Int)×(List Int)×(List Zaa)×(List GOp)×(Int)×(List Zaw)×(Int))->Option (((List Int)×(List Int)×(List Zaa)×(List GOp)×Int×(List Zaw)×Int)⊕(Int×Int×Er)))->Option (((List Int)×(List Int)×(List Zaa)×(List GOp)×Int×(List Zaw)×Int)⊕(Int×Int×Er)):=λ(v247,v248,v249,v250,v251,v252,v253) rc=>ob2 (Znv g ({ t:={ Vars:=v247,Init:=v248,Goal:=v249,Ops:=v250:Zah },c:={ Bound:=v251,Nogoods:=v252:Zab },steps:=v253:Zbu }) y231 v246) (λz255 c256=>erM z255 (rc (c256.t.Vars,c256.t.Init,c256.t.Goal,c256.t.Ops,c256.c.Bound,c256.c.Nogoods,c256.steps)) (λe257=>some (.inr (v184,v246,(Er.no e257)))))
def Zj0 (_:Zah)(_:Nat)(_:Int)(_:Zaw):((List Int)×(List Int)×(List Zaa)×(List GOp)×(Int)×(List Zaw)×(Int))->Option (((List Int)×(List Int)×(List Zaa)×(List GOp)×Int×(List Zaw)×Int)⊕(Int×Int×Er)):=λ(v247,v248,v249,v250,v251,v252,v253)=>some (.inl (v247,v248,v249,v250,v251,v252,v253))
theorem Zr6 (a0:Zah)(g:Nat)(v184:Int)(y231:Zaw)(v247:List Int)(v248:List Int)(v249:List Zaa)(v250:List GOp)(v251:Int)(v252:List Zaw)(v253:Int){m:Nat}(hm:((a0.Ops.map Za0).length:Int)=(m:Int))(hl:m<9223372036854775807):Zcn a0 g v184 y231 ((((a0.Ops.map Za0).length:Int)).toNat+1) 0 v247 v248 v249 v250 v251 v252 v253=Rn (Zhi a0 g v184 y231) (Zj0 a0 g v184 y231) m 0 (v247,v248,v249,v250,v251,v252,v253):=rn_e (L:=λk i p=>match p with|(v247,v248,v249,v250,v251,v252,v253)=>Zcn a0 g v184 y231 k i v247 v248 v249 v250 v251 v252 v253) hm hl (λ_ _ ⟨_,_,_,_,_,_,_⟩=>rfl) (v247,v248,v249,v250,v251,v252,v253)
def Zfq (a0:Zah)(_:Zab)(g:Nat)(_y231:Zaw)(v184:Int):((List Int)×(List Int)×(List Zaa)×(List GOp)×(Int)×(List Zaw)×(Int))->(((List Int)×(List Int)×(List Zaa)×(List GOp)×(Int)×(List Zaw)×(Int))->Option (Int×Int×Er))->Option (Int×Int×Er):=λ(v185,v186,v187,v188,v189,v190,v191) rc=>ob1 (ixv _y231 (λy231=>Zcn a0 g v184 y231 ((((a0.Ops.map Za0).length:Int)).toNat+1) 0 v185 v186 v187 v188 v189 v190 v191):Option (((List Int)×(List Int)×(List Zaa)×(List GOp)×Int×(List Zaw)×Int)⊕(Int×Int×Er))) (Zj9 (λ(v220,v221,v222,v223,v224,v225,v226)=>rc (v220,v221,v222,v223,v224,v225,v226)) (λ(r227,r228,r229)=>some (r227,r228,r229)))
def Zj1 (_:Zah)(_:Zab)(_:Nat):((List Int)×(List Int)×(List Zaa)×(List GOp)×(Int)×(List Zaw)×(Int))->Option (Int×Int×Er):=λ(_,_,_,_,_,_,_)=>some ((-1),(-1),Er.nil)
theorem Zr7 (a0:Zah)(a1:Zab)(g:Nat)(v185:List Int)(v186:List Int)(v187:List Zaa)(v188:List GOp)(v189:Int)(v190:List Zaw)(v191:Int)(hl:a1.Nogoods.length<9223372036854775807):Zbt a0 a1 g (((a1.Nogoods.map cN).length:Int).toNat+1) 0 v185 v186 v187 v188 v189 v190 v191=Rg (Zfq a0 a1 g) (Zj1 a0 a1 g) a1.Nogoods 0 (v185,v186,v187,v188,v189,v190,v191):=Zxf (L:=λk i p=>match p with|(v185,v186,v187,v188,v189,v190,v191)=>Zbt a0 a1 g k i v185 v186 v187 v188 v189 v190 v191) hl (λk n p y hy h1 h2=>by first|(simp only[Zbt,Zfq,lM_,Zca h1,sel,Zfv hy,ixv,h2];done)|(simp only[lM_]at h1 hy;(simp only[Zbt,Zfq,lM_,Zca h1,sel,Zfv hy,ixv,h2];done))) (λk p=>by simp only[Zbt,Zj1,lM_,Zfh,sel]) (v185,v186,v187,v188,v189,v190,v191)
end Go.Proofs.YtpfnmpdcneejbaaGreatDoor.Am
namespace Go.Proofs.YtpfnmpdcneejbaaGreatDoor.Am
open Go.RowKit
theorem Zagz (l:List Zaa)(s:List Int)(hl:Sh l):Zg7 l s=some (Zay s l):=by
 rw[Zg7,Zvi l s hl.lt,Zh1 (p:=Zuh s) (c:=some false)]
 ·rw[Zp1,Zay];cases l.all (Zuh s) <;> rfl
 ·intro x _ i rc
  rw[Zp0,ixv,Zar,Zar,lM_,Zuh]
  by_cases h0:x.1<0
  ·rw[if_pos h0,decide_eq_false (by omega),Bool.false_and,if_neg (by decide)]
  ·rw[if_neg h0,decide_eq_true (p:=0<=x.1) (by omega),Bool.true_and]
   by_cases h1:x.1<s.length
   ·rw[if_neg (by omega),decide_eq_true h1,Bool.true_and,Zlh (d:=0) (by omega) h1,bne]
    cases s.getD x.1.toNat 0 == x.2 <;> rfl
   ·rw[if_pos (by omega),decide_eq_false h1,Bool.false_and,if_neg (by decide)]
def limF (l:List Zaa):Bool:=l.all λx=>decide (x.1<64/\x.2<64)
def frmF (l:List Zaa):Bool:=vF (-1) l&&limF l
theorem Zz5 (l:List Zaa)(hs:Sh l):∀(r:List Zaa)(n:Nat)(last:Int),l.drop n=r->n<=l.length->-1<=last->(n=0->last=-1)->(∀m,n=m+1->∃x,l[m]?=some x/\x.1=last)->Rg (Zke l) (Zmr l) r n ()=some (vF last r&&limF r)
 | [],_,_,_,_,_,_,_=>rfl
 | y :: r,n,last,hd,hn,hl,h0,hp=>by
  rw[Rg,vF,limF,List.all_cons]
  obtain⟨hy,hd',hlt⟩:=Zc5 hd
  have hih:0<=y.1->Rg (Zke l) (Zmr l) r ((n:Int)+1) ()=some (vF y.1 r&&limF r):=λh=>Zz5 l hs r (n+1) y.1 hd' hlt (by omega) (by omega) (λm hm=>⟨y,by rw[show m=n by omega];exact hy,rfl⟩)
  simp only[Zke,ixv,Zar]
  by_cases h1:y.1<0
  ·rw[if_pos h1,decide_eq_false (p:=last<y.1/\0<=y.2) (by omega)];rfl
  ·rw[if_neg h1]
   by_cases h2:y.1>=64
   ·rw[if_pos h2,decide_eq_false (p:=y.1<64/\y.2<64) (by omega),Bool.false_and,Bool.and_false]
   ·rw[if_neg h2]
    by_cases h3:y.2<0
    ·rw[if_pos h3,decide_eq_false (p:=last<y.1/\0<=y.2) (by omega)];rfl
    ·rw[if_neg h3]
     by_cases h4:y.2>=64
     ·rw[if_pos h4,decide_eq_false (p:=y.1<64/\y.2<64) (by omega),Bool.false_and,Bool.and_false]
     ·rw[if_neg h4,decide_eq_true (p:=y.1<64/\y.2<64) (by omega),Bool.true_and]
      cases n with
      | zero =>
       have:=h0 rfl
       rw[if_neg (by omega),decide_eq_true (p:=last<y.1/\0<=y.2) (by omega)]
       exact hih (by omega)
      | succ m =>
       obtain⟨x,hx,hxl⟩:=hp m rfl
       rw[if_pos (by omega),w64 (by omega) (by have:=hs;unfold Sh at this;omega),show(((m+1:Nat):Int)-1)=(m:Int)by omega,Zfv hx]
       by_cases h5:x.1>=y.1
       ·rw[if_pos h5,decide_eq_false (p:=last<y.1/\0<=y.2) (by omega)];rfl
       ·rw[if_neg h5,decide_eq_true (p:=last<y.1/\0<=y.2) (by omega)]
        exact hih (by omega)
theorem Zan9 (l:List Zaa)(hl:Sh l):Zl1 l=some (frmF l):=by
 rw[Zl1,Zwg _ hl.lt]
 exact Zz5 l hl l 0 (-1) rfl (Nat.zero_le _) (by omega) (λ_=>rfl) (λm hm=>by omega)
structure ShC (c:Zab):Prop where
 list:Sh c.Nogoods
 each:∀n∈c.Nogoods,Sh n.1
def Zaq3 (b:Int)(n:Zaw):Bool:=decide (0<=n.2/\(0<=b->n.2<b)/\(b<0->n.2=0))
def Zahe (c:Zab):Er :=
 if c.Bound < -1\/c.Bound>1099511627776 then .no 1
 else if c.Nogoods.length>4096 then .no 5
 else if(c.Nogoods.all λn=>frmF n.1)=true then(if(c.Nogoods.all (Zaq3 c.Bound))=true then .nil else .no 1)
 else .no 2
theorem Zanr (c:Zab)(hc:ShC c):Zni c=some (Zahe c):=by
 rw[Zni,Zahe,Zar,Zar]
 by_cases h1:c.Bound < -1
 ·rw[if_pos h1,if_pos (Or.inl h1)];rfl
 ·rw[if_neg h1]
  by_cases h2:c.Bound>1099511627776
  ·rw[if_pos h2,if_pos (Or.inr h2)];rfl
  ·rw[if_neg h2,if_neg (by omega),Zac,Zbv,Zar,lM_]
   by_cases h3:c.Nogoods.length>4096
   ·rw[if_pos (by omega),if_pos h3]
   ·have e1:=Zyg c (by omega)
    have e2:=Zyh c (by omega)
    rw[lM_]at e1 e2
    rw[if_neg (by omega),if_neg h3,e1,Zh1 (p:=λn:Zaw=>frmF n.1) (c:=some (.inr (Er.no 2)))]
    ·cases ha:c.Nogoods.all λn=>frmF n.1 with
     | false=>rw[if_neg (by decide),Zac,Ziz,if_neg (by decide)]
     | true =>
      rw[if_pos rfl,if_pos rfl,Zr2,Zac,Zbv,e2,Zh1 (p:=Zaq3 c.Bound) (c:=some (Er.no 1)),Zr4]
      ·split <;> rfl
      ·intro n _ i rc
       rw[Zr3,ixv,Zaq3]
       simp only[Zar]
       by_cases q1:n.2<0
       ·rw[if_pos q1,decide_eq_false (by omega)];rfl
       ·rw[if_neg q1]
        by_cases q2:c.Bound>=0
        ·rw[if_pos q2]
         by_cases q3:n.2>=c.Bound
         ·rw[if_pos q3,decide_eq_false (by omega)];rfl
         ·rw[if_neg q3,if_neg (by omega),decide_eq_true (by omega)];rfl
        ·rw[if_neg q2,if_pos (by omega)]
         by_cases q4:n.2=0
         ·rw[show(n.2 != 0)=false from by simp[q4],Zbb,decide_eq_true (by omega)];rfl
         ·rw[show(n.2 != 0)=true from by simp[q4],Zby,decide_eq_false (by omega)];rfl
    ·intro n hn i rc
     rw[Zr1,ixv,Zan9 n.1 (hc.each n hn),Zac]
     cases frmF n.1 <;> rfl
def Zxc (vars:List Int)(c:Zab):Er :=
 match Zahe c with
 | .nil=>if(c.Nogoods.all λn=>Zbi vars (-1) n.1)=true then .nil else .no 2
 | .no e=>.no e
theorem Zalu (vars:List Int)(c:Zab)(hc:ShC c):Zl0 vars c=some (Zxc vars c):=by
 have e1:=Zwf vars c hc.list.lt
 rw[Zl0,Zanr c hc,Zac,Zxc,e1]
 cases Zahe c with
 | no e=>rfl
 | nil =>
  show Rg _ _ _ _ _=_
  rw[Zh1 (p:=λn:Zaw=>Zbi vars (-1) n.1) (c:=some (Er.no 2)),Zre]
  ·simp only;split <;> rfl
  ·intro n hn i rc
   rw[Zrd,ixv,Zta vars n.1 (hc.each n hn),Zac]
   cases Zbi vars (-1) n.1 <;> rfl
structure Zwd (vars:List Int)(c:Zab):Prop where
 b0:-1<=c.Bound
 b1:c.Bound<=1099511627776
 len:c.Nogoods.length<=4096
 prop:∀n∈c.Nogoods,Zbi vars (-1) n.1=true
 frm:∀n∈c.Nogoods,frmF n.1=true
 d0:∀n∈c.Nogoods,0<=n.2
 d1:∀n∈c.Nogoods,0<=c.Bound->n.2<c.Bound
 d2:∀n∈c.Nogoods,c.Bound<0->n.2=0
theorem Zae0 (c:Zab):Zahe c=.nil↔-1<=c.Bound/\c.Bound<=1099511627776/\c.Nogoods.length<=4096/\(∀n∈c.Nogoods,frmF n.1=true)/\∀n∈c.Nogoods,Zaq3 c.Bound n=true:=by
 unfold Zahe
 split
 ·exact⟨(nofun),λh=>by omega⟩
 ·split
  ·exact⟨(nofun),λh=>by omega⟩
  ·split
   ·rename_i h
    rw[List.all_eq_true]at h
    split
    ·rename_i h2
     rw[List.all_eq_true]at h2
     exact⟨λ_=>⟨by omega,by omega,by omega,h,h2⟩,λ_=>rfl⟩
    ·rename_i h2
     rw[List.all_eq_true]at h2
     exact⟨(nofun),λhh=>absurd hh.2.2.2.2 h2⟩
   ·rename_i h
    rw[List.all_eq_true]at h
    exact⟨(nofun),λhh=>absurd hh.2.2.2.1 h⟩
theorem Zaap (vars:List Int)(c:Zab):Zxc vars c=.nil↔Zwd vars c:=by
 unfold Zxc
 constructor
 ·intro h
  cases hc:Zahe c with
  | no e=>rw[hc]at h;cases h
  | nil =>
   rw[hc]at h
   simp only at h
   split at h
   ·rename_i ha
    rw[List.all_eq_true]at ha
    obtain⟨h1,h2,h3,h4,h5⟩:=(Zae0 c).1 hc
    have hd:∀n∈c.Nogoods,0<=n.2/\(0<=c.Bound->n.2<c.Bound)/\(c.Bound<0->n.2=0):=λn hn=>of_decide_eq_true (h5 n hn)
    exact⟨h1,h2,h3,ha,h4,λn hn=>(hd n hn).1,λn hn=>(hd n hn).2.1,λn hn=>(hd n hn).2.2⟩
   ·cases h
 ·intro h
  rw[(Zae0 c).2 ⟨h.b0,h.b1,h.len,h.frm,λn hn=>decide_eq_true ⟨h.d0 n hn,h.d1 n hn,h.d2 n hn⟩⟩]
  simp only
  rw[if_pos (List.all_eq_true.2 h.prop)]
def Zlw (ns:List Zaw)(d:Int):List (List Zaa):=(ns.filter λn=>decide (n.2<=d)).map (·.1)
theorem Zw0 (x:Zbu)(d:Int):∀(r:List Zaw)(i:Int)(v:List (List Zaa)),v.length+r.length<=1000000 ->
  Rg (Zk4 x d) (Zk5 x d) r i v=some (v++Zlw r d)
 | [],i,v,h=>by rw[Rg,Zk5,Zan (by simp at h;omega)];simp[Zlw]
 | n :: r,i,v,h=>by
  rw[lC_]at h
  rw[Rg,Zk4,ixv,Zar]
  by_cases hd:n.2<=d
  ·rw[if_pos hd,Zan (by omega),Zw0 x d r _ _ (by simp;omega)]
   simp[Zlw,hd]
  ·rw[if_neg hd,Zw0 x d r _ _ (by omega)]
   simp[Zlw,hd]
theorem Zahn (x:Zbu)(d:Int)(h:x.c.Nogoods.length<=4096):Zk3 x d=some (Zlw x.c.Nogoods d):=by
 rw[Zk3,Zt9 x d [] (by omega),Zw0 x d _ _ _ (by simp;omega),List.nil_append]
theorem Zaby {vars:List Int}{c:Zab}(h:Zwd vars c)(d:Int):Zfu vars (Zlw c.Nogoods d):=λx hx=>by
 obtain⟨n,hn,rfl⟩:=List.mem_map.1 hx
 exact h.prop n (List.mem_filter.1 hn).1
theorem Zany {vars:List Int}{c:Zab}(h:Zwd vars c)(d:Int):(Zlw c.Nogoods d).length<=4096:=by
 unfold Zlw
 rw[lM_]
 exact Nat.le_trans (List.length_filter_le _ _) h.len
def askC (t:Zah)(c:Zab)(p:List Zaa)(d r:Int):Bool×Er×Int :=
 if(covA t.Vars p (Zlw c.Nogoods d)).2<=r then((covA t.Vars p (Zlw c.Nogoods d)).1,.nil,r-(covA t.Vars p (Zlw c.Nogoods d)).2)else(false,.no 10,r)
theorem Zajq (vars:List Int)(p:List Zaa)(l:List (List Zaa)):1<=(covA vars p l).2:=Zyp _ _ _ _
theorem Zanf {t:Zah}{c:Zab}{p:List Zaa}{d r:Int}(h:0<=r/\r<=1048576):0<=(askC t c p d r).2.2/\(askC t c p d r).2.2<=1048576:=by
 have:=Zajq t.Vars p (Zlw c.Nogoods d)
 unfold askC
 split
 ·show 0<=r-_/\r-_<=_;omega
 ·exact h
theorem Zash {t:Zah}{c:Zab}(hd:DomP t.Vars)(hc:Zwd t.Vars c)(g:Nat)(hg:70<=g)(p:List Zaa)(hp:Zbi t.Vars (-1) p=true)(d r:Int)(hr:0<=r/\r<=1048576) :
  Zh0 g { t:=t,c:=c,steps:=r } p d=some ((askC t c p d r).1,(askC t c p d r).2.1,{ t:=t,c:=c,steps:=(askC t c p d r).2.2 }):=by
 have hl:=Zany hc d
 rw[Zh0,Zahn _ d hc.len,Zac]
 show ob3 (Zl4 g t.Vars p (Zlw c.Nogoods d) r) _=_
 rw[Zalt hd hp (Zaby hc d) (by omega) r (by omega) g (by omega),covR,askC]
 have hpos:=Zajq t.Vars p (Zlw c.Nogoods d)
 by_cases h:(covA t.Vars p (Zlw c.Nogoods d)).2<=r
 ·rw[if_pos h,if_pos h,Zyx]
  show some (_,_,_)=some (_,_,_)
  rw[Zpd (by show _<=r-_;omega) (by show r-_<=_;omega)]
 ·rw[if_neg h,if_neg h,Zyx];rfl
def Zabq (t:Zah)(c:Zab)(d:Int):List (List Zaa)->Int->Er×Int
 | [],r=>(.nil,r)
 | p :: ps,r=>match askC t c p d r with
  | (true,.nil,r')=>Zabq t c d ps r'
  | (false,.nil,r')=>(.no 19,r')
  | (_,.no e,r')=>(.no e,r')
theorem Zapv (t:Zah)(c:Zab)(d:Int):∀(l:List (List Zaa))(r:Int),0<=r/\r<=1048576->0<=(Zabq t c d l r).2/\(Zabq t c d l r).2<=1048576
 | [],r,h=>h
 | p :: ps,r,h=>by
  have ha:=Zanf (t:=t) (c:=c) (p:=p) (d:=d) h
  rw[Zabq]
  rcases hq:askC t c p d r with⟨b,e,r'⟩
  rw[hq]at ha
  cases e with
  | no e=>cases b <;> exact ha
  | nil =>
   cases b with
   | false=>exact ha
   | true=>exact Zapv t c d ps r' ha
theorem Zagx {t:Zah}{c:Zab}(hd:DomP t.Vars)(hc:Zwd t.Vars c)(g:Nat)(hg:70<=g)(d:Int)(z:List (List Zaa)):∀(l:List (List Zaa))(i r:Int),Zfu t.Vars l->0<=r/\r<=1048576 ->
  Rg (Zo2 g d z) (Ztw g d z) l i (t.Vars,t.Init,t.Goal,t.Ops,c.Bound,c.Nogoods,r)=some ((Zabq t c d l r).1,{ t:=t,c:=c,steps:=(Zabq t c d l r).2 })
 | [],i,r,_,_=>rfl
 | p :: ps,i,r,hl,hr=>by
  rw[Rg,Zo2]
  show ixv p (λy37=>ob3 (Zh0 g { t:=t,c:=c,steps:=r } y37 d) _)=_
  rw[ixv,Zash hd hc g hg p (hl p (mS_ ..)) d r hr,Zyx,Zabq]
  have ha:=Zanf (t:=t) (c:=c) (p:=p) (d:=d) hr
  rcases hq:askC t c p d r with⟨b,e,r'⟩
  rw[hq]at ha
  cases e with
  | no e=>cases b <;> rfl
  | nil =>
   cases b with
   | false=>rfl
   | true=>exact Zagx hd hc g hg d z ps _ r' (λx hx=>hl x (mC_ _ hx)) ha
def Zalv (c:Zab)(n:Zaw)(o:GOp):Int:=if 0<=c.Bound then n.2+o.Cost else 0
def Zamo (c:Zab)(n:Zaw)(o:GOp):Bool:=decide (0<=c.Bound/\c.Bound<=n.2+o.Cost)
def Zul (t:Zah)(c:Zab)(n:Zaw)(o:GOp)(r:Int):Er×Int :=
 if Zamo c n o=true then(.nil,r)
 else match regO t.Vars o n.1 with
  | none=>(.no 5,r)
  | some l=>Zabq t c (Zalv c n o) l r
theorem Zapw (t:Zah)(c:Zab)(n:Zaw)(o:GOp)(r:Int)(h:0<=r/\r<=1048576):0<=(Zul t c n o r).2/\(Zul t c n o r).2<=1048576:=by
 unfold Zul
 split
 ·exact h
 ·split
  ·exact h
  ·exact Zapv _ _ _ _ _ h
theorem Zarz {t:Zah}(hgood:Ze5 t=true){p:List Zaa}(hpf:Zbi t.Vars (-1) p=true){o:GOp}(ho:o∈t.Ops){l:List (List Zaa)}(h:regO t.Vars o p=some l):Zfu t.Vars l/\l.length<=1024:=by
 unfold regO at h
 cases hr:regG t.Vars o p [o.Pre]with
 | none=>rw[hr]at h;cases h
 | some m =>
  rw[hr,Option.map_some]at h
  obtain rfl:=sI_ h
  obtain⟨l1,-,l3⟩:=Zyz hgood hpf ho hr
  refine⟨λx hx=>l1 x (List.mem_filter.1 ((Zqb x _).1 hx)).1,?_⟩
  rw[Zjy]
  exact Nat.le_trans (List.length_filter_le _ _) l3
theorem Zn5 {t:Zah}(h:Ze5 t=true){o:GOp}(ho:o∈t.Ops):0<=o.Cost/\o.Cost<=1048576:=by
 unfold Ze5 at h
 simp only[bA_,List.all_eq_true]at h
 have:=h.2.2.2.2 o ho
 unfold opF at this
 simp only[bA_,decide_eq_true_iff]at this
 exact⟨this.1.1,this.1.2.1⟩
theorem Zavc {t:Zah}(ht:ShT t)(hgood:Ze5 t=true){c:Zab}(hc:Zwd t.Vars c)(g:Nat)(hg:70<=g)(n:Zaw)(hn:n∈c.Nogoods)(j:Nat)(o:GOp)(hj:t.Ops[j]?=some o)(r:Int)(hr:0<=r/\r<=1048576) :
    Znv g { t:=t,c:=c,steps:=r } n j=some ((Zul t c n o r).1,{ t:=t,c:=c,steps:=(Zul t c n o r).2 }):=by
  have hd:=Ztb hgood
  have ho:=mG_ hj
  have hcost:=Zn5 hgood ho
  have hn0:=hc.d0 n hn
  have hn1:=hc.d1 n hn
  have hb1:=hc.b1
  have hw:0<=c.Bound->IntKind.i64.wrap (n.2+o.Cost)=n.2+o.Cost:=λh=>Zpd (by omega) (by have:=hn1 h;omega)
  have hreg:∀v:Int,v=Zalv c n o->Zamo c n o=false->ob2 (Zkl g t (j:Int) n.1) (λz7 z8 =>
      erM z8 (Zg1 g v z7 ((((z7.map Zal).length:Int)).toNat+1) 0 t.Vars t.Init t.Goal t.Ops c.Bound c.Nogoods r)
       (λe9=>some ((Er.no e9),({ t:=t,c:=c,steps:=r }:Zbu))))=some ((Zul t c n o r).1,{ t:=t,c:=c,steps:=(Zul t c n o r).2 }):=by
    intro v hv hs
    rw[Zamj t ht hgood n.1 (hc.prop n hn) g hg (j:Int) o (by omega) (by rw[Int.toNat_natCast];exact hj),Zw8,Zul,hs,if_neg (by decide)]
    cases hro:regO t.Vars o n.1 with
    | none=>rfl
    | some l =>
      obtain⟨l1,l2⟩:=Zarz hgood (hc.prop n hn) ho hro
      simp only
      rw[Zzh g v l _ _ _ _ _ _ _ (by omega),Zagx hd hc g hg v l l 0 r l1 hr,hv]
  rw[Znv]
  simp only[Zar,ge_iff_le]
  by_cases h:0<=c.Bound
  · rw[if_pos h,Zfv hj,hw h]
    by_cases h2:c.Bound<=n.2+o.Cost
    · have hs:Zamo c n o=true:=decide_eq_true ⟨h,h2⟩
      rw[if_pos h2,Zac,Ziz,Zul,hs,if_pos rfl]
    · rw[if_neg h2,Zac,Zbv]
      exact hreg _ (by rw[Zalv,if_pos h]) (decide_eq_false (by omega))
  · rw[if_neg h,Zac,Zbv]
    exact hreg _ (by rw[Zalv,if_neg h]) (decide_eq_false (by omega))
def opsC (t:Zah)(c:Zab)(n:Zaw)(i:Int):List GOp->Int->Int->Int⊕(Int×Int×Er)
 | [],_,r=>.inl r
 | o :: os,j,r=>match Zul t c n o r with
  | (.nil,r')=>opsC t c n i os (j+1) r'
  | (.no e,_)=>.inr (i,j,.no e)
def nogC (t:Zah)(c:Zab):List Zaw->Int->Int->Int×Int×Er
 | [],_,_=>(-1,-1,.nil)
 | n :: ns,i,r=>match opsC t c n i t.Ops 0 r with
  | .inl r'=>nogC t c ns (i+1) r'
  | .inr x=>x
theorem Zas3 (t:Zah)(c:Zab)(n:Zaw)(i:Int):∀(l:List GOp)(j r:Int),0<=r/\r<=1048576->∀r',opsC t c n i l j r=.inl r'->0<=r'/\r'<=1048576
 | [],j,r,h,r',e=>by rw[opsC]at e;injection e with e;omega
 | o :: os,j,r,h,r',e=>by
  have hs:=Zapw t c n o r h
  rw[opsC]at e
  rcases hq:Zul t c n o r with⟨x,y⟩
  rw[hq]at e hs
  cases x with
  | no x=>cases e
  | nil=>exact Zas3 t c n i os (j+1) y hs r' e
theorem Zakh {t:Zah}(ht:ShT t)(hgood:Ze5 t=true){c:Zab}(hc:Zwd t.Vars c)(g:Nat)(hg:70<=g)(n:Zaw)(hn:n∈c.Nogoods)(i:Int):∀(l:List GOp)(m j:Nat)(r:Int),t.Ops.drop j=l->l.length=m->0<=r/\r<=1048576 ->
  Rn (Zhi t g i n) (Zj0 t g i n) m j (t.Vars,t.Init,t.Goal,t.Ops,c.Bound,c.Nogoods,r)=some (match opsC t c n i l j r with | .inl r'=>.inl (t.Vars,t.Init,t.Goal,t.Ops,c.Bound,c.Nogoods,r') | .inr x=>.inr x)
 | [],m,j,r,_,hm,_=>by subst hm;rfl
 | o :: os,m,j,r,hdr,hm,hr=>by
  obtain⟨hj,hd',hlt⟩:=Zc5 hdr
  obtain⟨m,rfl⟩:∃k,m=k+1:=⟨os.length,hm.symm⟩
  rw[Rn,Zhi]
  show ob2 (Znv g { t:=t,c:=c,steps:=r } n (j:Int)) _=_
  have hs:=Zapw t c n o r hr
  rw[Zavc ht hgood hc g hg n hn j o hj r hr,Zc6,opsC]
  rcases hq:Zul t c n o r with⟨x,y⟩
  rw[hq]at hs
  cases x with
  | no x=>rfl
  | nil=>exact Zakh ht hgood hc g hg n hn i os m (j+1) y hd' (by simpa using hm) hs
theorem Zake {t:Zah}(ht:ShT t)(hgood:Ze5 t=true){c:Zab}(hc:Zwd t.Vars c)(g:Nat)(hg:70<=g):∀(l:List Zaw)(i r:Int),(∀n∈l,n∈c.Nogoods)->0<=r/\r<=1048576 ->
  Rg (Zfq t c g) (Zj1 t c g) l i (t.Vars,t.Init,t.Goal,t.Ops,c.Bound,c.Nogoods,r)=some (nogC t c l i r)
 | [],i,r,_,_=>rfl
 | n :: ns,i,r,hl,hr=>by
  have hops:t.Ops.length<=4096:=by
   unfold Ze5 at hgood
   simp only[bA_,decide_eq_true_iff]at hgood
   exact hgood.1.2
  rw[Rg,Zfq]
  show ob1 (ixv n (λy231=>Zcn t g i y231 ((((t.Ops.map Za0).length:Int)).toNat+1) 0 t.Vars t.Init t.Goal t.Ops c.Bound c.Nogoods r)) _=_
  rw[ixv,Zr6 t g i n _ _ _ _ _ _ _ (m:=t.Ops.length) (by rw[lM_]) (by omega)]
  have e:=Zakh ht hgood hc g hg n (hl n (mS_ ..)) i t.Ops t.Ops.length 0 r rfl rfl hr
  have e':Rn (Zhi t g i n) (Zj0 t g i n) t.Ops.length 0 (t.Vars,t.Init,t.Goal,t.Ops,c.Bound,c.Nogoods,r)=_:=e
  rw[e',Zac,nogC]
  have hr2:=Zas3 t c n i t.Ops 0 r hr
  show Zj9 _ _ (match opsC t c n i t.Ops 0 r with | .inl r'=>_ | .inr x=>_)=_
  cases ho:opsC t c n i t.Ops 0 r with
  | inl r'=>exact Zake ht hgood hc g hg ns _ r' (λx hx=>hl x (mC_ _ hx)) (hr2 r' ho)
  | inr x=>rfl
def Zap9 (t:Zah)(c:Zab)(r:Int):Int×Int×Er :=
 if c.Nogoods.any (λn=>Zay t.Init n.1)=true then(-1,-1,.no 20)
 else if c.Bound=0 then nogC t c c.Nogoods 0 r
 else match askC t c t.Goal 0 r with
  | (true,.nil,r')=>nogC t c c.Nogoods 0 r'
  | (false,.nil,_)=>(-1,-1,.no 13)
  | (_,.no e,_)=>(-1,-1,.no e)
def Zak8 (t:Zah)(c:Zab)(steps:Int):Int×Int×Er :=
 match Zty t with
 | .no e=>(-1,-1,.no e)
 | .nil=>match Zxc t.Vars c with
  | .no e=>(-1,-1,.no e)
  | .nil=>Zap9 t c (max 0 (min steps 1048576))
theorem Zasf (t:Zah)(ht:ShT t)(c:Zab)(hc:ShC c)(steps:Int)(g:Nat)(hg:70<=g):Zi5 g t c steps=some (Zak8 t c steps):=by
 rw[Zi5,Zvo t ht,Zac,Zak8]
 cases hck:Zty t with
 | no e=>rfl
 | nil =>
  have hgood:=(Znk t).2 hck
  show ob1 (Zl0 t.Vars c) _=_
  rw[Zalu t.Vars c hc,Zac]
  cases hpr:Zxc t.Vars c with
  | no e=>rfl
  | nil =>
   have hcp:=(Zaap t.Vars c).1 hpr
   have hd:=Ztb hgood
   have e1:=Zr5 t c hc.list.lt
   have hr:0<=max 0 (min steps 1048576)/\max 0 (min steps 1048576)<=1048576:=by omega
   have hgoal:Zbi t.Vars (-1) t.Goal=true:=by
    unfold Ze5 at hgood
    simp only[bA_]at hgood
    exact hgood.2.2.2.1
   show ob1 (Zcy t c _ 0) _=_
   rw[e1,Zh1 (p:=λn:Zaw=>!Zay t.Init n.1) (c:=some (.inr ((-1),(-1),(Er.no 20)))),Zap9]
   ·have hna:(c.Nogoods.all λn=>!Zay t.Init n.1)=!(c.Nogoods.any λn=>Zay t.Init n.1):=by rw[List.not_any_eq_all_not]
    rw[hna]
    cases ha:c.Nogoods.any λn=>Zay t.Init n.1 with
    | true=>rfl
    | false =>
     rw[Bool.not_false,if_pos rfl,Zm3,Zac,Zbv,if_neg (by decide)]
     have hnog:∀r:Int,0<=r/\r<=1048576->Zbt t c g ((((c.Nogoods.map cN).length:Int)).toNat+1) 0 t.Vars t.Init t.Goal t.Ops c.Bound c.Nogoods r=some (nogC t c c.Nogoods 0 r):=λr hr=>by
      rw[Zr7 t c g _ _ _ _ _ _ _ hc.list.lt,Zake ht hgood hcp g hg c.Nogoods 0 r (λ_ h=>h) hr]
     by_cases hb:c.Bound=0
     ·rw[if_pos hb,show(c.Bound != 0)=false from by simp[hb],Zbb,Zac,Zbv]
      exact hnog _ hr
     ·rw[if_neg hb,show(c.Bound != 0)=true from by simp[hb],Zby,Zash hd hcp g hg t.Goal hgoal 0 _ hr,Zyx]
      have ha:=Zanf (t:=t) (c:=c) (p:=t.Goal) (d:=0) hr
      rcases hq:askC t c t.Goal 0 (max 0 (min steps 1048576))with⟨b,e,r'⟩
      rw[hq]at ha
      cases e with
      | no e=>cases b <;> rfl
      | nil =>
       cases b with
       | false=>rfl
       | true=>exact hnog r' ha
   ·intro n hn i rc
    rw[Zm2,ixv,Zagz n.1 t.Init (hc.each n hn),Zac]
    cases Zay t.Init n.1 <;> rfl
def verF (t:Zah)(c:Zab)(steps:Int):Er:=(Zak8 t c steps).2.2
theorem Zap8 (t:Zah)(ht:ShT t)(c:Zab)(hc:ShC c)(steps:Int)(g:Nat)(hg:70<=g):Zei g t c steps=some (verF t c steps):=by
 rw[Zei,Zasf t ht c hc steps g hg]
 rfl
def Zm0 (ns:List Zaw)(s:List Int)(d:Int):Bool:=ns.any λn=>decide (n.2<=d)&&Zay s n.1
theorem Zamp {s:List Int}{ns:List Zaw}{d:Int}:Zmc s (Zlw ns d)↔Zm0 ns s d=true:=by
 unfold Zmc Zlw Zm0
 rw[List.any_eq_true]
 constructor
 ·rintro⟨z,hz,h⟩
  obtain⟨n,hn,rfl⟩:=List.mem_map.1 hz
  obtain⟨h1,h2⟩:=List.mem_filter.1 hn
  exact⟨n,h1,by rw[h2,h];rfl⟩
 ·rintro⟨n,hn,h⟩
  rw[bA_]at h
  exact⟨n.1,List.mem_map.2 ⟨n,List.mem_filter.2 ⟨hn,h.1⟩,rfl⟩,h.2⟩
def covB (t:Zah)(c:Zab)(d:Int)(p:List Zaa):Bool:=(covA t.Vars p (Zlw c.Nogoods d)).1
theorem Zafb {t:Zah}(hgood:Ze5 t=true){c:Zab}(hc:Zwd t.Vars c){p:List Zaa}(hp:Zbi t.Vars (-1) p=true)(d:Int):covB t c d p=true↔∀s,Za6 t.Vars s=true->Zay s p=true->Zm0 c.Nogoods s d=true:=by
 rw[covB,Zanz (Ztb hgood) hp (Zaby hc d)]
 exact forall_congr' λs=>by rw[Zamp]
def inF (o:GOp)(p:List Zaa)(s:List Int):Bool:=Zay s o.Pre&&Zay (Zp8 s o) p
theorem Zauf {t:Zah}(hgood:Ze5 t=true){o:GOp}(ho:o∈t.Ops){s:List Int}(hs:StP t.Vars s){p:List Zaa}(hp:Zbi t.Vars (-1) p=true){l:List (List Zaa)}(h:regO t.Vars o p=some l):Zmc s l↔inF o p s=true:=by
 rw[Zapn hgood ho hs hp h,inF,bA_,Zal6 hgood hs ho hp]
structure Acc (t:Zah)(c:Zab):Prop where
 init:∀n∈c.Nogoods,Zay t.Init n.1=false
 goal:c.Bound≠0->∀s∈Zik t,Zay s t.Goal=true->Zm0 c.Nogoods s 0=true
 step:∀n∈c.Nogoods,∀o∈t.Ops,Zamo c n o=false->∀s∈Zik t,inF o n.1 s=true->Zm0 c.Nogoods s (Zalv c n o)=true
theorem Zvt {t:Zah}(h:Ze5 t=true):Zbi t.Vars (-1) t.Goal=true:=by
 unfold Ze5 at h
 simp only[bA_]at h
 exact h.2.2.2.1
end Go.Proofs.YtpfnmpdcneejbaaGreatDoor.Am
