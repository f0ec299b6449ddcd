/- Texts of the proof, part 1 of 8. -/
import Derived.Test.YtpfnmpdcneejbaaGreatDoorChecked
import Derived.WalkKit
import Derived.ProofKit
import Derived.WalkLawsBesides
import Derived.WalkSpells
import Derived.Deep.QuietTactic
import Derived.BigQuiet
import Derived.Outline
import Derived.Lib.Hide
import Derived.Deep.Draws
import Derived.Deep.LoopGhost
import Derived.Deep.DeepCutAuto
import Derived.Laws.OwnMore
import Derived.Deep.AppendLies
import Derived.Maps.AppendAt
import Derived.RegionTactic
import Derived.OwnWalk
import Derived.Laws.CopyOwn
import Derived.Lib.AppendZerosOnto
import Derived.Lib.Overlaps
import Derived.Deep.RegionLaw
import Derived.Laws.MakeOwn
import Derived.Orders
set_option linter.unusedVariables false
set_option linter.unusedSectionVars false
set_option linter.unusedSimpArgs false
open List renaming getElem?_eq_getElem→gE_, length_map→lM_, length_append→lA_, mem_cons_of_mem→mC_, length_cons→lC_, mem_cons_self→mS_, mem_of_getElem?→mG_, getElem?_eq_some_iff→gS_, getD_eq_getElem?_getD→gD_, mem_singleton→mI_, take_of_length_le→tL_
open Option.some renaming inj→sI_
open Bool renaming and_eq_true→bA_
open Array renaming getD_eq_getD_getElem?→aD_, getElem?_eq_getElem→aE_
namespace Go.Proofs.YtpfnmpdcneejbaaGreatDoor
open Go.RowKit
theorem Zp7 {w:World}{p:Addr}{v:Value}(h:w.cell? p=some v):p.block<w.heap.size:=by
 rcases Nat.lt_or_ge p.block w.heap.size with hlt|hge
 ·exact hlt
 ·unfold World.cell? at h
  rw[Array.getElem?_eq_none hge]at h
  cases h
theorem kept {w w':World}(hb:Below w.heap.size w w'){p:Addr}{v:Value}(h:w.cell? p=some v):w'.cell? p=some v:=by
 rw[hb.cell (Zp7 h)];exact h
theorem Zasm {w w1 w2:World}(h:Below w.heap.size w w1)(k:Below w1.heap.size w1 w2):Below w.heap.size w w2:=h.trans (k.mono h.size)
theorem Zgg {w w1:World}(h:Below w.heap.size w w1)(o:Obj):Below w.heap.size w (w1.alloc o):=h.alloc h.size o
theorem Zn4 {α:Type}{l:List α}{k:Nat}{x:α}(h:l[k]?=some x):l.drop k=x :: l.drop (k+1):=by
 obtain⟨hk,rfl⟩:=gS_.1 h
 exact List.drop_eq_getElem_cons hk
abbrev Zaa := Int×Int
abbrev Zaw := List Zaa×Int
def IntsAt (w:World)(v:Value)(l:List Int):Prop :=
 ∃A c,v=.slice A l.length c/\l.length*8<=140737488355328/\∀k x,l[k]?=some x->∃b off,A=some ⟨b,off,none⟩/\w.cell? ⟨b,off+k,none⟩=some (.int .i64 x)
def FactsAt (w:World)(v:Value)(l:List Zaa):Prop :=
 ∃A c,v=.slice A l.length c/\l.length*16<=140737488355328/\∀k x,l[k]?=some x->∃b off,A=some ⟨b,off,none⟩/\w.cell? ⟨b,off+k*2,none⟩=some (.int .i64 x.1)/\w.cell? ⟨b,off+k*2+1,none⟩=some (.int .i64 x.2)
def NogoodsAt (w:World)(v:Value)(l:List Zaw):Prop :=
 ∃A c,v=.slice A l.length c/\l.length*32<=140737488355328/\∀k x,l[k]?=some x->∃b off fv,A=some ⟨b,off,none⟩/\w.cell? ⟨b,off+k*2,none⟩=some fv/\FactsAt w fv x.1/\w.cell? ⟨b,off+k*2+1,none⟩=some (.int .i64 x.2)
theorem IntsAt.keep {w w':World}{v:Value}{l:List Int}(hb:Below w.heap.size w w')(h:IntsAt w v l):IntsAt w' v l:=by
 obtain⟨A,c,hv,hl,h⟩:=h
 refine⟨A,c,hv,hl,λk x hx=>?_⟩
 obtain⟨b,off,hA,h0⟩:=h k x hx
 exact⟨b,off,hA,kept hb h0⟩
theorem FactsAt.keep {w w':World}{v:Value}{l:List Zaa}(hb:Below w.heap.size w w')(h:FactsAt w v l):FactsAt w' v l:=by
 obtain⟨A,c,hv,hl,h⟩:=h
 refine⟨A,c,hv,hl,λk x hx=>?_⟩
 obtain⟨b,off,hA,h0,h1⟩:=h k x hx
 exact⟨b,off,hA,kept hb h0,kept hb h1⟩
theorem NogoodsAt.keep {w w':World}{v:Value}{l:List Zaw}(hb:Below w.heap.size w w')(h:NogoodsAt w v l):NogoodsAt w' v l:=by
 obtain⟨A,c,hv,hl,h⟩:=h
 refine⟨A,c,hv,hl,λk x hx=>?_⟩
 obtain⟨b,off,fv,hA,h0,hf,h1⟩:=h k x hx
 exact⟨b,off,fv,hA,kept hb h0,hf.keep hb,kept hb h1⟩
theorem IntsAt.form {w:World}{v:Value}{l:List Int}(h:IntsAt w v l):∃A n c,v=.slice A n c/\n=l.length/\n<=140737488355328:=by
 obtain⟨A,c,hv,hl,_⟩:=h
 exact⟨A,_,c,hv,rfl,by omega⟩
theorem FactsAt.form {w:World}{v:Value}{l:List Zaa}(h:FactsAt w v l):∃A n c,v=.slice A n c/\n=l.length/\n<=140737488355328:=by
 obtain⟨A,c,hv,hl,_⟩:=h
 exact⟨A,_,c,hv,rfl,by omega⟩
theorem NogoodsAt.form {w:World}{v:Value}{l:List Zaw}(h:NogoodsAt w v l):∃A n c,v=.slice A n c/\n=l.length/\n<=140737488355328:=by
 obtain⟨A,c,hv,hl,_⟩:=h
 exact⟨A,_,c,hv,rfl,by omega⟩
theorem Zn9 {α:Type}{l:List α}{k n:Nat}(hn:n=l.length)(hk:k<n):∃x,l[k]?=some x/\l.drop k=x :: l.drop (k+1):=by
 subst hn
 exact⟨l[k],gE_ hk,List.drop_eq_getElem_cons hk⟩
theorem IntsAt.at {w:World}{A:Option Addr}{n c:Nat}{l:List Int}(h:IntsAt w (.slice A n c) l){k:Nat}(hk:k<n) :
  ∃b off x,A=some ⟨b,off,none⟩/\w.cell? ⟨b,off+k,none⟩=some (.int .i64 x)/\l[k]?=some x/\l.drop k=x :: l.drop (k+1):=by
 obtain⟨A',c',hv,hl,h⟩:=h
 injection hv with h1 h2 h3
 subst h1 h3
 obtain⟨x,hx,hd⟩:=Zn9 h2 hk
 obtain⟨b,off,hA,h0⟩:=h k x hx
 exact⟨b,off,x,hA,h0,hx,hd⟩
theorem FactsAt.at {w:World}{A:Option Addr}{n c:Nat}{l:List Zaa}(h:FactsAt w (.slice A n c) l){k:Nat}(hk:k<n) :
  ∃b off x y,A=some ⟨b,off,none⟩/\w.cell? ⟨b,off+k*2,none⟩=some (.int .i64 x)/\w.cell? ⟨b,off+k*2+1,none⟩=some (.int .i64 y)/\l[k]?=some (x,y)/\l.drop k=(x,y) :: l.drop (k+1):=by
 obtain⟨A',c',hv,hl,h⟩:=h
 injection hv with h1 h2 h3
 subst h1 h3
 obtain⟨⟨x,y⟩,hx,hd⟩:=Zn9 h2 hk
 obtain⟨b,off,hA,h0,h1⟩:=h k _ hx
 exact⟨b,off,x,y,hA,h0,h1,hx,hd⟩
theorem NogoodsAt.at {w:World}{A:Option Addr}{n c:Nat}{l:List Zaw}(h:NogoodsAt w (.slice A n c) l){k:Nat}(hk:k<n) :
  ∃b off fA fn fc fs d,A=some ⟨b,off,none⟩/\w.cell? ⟨b,off+k*2,none⟩=some (.slice fA fn fc)/\fn=fs.length/\fn<=140737488355328/\FactsAt w (.slice fA fn fc) fs/\w.cell? ⟨b,off+k*2+1,none⟩=some (.int .i64 d) /\
   l[k]?=some (fs,d)/\l.drop k=(fs,d) :: l.drop (k+1):=by
 obtain⟨A',c',hv,hl,h⟩:=h
 injection hv with h1 h2 h3
 subst h1 h3
 obtain⟨⟨fs,d⟩,hx,hd⟩:=Zn9 h2 hk
 obtain⟨b,off,fv,hA,h0,hf,h1⟩:=h k _ hx
 obtain⟨fA,fn,fc,rfl,hfn,hfl⟩:=hf.form
 exact⟨b,off,fA,fn,fc,fs,d,hA,h0,hfn,hfl,hf,h1,hx,hd⟩
theorem IntsAt.len {w:World}{A:Option Addr}{n c:Nat}{l:List Int}(h:IntsAt w (.slice A n c) l):n=l.length:=by
 obtain⟨A',c',hv,_⟩:=h
 injection hv
end Go.Proofs.YtpfnmpdcneejbaaGreatDoor
namespace Go.Proofs.YtpfnmpdcneejbaaGreatDoor
open Go.RowKit
def encF (x:Zaa):List Value:=[.int .i64 x.1,.int .i64 x.2]
def Zai : List Zaa->List Value
 | []=>[]
 | x :: r=>.int .i64 x.1 :: .int .i64 x.2 :: Zai r
theorem Zba (l:List Zaa):(Zai l).length=l.length*2:=by
 induction l with
 | nil=>rfl
 | cons x r ih=>simp only[Zai,lC_,ih];omega
theorem Zie (a b:List Zaa):Zai (a++b)=Zai a++Zai b:=by
 induction a with
 | nil=>rfl
 | cons x r ih=>simp[Zai,ih]
theorem Zje (l:List Zaa):∀(k:Nat)(x:Zaa),l[k]?=some x->(Zai l)[k*2]?=some (.int .i64 x.1)/\(Zai l)[k*2+1]?=some (.int .i64 x.2):=by
 induction l with
 | nil=>intro k x h;simp at h
 | cons y r ih =>
  intro k x h
  cases k with
  | zero=>simp at h;subst h;simp[Zai]
  | succ k =>
   simp at h
   obtain⟨h1,h2⟩:=ih k x h
   rw[show(k+1)*2=k*2+1+1 from by omega,show k*2+1+1+1=(k*2+1)+1+1 from rfl]
   simp only[Zai,List.getElem?_cons_succ]
   exact⟨h1,h2⟩
theorem Zg8 (l:List Zaa):∀u∈Zai l,u.oneCell'=true:=by
 induction l with
 | nil=>intro u h;cases h
 | cons x r ih =>
  intro u h
  simp only[Zai,List.mem_cons]at h
  rcases h with rfl|rfl|h
  ·rfl
  ·rfl
  ·exact ih u h
theorem Zpa (l:List Zaa):∀n,(Zai l).take (n*2)=Zai (l.take n):=by
 induction l with
 | nil=>intro n;simp[Zai]
 | cons x r ih =>
  intro n
  cases n with
  | zero=>simp[Zai]
  | succ n=>rw[show(n+1)*2=n*2+1+1 from by omega];simp only[Zai,List.take_succ_cons,ih]
abbrev OwnF (w:World)(base:Nat)(v:Value)(l:List Zaa):Prop:=w.ownsRow base 53 2 v l.length (Zai l)
theorem OwnF.facts {w:World}{base:Nat}{v:Value}{l:List Zaa}(h:OwnF w base v l)(hl:l.length*16<=140737488355328):FactsAt w v l:=by
 rcases id h.2 with⟨rfl,h0⟩|⟨g,cap,cur,rfl,_,hb,hn,hm,hcs,htake⟩
 ·have hnil:l=[]:=List.length_eq_zero_iff.1 h0
  subst hnil
  exact⟨none,0,rfl,by simp,λk x hx=>by simp at hx⟩
 ·refine⟨some ⟨g,0,none⟩,cap,rfl,hl,λk x hx=>⟨g,0,rfl,?_,?_⟩⟩
  ·have hk:k<l.length:=(gS_.1 hx).1
   rw[Nat.zero_add,h.cellAt (k*2) (by omega)]
   exact(Zje l k x hx).1
  ·have hk:k<l.length:=(gS_.1 hx).1
   rw[Nat.zero_add,h.cellAt (k*2+1) (by omega)]
   exact(Zje l k x hx).2
theorem Zagb {w w':World}{base:Nat}{v:Value}{l:List Zaa}(h:OwnF w base v l)(hb:Below w.heap.size w w'):OwnF w' base v l :=
 World.ownsRow.kept h (row:=none) ⟨hb.os,hb.tape,hb.output,hb.size,λi hi _=>hb.block i hi⟩ (by cases v.ownBlock <;> simp)
theorem OwnF.form {w:World}{base:Nat}{v:Value}{l:List Zaa}(h:OwnF w base v l):∃A c,v=.slice A l.length c:=by
 rcases h.2 with⟨rfl,h0⟩|⟨g,cap,cur,rfl,_⟩
 ·exact⟨none,0,by rw[h0]⟩
 ·exact⟨_,_,rfl⟩
theorem Zoo {w:World}{base base':Nat}{e:TypeId}{size:Nat}{v:Value}{n:Nat}{xs:List Value}(h:w.ownsRow base e size v n xs)(hb:base'<=base):w.ownsRow base' e size v n xs:=by
 obtain⟨h1,h2|⟨g,cap,cur,hv,hg,r⟩⟩:=h
 ·exact⟨h1,.inl h2⟩
 ·exact⟨h1,.inr ⟨g,cap,cur,hv,Nat.le_trans hb hg,r⟩⟩
theorem Zadd : (Tryz.prog.info? 53).map (λi=>(i.zero,i.size,i.bytes))=some (some (.agg #[.int .i64 0,.int .i64 0]),2,16):=by kernel_rfl
end Go.Proofs.YtpfnmpdcneejbaaGreatDoor
namespace Go.Proofs.YtpfnmpdcneejbaaGreatDoor
open Go.RowKit
theorem Zxt (a:Addr)(n:Nat):(a.add n).block=a.block:=by unfold Addr.add;split <;> rfl
theorem Zalg (a:Addr)(i j:Nat):(a.add i).add j=a.add (i+j):=by
 unfold Addr.add
 by_cases hi:i=0 <;> by_cases hj:j=0 <;> simp[hi,hj,Nat.add_assoc]
def Reads (w:World)(B size:Nat)(A:Option Addr)(n:Nat)(xs:List Value):Prop :=
 xs.length=n*size/\(0<n->∃ad,A=some ad/\ad.block<B/\∀j u,xs[j]?=some u->w.cell? (ad.add j)=some u)
section
variable {w w' : World} {B B' size n : Nat} {A : Option Addr} {xs : List Value}
theorem Reads.none_ : Reads w B size A 0 []:=⟨by simp,λh=>absurd h (by omega)⟩
theorem Reads.at_ {k:Nat}(h:Reads w B 1 A n xs)(hk:k<n):∃ad u,A=some ad/\ad.block<B/\xs[k]?=some u/\w.cell? (ad.add k)=some u:=by
 obtain⟨ad,e,hb,hc⟩:=h.2 (by omega)
 have hl:k<xs.length:=by have:=h.1;omega
 exact⟨ad,xs[k],e,hb,gE_ hl,hc k _ (gE_ hl)⟩
theorem Reads.keep (h:Reads w B size A n xs)(hk:∀p:Addr,p.block<B->w'.cell? p=w.cell? p):Reads w' B size A n xs :=
 ⟨h.1,λhn=>by
  obtain⟨ad,e,hb,hc⟩:=h.2 hn
  exact⟨ad,e,hb,λj u hu=>(hk _ (by rw[Zxt];exact hb)).trans (hc j u hu)⟩⟩
theorem Reads.more (h:Reads w B size A n xs)(hB:B<=B'):Reads w B' size A n xs :=
 ⟨h.1,λhn=>by
  obtain⟨ad,e,hb,hc⟩:=h.2 hn
  exact⟨ad,e,by omega,hc⟩⟩
theorem Reads.below (h:Reads w B size A n xs)(hb:Below B w w'):Reads w' B size A n xs:=h.keep λ_ hp=>hb.cell hp
theorem Reads.drew (h:Reads w B size A n xs):Reads w.drew B size A n xs:=h
theorem Reads.drewN (h:Reads w B size A n xs)(k:Nat):Reads (w.drewN k) B size A n xs:=h
theorem Reads.alloc (h:Reads w B size A n xs)(hB:B<=w.heap.size)(o:Obj):Reads (w.alloc o) B size A n xs:=h.keep λp hp=>World.cell?_alloc_lt w o p (by omega)
theorem Reads.setCell (h:Reads w B size A n xs){p:Addr}(hB:B<=p.block)(u:Value):Reads (w.setCell p u) B size A n xs :=
 h.keep λq hq=>World.cell?_setCell_other w p q u (λe=>by subst e;omega)
theorem Reads.grown (h:Reads w B size A n xs){row:Option Nat}(hg:w.grownBy w' row)(hB:B<=w.heap.size)(hr:∀g,row=some g->B<=g):Reads w' B size A n xs :=
 h.keep λp hp=>World.cell?_of_block (hg.block p.block (by omega) (λe=>by have:=hr _ e.symm;omega))
theorem Reads.cut (h:Reads w B size A n xs){k cap:Nat}(hk:k<=n)(hc:n<=cap) :
  Reads w B size (if cap=k then A else A.map (·.add (k*size))) (n-k) (xs.drop (k*size)):=by
 refine⟨by rw[List.length_drop,h.1,Nat.sub_mul],λhn=>?_⟩
 obtain⟨ad,rfl,hb,hcell⟩:=h.2 (by omega)
 rw[if_neg (by omega)]
 refine⟨ad.add (k*size),rfl,by rw[Zxt];exact hb,λj u hu=>?_⟩
 rw[Zalg]
 exact hcell _ u (by rw[<-hu,List.getElem?_drop])
end
section
variable {P : Program} (w : World)
theorem Zxg (base:Nat)(t ty e:TypeId)(i:TypeInfo)(size:Nat)(ht:P.underlying t=some (.slice e))(hi:P.info? e=some i)
  (v:Value) (n:Nat) (xs:List Value) (hown:w.ownsRow base e size v n xs) (c:Nat):(Builtin.append_ #[t,t] ty #[v,.slice none 0 c]).run P w=.ok v w:=by
 rcases hown.2 with⟨rfl,rfl⟩|⟨g,cap,cur,rfl,_,_,hnc,_⟩
 ·simp[Builtin.append_,run_underlying ht,sizeOf,typeInfo,hi,Builtin.lenOf,Builtin.firstCells]
 ·simp[Builtin.append_,run_underlying ht,sizeOf,typeInfo,hi,Builtin.lenOf,Builtin.firstCells,hnc,storeCells]
theorem Zpb (base:Nat)(t ty e:TypeId)(i:TypeInfo)(z:Value)(size bytes:Nat)(ht:P.underlying t=some (.slice e))(hi:P.info? e=some i)(hz:i.zero=some z)
  (hsize:i.size=size) (hby:i.bytes=bytes) (hzs:z.cells.size=size) (hsz:0<size)
  (v:Value) (n:Nat) (xs:List Value) (hown:w.ownsRow base e size v n xs)
  (B:Nat) (A:Option Addr) (m c:Nat) (news:List Value) (hr:Reads w B size A m news) (h1:∀u∈news,u.oneCell'=true)
  (h63:n+m<=maxLen) (hbytes:(n+m)*bytes<=140737488355328) (hbase:base<=w.heap.size) :
  ∃v' w',(Builtin.append_ #[t,t] ty #[v,.slice A m c]).run P w=.ok v' w'/\w'.ownsRow base e size v' (n+m) (xs++news)/\w.grownBy w' v.ownBlock /\
   (v'.ownBlock=v.ownBlock\/v'.ownBlock=some w.heap.size):=by
 rcases A with _|ad
 ·have hm:m=0:=by
   rcases Nat.eq_zero_or_pos m with h0|h0
   ·exact h0
   ·obtain⟨ad,h,_⟩:=hr.2 h0
    cases h
  subst hm
  have hn:news=[]:=List.eq_nil_of_length_eq_zero (by simpa using hr.1)
  subst hn
  exact⟨v,w,Zxg w base t ty e i size ht hi v n xs hown c,by simpa using hown,World.grownBy.refl w _,.inl rfl⟩
 ·have hcells:∀j u,news[j]?=some u->w.cell? (ad.add j)=some u:=by
   intro j u hu
   rcases Nat.eq_zero_or_pos m with h0|h0
   ·subst h0
    have hn:news=[]:=List.eq_nil_of_length_eq_zero (by simpa using hr.1)
    subst hn
    simp at hu
   ·obtain⟨ad',h,_,hc⟩:=hr.2 h0
    injection h with h
    subst h
    exact hc j u hu
  obtain⟨v',w',hrun,h2,h3,_,h5⟩:=run_append_own_at (P:=P) w base t ty e i z size bytes ht hi hz hsize hby hzs hsz v n xs hown ad m c news hr.1 hcells h1 h63 hbytes hbase
  exact⟨v',w',hrun,h2,h3,h5⟩
theorem Zaef {o:Oper}{a:Act}{K:Act->World->Prop}{Q:Exit->Act->World->Prop}(s x:Operand)(t:TypeId)
  (ho:o.op=.call { callee:=.builtin .append,args:=#[s,x],argTypes:=#[t,t] })
  (base:Nat) (e:TypeId) (i:TypeInfo) (z:Value) (size bytes:Nat) (ht:P.underlying t=some (.slice e)) (hi:P.info? e=some i) (hz:i.zero=some z)
  (hsize:i.size=size) (hby:i.bytes=bytes) (hzs:z.cells.size=size) (hsz:0<size)
  (v:Value) (n:Nat) (xs:List Value) (hs:a.eval s=v) (hown:w.ownsRow base e size v n xs)
  (B:Nat) (A:Option Addr) (m c:Nat) (news:List Value) (hx:a.eval x=.slice A m c) (hr:Reads w B size A m news) (h1:∀u∈news,u.oneCell'=true)
  (h63:n+m<=maxLen) (hbytes:(n+m)*bytes<=140737488355328) (hbase:base<=w.heap.size)
  (h:∀v' w',w'.ownsRow base e size v' (n+m) (xs++news)->w.grownBy w' v.ownBlock->(v'.ownBlock=v.ownBlock\/v'.ownBlock=some w.heap.size)->K (a.put o.dst v') w'):o.wp P a w K Q:=by
 obtain⟨v',w',hrun,h2,h3,h4⟩:=Zpb (P:=P) w base t o.type e i z size bytes ht hi hz hsize hby hzs hsz v n xs hown B A m c news hr h1 h63 hbytes hbase
 unfold Oper.wp execOp
 simp only[ho,resolve,invoke,builtin,Sem.run_bind,Sem.run_pure,Result.andThen_ok,List.map_toArray,List.map_cons,List.map_nil,hs,hx,hrun]
 exact h v' w' h2 h3 h4
theorem Ze0 {ops:Array Oper}{rest:List Oper}{o:Oper}{a:Act}{Q:Exit->Act->World->Prop}(hgd:o.guard=none)(s x:Operand)(t:TypeId)
  (ho:o.op=.call { callee:=.builtin .append,args:=#[s,x],argTypes:=#[t,t] })
  (base:Nat) (e:TypeId) (i:TypeInfo) (z:Value) (size bytes:Nat) (ht:P.underlying t=some (.slice e)) (hi:P.info? e=some i) (hz:i.zero=some z)
  (hsize:i.size=size) (hby:i.bytes=bytes) (hzs:z.cells.size=size) (hsz:0<size)
  (v:Value) (n:Nat) (xs:List Value) (hs:a.eval s=v) (hown:w.ownsRow base e size v n xs)
  (B:Nat) (A:Option Addr) (m c:Nat) (news:List Value) (hx:a.eval x=.slice A m c) (hr:Reads w B size A m news) (h1:∀u∈news,u.oneCell'=true)
  (h63:n+m<=maxLen) (hbytes:(n+m)*bytes<=140737488355328) (hbase:base<=w.heap.size)
  (h:∀v' w',w'.ownsRow base e size v' (n+m) (xs++news)->w.grownBy w' v.ownBlock->(v'.ownBlock=v.ownBlock\/v'.ownBlock=some w.heap.size)->wpList P ops Q rest (a.put o.dst v') w'):wpList P ops Q (o :: rest) a w :=
 wpList_plain hgd λ_ hK=>Zaef w s x t ho base e i z size bytes ht hi hz hsize hby hzs hsz v n xs hs hown B A m c news hx hr h1 h63 hbytes hbase λv' w' h2 h3 h4=>hK _ _ (h v' w' h2 h3 h4)
end
theorem Zjc (b off j:Nat):(⟨b,off,none⟩:Addr).add j=⟨b,off+j,none⟩:=by
 unfold Addr.add
 split
 ·rename_i h;subst h;rfl
 ·rfl
theorem FactsAt.reads {w:World}{A:Option Addr}{n c:Nat}{l:List Zaa}(h:FactsAt w (.slice A n c) l):Reads w w.heap.size 2 A n (Zai l):=by
 obtain⟨A',c',hv,hl,hat⟩:=h
 injection hv with h1 h2 h3
 subst h1 h2 h3
 refine⟨by rw[Zba],λhn=>?_⟩
 obtain⟨x0,hx0,_⟩:=Zn9 (l:=l) rfl hn
 obtain⟨b,off,rfl,c0,_⟩:=hat 0 x0 hx0
 refine⟨⟨b,off,none⟩,rfl,Zp7 c0,λj u hu=>?_⟩
 have hj:j<l.length*2:=by
  have:=(gS_.1 hu).1
  rwa [Zba]at this
 obtain⟨x,hx,_⟩:=Zn9 (l:=l) (k:=j / 2) rfl (by omega)
 obtain⟨b',off',hA,d0,d1⟩:=hat (j / 2) x hx
 injection hA with hA
 injection hA with hb ho
 subst hb ho
 obtain⟨e0,e1⟩:=Zje l (j / 2) x hx
 rw[Zjc]
 rcases Nat.mod_two_eq_zero_or_one j with hm|hm
 ·have e:j / 2*2=j:=by omega
  rw[e]at e0 d0
  rw[hu]at e0
  rw[d0,<-e0]
 ·have e:j / 2*2+1=j:=by omega
  rw[e]at e1
  rw[Nat.add_assoc,e]at d1
  rw[hu]at e1
  rw[d1,<-e1]
end Go.Proofs.YtpfnmpdcneejbaaGreatDoor
namespace Go.Proofs.YtpfnmpdcneejbaaGreatDoor
open Go.RowKit
theorem Zapd {P:Program}(w:World)(dT sT ty elem:TypeId)(size g o dLen dCap:Nat)(a:Addr)(sLen sCap:Nat)(cur:Array Value)(t:TypeId)(cs:List Value)
  (hu:P.underlying dT=some (.slice elem)) (hs:(P.info? elem).map (·.size)=some size)
  (hg:w.heap[g]?=some (.cells cur t (0,0))) (hn:cs.length=Nat.min sLen dLen*size)
  (hsrc:∀j v,cs[j]?=some v->w.cell? (a.add j)=some v) (hfit:o+cs.length<=cur.size) (h1:∀v∈cs,v.oneCell'=true) :
  (Builtin.copy_ #[dT,sT] ty #[.slice (some ⟨g,o,none⟩) dLen dCap,.slice (some a) sLen sCap]).run P w =
   .ok (goInt (Nat.min sLen dLen)) (w.setRow g (cur.toList.take o++cs++cur.toList.drop (o+cs.length)).toArray):=by
 have hl:=run_loadCells_list (P:=P) w a cs hsrc
 have hst:=run_storeCells_at P g o t cs 0 cur w hg (by simpa using hfit) h1
 cases hq:P.info? elem with
 | none=>simp[hq]at hs
 | some i =>
  have hi:i.size=size:=by simpa [hq] using hs
  simp[Builtin.copy_,run_underlying hu,Builtin.lenOf,Builtin.firstCells,sizeOf,typeInfo,hq,hi,<-hn,hl,hst]
theorem Zx9 (w:World)(g:Nat)(cs:Array Value):w.grownBy (w.setRow g cs) (some g) :=
 ⟨rfl,rfl,rfl,by simp[World.setRow],λk _ hk=>setRow_other w g k cs (λe=>hk (by rw[e]))⟩
theorem Zala {P:Program}{w:World}{o:Oper}{a:Act}{K:Act->World->Prop}{Q:Exit->Act->World->Prop}(d s:Operand)(dT sT:TypeId)
  (ho:o.op=.call { callee:=.builtin .copy,args:=#[d,s],argTypes:=#[dT,sT] }) (elem:TypeId) (size:Nat) (hu:P.underlying dT=some (.slice elem)) (hsz:(P.info? elem).map (·.size)=some size)
  (g off dLen dCap:Nat) (ad:Addr) (sLen sCap:Nat) (hd:a.eval d=.slice (some ⟨g,off,none⟩) dLen dCap) (hs:a.eval s=.slice (some ad) sLen sCap)
  (cur new:Array Value) (t:TypeId) (hg:w.heap[g]?=some (.cells cur t (0,0))) (cs:List Value) (hn:cs.length=Nat.min sLen dLen*size)
  (hsrc:∀j v,cs[j]?=some v->w.cell? (ad.add j)=some v) (hfit:off+cs.length<=cur.size) (h1:∀v∈cs,v.oneCell'=true)
  (hnew:cur.toList.take off++cs++cur.toList.drop (off+cs.length)=new.toList)
  (h:∀w',Hid (w'.heap[g]?=some (.cells new t (0,0)))->Hid (w.grownBy w' (some g))->K (a.put o.dst (goInt (Nat.min sLen dLen))) w'):o.wp P a w K Q:=by
 have hrun:=Zapd (P:=P) w dT sT o.type elem size g off dLen dCap ad sLen sCap cur t cs hu hsz hg hn hsrc hfit h1
 unfold Oper.wp
 simp only[execOp,ho,resolve,invoke,builtin,Sem.run_bind,Sem.run_pure,Result.andThen_ok,List.map_toArray,List.map_cons,List.map_nil,hd,hs,hrun]
 refine h _ ?_ ?_
 ·rw[hnew]
  show _=_
  simpa using setRow_heap w g cur new t (0,0) hg
 ·exact Zx9 w g _
theorem Zou {P:Program}{w:World}{ops:Array Oper}{rest:List Oper}{o:Oper}{a:Act}{Q:Exit->Act->World->Prop}(hgd:o.guard=none)(d s:Operand)(dT sT:TypeId)
  (ho:o.op=.call { callee:=.builtin .copy,args:=#[d,s],argTypes:=#[dT,sT] }) (elem:TypeId) (size:Nat) (hu:P.underlying dT=some (.slice elem)) (hsz:(P.info? elem).map (·.size)=some size)
  (g off dLen dCap:Nat) (ad:Addr) (sLen sCap:Nat) (hd:a.eval d=.slice (some ⟨g,off,none⟩) dLen dCap) (hs:a.eval s=.slice (some ad) sLen sCap)
  (cur new:Array Value) (t:TypeId) (hg:w.heap[g]?=some (.cells cur t (0,0))) (cs:List Value) (hn:cs.length=Nat.min sLen dLen*size)
  (hsrc:∀j v,cs[j]?=some v->w.cell? (ad.add j)=some v) (hfit:off+cs.length<=cur.size) (h1:∀v∈cs,v.oneCell'=true)
  (hnew:cur.toList.take off++cs++cur.toList.drop (off+cs.length)=new.toList)
  (h:∀w',Hid (w'.heap[g]?=some (.cells new t (0,0)))->Hid (w.grownBy w' (some g))->wpList P ops Q rest (a.put o.dst (goInt (Nat.min sLen dLen))) w'):wpList P ops Q (o :: rest) a w :=
 wpList_plain hgd λ_ hK=>Zala d s dT sT ho elem size hu hsz g off dLen dCap ad sLen sCap hd hs cur new t hg cs hn hsrc hfit h1 hnew λw' h2 h3=>hK _ _ (h w' h2 h3)
theorem Ztj {P:Program}{w:World}{ops:Array Oper}{o:Oper}{a:Act}{K:Act->World->Prop}{Q:Exit->Act->World->Prop}{E:Prop}(hgd:o.guard=none)(d s:Operand)(dT sT:TypeId)
  (ho:o.op=.call { callee:=.builtin .copy,args:=#[d,s],argTypes:=#[dT,sT] }) (elem:TypeId) (size:Nat) (hu:P.underlying dT=some (.slice elem)) (hsz:(P.info? elem).map (·.size)=some size)
  (g off dLen dCap:Nat) (ad:Addr) (sLen sCap:Nat) (hd:a.eval d=.slice (some ⟨g,off,none⟩) dLen dCap) (hs:a.eval s=.slice (some ad) sLen sCap)
  (cur new:Array Value) (t:TypeId) (hg:w.heap[g]?=some (.cells cur t (0,0))) (cs:List Value) (hn:cs.length=Nat.min sLen dLen*size)
  (hsrc:∀j v,cs[j]?=some v->w.cell? (ad.add j)=some v) (hfit:off+cs.length<=cur.size) (h1:∀v∈cs,v.oneCell'=true)
  (hnew:cur.toList.take off++cs++cur.toList.drop (off+cs.length)=new.toList)
  (h:∀w',Hid (w'.heap[g]?=some (.cells new t (0,0)))->Hid (w.grownBy w' (some g))->K (a.put o.dst (goInt (Nat.min sLen dLen))) w') :
  if Region.wanted o (yielded ops a.tmps)=true then Oper.wp P o a w K Q else E:=by
 have hw:Region.wanted o (yielded ops a.tmps)=true:=by simp[Region.wanted,hgd]
 rw[if_pos hw]
 exact Zala d s dT sT ho elem size hu hsz g off dLen dCap ad sLen sCap hd hs cur new t hg cs hn hsrc hfit h1 hnew h
theorem Zki {w:World}{g:Nat}{cur:Array Value}{t:TypeId}{f:Nat×Nat}(hg:w.heap[g]?=some (.cells cur t f))(off:Nat)(cs:List Value)(h:∀j u,cs[j]?=some u->cur.toList[off+j]?=some u):∀j u,cs[j]?=some u->w.cell? ((⟨g,off,none⟩:Addr).add j)=some u:=by
 intro j u hu
 have:=h j u hu
 rw[Zjc]
 simp only[World.cell?,hg]
 simpa using this
theorem Zkv {w w1:World}{row:Option Nat}(h:w.drew.grownBy w1 row):w.grownBy w1 row:=⟨h.os,h.tape,h.output,h.size,h.block⟩
theorem Zkd {w w':World}{row:Option Nat}{base:Nat}(h:w.grownBy w' row)(hb:base<=w.heap.size)(hr:∀g,row=some g->base<=g):Below base w w' :=
 ⟨h.os,h.tape,h.output,h.size,λi hi=>h.block i (by omega) (λe=>by have:=hr _ e.symm;omega)⟩
end Go.Proofs.YtpfnmpdcneejbaaGreatDoor
namespace Go.Proofs.YtpfnmpdcneejbaaGreatDoor.Am
open Go.RowKit
inductive AV where
 | c (v:Value)
 | sl (sz:Nat) (l:List (List AV))
 | own (i ver k len:Nat)
 | ptr (i ver k j:Nat)
 | ptrO (i ver k j:Nat)
 | mp (i ver:Nat)
 | pim (e:List AV) (j:Nat)
 | agg (cs:List AV)
 | tup (vs:List AV)
 | clo (f:Fn) (first cap:List AV)
 | ifc (t:TypeId) (v:AV)
 | dead
structure Blk where
 ty:TypeId
 sz:Nat
 box:Bool
 els:List (List AV)
structure Ent where
 ver:Nat
 blk:Option Blk
structure MM where
 f:Nat->Option Nat
 O:Nat->Prop
instance : CoeFun MM (λ_=>Nat->Option Nat):=⟨MM.f⟩
abbrev Shp := Nat->Nat×Option Nat
def shp (η:Nat->Ent):Shp:=λi=>((η i).ver,(η i).blk.map Blk.sz)
def Zdf (vs:Shp)(m:MM)(b:Nat):Prop:=m.O b\/∃i,(vs i).2≠none/\m i=some b
inductive Fr : AV->Prop
 | c (v:Value):Fr (.c v)
 | sl {sz:Nat} {l:List (List AV)}:(∀e∈l,∀x∈e,Fr x)->Fr (.sl sz l)
 | pim {e:List AV} {j:Nat}:(∀x∈e,Fr x)->Fr (.pim e j)
 | agg {cs:List AV}:(∀x∈cs,Fr x)->Fr (.agg cs)
 | tup {cs:List AV}:(∀x∈cs,Fr x)->Fr (.tup cs)
 | clo {f:Fn} {cs ds:List AV}:(∀x∈cs,Fr x)->(∀x∈ds,Fr x)->Fr (.clo f cs ds)
 | ifc {t:TypeId} {x:AV}:Fr x->Fr (.ifc t x)
def FrL (l:List (List AV)):Prop:=∀e∈l,∀x∈e,Fr x
inductive RV (w:World)(vs:Shp)(m:MM):AV->Value->Prop
 | dead (v:Value):RV w vs m .dead v
 | c (v:Value):RV w vs m (.c v) v
 | ownS {i ver k len l c:Nat} {A:Option Addr}:ver<(vs i).1->RV w vs m (.own i ver k len) (.slice A l c)
 | ownN {i ver sz:Nat}:vs i=(ver,some sz)->m i=none->RV w vs m (.own i ver 0 0) (.slice none 0 0)
 | ownZ {i ver k sz:Nat} {A:Option Addr}:vs i=(ver,some sz)->RV w vs m (.own i ver (k+1) 0) (.slice A 0 0)
 | own {i ver sz b k len cap ty n:Nat}:vs i=(ver,some sz)->m i=some b->len<=cap->cap<=maxLen->w.shape? b=some (ty,n)->(k+cap)*sz=n->RV w vs m (.own i ver k len) (.slice (some ⟨b,k*sz,none⟩) len cap)
 | ptrS {i ver k j:Nat} {A:Option Addr}:ver<(vs i).1->RV w vs m (.ptr i ver k j) (.pointer A)
 | ptrOS {i ver k j:Nat} {A:Option Addr}:ver<(vs i).1->RV w vs m (.ptrO i ver k j) (.pointer A)
 | ptrON {i ver sz k j:Nat}:vs i=(ver,some sz)->RV w vs m (.ptrO i ver k j) (.pointer none)
 | ptrO {i ver sz b k j:Nat}:vs i=(ver,some sz)->m i=some b->RV w vs m (.ptrO i ver k j) (.pointer (some ⟨b,k*sz+j,none⟩))
 | mpS {i ver:Nat} {A:Option Nat}:ver<(vs i).1->RV w vs m (.mp i ver) (.map A)
 | mp {i ver sz b:Nat}:vs i=(ver,some sz)->m i=some b->RV w vs m (.mp i ver) (.map (some b))
 | ptr {i ver sz b k j:Nat}:vs i=(ver,some sz)->m i=some b->RV w vs m (.ptr i ver k j) (.pointer (some ⟨b,k*sz+j,none⟩))
 | sl {sz:Nat} {l:List (List AV)} {A:Option Addr} {cap b off:Nat} {f:Nat->Nat->Value} :
   (l≠[]->A=some ⟨b,off,none⟩/\¬ Zdf vs m b/\b<w.heap.size)->l.length<=cap->l.length<=140737488355328->(∀(k:Nat) (e:List AV),l[k]?=some e->e.length=sz) ->
   (∀(k j:Nat) (e:List AV) (x:AV),l[k]?=some e->e[j]?=some x->w.cell? ⟨b,off+(k*sz+j),none⟩=some (f k j)/\(f k j).oneCell'=true) ->
   (∀(k j:Nat) (e:List AV) (x:AV),l[k]?=some e->e[j]?=some x->RV w vs m x (f k j))->FrL l->RV w vs m (.sl sz l) (.slice A l.length cap)
 | pim {e:List AV} {j b off:Nat} {f:Nat->Value}:¬ Zdf vs m b->b<w.heap.size ->
   (∀(j:Nat) (x:AV),e[j]?=some x->w.cell? ⟨b,off+j,none⟩=some (f j))->(∀(j:Nat) (x:AV),e[j]?=some x->RV w vs m x (f j))->RV w vs m (.pim e j) (.pointer (some ⟨b,off+j,none⟩))
 | agg {cs:List AV} {us:Array Value}:cs.length=us.size->(∀(j:Nat) (x:AV) (u:Value),cs[j]?=some x->us[j]?=some u->RV w vs m x u)->RV w vs m (.agg cs) (.agg us)
 | tup {cs:List AV} {us:Array Value}:cs.length=us.size->(∀(j:Nat) (x:AV) (u:Value),cs[j]?=some x->us[j]?=some u->RV w vs m x u)->RV w vs m (.tup cs) (.tuple us)
 | clo {f:Fn} {cs ds:List AV} {us us':Array Value}:cs.length=us.size->(∀(j:Nat) (x:AV) (u:Value),cs[j]?=some x->us[j]?=some u->RV w vs m x u) ->
   ds.length=us'.size->(∀(j:Nat) (x:AV) (u:Value),ds[j]?=some x->us'[j]?=some u->RV w vs m x u)->RV w vs m (.clo f cs ds) (.func f us us')
 | ifc {t:TypeId} {x:AV} {u:Value}:RV w vs m x u->RV w vs m (.ifc t x) (.iface t u)
structure Mono (w:World)(vs:Shp)(m:MM)(w':World)(vs':Shp)(m':MM):Prop where
 size:w.heap.size<=w'.heap.size
 cells:∀b,b<w.heap.size->¬ Zdf vs m b->w'.heap[b]?=w.heap[b]?
 nown:∀b,b<w.heap.size->¬ Zdf vs m b->¬ Zdf vs' m' b
 ver:∀i,(vs i).1<=(vs' i).1
 same:∀i,(vs' i).1=(vs i).1->vs' i=vs i/\((vs i).2≠none->m' i=m i/\∀b,m i=some b->w'.shape? b=w.shape? b)
theorem Mono.at {w w':World}{vs vs':Shp}{m m':MM}(h:Mono w vs m w' vs' m'){i ver sz:Nat}(hi:vs i=(ver,some sz)) :
  ver<(vs' i).1\/(vs' i=(ver,some sz)/\m' i=m i/\∀b,m i=some b->w'.shape? b=w.shape? b):=by
 have h1:=h.ver i
 rw[hi]at h1
 rcases Nat.lt_or_ge ver (vs' i).1 with hlt|hge
 ·exact .inl hlt
 ·have he:(vs' i).1=(vs i).1:=by rw[hi];simp only at h1 ⊢;omega
  obtain⟨a,b⟩:=h.same i he
  obtain⟨c,d⟩:=b (by rw[hi];simp)
  exact .inr ⟨by rw[a,hi],c,d⟩
theorem RV.mono {w w':World}{vs vs':Shp}{m m':MM}(h:Mono w vs m w' vs' m'){x:AV}{v:Value}(hx:RV w vs m x v):RV w' vs' m' x v:=by
 induction hx with
 | dead v=>exact .dead v
 | c v=>exact .c v
 | ownS hv=>exact .ownS (Nat.lt_of_lt_of_le hv (h.ver _))
 | ownN hi hm =>
  rcases h.at hi with hl|⟨a,b,_⟩
  ·exact .ownS hl
  ·exact .ownN a (by rw[b,hm])
 | ownZ hi =>
  rcases h.at hi with hl|⟨a,_,_⟩
  ·exact .ownS hl
  ·exact .ownZ a
 | own hi hm h1 h2 h3 h4 =>
  rcases h.at hi with hl|⟨a,b,c⟩
  ·exact .ownS hl
  ·exact .own a (by rw[b,hm]) h1 h2 (by rw[c _ hm,h3]) h4
 | ptrS hv=>exact .ptrS (Nat.lt_of_lt_of_le hv (h.ver _))
 | ptrOS hv=>exact .ptrOS (Nat.lt_of_lt_of_le hv (h.ver _))
 | ptrON hi =>
  rcases h.at hi with hl|⟨a,_,_⟩
  ·exact .ptrOS hl
  ·exact .ptrON a
 | ptrO hi hm =>
  rcases h.at hi with hl|⟨a,b,_⟩
  ·exact .ptrOS hl
  ·exact .ptrO a (by rw[b,hm])
 | mpS hv=>exact .mpS (Nat.lt_of_lt_of_le hv (h.ver _))
 | mp hi hm =>
  rcases h.at hi with hl|⟨a,b,_⟩
  ·exact .mpS hl
  ·exact .mp a (by rw[b,hm])
 | ptr hi hm =>
  rcases h.at hi with hl|⟨a,b,_⟩
  ·exact .ptrS hl
  ·exact .ptr a (by rw[b,hm])
 | @sl sz l A cap b off f hA hc hl he hcell hr hfr ih =>
  refine .sl (b:=b) (off:=off) (f:=f) (λhne=>?_) hc hl he (λk j e x h1 h2=>?_) ih hfr
  ·obtain⟨a,b',c⟩:=hA hne
   exact⟨a,h.nown _ c b',Nat.lt_of_lt_of_le c h.size⟩
  ·have hne:l≠[]:=λe=>by rw[e]at h1;simp at h1
   obtain⟨_,b',c⟩:=hA hne
   obtain⟨d1,d2⟩:=hcell k j e x h1 h2
   refine⟨?_,d2⟩
   rw[<-d1]
   exact World.cell?_of_block (h.cells b c b')
 | @pim e j b off f hno hlt hcell hr ih =>
  refine .pim (h.nown _ hlt hno) (Nat.lt_of_lt_of_le hlt h.size) (λj x hx=>?_) ih
  rw[<-hcell j x hx]
  exact World.cell?_of_block (h.cells b hlt hno)
 | agg hl _ ih=>exact .agg hl ih
 | tup hl _ ih=>exact .tup hl ih
 | clo h1 _ h2 _ i1 i2=>exact .clo h1 i1 h2 i2
 | ifc _ ih=>exact .ifc ih
theorem Mono.refl (w:World)(vs:Shp)(m:MM):Mono w vs m w vs m :=
 ⟨Nat.le_refl _,λ_ _ _=>rfl,λ_ _ h=>h,λ_=>Nat.le_refl _,λ_ _=>⟨rfl,λ_=>⟨rfl,λ_ _=>rfl⟩⟩⟩
inductive TK where
 | bool|str|iface|ptr|other
 | int (k:IntKind)
 | slice (e:TypeId)
 | struct (fs:List (Nat×TypeId))
 | array (n:Nat) (e:TypeId)
structure TI where
 sz:Nat
 bytes:Nat
 zero:Value
 kind:TK
def TK.agg : TK->Bool
 | .struct _ | .array _ _=>true
 | _=>false
def TK.fits : TK->TypeDesc->Prop
 | .bool,.bool=>True
 | .str,.string=>True
 | .iface,.interface _=>True
 | .ptr,.pointer _=>True
 | .int k,.int k'=>k'=k
 | .slice e,.slice e'=>e'=e
 | .struct fs,.struct gs=>gs.toList.map (λg=>(g.offset,g.type))=fs
 | .array n e,.array n' e'=>n'=n/\e'=e
 | .other,d=>(match d with | .struct _ | .array _ _=>True|_=>False)->False
 | _,_=>False
structure TyOk (P:Program)(t:TypeId)(ti:TI):Prop where
 info:(P.info? t).map (λi=>(i.zero,i.size,i.bytes))=some (some ti.zero,ti.sz,ti.bytes)
 und:∃d,P.underlying t=some d/\ti.kind.fits d
 cells:ti.zero.cells.size=ti.sz
structure Cx where
 P:Program
 N:Nat
 Gl:World->Prop
 keep:∀w w':World,(∀b,b<N->w'.heap[b]?=w.heap[b]?)->Gl w->Gl w'
 T:List (Option TI)
 tyOk:∀(t:Nat) (ti:TI),T[t]?=some (some ti)->TyOk P t ti
 mixed:P.follows .mixedOrders=true
def isM (box:Bool)(ty:TypeId):Bool:=box&&Nat.ble 1000000 ty
def Zayu (es:List MapEntry):List Value:=es.flatMap λe=>[e.key,e.val]
def Cont (w:World)(b:Nat)(B:Blk)(arr:Array Value):Prop :=
 (isM B.box B.ty=false->w.heap[b]?=some (.cells arr B.ty (0,0)))/\(isM B.box B.ty=true->∃es clock,w.heap[b]?=some (.map es clock)/\arr=(Zayu es.toList).toArray/\B.els.length=es.size/\B.sz=2/\es.toList.Pairwise (λx y=>x.key≠y.key))
theorem Cont.mono {w w':World}{b:Nat}{B:Blk}{arr:Array Value}(h:Cont w b B arr)(e:w'.heap[b]?=w.heap[b]?):Cont w' b B arr:=by
 unfold Cont at h ⊢
 rw[e]
 exact h
theorem Cont.lt {w:World}{b:Nat}{B:Blk}{arr:Array Value}(h:Cont w b B arr):b<w.heap.size:=by
 cases e:isM B.box B.ty with
 | false=>exact lt_of_block (h.1 e)
 | true =>
  obtain⟨es,c,h1,_⟩:=h.2 e
  exact lt_of_block h1
theorem Cont.congr {w:World}{b:Nat}{B B':Blk}{arr:Array Value}(h:Cont w b B arr)(e0:B'.box=B.box)(e1:B'.ty=B.ty)(e3:B'.els.length=B.els.length)(e2:B'.sz=B.sz):Cont w b B' arr:=by
 unfold Cont at h ⊢
 rw[e0,e1,e3,e2]
 exact h
theorem Cont.shape {w:World}{b:Nat}{B:Blk}{arr:Array Value}(h:Cont w b B arr){q:TypeId×Nat}(hs:w.shape? b=some q):w.heap[b]?=some (.cells arr B.ty (0,0)):=by
 cases e:isM B.box B.ty with
 | false=>exact h.1 e
 | true =>
  obtain⟨es,c,h1,_⟩:=h.2 e
  unfold World.shape? at hs
  rw[h1]at hs
  cases hs
theorem Cont.cells {w:World}{b:Nat}{B:Blk}{arr:Array Value}(h:w.heap[b]?=some (.cells arr B.ty (0,0)))(e:isM B.box B.ty=false):Cont w b B arr:=⟨λ_=>h,λh2=>by rw[e]at h2;cases h2⟩
def BlkOk (w:World)(vs:Shp)(m:MM)(B:Blk):Option Nat->Prop
 | none=>B.els=[]/\B.box=false
 | some b=>∃arr:Array Value,Cont w b B arr/\B.els.length*B.sz<=arr.size /\
   ∀(k:Nat) (e:List AV),B.els[k]?=some e->e.length=B.sz/\∀(j:Nat) (x:AV),e[j]?=some x->∃v,arr[k*B.sz+j]?=some v/\(isM B.box B.ty=false->v.oneCell'=true)/\RV w vs m x v
structure Mem (N:Nat)(w:World)(η:Nat->Ent)(m:MM):Prop where
 ok:∀i B,(η i).blk=some B->BlkOk w (shp η) m B (m i)
 inj:∀i i' b,(η i).blk≠none->(η i').blk≠none->m i=some b->m i'=some b->i=i'
 low:∀i b,(η i).blk≠none->m i=some b->N<=b
 sep:∀i b,(η i).blk≠none->m i=some b->¬ m.O b
 olt:∀b,m.O b->b<w.heap.size/\N<=b
 big:N<=w.heap.size
structure XX where
 X:Nat->Prop
 O:Nat->Prop
 ks:Nat->Prop
 M:Nat->Option Nat
instance : CoeFun XX (λ_=>Nat->Prop):=⟨XX.X⟩
structure Kin (w0:World)(X:Nat->Prop)(w:World):Prop where
 os:w.os=w0.os
 tape:w.tape=w0.tape
 output:w.output=w0.output
 size:w0.heap.size<=w.heap.size
 block:∀b,b<w0.heap.size->¬ X b->w.heap[b]?=w0.heap[b]?
structure Rep (C:Cx)(n:Nat)(w0:World)(X:XX)(τ:Nat->AV)(η:Nat->Ent)(m:MM)(a:Act)(w:World):Prop where
 tm:∀t,RV w (shp η) m (τ t) (a.tmps.getD t undef)
 sz:a.tmps.size=n
 df:a.defers=[]
 mem:Mem C.N w η m
 kin:Kin w0 X.X w
 oo:m.O=X.O
 own:∀i b,(η i).blk≠none->m i=some b->X b\/w0.heap.size<=b
 gl:C.Gl w
 kk:∀i,X.ks i->n<=i/\(η i).blk≠none/\m i=X.M i/\∀b,m i=some b->w.shape? b=w0.shape? b
def evA (τ:Nat->AV):Operand->AV
 | .tmp t=>τ t
 | .const v=>.c v
 | .global g=>.c (.pointer (some ⟨g,0,none⟩))
 | .func f=>.clo (.func f) [] []
theorem Rep.ev {C:Cx}{n:Nat}{w0:World}{X:XX}{τ:Nat->AV}{η:Nat->Ent}{m:MM}{a:Act}{w:World}(h:Rep C n w0 X τ η m a w)(x:Operand):RV w (shp η) m (evA τ x) (a.eval x):=by
 rcases x with t|v|g|f
 ·exact h.tm t
 ·exact .c v
 ·exact .c _
 ·exact .clo rfl (λj x u hx=>by simp at hx) rfl (λj x u hx=>by simp at hx)
def Zss (τ:Nat->AV):Option Tmp->AV->Nat->AV
 | none,_=>τ
 | some d,x=>λt=>if t=d then x else τ t
def Zeo (η:Nat->Ent)(i:Nat)(e:Ent):Nat->Ent:=λk=>if k=i then e else η k
def InB (n:Nat):Option Tmp->Prop
 | none=>True
 | some d=>d<n
theorem Rep.put {C:Cx}{n:Nat}{w0:World}{X:XX}{τ:Nat->AV}{η:Nat->Ent}{m:MM}{a:Act}{w:World}(h:Rep C n w0 X τ η m a w){d:Option Tmp}(hd:InB n d){x:AV}{v:Value}(hx:RV w (shp η) m x v) :
  Rep C n w0 X (Zss τ d x) η m (a.put d v) w:=by
 cases d with
 | none=>exact h
 | some d =>
  refine⟨λt=>?_,by simp[Act.put,h.sz],h.df,h.mem,h.kin,h.oo,h.own,h.gl,h.kk⟩
  have hd':d<a.tmps.size:=by rw[h.sz];exact hd
  by_cases ht:t=d
  ·subst ht
   simpa [Zss,Act.put,hd'] using hx
  ·have:=h.tm t
   simp only[Zss,ht,if_false,Act.put]
   rw[aD_]at this ⊢
   rw[Array.getElem?_setIfInBounds_ne (λe=>ht e.symm)]
   exact this
def Step (C:Cx)(n:Nat)(o:Oper)(τ:Nat->AV)(η:Nat->Ent)(τ':Nat->AV)(η':Nat->Ent):Prop :=
 ∀w0 X m a w,Rep C n w0 X τ η m a w->o.wp C.P a w (λa' w'=>∃m',Rep C n w0 X τ' η' m' a' w') (λ_ _ _=>False)
theorem Zapx {C:Cx}{n:Nat}{o:Oper}{τ:Nat->AV}{η:Nat->Ent}{x:AV}(hd:InB n o.dst)
  (h:∀w0 X m a w,Rep C n w0 X τ η m a w->∃v,(execOp a.eval o).run C.P w=.ok (.value v) w/\RV w (shp η) m x v):Step C n o τ η (Zss τ o.dst x) η:=by
 intro w0 X m a w hr
 obtain⟨v,h1,h2⟩:=h w0 X m a w hr
 unfold Oper.wp
 rw[h1]
 exact⟨m,hr.put hd h2⟩
theorem Rep.drew {C:Cx}{n:Nat}{w0:World}{X:XX}{τ:Nat->AV}{η:Nat->Ent}{m:MM}{a:Act}{w:World}(h:Rep C n w0 X τ η m a w)(k:Nat):Rep C n w0 X τ η m a { w with drawn:=k }:=by
 have hm:Mono w (shp η) m { w with drawn:=k } (shp η) m:=⟨Nat.le_refl _,λ_ _ _=>rfl,λ_ _ h=>h,λ_=>Nat.le_refl _,λ_ _=>⟨rfl,λ_=>⟨rfl,λ_ _=>rfl⟩⟩⟩
 refine⟨λt=>(h.tm t).mono hm,h.sz,h.df,⟨λi B hB=>?_,h.mem.inj,h.mem.low,h.mem.sep,h.mem.olt,h.mem.big⟩,⟨h.kin.os,h.kin.tape,h.kin.output,h.kin.size,h.kin.block⟩,h.oo,h.own,C.keep w _ (λ_ _=>rfl) h.gl,h.kk⟩
 have:=h.mem.ok i B hB
 cases hmi:m i with
 | none=>rw[hmi]at this;exact this
 | some b =>
  rw[hmi]at this
  obtain⟨arr,h1,h2,h3⟩:=this
  refine⟨arr,h1,h2,λk e he=>⟨(h3 k e he).1,λj x hx=>?_⟩⟩
  obtain⟨v,e1,e2,e3⟩:=(h3 k e he).2 j x hx
  exact⟨v,e1,e2,e3.mono hm⟩
section
variable {C : Cx} {n : Nat} {w0 : World} {X : XX} {τ : Nat -> AV} {η : Nat -> Ent} {m : MM} {a : Act} {w : World}
theorem Zau {η:Nat->Ent}{i:Nat}:((shp η) i).2≠none↔(η i).blk≠none:=by
 unfold shp
 cases (η i).blk <;> simp
theorem Rep.move {w':World}{η':Nat->Ent}{m':MM}(h:Rep C n w0 X τ η m a w)(hm:Mono w (shp η) m w' (shp η') m')(hmem:Mem C.N w' η' m')(hk:Kin w0 X.X w')(hoo:m'.O=m.O)
  (hown:∀i b,(η' i).blk≠none->m' i=some b->X b\/w0.heap.size<=b) (hver:∀i,n<=i->(η' i).ver=(η i).ver):Rep C n w0 X τ η' m' a w':=by
 refine⟨λt=>(h.tm t).mono hm,h.sz,h.df,hmem,hk,hoo.trans h.oo,hown,C.keep w _ (λb hb=>hm.cells b (Nat.lt_of_lt_of_le hb h.mem.big) ?_) h.gl,λi hi=>?_⟩
 ·rintro(h1|⟨i,h1,h2⟩)
  ·have:=(h.mem.olt b h1).2
   omega
  have:=h.mem.low i b (Zau.1 h1) h2
  omega
 ·obtain⟨k1,k2,k3,k4⟩:=h.kk i hi
  obtain⟨e1,e2⟩:=hm.same i (hver i k1)
  obtain⟨e3,e4⟩:=e2 (Zau.2 k2)
  refine⟨k1,Zau.1 (by rw[e1];exact Zau.2 k2),by rw[e3,k3],λb hb=>?_⟩
  rw[e3]at hb
  rw[e4 b hb,k4 b hb]
theorem BlkOk.mono {w w':World}{vs vs':Shp}{m m':MM}{B:Blk}{o:Option Nat}(h:BlkOk w vs m B o)(hm:Mono w vs m w' vs' m')(hk:∀b,o=some b->w'.heap[b]?=w.heap[b]?):BlkOk w' vs' m' B o:=by
 cases o with
 | none=>exact h
 | some b =>
  obtain⟨arr,h1,h2,h3⟩:=h
  refine⟨arr,h1.mono (hk b rfl),h2,λk e he=>⟨(h3 k e he).1,λj x hx=>?_⟩⟩
  obtain⟨v,e1,e2,e3⟩:=(h3 k e he).2 j x hx
  exact⟨v,e1,e2,e3.mono hm⟩
theorem Mem.upd {N:Nat}{w w':World}{η:Nat->Ent}{m m':MM}{i:Nat}{e':Ent}(h:Mem N w η m)(hm:Mono w (shp η) m w' (shp (Zeo η i e')) m')
  (hoth:∀i',i'≠i->m' i'=m i') (hkeep:∀i' b,i'≠i->(η i').blk≠none->m i'=some b->w'.heap[b]?=w.heap[b]?)
  (hnew:∀B,e'.blk=some B->BlkOk w' (shp (Zeo η i e')) m' B (m' i))
  (hinj:∀i' b,i'≠i->(η i').blk≠none->m i'=some b->e'.blk≠none->m' i≠some b) (hlow:∀b,e'.blk≠none->m' i=some b->N<=b) (hO:m'.O=m.O) (hsep:∀b,e'.blk≠none->m' i=some b->¬ m.O b):Mem N w' (Zeo η i e') m':=by
 have hu:∀i',i'≠i->Zeo η i e' i'=η i':=λi' hi=>by simp[Zeo,hi]
 have hs:Zeo η i e' i=e':=by simp[Zeo]
 refine⟨λi' B hB=>?_,λi1 i2 b h1 h2 h3 h4=>?_,λi' b h1 h2=>?_,λi' b h1 h2=>?_,λb hb=>?_,Nat.le_trans h.big hm.size⟩
 ·by_cases hi:i'=i
  ·subst hi;rw[hs]at hB;exact hnew B hB
  ·rw[hu i' hi]at hB
   rw[hoth i' hi]
   exact(h.ok i' B hB).mono hm (λb hb=>hkeep i' b hi (by rw[hB];simp) hb)
 ·by_cases e1:i1=i <;> by_cases e2:i2=i
  ·rw[e1,e2]
  ·subst e1;rw[hs]at h1;rw[hu i2 e2]at h2;rw[hoth i2 e2]at h4
   exact absurd h3 (hinj i2 b e2 h2 h4 h1)
  ·subst e2;rw[hs]at h2;rw[hu i1 e1]at h1;rw[hoth i1 e1]at h3
   exact absurd h4 (hinj i1 b e1 h1 h3 h2)
  ·rw[hu i1 e1]at h1;rw[hu i2 e2]at h2;rw[hoth i1 e1]at h3;rw[hoth i2 e2]at h4
   exact h.inj i1 i2 b h1 h2 h3 h4
 ·by_cases hi:i'=i
  ·subst hi;rw[hs]at h1;exact hlow b h1 h2
  ·rw[hu i' hi]at h1;rw[hoth i' hi]at h2;exact h.low i' b h1 h2
 ·rw[hO]
  by_cases hi:i'=i
  ·subst hi;rw[hs]at h1;exact hsep b h1 h2
  ·rw[hu i' hi]at h1;rw[hoth i' hi]at h2;exact h.sep i' b h1 h2
 ·rw[hO]at hb
  obtain⟨a1,a2⟩:=h.olt b hb
  exact⟨Nat.lt_of_lt_of_le a1 hm.size,a2⟩
theorem Mem.lt {N:Nat}{w:World}{η:Nat->Ent}{m:MM}(h:Mem N w η m){i b:Nat}(hi:(η i).blk≠none)(hb:m i=some b):b<w.heap.size:=by
 cases hB:(η i).blk with
 | none=>exact absurd hB hi
 | some B =>
  have:=h.ok i B hB
  rw[hb]at this
  obtain⟨arr,h1,_⟩:=this
  exact h1.lt
def Flat (w:World)(vs:Shp)(m:MM)(sz:Nat)(els:List (List AV))(arr:Array Value):Prop :=
 els.length*sz<=arr.size/\∀(k:Nat) (e:List AV),els[k]?=some e->e.length=sz/\∀(j:Nat) (x:AV),e[j]?=some x->∃v,arr[k*sz+j]?=some v/\v.oneCell'=true/\RV w vs m x v
def newM (m:MM)(i:Nat)(b:Option Nat):MM:=⟨λk=>if k=i then b else m k,m.O⟩
theorem Zet (m:MM)(i:Nat)(b:Option Nat):newM m i b i=b:=by simp[newM]
theorem Zkw (m:MM){i k:Nat}(b:Option Nat)(h:k≠i):newM m i b k=m k:=by simp[newM,h]
theorem Zama {N:Nat}{w:World}{η:Nat->Ent}{m:MM}(hmem:Mem N w η m){i:Nat}{e':Ent}{w':World}(hg:w.grownBy w' none)(hv:(η i).ver<e'.ver){b':Option Nat}(hb':∀b,b'=some b->w.heap.size<=b) :
  Mono w (shp η) m w' (shp (Zeo η i e')) (newM m i b'):=by
 refine⟨hg.size,λb hb _=>hg.block b hb (by simp),λb hb ho=>?_,λk=>?_,λk hk=>?_⟩
 ·rintro(h1|⟨k,h1,h2⟩)
  ·exact ho (.inl h1)
  by_cases hk:k=i
  ·subst hk;rw[Zet]at h2;have:=hb' b h2;omega
  ·rw[Zkw _ _ hk]at h2
   exact ho (.inr ⟨k,by simpa [shp,Zeo,hk] using h1,h2⟩)
 ·by_cases hk:k=i
  ·subst hk;simp only[shp,Zeo,if_true];omega
  ·simp[shp,Zeo,hk]
 ·by_cases hki:k=i
  ·subst hki;simp only[shp,Zeo,if_true]at hk;omega
  ·refine⟨by simp[shp,Zeo,hki],λhl=>⟨Zkw _ _ hki,λb hb=>?_⟩⟩
   unfold World.shape?
   rw[hg.block b (hmem.lt (Zau.1 hl) hb) (by simp)]
theorem Kin.grown {w':World}{row:Option Nat}(h:Kin w0 X.X w)(hg:w.grownBy w' row)(hr:∀b,row=some b->X b\/w0.heap.size<=b):Kin w0 X.X w':=by
 refine⟨hg.os.trans h.os,hg.tape.trans h.tape,hg.output.trans h.output,Nat.le_trans h.size hg.size,λb hb hx=>?_⟩
 rw[hg.block b (Nat.lt_of_lt_of_le hb h.size) (λe=>?_),h.block b hb hx]
 rcases hr b e.symm with h1|h1
 ·exact hx h1
 ·omega
theorem Flat.mono {w w':World}{vs vs':Shp}{m m':MM}{sz:Nat}{els:List (List AV)}{arr:Array Value}(h:Flat w vs m sz els arr)(hm:Mono w vs m w' vs' m'):Flat w' vs' m' sz els arr:=by
 refine⟨h.1,λk e he=>⟨(h.2 k e he).1,λj x hx=>?_⟩⟩
 obtain⟨v,e1,e2,e3⟩:=(h.2 k e he).2 j x hx
 exact⟨v,e1,e2,e3.mono hm⟩
theorem Rep.fresh (h:Rep C n w0 X τ η m a w){i ver:Nat}{B:Blk}(hM:isM B.box B.ty=false)(hin:i<n)(hv:(η i).ver<ver){arr:Array Value}(hf:Flat w (shp η) m B.sz B.els arr) :
  Rep C n w0 X τ (Zeo η i ⟨ver,some B⟩) (newM m i (some w.heap.size)) a (w.alloc (.cells arr B.ty)):=by
 have hg:=World.grownBy_alloc w (.cells arr B.ty) none
 have hm:Mono w (shp η) m (w.alloc (.cells arr B.ty)) (shp (Zeo η i ⟨ver,some B⟩)) (newM m i (some w.heap.size)):=Zama h.mem hg hv (λb e=>by injection e with e;omega)
 refine h.move hm (h.mem.upd hm (λi' hi=>Zkw _ _ hi) (λi' b _ hl hb=>hg.block b (h.mem.lt hl hb) (by simp)) (λB' hB'=>?_) (λi' b _ hl hb _=>?_) (λb _ hb=>?_) rfl (λb _ hb ho=>?_)) (h.kin.grown hg (λb e=>by cases e)) rfl (λi' b hl hb=>?_) (λk hk=>by simp[Zeo,show k≠i from by omega])
 ·injection hB' with hB'
  subst hB'
  rw[Zet]
  exact⟨arr,.cells (heap_alloc_new w _) hM,(hf.mono hm).1,λk e he=>⟨((hf.mono hm).2 k e he).1,λj x hx=>let ⟨v,e1,e2,e3⟩:=((hf.mono hm).2 k e he).2 j x hx;⟨v,e1,λ_=>e2,e3⟩⟩⟩
 ·rw[Zet]
  intro e
  injection e with e
  have:=h.mem.lt hl hb
  omega
 ·rw[Zet]at hb
  injection hb with hb
  have:=h.mem.big
  omega
 ·rw[Zet]at hb
  injection hb with hb
  have:=(h.mem.olt b ho).1
  omega
 ·by_cases hi:i'=i
  ·subst hi
   rw[Zet]at hb
   injection hb with hb
   have:=h.kin.size
   exact .inr (by omega)
  ·rw[Zkw _ _ hi]at hb
   exact h.own i' b (by simpa [Zeo,hi] using hl) hb
theorem Zapi {η:Nat->Ent}{i ver:Nat}{B B':Blk}(hi:η i=⟨ver,some B⟩)(hs:B'.sz=B.sz):shp (Zeo η i ⟨ver,some B'⟩)=shp η:=by
 funext k
 by_cases hk:k=i
 ·subst hk;simp[shp,Zeo,hi,hs]
 ·simp[shp,Zeo,hk]
theorem Rep.write (h:Rep C n w0 X τ η m a w){i ver b:Nat}{B:Blk}{els':List (List AV)}{arr arr':Array Value}(hM:isM B.box B.ty=false)(hi:η i=⟨ver,some B⟩)(hb:m i=some b)(hh:w.heap[b]?=some (.cells arr B.ty (0,0)))
  (hsz:arr'.size=arr.size) (hf:Flat w (shp η) m B.sz els' arr'):Rep C n w0 X τ (Zeo η i ⟨ver,some { B with els:=els' }⟩) m a (w.setRow b arr'):=by
 have hl:(η i).blk≠none:=by rw[hi];simp
 have hg:=Zx9 w b arr'
 have hs:shp (Zeo η i ⟨ver,some { B with els:=els' }⟩)=shp η:=Zapi hi rfl
 have hsh:∀b',(w.setRow b arr').shape? b'=w.shape? b':=by
  intro b'
  unfold World.shape?
  by_cases e:b'=b
  ·subst e;rw[setRow_heap w b' arr arr' B.ty (0,0) hh,hh];simp[hsz]
  ·rw[setRow_other w b b' arr' e]
 have hm:Mono w (shp η) m (w.setRow b arr') (shp (Zeo η i ⟨ver,some { B with els:=els' }⟩)) m:=by
  rw[hs]
  refine⟨hg.size,λb' hb' ho=>hg.block b' hb' (λe=>?_),λ_ _ h=>h,λ_=>Nat.le_refl _,λ_ _=>⟨rfl,λ_=>⟨rfl,λb' _=>hsh b'⟩⟩⟩
  injection e with e
  subst e
  exact ho (.inr ⟨i,Zau.2 hl,hb⟩)
 refine h.move hm (h.mem.upd hm (λ_ _=>rfl) (λi' b' hi' hl' hb'=>hg.block b' (h.mem.lt hl' hb') (λe=>?_)) (λB' hB'=>?_) (λi' b' hi' hl' hb' _ e=>?_) (λb' _ hb'=>h.mem.low i b' hl hb') rfl (λb' _ hb'=>h.mem.sep i b' hl hb')) (h.kin.grown hg (λb' e=>?_)) rfl (λi' b' hl' hb'=>?_) (λk _=>by by_cases e:k=i <;> simp[Zeo,e,hi])
 ·injection e with e
  subst e
  exact hi' (h.mem.inj i' i b' hl' hl hb' hb)
 ·injection hB' with hB'
  subst hB'
  rw[hb]
  exact⟨arr',.cells (setRow_heap w b arr arr' B.ty (0,0) hh) hM,(hf.mono hm).1,λk e he=>⟨((hf.mono hm).2 k e he).1,λj x hx=>let ⟨v,e1,e2,e3⟩:=((hf.mono hm).2 k e he).2 j x hx;⟨v,e1,λ_=>e2,e3⟩⟩⟩
 ·exact hi' (h.mem.inj i' i b' hl' hl hb' e)
 ·injection e with e
  subst e
  exact h.own i b hl hb
 ·by_cases e:i'=i
  ·subst e;exact h.own i' b' hl hb'
  ·exact h.own i' b' (by simpa [Zeo,e] using hl') hb'
theorem BlkOk.cellsF {w:World}{vs:Shp}{m:MM}{B:Blk}{b:Nat}(h:BlkOk w vs m B (some b))(hM:isM B.box B.ty=false):∃arr:Array Value,w.heap[b]?=some (.cells arr B.ty (0,0))/\B.els.length*B.sz<=arr.size /\
  ∀(k:Nat) (e:List AV),B.els[k]?=some e->e.length=B.sz/\∀(j:Nat) (x:AV),e[j]?=some x->∃v,arr[k*B.sz+j]?=some v/\v.oneCell'=true/\RV w vs m x v:=by
 obtain⟨arr,h1,h2,h3⟩:=h
 exact⟨arr,h1.1 hM,h2,λk e he=>⟨(h3 k e he).1,λj x hx=>let ⟨v,e1,e2,e3⟩:=(h3 k e he).2 j x hx;⟨v,e1,e2 hM,e3⟩⟩⟩
theorem BlkOk.unmap {w:World}{vs:Shp}{m:MM}{B:Blk}{b:Nat}(h:BlkOk w vs m B (some b)){q:TypeId×Nat}(hs:w.shape? b=some q):∃arr:Array Value,w.heap[b]?=some (.cells arr B.ty (0,0))/\B.els.length*B.sz<=arr.size /\
  ∀(k:Nat) (e:List AV),B.els[k]?=some e->e.length=B.sz/\∀(j:Nat) (x:AV),e[j]?=some x->∃v,arr[k*B.sz+j]?=some v/\v.oneCell'=true/\RV w vs m x v:=by
 cases e:isM B.box B.ty with
 | false=>exact h.cellsF e
 | true =>
  obtain⟨arr,h1,_⟩:=h
  have:=h1.shape hs
  obtain⟨es,c,h4,_⟩:=h1.2 e
  rw[h4]at this
  cases this
theorem Zmq {k k' j sz:Nat}(h:k'<k)(hj:j<sz):k'*sz+j<k*sz:=by
 have:=Nat.mul_le_mul_right sz (Nat.succ_le_of_lt h)
 rw[Nat.succ_mul]at this
 omega
theorem Flat.store {w:World}{vs:Shp}{m:MM}{sz k j:Nat}{els:List (List AV)}{e xs:List AV}{arr:Array Value}{us:List Value}(h:Flat w vs m sz els arr)(he:els[k]?=some e)(hj:j+xs.length<=sz)
  (hl:xs.length=us.length) (hr:∀(t:Nat) (x:AV),xs[t]?=some x->∃u,us[t]?=some u/\u.oneCell'=true/\RV w vs m x u) :
  Flat w vs m sz (els.set k (e.take j++xs++e.drop (j+xs.length))) (arr.toList.take (k*sz+j)++us++arr.toList.drop (k*sz+j+us.length)).toArray /\
   k*sz+j+us.length<=arr.size/\(arr.toList.take (k*sz+j)++us++arr.toList.drop (k*sz+j+us.length)).toArray.size=arr.size:=by
 have hk:k<els.length:=(gS_.1 he).1
 have hlen:e.length=sz:=(h.2 k e he).1
 have hroom:k*sz+sz<=arr.size:=by
  have h1:=Nat.mul_le_mul_right sz (Nat.succ_le_of_lt hk)
  rw[Nat.succ_mul]at h1
  have:=h.1
  omega
 have hs:(arr.toList.take (k*sz+j)++us++arr.toList.drop (k*sz+j+us.length)).toArray.size=arr.size:=by simp;omega
 refine⟨⟨by rw[List.length_set,hs];exact h.1,λk' e' he'=>?_⟩,by omega,hs⟩
 have hget:∀p,(arr.toList.take (k*sz+j)++us++arr.toList.drop (k*sz+j+us.length)).toArray[p]?=if p<k*sz+j then arr[p]? else if p<k*sz+j+us.length then us[p-(k*sz+j)]? else arr[p]?:=by
  intro p
  have ht:(arr.toList.take (k*sz+j)).length=k*sz+j:=by simp;omega
  rw[List.getElem?_toArray]
  by_cases h1:p<k*sz+j
  ·rw[if_pos h1,List.append_assoc,List.getElem?_append_left (by omega),List.getElem?_take,if_pos h1];simp
  ·rw[if_neg h1]
   by_cases h2:p<k*sz+j+us.length
   ·rw[if_pos h2,List.append_assoc,List.getElem?_append_right (by omega),ht,List.getElem?_append_left (by omega)]
   ·rw[if_neg h2,List.getElem?_append_right (by simp;omega),List.getElem?_drop]
    have:(arr.toList.take (k*sz+j)++us).length=k*sz+j+us.length:=by rw[lA_,ht]
    rw[this,show k*sz+j+us.length+(p-(k*sz+j+us.length))=p from by omega]
    simp
 by_cases hkk:k'=k
 ·subst hkk
  rw[List.getElem?_set_self hk]at he'
  injection he' with he'
  subst he'
  refine⟨by simp;omega,λt x hx=>?_⟩
  rw[hget]
  have ht:(e.take j).length=j:=by simp;omega
  by_cases h1:t<j
  ·rw[if_pos (by omega)]
   rw[List.append_assoc,List.getElem?_append_left (by omega),List.getElem?_take,if_pos h1]at hx
   exact(h.2 k' e he).2 t x hx
  ·rw[if_neg (by omega)]
   by_cases h2:t<j+xs.length
   ·rw[if_pos (by omega)]
    rw[List.append_assoc,List.getElem?_append_right (by omega),ht,List.getElem?_append_left (by omega)]at hx
    obtain⟨u,u1,u2,u3⟩:=hr _ x hx
    exact⟨u,by rw[show k'*sz+t-(k'*sz+j)=t-j from by omega];exact u1,u2,u3⟩
   ·rw[if_neg (by omega)]
    rw[List.getElem?_append_right (by simp;omega),List.getElem?_drop]at hx
    have hq:(e.take j++xs).length=j+xs.length:=by rw[lA_,ht]
    rw[hq,show j+xs.length+(t-(j+xs.length))=t from by omega]at hx
    exact(h.2 k' e he).2 t x hx
 ·rw[List.getElem?_set_ne (λe=>hkk e.symm)]at he'
  refine⟨(h.2 k' e' he').1,λt x hx=>?_⟩
  have ht:t<sz:=by rw[<-(h.2 k' e' he').1];exact(gS_.1 hx).1
  rw[hget]
  rcases Nat.lt_or_gt_of_ne hkk with hlt|hgt
  ·rw[if_pos (by have:=Zmq hlt ht;omega)]
   exact(h.2 k' e' he').2 t x hx
  ·have h0:=Nat.mul_le_mul_right sz (Nat.succ_le_of_lt hgt)
   rw[Nat.succ_mul]at h0
   rw[if_neg (by omega),if_neg (by omega)]
   exact(h.2 k' e' he').2 t x hx
end
section
variable {C : Cx} {n : Nat} {w0 : World} {X : XX} {τ : Nat -> AV} {η : Nat -> Ent} {m : MM} {a : Act} {w : World}
theorem Rep.rowed (h:Rep C n w0 X τ η m a w){i ver' E sz len':Nat}{v v':Value}{w':World}{els':List (List AV)}{cells':List Value}(hin:i<n)(hsrc:v.ownBlock=none\/((η i).blk≠none/\m i=v.ownBlock))
  (hver:(η i).ver<ver') (hrow':w'.ownsRow 0 E sz v' len' cells') (hg:w.grownBy w' v.ownBlock) (hb':v'.ownBlock=v.ownBlock\/v'.ownBlock=some w.heap.size) (hf:Flat w (shp η) m sz els' cells'.toArray) (hl:els'.length=len') :
  Rep C n w0 X τ (Zeo η i ⟨ver',some ⟨E,sz,false,els'⟩⟩) (newM m i v'.ownBlock) a w'/\RV w' (shp (Zeo η i ⟨ver',some ⟨E,sz,false,els'⟩⟩)) (newM m i v'.ownBlock) (.own i ver' 0 len') v':=by
 have hvi:∀b,v.ownBlock=some b->(η i).blk≠none/\m i=some b:=λb hb=>by
  rcases hsrc with h1|⟨h1,h2⟩
  ·rw[h1]at hb;cases hb
  ·exact⟨h1,by rw[h2,hb]⟩
 have hother:∀i' b,i'≠i->(η i').blk≠none->m i'=some b->w'.heap[b]?=w.heap[b]?:=λi' b hi' hl' hb=>hg.block b (h.mem.lt hl' hb) (λe=>by
  obtain⟨h1,h2⟩:=hvi b e.symm
  exact hi' (h.mem.inj i' i b hl' h1 hb h2))
 have hm:Mono w (shp η) m w' (shp (Zeo η i ⟨ver',some ⟨E,sz,false,els'⟩⟩)) (newM m i v'.ownBlock):=by
  refine⟨hg.size,λb hb ho=>hg.block b hb (λe=>?_),λb hb ho=>?_,λk=>?_,λk hk=>?_⟩
  ·obtain⟨h1,h2⟩:=hvi b e.symm
   exact ho (.inr ⟨i,Zau.2 h1,h2⟩)
  ·rintro(h1|⟨k,h1,h2⟩)
   ·exact ho (.inl h1)
   by_cases hk:k=i
   ·subst hk
    rw[Zet]at h2
    rcases hb' with e|e
    ·obtain⟨h3,h4⟩:=hvi b (by rw[<-e,h2])
     exact ho (.inr ⟨k,Zau.2 h3,h4⟩)
    ·rw[e]at h2;injection h2 with h2;omega
   ·rw[Zkw _ _ hk]at h2
    exact ho (.inr ⟨k,by simpa [shp,Zeo,hk] using h1,h2⟩)
  ·by_cases hk:k=i
   ·subst hk;simp only[shp,Zeo,if_true];omega
   ·simp[shp,Zeo,hk]
  ·by_cases hki:k=i
   ·subst hki;simp only[shp,Zeo,if_true]at hk;omega
   ·refine⟨by simp[shp,Zeo,hki],λhl=>⟨Zkw _ _ hki,λb hb=>?_⟩⟩
    unfold World.shape?
    rw[hother k b hki (Zau.1 hl) hb]
 have hblk:∀b,v'.ownBlock=some b->X b\/w0.heap.size<=b:=λb hb=>by
  rcases hb' with e|e
  ·obtain⟨h1,h2⟩:=hvi b (by rw[<-e,hb])
   exact h.own i b h1 h2
  ·rw[e]at hb;injection hb with hb;have:=h.kin.size;exact .inr (by omega)
 have hR:Rep C n w0 X τ (Zeo η i ⟨ver',some ⟨E,sz,false,els'⟩⟩) (newM m i v'.ownBlock) a w':=by
  refine h.move hm (h.mem.upd hm (λi' hi=>Zkw _ _ hi) hother (λB hB=>?_) (λi' b hi' hl' hb2 _=>?_) (λb _ hb=>?_) rfl (λb _ hb ho=>?_)) (h.kin.grown hg (λb e=>?_)) rfl (λi' b hl' hb=>?_) (λk hk=>by simp[Zeo,show k≠i from by omega])
  ·injection hB with hB
   subst hB
   rw[Zet]
   rcases hrow'.2 with⟨rfl,h0⟩|⟨g,cap,cur,rfl,_,hh,hnc,_,hcs,htake⟩
   ·exact⟨List.length_eq_zero_iff.1 (by show els'.length=0;omega),rfl⟩
   ·have hf':=hf.mono hm
    have hlen:=hrow'.1
    refine⟨cur,.cells hh rfl,?_,λk e he=>⟨(hf'.2 k e he).1,λj x hx=>?_⟩⟩
    ·simp only
     rw[hcs,hl]
     exact Nat.mul_le_mul_right _ hnc
    ·obtain⟨u,u1,u2,u3⟩:=(hf'.2 k e he).2 j x hx
     refine⟨u,?_,λ_=>u2,u3⟩
     rw[List.getElem?_toArray,<-htake,List.getElem?_take]at u1
     split at u1
     ·simpa using u1
     ·cases u1
  ·rw[Zet]
   intro e
   rcases hb' with e1|e1
   ·obtain⟨h1,h2⟩:=hvi b (by rw[<-e1,e])
    exact hi' (h.mem.inj i' i b hl' h1 hb2 h2)
   ·rw[e1]at e;injection e with e;have:=h.mem.lt hl' hb2;omega
  ·rw[Zet]at hb
   rcases hb' with e1|e1
   ·obtain⟨h1,h2⟩:=hvi b (by rw[<-e1,hb])
    exact h.mem.low i b h1 h2
   ·rw[e1]at hb;injection hb with hb;have:=h.mem.big;omega
  ·rw[Zet]at hb
   rcases hb' with e1|e1
   ·obtain⟨h1,h2⟩:=hvi b (by rw[<-e1,hb])
    exact h.mem.sep i b h1 h2 ho
   ·rw[e1]at hb;injection hb with hb;have:=(h.mem.olt b ho).1;omega
  ·obtain⟨h1,h2⟩:=hvi b e
   exact h.own i b h1 h2
  ·by_cases hi:i'=i
   ·subst hi;rw[Zet]at hb;exact hblk b hb
   ·rw[Zkw _ _ hi]at hb
    exact h.own i' b (by simpa [Zeo,hi] using hl') hb
 refine⟨hR,?_⟩
 have hvs:(shp (Zeo η i ⟨ver',some ⟨E,sz,false,els'⟩⟩)) i=(ver',some sz):=by simp[shp,Zeo]
 rcases hrow'.2 with⟨rfl,h0⟩|⟨g,cap,cur,rfl,_,hh,hnc,hmx,hcs,_⟩
 ·subst h0
  exact .ownN hvs (by rw[Zet];rfl)
 ·have:=RV.own (w:=w') (vs:=shp (Zeo η i ⟨ver',some ⟨E,sz,false,els'⟩⟩)) (m:=newM m i (Value.slice (some ⟨g,0,none⟩) len' cap).ownBlock) (i:=i) (ver:=ver') (k:=0) (b:=g) (ty:=E) (n:=cur.size) hvs (by rw[Zet];rfl) hnc hmx (by simp[World.shape?,hh]) (by rw[Nat.zero_add,hcs])
  simpa using this
theorem Zq7 {i ver len:Nat}{v:Value}{B:Blk}(hv:RV w (shp η) m (.own i ver 0 len) v)(hi:η i=⟨ver,some B⟩)(hok:BlkOk w (shp η) m B (m i))(hl:B.els.length=len) :
  ∃xs,w.ownsRow 0 B.ty B.sz v len xs/\Flat w (shp η) m B.sz B.els xs.toArray/\m i=v.ownBlock:=by
 have hs:(shp η) i=(ver,some B.sz):=by simp[shp,hi]
 have aux:∀(k:Nat),RV w (shp η) m (.own i ver k len) v->k=0->∃xs,w.ownsRow 0 B.ty B.sz v len xs/\Flat w (shp η) m B.sz B.els xs.toArray/\m i=v.ownBlock:=by
  intro k hk h0
  cases hk with
  | ownS h1=>rw[hs]at h1;simp at h1
  | ownN h1 h2 =>
   rw[h2]at hok
   refine⟨[],⟨by simp,.inl ⟨rfl,rfl⟩⟩,⟨by rw[hok.1];simp,λk e he=>by rw[hok.1]at he;simp at he⟩,by rw[h2];rfl⟩
  | ownZ h1=>omega
  | @own _ _ sz b _ _ cap ty nn h1 h2 h3 h4 h5 h6 =>
   subst h0
   rw[hs]at h1
   injection h1 with _ h1
   injection h1 with h1
   subst h1
   rw[h2]at hok
   obtain⟨arr,a1,a2,a3⟩:=hok.unmap h5
   have h7:arr.size=cap*B.sz:=by
    simp only[World.shape?,a1]at h5
    injection h5 with h5
    injection h5 with _ h5
    rw[Nat.zero_add]at h6
    omega
   refine⟨arr.toList.take (len*B.sz),⟨by have:=Nat.mul_le_mul_right B.sz h3;simp;omega,.inr ⟨b,cap,arr,by simp,Nat.zero_le _,a1,h3,h4,h7,rfl⟩⟩,⟨by have:=Nat.mul_le_mul_right B.sz h3;simp[hl];omega,λk e he=>⟨(a3 k e he).1,λj x hx=>?_⟩⟩,by rw[h2];rfl⟩
   obtain⟨u,u1,u2,u3⟩:=(a3 k e he).2 j x hx
   refine⟨u,?_,u2,u3⟩
   have hj:j<B.sz:=by rw[<-(a3 k e he).1];exact(gS_.1 hx).1
   have hk:=Zmq (gS_.1 he).1 hj
   rw[List.getElem?_toArray,List.getElem?_take,if_pos (by rw[hl]at hk;exact hk)]
   simpa using u1
 exact aux 0 hv rfl
theorem Flat.append {w:World}{vs:Shp}{m:MM}{sz:Nat}{A B:List (List AV)}{xs ys:List Value}(h1:Flat w vs m sz A xs.toArray)(h2:Flat w vs m sz B ys.toArray)(hx:xs.length=A.length*sz):Flat w vs m sz (A++B) (xs++ys).toArray:=by
 refine⟨by have:=h2.1;simp at this;simp[Nat.add_mul];omega,λk e he=>?_⟩
 rcases Nat.lt_or_ge k A.length with hk|hk
 ·rw[List.getElem?_append_left hk]at he
  refine⟨(h1.2 k e he).1,λj x hx'=>?_⟩
  obtain⟨u,u1,u2,u3⟩:=(h1.2 k e he).2 j x hx'
  have hj:j<sz:=by rw[<-(h1.2 k e he).1];exact(gS_.1 hx').1
  have:=Zmq hk hj
  refine⟨u,?_,u2,u3⟩
  rw[List.getElem?_toArray]at u1 ⊢
  rw[List.getElem?_append_left (by omega)]
  exact u1
 ·rw[List.getElem?_append_right hk]at he
  refine⟨(h2.2 _ e he).1,λj x hx'=>?_⟩
  obtain⟨u,u1,u2,u3⟩:=(h2.2 _ e he).2 j x hx'
  refine⟨u,?_,u2,u3⟩
  have hkk:k*sz=A.length*sz+(k-A.length)*sz:=by rw[<-Nat.add_mul];congr 1;omega
  rw[List.getElem?_toArray]at u1 ⊢
  rw[List.getElem?_append_right (by omega),hx,hkk,show A.length*sz+(k-A.length)*sz+j-A.length*sz=(k-A.length)*sz+j from by omega]
  exact u1
theorem Zjp {v u:Value}{vs:Shp}(h:RV w vs m (.c v) u):u=v:=by cases h;rfl
theorem Zt1 {cs:List AV}{u:Value}{vs:Shp}(h:RV w vs m (.agg cs) u):∃us:Array Value,u=.agg us/\cs.length=us.size/\∀(j:Nat)(x:AV)(v:Value),cs[j]?=some x->us[j]?=some v->RV w vs m x v:=by
 cases h with
 | agg h1 h2=>exact⟨_,rfl,h1,h2⟩
theorem Zagm {cs:List AV}{u:Value}{vs:Shp}(h:RV w vs m (.tup cs) u):∃us:Array Value,u=.tuple us/\cs.length=us.size/\∀(j:Nat)(x:AV)(v:Value),cs[j]?=some x->us[j]?=some v->RV w vs m x v:=by
 cases h with
 | tup h1 h2=>exact⟨_,rfl,h1,h2⟩
theorem Zos {i ver k j:Nat}{u:Value}{B:Blk}(h:RV w (shp η) m (.ptr i ver k j) u)(hi:η i=⟨ver,some B⟩):∃b,m i=some b/\u=.pointer (some ⟨b,k*B.sz+j,none⟩):=by
 have hs:(shp η) i=(ver,some B.sz):=by simp[shp,hi]
 cases h with
 | ptrS h1=>rw[hs]at h1;simp at h1
 | ptr h1 h2 =>
  rw[hs]at h1
  injection h1 with _ h1
  injection h1 with h1
  exact⟨_,h2,by rw[h1]⟩
theorem Zail {i ver k j:Nat}{u:Value}{B:Blk}(h:RV w (shp η) m (.ptrO i ver k j) u)(hi:η i=⟨ver,some B⟩):u=.pointer none\/∃b,m i=some b/\u=.pointer (some ⟨b,k*B.sz+j,none⟩):=by
 have hs:(shp η) i=(ver,some B.sz):=by simp[shp,hi]
 cases h with
 | ptrOS h1=>rw[hs]at h1;simp at h1
 | ptrON h1=>exact .inl rfl
 | ptrO h1 h2 =>
  rw[hs]at h1
  injection h1 with _ h1
  injection h1 with h1
  exact .inr ⟨_,h2,by rw[h1]⟩
theorem Zaw1 {i ver:Nat}{u:Value}{B:Blk}(h:RV w (shp η) m (.mp i ver) u)(hi:η i=⟨ver,some B⟩):∃b,m i=some b/\u=.map (some b):=by
 have hs:(shp η) i=(ver,some B.sz):=by simp[shp,hi]
 cases h with
 | mpS h1=>rw[hs]at h1;simp at h1
 | mp h1 h2=>exact⟨_,h2,rfl⟩
theorem Zor {i ver k len:Nat}{u:Value}{B:Blk}(h:RV w (shp η) m (.own i ver k len) u)(hi:η i=⟨ver,some B⟩) :
  (k=0/\len=0/\m i=none/\u=.slice none 0 0)\/(∃k' A,k=k'+1/\len=0/\u=.slice A 0 0) \/
   ∃b cap ty nn,m i=some b/\len<=cap/\cap<=maxLen/\w.shape? b=some (ty,nn)/\(k+cap)*B.sz=nn/\u=.slice (some ⟨b,k*B.sz,none⟩) len cap:=by
 have hs:(shp η) i=(ver,some B.sz):=by simp[shp,hi]
 cases h with
 | ownS h1=>rw[hs]at h1;simp at h1
 | ownN h1 h2=>exact .inl ⟨rfl,rfl,h2,rfl⟩
 | ownZ h1=>exact .inr (.inl ⟨_,_,rfl,rfl,rfl⟩)
 | own h1 h2 h3 h4 h5 h6 =>
  rw[hs]at h1
  injection h1 with _ h1
  injection h1 with h1
  subst h1
  exact .inr (.inr ⟨_,_,_,_,h2,h3,h4,h5,h6,rfl⟩)
theorem Zacg {e:List AV}{j:Nat}{u:Value}{vs:Shp}(h:RV w vs m (.pim e j) u):∃(b off:Nat)(f:Nat->Value),u=.pointer (some ⟨b,off+j,none⟩)/\¬ Zdf vs m b/\b<w.heap.size/\(∀(j:Nat)(x:AV),e[j]?=some x->w.cell? ⟨b,off+j,none⟩=some (f j))/\(∀(j:Nat)(x:AV),e[j]?=some x->RV w vs m x (f j)):=by
 cases h with
 | pim h1 h2 h3 h4=>exact⟨_,_,_,rfl,h1,h2,h3,h4⟩
theorem Zxj {sz:Nat}{l:List (List AV)}{u:Value}{vs:Shp}(h:RV w vs m (.sl sz l) u):∃(A:Option Addr)(cap b off:Nat)(f:Nat->Nat->Value),u=.slice A l.length cap/\(l≠[]->A=some ⟨b,off,none⟩/\¬ Zdf vs m b/\b<w.heap.size)/\l.length<=cap/\l.length<=140737488355328/\(∀(k:Nat)(e:List AV),l[k]?=some e->e.length=sz) /\
  (∀(k j:Nat) (e:List AV) (x:AV),l[k]?=some e->e[j]?=some x->w.cell? ⟨b,off+(k*sz+j),none⟩=some (f k j)/\(f k j).oneCell'=true)/\(∀(k j:Nat) (e:List AV) (x:AV),l[k]?=some e->e[j]?=some x->RV w vs m x (f k j))/\FrL l:=by
 cases h with
 | sl h1 h2 h3 h4 h5 h6 h7=>exact⟨_,_,_,_,_,rfl,h1,h2,h3,h4,h5,h6,h7⟩
end
section
variable {P : Program} {t : TypeId} {ti : TI} {w : World}
theorem TyOk.size (h:TyOk P t ti):(sizeOf t).run P w=.ok ti.sz w:=by
 obtain⟨i,h1,_,h3,_⟩:=info_parts h.info
 simp[sizeOf,typeInfo,h1,h3]
theorem TyOk.zeroV (h:TyOk P t ti):(zeroValue t).run P w=.ok ti.zero w:=by
 obtain⟨i,h1,h2,_,_⟩:=info_parts h.info
 simp[zeroValue,typeInfo,h1,h2]
theorem TyOk.isAgg (h:TyOk P t ti):(isAgg t).run P w=.ok ti.kind.agg w:=by
 obtain⟨d,h1,h2⟩:=h.und
 simp only[Go.isAgg,Sem.run_bind,run_underlying h1,Result.andThen_ok]
 cases hk:ti.kind <;> rw[hk]at h2 <;> cases d <;> simp[TK.fits,TK.agg]at h2 ⊢
theorem TyOk.sliceU {e:TypeId}(h:TyOk P t ti)(hk:ti.kind=.slice e):P.underlying t=some (.slice e):=by
 obtain⟨d,h1,h2⟩:=h.und
 rw[hk]at h2
 cases d <;> simp[TK.fits]at h2
 rw[h1,h2]
theorem TyOk.strU (h:TyOk P t ti)(hk:ti.kind=.str):P.underlying t=some .string:=by
 obtain⟨d,h1,h2⟩:=h.und
 rw[hk]at h2
 cases d <;> simp[TK.fits]at h2
 exact h1
theorem TyOk.intU {k:IntKind}(h:TyOk P t ti)(hk:ti.kind=.int k):P.underlying t=some (.int k):=by
 obtain⟨d,h1,h2⟩:=h.und
 rw[hk]at h2
 cases d <;> simp[TK.fits]at h2
 rw[h1,h2]
theorem TyOk.boolU (h:TyOk P t ti)(hk:ti.kind=.bool):P.underlying t=some .bool:=by
 obtain⟨d,h1,h2⟩:=h.und
 rw[hk]at h2
 cases d <;> simp[TK.fits]at h2
 exact h1
theorem TyOk.ifaceU (h:TyOk P t ti)(hk:ti.kind=.iface):∃ms,P.underlying t=some (.interface ms):=by
 obtain⟨d,h1,h2⟩:=h.und
 rw[hk]at h2
 cases d <;> simp[TK.fits]at h2
 exact⟨_,h1⟩
theorem TyOk.structU {fs:List (Nat×TypeId)}(h:TyOk P t ti)(hk:ti.kind=.struct fs):∃gs:Array Field,P.underlying t=some (.struct gs)/\gs.toList.map (λg=>(g.offset,g.type))=fs:=by
 obtain⟨d,h1,h2⟩:=h.und
 rw[hk]at h2
 cases d <;> simp[TK.fits]at h2
 exact⟨_,h1,by simpa using h2⟩
end
def Zuc (C:Cx)(n:Nat)(o:Oper)(τ:Nat->AV)(η:Nat->Ent)(x:AV):Prop :=
 ∀w0 X m a w,Rep C n w0 X τ η m a w->∃v,(execOp a.eval o).run C.P w=.ok (.value v) w/\RV w (shp η) m x v
section
variable {C : Cx} {n : Nat} {o : Oper} {τ : Nat -> AV} {η : Nat -> Ent} {t : TypeId} {ti : TI}
theorem Zakk {x:Operand}(ho:o.op=.move x\/o.op=.assign x):Zuc C n o τ η (evA τ x):=by
 intro w0 X m a w h
 refine⟨a.eval x,?_,h.ev x⟩
 rcases ho with ho|ho <;> simp[execOp,ho]
theorem Zqa {P:Program}{w:World}{b off:Nat}{cs:List Value}(ht:TyOk P t ti)(hl:cs.length=ti.sz)(h1:ti.kind.agg=false->ti.sz=1)(hc:∀(j:Nat)(v:Value),cs[j]?=some v->w.cell? ⟨b,off+j,none⟩=some v) :
  (loadVar t ⟨b,off,none⟩).run P w=.ok (if ti.kind.agg then .agg cs.toArray else cs.getD 0 undef) w:=by
 cases hk:ti.kind.agg with
 | true =>
  have:=run_loadCells_list (P:=P) w ⟨b,off,none⟩ cs (λj v hj=>by rw[Zjc];exact hc j v hj)
  rw[hl]at this
  simp[loadVar,ht.isAgg,ht.size,hk,this]
 | false =>
  have hs:=h1 hk
  obtain⟨v,rfl⟩:∃v,cs=[v]:=List.length_eq_one_iff.1 (by omega)
  have:=hc 0 v rfl
  simp[loadVar,ht.isAgg,hk,load,Sem.run]at this ⊢
  rw[this]
def cut (ti:TI)(e:List AV)(j:Nat):AV:=if ti.kind.agg then .agg ((e.drop j).take ti.sz)else e.getD j .dead
theorem Zan1 {w:World}{vs:Shp}{m:MM}{e:List AV}{f:Nat->Value}{j:Nat}(hj:j+ti.sz<=e.length)(h1:ti.kind.agg=false->ti.sz=1)(hr:∀(j:Nat)(x:AV),e[j]?=some x->RV w vs m x (f j)) :
  RV w vs m (cut ti e j) (if ti.kind.agg then .agg ((List.range ti.sz).map (λk=>f (j+k))).toArray else((List.range ti.sz).map (λk=>f (j+k))).getD 0 undef):=by
 unfold cut
 cases hk:ti.kind.agg with
 | true =>
  simp only[if_true]
  refine .agg (by simp;omega) (λk x u hx hu=>?_)
  rw[List.getElem?_take]at hx
  split at hx
  ·rename_i hlt
   rw[List.getElem?_drop]at hx
   simp[hlt]at hu
   subst hu
   exact hr _ x hx
  ·cases hx
 | false =>
  have hs:=h1 hk
  simp only[Bool.false_eq_true,if_false]
  rw[hs]
  have hlt:j<e.length:=by omega
  have:=hr j e[j] (gE_ hlt)
  simpa [gD_,gE_ hlt] using this
theorem Zaas {f:Nat->Value}{n q:Nat}{v:Value}(h:((List.range n).map f)[q]?=some v):q<n/\f q=v:=by
 rw[List.getElem?_map]at h
 cases hq:(List.range n)[q]? with
 | none=>rw[hq]at h;cases h
 | some z =>
  obtain⟨h1,h2⟩:=gS_.1 hq
  simp at h1 h2
  rw[hq]at h
  simp at h
  exact⟨h1,by rw[h2];exact h⟩
theorem Zacc {x:Operand}{i ver k j:Nat}{B:Blk}{e:List AV}(ho:o.op=.load t x)(hx:evA τ x=.ptr i ver k j)(hi:η i=⟨ver,some B⟩)(he:B.els[k]?=some e)(ht:TyOk C.P t ti)(h1:ti.kind.agg=false->ti.sz=1)(hj:j+ti.sz<=B.sz)(hM:isM B.box B.ty=false) :
  Zuc C n o τ η (cut ti e j):=by
 intro w0 X m a w h
 have hv:=h.ev x
 rw[hx]at hv
 obtain⟨b,hb,hu⟩:=Zos hv hi
 have hok:=h.mem.ok i B (by rw[hi])
 rw[hb]at hok
 obtain⟨arr,a1,a2,a3⟩:=hok.cellsF hM
 obtain⟨e1,e2⟩:=a3 k e he
 have hcell:∀(q:Nat) (y:AV),e[q]?=some y->w.cell? ⟨b,k*B.sz+q,none⟩=some (arr.getD (k*B.sz+q) undef)/\RV w (shp η) m y (arr.getD (k*B.sz+q) undef):=by
  intro q y hq
  obtain⟨v,v1,_,v3⟩:=e2 q y hq
  have:arr.getD (k*B.sz+q) undef=v:=by simp[aD_,v1]
  rw[this]
  exact⟨by simp[World.cell?,a1,v1],v3⟩
 refine⟨_,?_,Zan1 (f:=λq=>arr.getD (k*B.sz+q) undef) (by omega) h1 (λq y hq=>(hcell q y hq).2)⟩
 have:=Zqa (P:=C.P) (w:=w) (b:=b) (off:=k*B.sz+j) (cs:=(List.range ti.sz).map (λq=>arr.getD (k*B.sz+(j+q)) undef)) ht (by simp) h1 (λq v hq=>by
  obtain⟨hq1,hq2⟩:=Zaas hq
  have hlt:j+q<e.length:=by omega
  have:=(hcell (j+q) _ (gE_ hlt)).1
  rw[Nat.add_assoc,this,hq2])
 simp[execOp,ho,hu,Instr.loadAt,Instr.sureAddr,this]
theorem Zame {x:Operand}{e:List AV}{j:Nat}(ho:o.op=.load t x)(hx:evA τ x=.pim e j)(ht:TyOk C.P t ti)(h1:ti.kind.agg=false->ti.sz=1)(hj:j+ti.sz<=e.length) :
  Zuc C n o τ η (cut ti e j):=by
 intro w0 X m a w h
 have hv:=h.ev x
 rw[hx]at hv
 obtain⟨b,off,f,hu,_,_,hc,hr⟩:=Zacg hv
 refine⟨_,?_,Zan1 (f:=f) (by omega) h1 hr⟩
 have:=Zqa (P:=C.P) (w:=w) (b:=b) (off:=off+j) (cs:=(List.range ti.sz).map (λq=>f (j+q))) ht (by simp) h1 (λq v hq=>by
  obtain⟨hq1,hq2⟩:=Zaas hq
  have hlt:j+q<e.length:=by omega
  have:=hc (j+q) _ (gE_ hlt)
  rw[Nat.add_assoc,this,hq2])
 simp[execOp,ho,hu,Instr.loadAt,Instr.sureAddr,this]
end
def oneA : AV->Bool
 | .c v=>v.oneCell'
 | .agg _ | .tup _ | .dead=>false
 | _=>true
theorem Zaph {w:World}{vs:Shp}{m:MM}{x:AV}{v:Value}(h:RV w vs m x v)(ho:oneA x=true):v.oneCell'=true:=by
 cases h <;> first|rfl|exact ho|(simp[oneA]at ho)
theorem Zans {v:Value}(h:v.oneCell'=true):v.cells=#[v]:=by
 cases v <;> first|rfl|(simp[Value.oneCell']at h)
def binV : BinOp->Value->Value->Option Value
 | .add,.int k a,.int k' b=>if k=k' then some (.int k (k.wrap (a+b)))else none
 | .sub,.int k a,.int k' b=>if k=k' then some (.int k (k.wrap (a-b)))else none
 | .mul,.int k a,.int k' b=>if k=k' then some (.int k (k.wrap (a*b)))else none
 | .eql,.int k a,.int k' b=>if k=k' then some (.bool (a == b))else none
 | .neq,.int k a,.int k' b=>if k=k' then some (.bool (a != b))else none
 | .lss,.int k a,.int k' b=>if k=k' then some (.bool (decide (a<b)))else none
 | .leq,.int k a,.int k' b=>if k=k' then some (.bool (decide (a<=b)))else none
 | .gtr,.int k a,.int k' b=>if k=k' then some (.bool (decide (a>b)))else none
 | .geq,.int k a,.int k' b=>if k=k' then some (.bool (decide (a>=b)))else none
 | .shr,.int .u64 a,.int _ b=>if b=1 then some (.int .u64 (a.fdiv 2))else none
 | .eql,.string a,.string b=>some (.bool (a.toList == b.toList))
 | .neq,.string a,.string b=>some (.bool (!(a.toList == b.toList)))
 | .lss,.string a,.string b=>some (.bool (Op.bytesLess a.toList b.toList))
 | .leq,.string a,.string b=>some (.bool (Op.bytesLess a.toList b.toList||a.toList == b.toList))
 | .gtr,.string a,.string b=>some (.bool (!(Op.bytesLess a.toList b.toList||a.toList == b.toList)))
 | .geq,.string a,.string b=>some (.bool (!(Op.bytesLess a.toList b.toList)))
 | _,_,_=>none
section
variable {C : Cx} {n : Nat} {o : Oper} {τ : Nat -> AV} {η : Nat -> Ent} {t : TypeId} {ti : TI}
theorem Zawq {op:BinOp}{xt yt:TypeId}{x y:Operand}{u v r:Value}(ho:o.op=.binOp op xt x y yt)(hx:evA τ x=.c u)(hy:evA τ y=.c v)(hb:binV op u v=some r):Zuc C n o τ η (.c r):=by
  intro w0 X m a w h
  have h1:=h.ev x
  have h2:=h.ev y
  rw[hx]at h1
  rw[hy]at h2
  refine⟨r,?_,.c r⟩
  unfold binV at hb
  split at hb <;>
    first
      | (split at hb
         · rename_i hk
           subst hk
           injection hb with hb
           subst hb
           simp[execOp,ho,Zjp h1,Zjp h2,eqGuard,Go.binOp,Op.intArith,Op.intCmp]
         · cases hb)
      | (split at hb
         · rename_i hk
           subst hk
           injection hb with hb
           subst hb
           simp[execOp,ho,Zjp h1,Zjp h2,eqGuard,Go.binOp,Op.shift,IntKind.bits]
         · cases hb)
      | (injection hb with hb
         subst hb
         simp[execOp,ho,Zjp h1,Zjp h2,eqGuard,Go.binOp,Op.stringOp])
      | cases hb
theorem Zabo {P:Program}{w:World}{t:TypeId}{p q:Bool}(hu:P.underlying t=some .bool):(Op.equal t (.bool p) (.bool q)).run P w=.ok (p == q) w:=by
 show(Op.equalIn (9999+1) t (.bool p) (.bool q)).run P w=_
 rw[Op.equalIn]
 simp only[Sem.run_bind,run_underlying hu,Result.andThen_ok,Sem.run_pure]
theorem Zakj {op:BinOp}{xt yt:TypeId}{x y:Operand}{p q r:Bool}(ho:o.op=.binOp op xt x y yt)(hx:evA τ x=.c (.bool p))(hy:evA τ y=.c (.bool q))(ht:TyOk C.P xt ti)(hk:ti.kind=.bool)(hr:(op=.eql/\r=(p == q))\/(op=.neq/\r=!(p == q))):Zuc C n o τ η (.c (.bool r)):=by
 intro w0 X m a w h
 have h1:=h.ev x
 have h2:=h.ev y
 rw[hx]at h1
 rw[hy]at h2
 refine⟨_,?_,.c _⟩
 rcases hr with⟨rfl,rfl⟩|⟨rfl,rfl⟩ <;> simp[execOp,ho,Zjp h1,Zjp h2,eqGuard,Go.binOp,Zabo (ht.boolU hk)]
theorem Zay3 {xt yt:TypeId}{x y:Operand}{k:IntKind}{p q:Int}(ho:o.op=.binOp .quo xt x y yt)(hx:evA τ x=.c (.int k p))(hy:evA τ y=.c (.int k q))(h0:q≠0):Zuc C n o τ η (.c (.int k (k.wrap (p.tdiv q)))):=by
 intro w0 X m a w h
 have h1:=h.ev x
 have h2:=h.ev y
 rw[hx]at h1
 rw[hy]at h2
 exact⟨_,by simp[execOp,ho,Zjp h1,Zjp h2,eqGuard,Go.binOp,Op.intDiv,h0],.c _⟩
theorem Zay6 {xt yt:TypeId}{x y:Operand}{k:IntKind}{p q:Int}(ho:o.op=.binOp .rem xt x y yt)(hx:evA τ x=.c (.int k p))(hy:evA τ y=.c (.int k q))(h0:q≠0):Zuc C n o τ η (.c (.int k (p.tmod q))):=by
 intro w0 X m a w h
 have h1:=h.ev x
 have h2:=h.ev y
 rw[hx]at h1
 rw[hy]at h2
 exact⟨_,by simp[execOp,ho,Zjp h1,Zjp h2,eqGuard,Go.binOp,Op.intDiv,h0],.c _⟩
theorem Zarr {xt yt:TypeId}{x y:Operand}{p q:ByteArray}(ho:o.op=.binOp .add xt x y yt)(hx:evA τ x=.c (.string p))(hy:evA τ y=.c (.string q))(h0:p.size+q.size<=9223372036854775807):Zuc C n o τ η (.c (.string (p++q))):=by
 intro w0 X m a w h
 have h1:=h.ev x
 have h2:=h.ev y
 rw[hx]at h1
 rw[hy]at h2
 refine⟨_,?_,.c _⟩
 have:¬ (((p.size+q.size:Nat):Int)>IntKind.i64.max):=by
  have e:IntKind.i64.max=9223372036854775807:=by decide
  rw[e]
  omega
 simp only[execOp,ho,Zjp h1,Zjp h2,eqGuard,Go.binOp,Op.stringOp]
 simp only[this,if_false]
 simp
def nilV : AV->Option Bool
 | .c .nilIface=>some true
 | .ifc _ _=>some false
 | _=>none
theorem Zagk {P:Program}{w:World}{t:TypeId}{ms:Array (String×TypeId)}(hu:P.underlying t=some (.interface ms)):(Op.equal t .nilIface .nilIface).run P w=.ok true w:=by
 show(Op.equalIn (9999+1) t .nilIface .nilIface).run P w=_
 rw[Op.equalIn]
 simp only[Sem.run_bind,run_underlying hu,Result.andThen_ok,Sem.run_pure]
theorem Zagj {P:Program}{w:World}{t d:TypeId}{z:Value}{ms:Array (String×TypeId)}(hu:P.underlying t=some (.interface ms)):(Op.equal t (.iface d z) .nilIface).run P w=.ok false w:=by
 show(Op.equalIn (9999+1) t (.iface d z) .nilIface).run P w=_
 rw[Op.equalIn]
 simp only[Sem.run_bind,run_underlying hu,Result.andThen_ok,Sem.run_pure]
theorem Zalx {op:BinOp}{t:TypeId}{x y:Operand}{d:TypeId}{z:Value}:eqGuard op t x y (.iface d z) .nilIface=pure ():=by cases op <;> rfl
theorem Zart {op:BinOp}{xt yt:TypeId}{x:Operand}{z q:Bool}(ho:o.op=.binOp op xt x (.const .nilIface) yt)(hq:(op=.eql/\q=z)\/(op=.neq/\q=!z))(hx:nilV (evA τ x)=some z)(ht:TyOk C.P xt ti)(hk:ti.kind=.iface):Zuc C n o τ η (.c (.bool q)):=by
 intro w0 X m a w h
 obtain⟨ms,hu⟩:=ht.ifaceU hk
 have h1:=h.ev x
 have hcn:a.eval (.const .nilIface)=.nilIface:=rfl
 refine⟨_,?_,.c _⟩
 unfold nilV at hx
 split at hx
 ·rename_i e
  injection hx with hx
  subst hx
  rw[e]at h1
  rcases hq with⟨rfl,rfl⟩|⟨rfl,rfl⟩ <;> simp[execOp,ho,Zjp h1,hcn,eqGuard_nil_constR,Go.binOp,Zagk hu]
 ·rename_i e
  injection hx with hx
  subst hx
  rw[e]at h1
  cases hv:a.eval x <;> rw[hv]at h1 <;> cases h1
  rcases hq with⟨rfl,rfl⟩|⟨rfl,rfl⟩ <;> simp[execOp,ho,hv,hcn,Zalx,Go.binOp,Zagj hu]
 ·cases hx
theorem Zay5 {x:Operand}{xt:TypeId}{b:Bool}(ho:o.op=.unOp .not xt x)(hx:evA τ x=.c (.bool b)):Zuc C n o τ η (.c (.bool (!b))):=by
 intro w0 X m a w h
 have h1:=h.ev x
 rw[hx]at h1
 exact⟨_,by simp[execOp,ho,Zjp h1,Op.unary],.c _⟩
theorem Zay4 {x:Operand}{xt:TypeId}{k:IntKind}{p:Int}(ho:o.op=.unOp .neg xt x)(hx:evA τ x=.c (.int k p)):Zuc C n o τ η (.c (.int k (k.wrap (0-p)))):=by
 intro w0 X m a w h
 have h1:=h.ev x
 rw[hx]at h1
 exact⟨_,by simp[execOp,ho,Zjp h1,Op.unary,Op.intArith],.c _⟩
theorem Zakl {c x y:Operand}{b:Bool}(ho:o.op=.pick c x y)(hc:evA τ c=.c (.bool b)):Zuc C n o τ η (if b then evA τ x else evA τ y):=by
 intro w0 X m a w h
 have h1:=h.ev c
 rw[hc]at h1
 refine⟨if b then a.eval x else a.eval y,by cases b <;> simp[execOp,ho,Zjp h1,asBool],?_⟩
 cases b
 ·exact h.ev y
 ·exact h.ev x
theorem Zawr {src dst:TypeId}{x:Operand}{k:IntKind}{kd:IntKind}{p:Int}{ts:TI}(ho:o.op=.convert src dst x)(hx:evA τ x=.c (.int k p))(hs:TyOk C.P src ts)(ht:TyOk C.P dst ti)(hk:ti.kind=.int kd):Zuc C n o τ η (.c (.int kd (kd.wrap p))):=by
 intro w0 X m a w h
 have h1:=h.ev x
 rw[hx]at h1
 obtain⟨d,hd,_⟩:=hs.und
 exact⟨_,by simp[execOp,ho,Zjp h1,convert,run_underlying hd,run_underlying (ht.intU hk),Conv.intToInt],.c _⟩
theorem Zamd {src dst:TypeId}{x:Operand}{p:ByteArray}{ts:TI}(ho:o.op=.convert src dst x)(hx:evA τ x=.c (.string p))(hs:TyOk C.P src ts)(ht:TyOk C.P dst ti)(hk:ti.kind=.str):Zuc C n o τ η (.c (.string p)):=by
 intro w0 X m a w h
 have h1:=h.ev x
 rw[hx]at h1
 obtain⟨d,hd,_⟩:=hs.und
 exact⟨_,by simp[execOp,ho,Zjp h1,convert,run_underlying hd,run_underlying (ht.strU hk)],.c _⟩
theorem Zau1 {xt:TypeId}{x:Operand}(ho:o.op=.makeInterface xt x)(ht:TyOk C.P xt ti)(hk:ti.kind≠.iface)(ho2:ti.kind≠.other):Zuc C n o τ η (.ifc xt (evA τ x)):=by
 intro w0 X m a w h
 obtain⟨d,hd,hf⟩:=ht.und
 refine⟨_,?_,.ifc (h.ev x)⟩
 simp only[execOp,ho,Instr.makeInterface,Sem.run_bind,run_underlying hd,Result.andThen_ok]
 cases d <;> first|(simp;done)|(exfalso;cases hkk:ti.kind <;> rw[hkk]at hf <;> simp[TK.fits]at hf <;> first|exact hk hkk|exact ho2 hkk)
theorem Zaws {fn:Fn}{first cap:Array Operand}(ho:o.op=.makeFunc fn first cap):Zuc C n o τ η (.clo fn (first.toList.map (evA τ)) (cap.toList.map (evA τ))):=by
 intro w0 X m a w h
 have aux:∀(l:Array Operand) (j:Nat) (x:AV) (u:Value),(l.toList.map (evA τ))[j]?=some x->(l.map a.eval)[j]?=some u->RV w (shp η) m x u:=by
  intro l j x u hx hu
  rw[List.getElem?_map]at hx
  rw[Array.getElem?_map]at hu
  cases hl:l[j]? with
  | none=>rw[hl]at hu;cases hu
  | some q =>
   have hl':l.toList[j]?=some q:=by simpa using hl
   rw[hl']at hx
   rw[hl]at hu
   simp at hx hu
   rw[<-hx,<-hu]
   exact h.ev q
 exact⟨_,by simp[execOp,ho,Instr.makeFunc],.clo (by simp) (aux first) (by simp) (aux cap)⟩
theorem Zaoy {x:Operand}{j:Nat}{vs:List AV}{y:AV}(ho:o.op=.extract x j)(hx:evA τ x=.tup vs)(hj:vs[j]?=some y):Zuc C n o τ η y:=by
 intro w0 X m a w h
 have h1:=h.ev x
 rw[hx]at h1
 obtain⟨us,hu,hl,hr⟩:=Zagm h1
 have hlt:j<us.size:=by rw[<-hl];exact(gS_.1 hj).1
 have hg:us[j]?=some us[j]:=aE_ hlt
 exact⟨us[j],by simp[execOp,ho,hu,Instr.extract,hg],hr j y _ hj hg⟩
theorem Zabn {x:Operand}{i ver k j:Nat}{B:Blk}(ho:o.op=.nilCheck x)(hx:evA τ x=.ptr i ver k j)(hi:η i=⟨ver,some B⟩):Zuc C n o τ η (.ptr i ver k j):=by
 intro w0 X m a w h
 have h1:=h.ev x
 rw[hx]at h1
 obtain⟨b,_,hu⟩:=Zos h1 hi
 rw[hu]at h1
 exact⟨_,by simp[execOp,ho,hu],h1⟩
theorem Zabm {x:Operand}{e:List AV}{j:Nat}(ho:o.op=.nilCheck x)(hx:evA τ x=.pim e j):Zuc C n o τ η (.pim e j):=by
 intro w0 X m a w h
 have h1:=h.ev x
 rw[hx]at h1
 obtain⟨b,off,f,hu,_⟩:=Zacg h1
 rw[hu]at h1
 exact⟨_,by simp[execOp,ho,hu],h1⟩
theorem Zaav {P:Program}{w:World}{s:TypeId}{ts tf:TI}{fs:List (Nat×TypeId)}{f off ft:Nat}{p:Addr}(hs:TyOk P s ts)(hk:ts.kind=.struct fs)(hf:fs[f]?=some (off,ft))(htf:TyOk P ft tf)(h0:tf.sz≠0) :
  (Instr.fieldAt s (.pointer (some p)) f).run P w=.ok (.pointer (some (p.add off))) w:=by
 obtain⟨gs,hu,hm⟩:=hs.structU hk
 rw[<-hm,List.getElem?_map]at hf
 cases hg:gs.toList[f]? with
 | none=>rw[hg]at hf;cases hf
 | some g =>
  rw[hg]at hf
  simp at hf
  have hg':gs[f]?=some g:=by simpa using hg
  obtain⟨rfl,rfl⟩:=hf
  simp[Instr.fieldAt,run_underlying hu,hg',Instr.sureAddr,fieldPlace,htf.size,h0]
theorem Zaic {s:TypeId}{ts tf:TI}{fs:List (Nat×TypeId)}{f off ft i ver k j:Nat}{x:Operand}{B:Blk}(ho:o.op=.fieldAddr s x f)(hx:evA τ x=.ptr i ver k j)(hi:η i=⟨ver,some B⟩)(hs:TyOk C.P s ts)(hk:ts.kind=.struct fs)
  (hf:fs[f]?=some (off,ft)) (htf:TyOk C.P ft tf) (h0:tf.sz≠0):Zuc C n o τ η (.ptr i ver k (j+off)):=by
 intro w0 X m a w h
 have h1:=h.ev x
 rw[hx]at h1
 obtain⟨b,hb,hu⟩:=Zos h1 hi
 refine⟨.pointer (some ⟨b,k*B.sz+(j+off),none⟩),?_,.ptr (by simp[shp,hi]) hb⟩
 simp[execOp,ho,hu,Zaav hs hk hf htf h0,Zjc,Nat.add_assoc]
theorem Zaid {s:TypeId}{ts tf:TI}{fs:List (Nat×TypeId)}{f off ft j:Nat}{x:Operand}{e:List AV}(ho:o.op=.fieldAddr s x f)(hx:evA τ x=.pim e j)(hs:TyOk C.P s ts)(hk:ts.kind=.struct fs)
  (hf:fs[f]?=some (off,ft)) (htf:TyOk C.P ft tf) (h0:tf.sz≠0):Zuc C n o τ η (.pim e (j+off)):=by
 intro w0 X m a w h
 have h1:=h.ev x
 rw[hx]at h1
 obtain⟨b,bo,f',hu,h2,h3,h4,h5⟩:=Zacg h1
 refine⟨.pointer (some ⟨b,bo+(j+off),none⟩),?_,.pim h2 h3 h4 h5⟩
 simp[execOp,ho,hu,Zaav hs hk hf htf h0,Zjc,Nat.add_assoc]
theorem Zau0 {s:TypeId}{ts tf:TI}{fs:List (Nat×TypeId)}{f off ft:Nat}{x:Operand}{cs:List AV}(ho:o.op=.field s x f)(hx:evA τ x=.agg cs)(hs:TyOk C.P s ts)(hk:ts.kind=.struct fs)
  (hf:fs[f]?=some (off,ft)) (htf:TyOk C.P ft tf) (h1:tf.kind.agg=false->tf.sz=1) (hl:off+tf.sz<=cs.length):Zuc C n o τ η (cut tf cs off):=by
 intro w0 X m a w h
 have hv:=h.ev x
 rw[hx]at hv
 obtain⟨us,hu,hlen,hr⟩:=Zt1 hv
 obtain⟨gs,hun,hm⟩:=hs.structU hk
 rw[<-hm,List.getElem?_map]at hf
 cases hg:gs.toList[f]? with
 | none=>rw[hg]at hf;cases hf
 | some g =>
  rw[hg]at hf
  simp at hf
  have hg':gs[f]?=some g:=by simpa using hg
  obtain⟨rfl,rfl⟩:=hf
  have hr':∀(j:Nat) (y:AV),cs[j]?=some y->RV w (shp η) m y (us.getD j undef):=λj y hy=>by
   have hlt:j<us.size:=by rw[<-hlen];exact(gS_.1 hy).1
   have hq:us[j]?=some us[j]:=aE_ hlt
   have:=hr j y _ hy hq
   simpa [aD_,hq] using this
  refine⟨_,?_,Zan1 (f:=λj=>us.getD j undef) hl h1 hr'⟩
  cases hka:tf.kind.agg with
  | true =>
   simp only[execOp,ho,hu,Instr.field,Sem.run_bind,run_underlying hun,Result.andThen_ok,hg',asAgg,part,htf.isAgg,htf.size,hka,Sem.run_pure,if_true]
   congr 3
   refine Array.ext (by simp;omega) (λj a1 a2=>?_)
   simp at a1 a2
   have hlt:g.offset+j<us.size:=by omega
   simp[hlt]
  | false =>
   have hs1:=h1 hka
   have hlt:g.offset<us.size:=by omega
   simp[execOp,ho,hu,Instr.field,run_underlying hun,hg',asAgg,part,htf.isAgg,hka,hs1,hlt]
end
section
variable {C : Cx} {n : Nat} {o : Oper} {τ : Nat -> AV} {η : Nat -> Ent} {t : TypeId} {ti : TI}
theorem Zauy {x y:Operand}{e:TypeId}{te:TI}{sz:Nat}{l:List (List AV)}{k:IntKind}{z:Int}{el:List AV}(ho:o.op=.indexAddr t x y)(hx:evA τ x=.sl sz l)(hy:evA τ y=.c (.int k z))(ht:TyOk C.P t ti)(hk:ti.kind=.slice e)
  (hte:TyOk C.P e te) (hsz:te.sz=sz) (h0:0<=z) (hel:l[z.toNat]?=some el):Zuc C n o τ η (.pim el 0):=by
 intro w0 X m a w h
 have h1:=h.ev x
 have h2:=h.ev y
 rw[hx]at h1
 rw[hy]at h2
 obtain⟨A,cap,b,off,f,hu,hA,_,_,hlen,hc,hr,_⟩:=Zxj h1
 have hlt:z.toNat<l.length:=(gS_.1 hel).1
 obtain⟨rfl,hno,hb⟩:=hA (λe=>by rw[e]at hlt;simp at hlt)
 have hzl:z<l.length:=by omega
 refine⟨.pointer (some ⟨b,off+z.toNat*sz+0,none⟩),?_,.pim (f:=λj=>f z.toNat j) hno hb (λj x hj=>?_) (λj x hj=>hr _ j el x hel hj)⟩
 ·simp[execOp,ho,hu,Zjp h2,Instr.indexAt,asIntOf,run_underlying (ht.sliceU hk),hte.size,h0,hzl,Zjc,hsz]
 ·rw[Nat.add_assoc]
  exact(hc _ j el x hel hj).1
theorem Zarq {x y:Operand}{e:TypeId}{te:TI}{i ver k0 len:Nat}{B:Blk}{k:IntKind}{z:Int}(ho:o.op=.indexAddr t x y)(hx:evA τ x=.own i ver k0 len)(hi:η i=⟨ver,some B⟩)(hy:evA τ y=.c (.int k z))(ht:TyOk C.P t ti)(hk:ti.kind=.slice e)
  (hte:TyOk C.P e te) (hsz:te.sz=B.sz) (h0:0<=z) (h1:z<len):Zuc C n o τ η (.ptr i ver (k0+z.toNat) 0):=by
 intro w0 X m a w h
 have hv:=h.ev x
 have h2:=h.ev y
 rw[hx]at hv
 rw[hy]at h2
 have hs:(shp η) i=(ver,some B.sz):=by simp[shp,hi]
 rcases Zor hv hi with⟨_,hl,_⟩|⟨_,_,_,hl,_⟩|⟨b,cap,ty,nn,e1,e2,e3,e4,e5,hu⟩
 ·omega
 ·omega
 ·refine⟨.pointer (some ⟨b,(k0+z.toNat)*B.sz+0,none⟩),?_,.ptr hs e1⟩
  simp[execOp,ho,hu,Zjp h2,Instr.indexAt,asIntOf,run_underlying (ht.sliceU hk),hte.size,h0,h1,Zjc,hsz,Nat.add_mul]
theorem Zaie {x y:Operand}{s:ByteArray}{k:IntKind}{z:Int}(ho:o.op=.index t x y)(hx:evA τ x=.c (.string s))(hy:evA τ y=.c (.int k z))(ht:TyOk C.P t ti)(hk:ti.kind=.str)(h0:0<=z)(h1:z<s.size) :
  Zuc C n o τ η (.c (.int .u8 (s.data.getD z.toNat 0).toNat)):=by
 intro w0 X m a w h
 have hv:=h.ev x
 have h2:=h.ev y
 rw[hx]at hv
 rw[hy]at h2
 have hlt:z.toNat<s.size:=by omega
 refine⟨_,?_,.c _⟩
 have:s[z.toNat]?=some (s.data.getD z.toNat 0):=by
  have hq:z.toNat<s.data.size:=hlt
  rw[getElem?_pos s z.toNat hlt]
  have e:s.data.getD z.toNat 0=s.data[z.toNat]:=by rw[aD_,aE_ hq];rfl
  rw[e]
  rfl
 simp[execOp,ho,Zjp hv,Zjp h2,Instr.index,asIntOf,run_underlying (ht.strU hk),h0,this]
def lenA : AV->Option Int
 | .sl _ l=>some l.length
 | .own _ _ _ len=>some len
 | .c (.string s)=>some s.size
 | .c (.slice _ k _)=>some k
 | _=>none
theorem Zars {x:Operand}{z:Int}(ho:o.op=.call { callee:=.builtin .len,args:=#[x],argTypes:=#[t] }) (ht:TyOk C.P t ti) (hl:lenA (evA τ x)=some z)
  (hk:match evA τ x with
   | .c (.string _)=>ti.kind=.str
   | .own i ver _ _=>(∃e,ti.kind=.slice e)/\(η i).ver=ver
   | _=>∃e,ti.kind=.slice e):Zuc C n o τ η (.c (.int .i64 z)):=by
 intro w0 X m a w h
 have hv:=h.ev x
 refine⟨_,?_,.c _⟩
 unfold lenA at hl
 split at hl
 ·rename_i e
  rw[e]at hv hk
  obtain⟨e',hk⟩:=hk
  injection hl with hl
  obtain⟨A,cap,b,off,f,hu,_⟩:=Zxj hv
  simp[execOp,ho,resolve,invoke,builtin,hu,Builtin.len_,run_underlying (ht.sliceU hk),goInt,<-hl]
 ·rename_i e
  rw[e]at hv hk
  obtain⟨⟨e',hk⟩,hver⟩:=hk
  injection hl with hl
  cases hu:a.eval x <;> rw[hu]at hv <;> cases hv
  ·rename_i hh;simp[shp,hver]at hh
  all_goals simp[execOp,ho,resolve,invoke,builtin,hu,Builtin.len_,run_underlying (ht.sliceU hk),goInt,<-hl]
 ·rename_i e
  rw[e]at hv hk
  injection hl with hl
  simp[execOp,ho,resolve,invoke,builtin,Zjp hv,Builtin.len_,run_underlying (ht.strU hk),goInt,<-hl]
 ·rename_i e
  rw[e]at hv hk
  obtain⟨e',hk⟩:=hk
  injection hl with hl
  simp[execOp,ho,resolve,invoke,builtin,Zjp hv,Builtin.len_,run_underlying (ht.sliceU hk),goInt,<-hl]
 ·cases hl
def Bnd (τ:Nat->AV)(dflt:Nat):Option Operand->Nat->Prop
 | none,k=>k=dflt
 | some x,k=>∃kk:IntKind,evA τ x=.c (.int kk (k:Int))
theorem Zv0 {P:Program}{w:World}{v:Value}{kk:IntKind}{k y:Nat}{code:BoundsCode}(hv:v=.int kk (k:Int))(h:k<=y):(Instr.sliceBound v y code).run P w=.ok k w:=by
 subst hv
 simp[Instr.sliceBound,asIntOf,show(k:Int)<=y from by omega]
theorem Zxh {isS:Bool}{len cap:Nat}{lo hi:Option Operand}{l r:Nat}{w0:World}{X:XX}{m:MM}{a:Act}{w:World}(h:Rep C n w0 X τ η m a w)(hlo:Bnd τ 0 lo l)(hhi:Bnd τ len hi r)(h1:l<=r)(h2:r<=cap) :
  (Instr.sliceBounds isS len cap (lo.map a.eval) (hi.map a.eval) none).run C.P w=.ok (l,r,cap) w:=by
 have hval:∀(q:Operand) (kk:IntKind) (z:Int),evA τ q=.c (.int kk z)->a.eval q=.int kk z:=λq kk z e=>by
  have:=h.ev q
  rw[e]at this
  exact Zjp this
 cases hi with
 | none =>
  cases lo with
  | none=>simp[Bnd]at hlo hhi;subst hlo hhi;simp[Instr.sliceBounds]
  | some q =>
   obtain⟨kk,e⟩:=hlo
   simp[Bnd]at hhi
   subst hhi
   simp[Instr.sliceBounds,Zv0 (hval q kk _ e) h1]
 | some p =>
  obtain⟨kp,ep⟩:=hhi
  cases lo with
  | none=>simp[Bnd]at hlo;subst hlo;simp[Instr.sliceBounds,Zv0 (hval p kp _ ep) h2]
  | some q =>
   obtain⟨kk,e⟩:=hlo
   simp[Instr.sliceBounds,Zv0 (hval p kp _ ep) h2,Zv0 (hval q kk _ e) h1]
theorem Zv2 {P:Program}{w:World}{e:TypeId}{x:Value}{lo hi mx:Option Value}(hu:P.underlying t=some (.slice e)):(Instr.sliceAt t x lo hi mx).run P w=(Instr.slice t x lo hi mx).run P w:=by
 simp[Instr.sliceAt,run_underlying hu]
theorem Zaig {x:Operand}{lo hi:Option Operand}{s:ByteArray}{l r:Nat}(ho:o.op=.slice t x lo hi none)(hx:evA τ x=.c (.string s))(ht:TyOk C.P t ti)(hk:ti.kind=.str)(hlo:Bnd τ 0 lo l)(hhi:Bnd τ s.size hi r)(h1:l<=r)(h2:r<=s.size) :
  Zuc C n o τ η (.c (.string (s.extract l r))):=by
 intro w0 X m a w h
 have hv:=h.ev x
 rw[hx]at hv
 refine⟨_,?_,.c _⟩
 simp[execOp,ho,Zjp hv,Instr.sliceAt,Instr.slice,run_underlying (ht.strU hk),Zxh h hlo hhi h1 h2]
theorem Zamf {x:Operand}{e:TypeId}{te:TI}{lo hi:Option Operand}{sz:Nat}{ls:List (List AV)}{l r:Nat}(ho:o.op=.slice t x lo hi none)(hx:evA τ x=.sl sz ls)(ht:TyOk C.P t ti)(hk:ti.kind=.slice e)(hte:TyOk C.P e te)(hsz:te.sz=sz)
  (hlo:Bnd τ 0 lo l) (hhi:Bnd τ ls.length hi r) (h1:l<=r) (h2:r<=ls.length):Zuc C n o τ η (.sl sz ((ls.take r).drop l)):=by
 intro w0 X m a w h
 have hv:=h.ev x
 rw[hx]at hv
 obtain⟨A,cap,b,off,f,hu,hA,hcap,hmax,hlen,hc,hr,hfr⟩:=Zxj hv
 have hll:((ls.take r).drop l).length=r-l:=by simp;omega
 have hget:∀(k:Nat) (e:List AV),((ls.take r).drop l)[k]?=some e->ls[l+k]?=some e:=λk e he=>by
  rw[List.getElem?_drop,List.getElem?_take]at he
  split at he
  ·exact he
  ·cases he
 refine⟨.slice (if cap=l then A else A.map (·.add (l*sz))) ((ls.take r).drop l).length (cap-l),?_,.sl (b:=b) (off:=off+l*sz) (f:=λk j=>f (l+k) j) (λhne=>?_) (by omega) (by omega) (λk e he=>hlen _ e (hget k e he)) (λk j e x he hj=>?_) (λk j e x he hj=>hr _ j e x (hget k e he) hj) (λe he=>hfr e (List.mem_of_mem_take (List.mem_of_mem_drop he)))⟩
 ·rw[hll]
  simp[execOp,ho,hu,Zv2 (ht.sliceU hk),Instr.slice,run_underlying (ht.sliceU hk),Zxh (n:=n) (isS:=true) h hlo hhi h1 (Nat.le_trans h2 hcap),hte.size,hsz]
 ·have hne':0<r-l:=by
   rw[<-hll]
   exact List.length_pos_iff.2 hne
  obtain⟨rfl,q2,q3⟩:=hA (λe=>by rw[e]at h2;simp at h2;omega)
  rw[if_neg (by omega)]
  exact⟨by simp[Zjc],q2,q3⟩
 ·have:=hc _ j e x (hget k e he) hj
  rw[show off+l*sz+(k*sz+j)=off+((l+k)*sz+j)from by rw[Nat.add_mul];omega]
  exact this
theorem Zaif {x:Operand}{e:TypeId}{te:TI}{lo hi:Option Operand}{i ver k len l r:Nat}{B:Blk}(ho:o.op=.slice t x lo hi none)(hx:evA τ x=.own i ver k len)(hi':η i=⟨ver,some B⟩)(ht:TyOk C.P t ti)(hk:ti.kind=.slice e)(hte:TyOk C.P e te)(hsz:te.sz=B.sz)
  (hlo:Bnd τ 0 lo l) (hhi:Bnd τ len hi r) (h1:l<=r) (h2:r<=len):Zuc C n o τ η (.own i ver (k+l) (r-l)):=by
 intro w0 X m a w h
 have hv:=h.ev x
 rw[hx]at hv
 have hs:(shp η) i=(ver,some B.sz):=by simp[shp,hi']
 have hrun:∀A cap,a.eval x=.slice A len cap->len<=cap->(execOp a.eval o).run C.P w=.ok (.value (.slice (if cap=l then A else A.map (·.add (l*B.sz))) (r-l) (cap-l))) w:=by
  intro A cap hu hcap
  simp[execOp,ho,hu,Zv2 (ht.sliceU hk),Instr.slice,run_underlying (ht.sliceU hk),Zxh (n:=n) (isS:=true) h hlo hhi h1 (Nat.le_trans h2 hcap),hte.size,hsz]
 rcases Zor hv hi' with⟨rfl,rfl,e2,hu⟩|⟨k',A,rfl,rfl,hu⟩|⟨b,cap,ty,nn,e1,e2,e3,e4,e5,hu⟩
 ·obtain rfl:l=0:=by omega
  obtain rfl:r=0:=by omega
  exact⟨_,hrun none 0 hu (Nat.le_refl _),by simpa using RV.ownN hs e2⟩
 ·obtain rfl:l=0:=by omega
  obtain rfl:r=0:=by omega
  exact⟨_,hrun _ 0 hu (Nat.le_refl _),by simpa using RV.ownZ hs⟩
 ·refine⟨_,hrun _ cap hu e2,?_⟩
  by_cases hcl:cap=l
  ·rw[if_pos hcl]
   by_cases hl0:l=0
   ·subst hl0
    obtain rfl:r=0:=by omega
    have:=RV.own (w:=w) (vs:=shp η) (m:=m) (k:=k) (len:=0) (cap:=cap) hs e1 (by omega) e3 e4 e5
    simpa using this
   ·obtain⟨l',rfl⟩:∃l',l=l'+1:=⟨l-1,by omega⟩
    rw[show r-(l'+1)=0 from by omega,show cap-(l'+1)=0 from by omega,<-Nat.add_assoc]
    exact RV.ownZ hs
  ·rw[if_neg hcl]
   have:=RV.own (w:=w) (vs:=shp η) (m:=m) (k:=k+l) (len:=r-l) (cap:=cap-l) hs e1 (by omega) (by omega) e4 (by rw[<-e5];congr 1;omega)
   simpa [Zjc,Nat.add_mul] using this
end
def Zd1 : AV->List AV
 | .agg cs=>cs
 | .c (.agg us)=>us.toList.map .c
 | x=>[x]
def Zw9 (l:List AV):Bool:=l.all oneA
theorem Zac7 {w:World}{vs:Shp}{m:MM}{x:AV}{v:Value}(h:RV w vs m x v)(ho:Zw9 (Zd1 x)=true) :
  (Zd1 x).length=v.cells.size/\∀(j:Nat) (y:AV),(Zd1 x)[j]?=some y->∃u,v.cells[j]?=some u/\u.oneCell'=true/\RV w vs m y u:=by
 have one:Zd1 x=[x]->(Zd1 x).length=v.cells.size/\∀(j:Nat) (y:AV),(Zd1 x)[j]?=some y->∃u,v.cells[j]?=some u/\u.oneCell'=true/\RV w vs m y u:=by
  intro e
  rw[e]at ho ⊢
  have h1:v.oneCell'=true:=Zaph h (by simpa [Zw9] using ho)
  rw[Zans h1]
  refine⟨by simp,λj y hj=>?_⟩
  cases j with
  | zero=>simp at hj;subst hj;exact⟨v,by simp,h1,h⟩
  | succ j=>simp at hj
 cases x with
 | agg cs =>
  obtain⟨us,rfl,hl,hr⟩:=Zt1 h
  refine⟨hl,λj y hj=>?_⟩
  have hj':cs[j]?=some y:=hj
  have hlt:j<us.size:=by rw[<-hl];exact(gS_.1 hj').1
  have hq:us[j]?=some us[j]:=aE_ hlt
  have hy:=hr j y _ hj' hq
  exact⟨us[j],hq,Zaph hy (List.all_eq_true.1 ho y (mG_ hj')),hy⟩
 | c u =>
  have:=Zjp h
  subst this
  cases v with
  | agg us =>
   refine⟨by simp[Zd1,Value.cells],λj y hj=>?_⟩
   have hj':(us.toList.map AV.c)[j]?=some y:=hj
   rw[List.getElem?_map]at hj'
   cases hq:us.toList[j]? with
   | none=>rw[hq]at hj';cases hj'
   | some q =>
    rw[hq]at hj'
    simp at hj'
    subst hj'
    have hy:RV w vs m (.c q) q:=.c q
    exact⟨q,by simpa [Value.cells] using hq,Zaph hy (List.all_eq_true.1 ho (.c q) (mG_ hj)),hy⟩
  | _=>exact one rfl
 | _=>exact one rfl
section
variable {C : Cx} {n : Nat} {o : Oper} {τ : Nat -> AV} {η : Nat -> Ent} {t : TypeId} {ti : TI}
theorem Zajv {w:World}{vs:Shp}{m:MM}{x:AV}{v:Value}(h:RV w vs m x v)(ho:Zw9 (Zd1 x)=true):Flat w vs m (Zd1 x).length [Zd1 x] v.cells:=by
 obtain⟨h1,h2⟩:=Zac7 h ho
 refine⟨by simp[h1],λk e he=>?_⟩
 cases k with
 | zero=>simp at he;subst he;exact⟨rfl,λj x hx=>by simpa using h2 j x hx⟩
 | succ k=>simp at he
theorem Zad7 {η:Nat->Ent}{i ver:Nat}{B:Blk}:shp (Zeo η i ⟨ver,some B⟩) i=(ver,some B.sz):=by simp[shp,Zeo]
theorem Zay7 {x:Operand}{d:Nat}(ho:o.op=.box t x)(hd:o.dst=some d)(hn:d<n)(hM:isM true t=false)(h1:Zw9 (Zd1 (evA τ x))=true) :
  Step C n o τ η (Zss τ o.dst (.ptr d ((η d).ver+1) 0 0)) (Zeo η d ⟨(η d).ver+1,some ⟨t,(Zd1 (evA τ x)).length,true,[Zd1 (evA τ x)]⟩⟩):=by
 intro w0 X m a w h
 have hf:=Zajv (h.ev x) h1
 have hr:=h.fresh (i:=d) (ver:=(η d).ver+1) (B:=⟨t,(Zd1 (evA τ x)).length,true,[Zd1 (evA τ x)]⟩) hM hn (Nat.lt_succ_self _) hf
 have hrun:(execOp a.eval o).run C.P w=.ok (.value (.pointer (some ⟨w.heap.size,0,none⟩))) (w.alloc (.cells (a.eval x).cells t)):=by
  simp[execOp,ho,Instr.box,newVar,newRow,newObj,Sem.run]
 unfold Oper.wp
 rw[hrun]
 refine⟨_,hr.put (by rw[hd];exact hn) ?_⟩
 have:=RV.ptr (w:=w.alloc (.cells (a.eval x).cells t)) (vs:=shp (Zeo η d ⟨(η d).ver+1,some ⟨t,(Zd1 (evA τ x)).length,true,[Zd1 (evA τ x)]⟩⟩)) (m:=newM m d (some w.heap.size)) (k:=0) (j:=0) Zad7 (Zet _ _ _)
 simpa using this
theorem Zau6 {d:Nat}(ho:o.op=.alloc t)(hd:o.dst=some d)(hn:d<n)(hM:isM true t=false)(ht:TyOk C.P t ti)(h1:Zw9 (Zd1 (.c ti.zero))=true) :
  Step C n o τ η (Zss τ o.dst (.ptr d ((η d).ver+1) 0 0)) (Zeo η d ⟨(η d).ver+1,some ⟨t,(Zd1 (.c ti.zero)).length,true,[Zd1 (.c ti.zero)]⟩⟩):=by
 intro w0 X m a w h
 have hf:=Zajv (w:=w) (vs:=shp η) (m:=m) (x:=.c ti.zero) (v:=ti.zero) (.c _) h1
 have hr:=h.fresh (i:=d) (ver:=(η d).ver+1) (B:=⟨t,(Zd1 (.c ti.zero)).length,true,[Zd1 (.c ti.zero)]⟩) hM hn (Nat.lt_succ_self _) hf
 have hrun:(execOp a.eval o).run C.P w=.ok (.value (.pointer (some ⟨w.heap.size,0,none⟩))) (w.alloc (.cells ti.zero.cells t)):=by
  simp[execOp,ho,Instr.alloc,ht.zeroV,newVar,newRow,newObj,Sem.run]
 unfold Oper.wp
 rw[hrun]
 refine⟨_,hr.put (by rw[hd];exact hn) ?_⟩
 have:=RV.ptr (w:=w.alloc (.cells ti.zero.cells t)) (vs:=shp (Zeo η d ⟨(η d).ver+1,some ⟨t,(Zd1 (.c ti.zero)).length,true,[Zd1 (.c ti.zero)]⟩⟩)) (m:=newM m d (some w.heap.size)) (k:=0) (j:=0) Zad7 (Zet _ _ _)
 simpa using this
def lay (e:List AV)(j:Nat)(xs:List AV):List AV:=e.take j++xs++e.drop (j+xs.length)
theorem Zau7 {x y:Operand}{i ver k j:Nat}{B:Blk}{e:List AV}(ho:o.op=.store t x y)(hd:o.dst=none)(hx:evA τ x=.ptr i ver k j)(hi:η i=⟨ver,some B⟩)(he:B.els[k]?=some e)(ht:TyOk C.P t ti)
  (hl:(Zd1 (evA τ y)).length=ti.sz) (h1:Zw9 (Zd1 (evA τ y))=true) (hj:j+ti.sz<=B.sz) (hM:isM B.box B.ty=false) :
  Step C n o τ η τ (Zeo η i ⟨ver,some { B with els:=B.els.set k (lay e j (Zd1 (evA τ y))) }⟩):=by
 intro w0 X m a w h
 have hv:=h.ev x
 rw[hx]at hv
 obtain⟨b,hb,hu⟩:=Zos hv hi
 have hok:=h.mem.ok i B (by rw[hi])
 rw[hb]at hok
 obtain⟨arr,a1,a2,a3⟩:=hok.cellsF hM
 obtain⟨c1,c2⟩:=Zac7 (h.ev y) h1
 have hfl:Flat w (shp η) m B.sz B.els arr:=⟨a2,a3⟩
 obtain⟨f1,f2,f3⟩:=hfl.store (j:=j) (xs:=Zd1 (evA τ y)) (us:=(a.eval y).cells.toList) he (by omega) (by simp[c1]) (λq z hq=>by
  obtain⟨u,u1,u2,u3⟩:=c2 q z hq
  exact⟨u,by simpa using u1,u2,u3⟩)
 have hone:∀v∈(a.eval y).cells.toList,v.oneCell'=true:=by
  intro v hv'
  obtain⟨q,hq⟩:=List.getElem?_of_mem hv'
  have hlt:q<(Zd1 (evA τ y)).length:=by rw[c1];simpa using (gS_.1 hq).1
  obtain⟨u,u1,u2,_⟩:=c2 q _ (gE_ hlt)
  have:(a.eval y).cells.toList[q]?=some u:=by simpa using u1
  rw[hq]at this
  injection this with this
  rw[this]
  exact u2
 have hst:=run_storeCells_at C.P b (k*B.sz+j) B.ty (a.eval y).cells.toList 0 arr w a1 (by simpa using f2) hone
 have hrun:(execOp a.eval o).run C.P w=.ok .skip (w.setRow b (arr.toList.take (k*B.sz+j)++(a.eval y).cells.toList++arr.toList.drop (k*B.sz+j+(a.eval y).cells.toList.length)).toArray):=by
  simp only[Nat.add_zero]at hst
  have hsz:(a.eval y).cells.size=ti.sz:=by rw[<-c1,hl]
  simp only[execOp,ho,hu,Instr.storeAt,Instr.sureAddr,storeVar,Sem.run_bind,Sem.run_pure,Result.andThen_ok,ht.size,hsz,ne_eq,not_true,if_false,hst]
 have hr:=h.write hM hi hb a1 f3 f1
 unfold Oper.wp
 rw[hrun]
 refine⟨m,?_⟩
 rw[hd]
 exact hr
theorem Zava {w:World}{m:MM}{i ver k len:Nat}{B:Blk}{v:Value}(hv:RV w (shp η) m (.own i ver k len) v)(hi:η i=⟨ver,some B⟩)(hok:BlkOk w (shp η) m B (m i))(hkl:k+len<=B.els.length) :
  ∃A c news,v=.slice A len c/\Reads w w.heap.size B.sz A len news/\(∀u∈news,u.oneCell'=true)/\Flat w (shp η) m B.sz ((B.els.drop k).take len) news.toArray:=by
 rcases Zor hv hi with⟨rfl,rfl,_,rfl⟩|⟨k',A,rfl,rfl,rfl⟩|⟨b,cap,ty,nn,e1,e2,e3,e4,e5,rfl⟩
 ·exact⟨_,_,[],rfl,Reads.none_,by simp,by simp[Flat]⟩
 ·exact⟨_,_,[],rfl,Reads.none_,by simp,by simp[Flat]⟩
 ·rw[e1]at hok
  obtain⟨arr,a1,a2,a3⟩:=hok.unmap e4
  have hroom:(k+len)*B.sz<=arr.size:=Nat.le_trans (Nat.mul_le_mul_right _ hkl) a2
  rw[Nat.add_mul]at hroom
  have hnl:((arr.toList.drop (k*B.sz)).take (len*B.sz)).length=len*B.sz:=by simp;omega
  have hget:∀q u,((arr.toList.drop (k*B.sz)).take (len*B.sz))[q]?=some u->q<len*B.sz/\arr[k*B.sz+q]?=some u:=λq u hq=>by
   rw[List.getElem?_take]at hq
   split at hq
   ·rw[List.getElem?_drop]at hq;exact⟨by assumption,by simpa using hq⟩
   ·cases hq
  refine⟨_,_,(arr.toList.drop (k*B.sz)).take (len*B.sz),rfl,⟨hnl,λ_=>⟨_,rfl,lt_of_block a1,λq u hq=>?_⟩⟩,λu hu=>?_,⟨?_,λq e he=>?_⟩⟩
  ·rw[Zjc]
   simp[World.cell?,a1,(hget q u hq).2]
  ·obtain⟨q,hq⟩:=List.getElem?_of_mem hu
   obtain⟨q1,q2⟩:=hget q u hq
   have hsz:0<B.sz:=Nat.pos_of_ne_zero (λe=>by rw[e]at q1;simp at q1)
   have hdm:=Nat.div_add_mod q B.sz
   have hd:q / B.sz<len:=Nat.div_lt_of_lt_mul (by rw[Nat.mul_comm];exact q1)
   have hml:=Nat.mod_lt q hsz
   have hlt:k+q / B.sz<B.els.length:=by omega
   obtain⟨l1,l2⟩:=a3 _ _ (gE_ hlt)
   have hm2:q % B.sz<(B.els[k+q / B.sz]).length:=by rw[l1];exact hml
   obtain⟨z,z1,z2,_⟩:=l2 (q % B.sz) _ (gE_ hm2)
   have heq:(k+q / B.sz)*B.sz+q % B.sz=k*B.sz+q:=by rw[Nat.add_mul,Nat.mul_comm (q / B.sz)];omega
   rw[heq,q2]at z1
   injection z1 with z1
   rw[z1]
   exact z2
  ·simp only[List.length_take,List.length_drop,List.size_toArray]
   have:min len (B.els.length-k)=len:=by omega
   rw[this]
   simp
   omega
  ·rw[List.getElem?_take]at he
   split at he
   ·rename_i hql
    rw[List.getElem?_drop]at he
    obtain⟨l1,l2⟩:=a3 _ e he
    refine⟨l1,λj x hx=>?_⟩
    obtain⟨u,u1,u2,u3⟩:=l2 j x hx
    refine⟨u,?_,u2,u3⟩
    have hj:j<B.sz:=by rw[<-l1];exact(gS_.1 hx).1
    have:=Zmq hql hj
    rw[List.getElem?_toArray,List.getElem?_take,if_pos this,List.getElem?_drop]
    rw[Nat.add_mul]at u1
    simpa [Nat.add_assoc] using u1
   ·cases he
theorem Zaw5 {w:World}{vs:Shp}{m:MM}{sz:Nat}{l:List (List AV)}{v:Value}(hv:RV w vs m (.sl sz l) v) :
  ∃A c news,v=.slice A l.length c/\Reads w w.heap.size sz A l.length news/\(∀u∈news,u.oneCell'=true)/\Flat w vs m sz l news.toArray:=by
 obtain⟨A,cap,b,off,f,rfl,hA,_,_,hlen,hc,hr,_⟩:=Zxj hv
 have hget:∀q u,((List.range (l.length*sz)).map (λq=>f (q / sz) (q % sz)))[q]?=some u->q<l.length*sz/\f (q / sz) (q % sz)=u:=λq u hq=>Zaas hq
 have hcell:∀q,q<l.length*sz->w.cell? ⟨b,off+q,none⟩=some (f (q / sz) (q % sz))/\(f (q / sz) (q % sz)).oneCell'=true:=by
  intro q hq
  have hsz:0<sz:=Nat.pos_of_ne_zero (λe=>by rw[e]at hq;simp at hq)
  have hdm:=Nat.div_add_mod q sz
  have hd:q / sz<l.length:=Nat.div_lt_of_lt_mul (by rw[Nat.mul_comm];exact hq)
  have hml:=Nat.mod_lt q hsz
  have h1:=gE_ hd
  have hm2:q % sz<(l[q / sz]).length:=by rw[hlen _ _ h1];exact hml
  have:=hc _ _ _ _ h1 (gE_ hm2)
  rw[show q / sz*sz+q % sz=q from by rw[Nat.mul_comm];omega]at this
  exact this
 refine⟨_,_,(List.range (l.length*sz)).map (λq=>f (q / sz) (q % sz)),rfl,⟨by simp,λhn=>?_⟩,λu hu=>?_,⟨by simp,λk e he=>⟨hlen k e he,λj x hx=>?_⟩⟩⟩
 ·obtain⟨rfl,_,hb⟩:=hA (λe=>by rw[e]at hn;simp at hn)
  refine⟨_,rfl,hb,λq u hq=>?_⟩
  obtain⟨q1,q2⟩:=hget q u hq
  rw[Zjc,<-q2]
  exact(hcell q q1).1
 ·obtain⟨q,hq⟩:=List.getElem?_of_mem hu
  obtain⟨q1,q2⟩:=hget q u hq
  rw[<-q2]
  exact(hcell q q1).2
 ·have hj:j<sz:=by rw[<-hlen k e he];exact(gS_.1 hx).1
  have hk:=Zmq (gS_.1 he).1 hj
  have h1:(k*sz+j) / sz=k:=by rw[Nat.mul_comm,Nat.mul_add_div (by omega),Nat.div_eq_of_lt hj];omega
  have h2:(k*sz+j) % sz=j:=by rw[Nat.mul_comm,Nat.mul_add_mod,Nat.mod_eq_of_lt hj]
  refine⟨f k j,by simp[hk,h1,h2],(hc k j e x he hx).2,hr k j e x he hx⟩
end
section
variable {C : Cx} {n : Nat} {o : Oper} {τ : Nat -> AV} {η : Nat -> Ent} {t : TypeId} {ti : TI}
def Src (η:Nat->Ent)(sz:Nat)(new:List (List AV)):AV->Prop
 | .sl s l=>s=sz/\new=l
 | .own i ver k len=>∃B,η i=⟨ver,some B⟩/\B.sz=sz/\k+len<=B.els.length/\new=(B.els.drop k).take len
 | .c (.slice none 0 _)=>new=[]
 | _=>False
theorem Zas8 {sz:Nat}{new:List (List AV)}{w0:World}{X:XX}{m:MM}{a:Act}{w:World}(h:Rep C n w0 X τ η m a w){y:Operand}(hs:Src η sz new (evA τ y)) :
  ∃A c news,a.eval y=.slice A new.length c/\Reads w w.heap.size sz A new.length news/\(∀u∈news,u.oneCell'=true)/\Flat w (shp η) m sz new news.toArray:=by
 have hv:=h.ev y
 unfold Src at hs
 split at hs
 ·rename_i e
  rw[e]at hv
  obtain⟨rfl,rfl⟩:=hs
  exact Zaw5 hv
 ·rename_i i ver k len e
  rw[e]at hv
  obtain⟨B,hi,rfl,hkl,rfl⟩:=hs
  have hl:((B.els.drop k).take len).length=len:=by simp;omega
  rw[hl]
  exact Zava hv hi (h.mem.ok i B (by rw[hi])) hkl
 ·rename_i e
  rw[e]at hv
  subst hs
  exact⟨_,_,[],by rw[Zjp hv];rfl,Reads.none_,by simp,by simp[Flat]⟩
 ·exact hs.elim
theorem Zago {x y:Operand}{e:TypeId}{te:TI}{i ver len:Nat}{B:Blk}{new:List (List AV)}(ho:o.op=.call { callee:=.builtin .append,args:=#[x,y],argTypes:=#[t,t] }) (hd:InB n o.dst)
  (hin:i<n) (hx:evA τ x=.own i ver 0 len) (hi:η i=⟨ver,some B⟩) (hlen:B.els.length=len) (hs:Src η B.sz new (evA τ y)) (ht:TyOk C.P t ti) (hk:ti.kind=.slice e) (hte:TyOk C.P e te) (hsz:te.sz=B.sz) (hty:B.ty=e) (hpos:0<B.sz)
  (hroom:(len+new.length)*te.bytes<=140737488355328) (hmax:len+new.length<=9223372036854775807) :
  Step C n o τ η (Zss τ o.dst (.own i (ver+1) 0 (len+new.length))) (Zeo η i ⟨ver+1,some ⟨e,B.sz,false,B.els++new⟩⟩):=by
 intro w0 X m a w h
 have hv:=h.ev x
 rw[hx]at hv
 obtain⟨A,c,news,hy,hr,h1,hf⟩:=Zas8 h hs
 obtain⟨xs,hrow,hfx,hmi⟩:=Zq7 hv hi (h.mem.ok i B (by rw[hi])) hlen
 obtain⟨i0,hi0,hz0,hz1,hz2⟩:=info_parts hte.info
 rw[hty]at hrow
 obtain⟨v',w',hrun,g1,g2,g3⟩:=Zpb (P:=C.P) w 0 t o.type e i0 te.zero B.sz te.bytes (ht.sliceU hk) hi0 hz0 (by rw[hz1,hsz]) hz2 (by rw[hte.cells,hsz]) hpos (a.eval x) len xs hrow _ A new.length c news hr h1 (by simp only[maxLen];exact hmax) hroom (Nat.zero_le _)
 obtain⟨r1,r2⟩:=h.rowed (i:=i) (ver':=ver+1) (E:=e) (sz:=B.sz) (els':=B.els++new) hin (.inr ⟨by rw[hi];simp,hmi⟩) (by rw[hi];exact Nat.lt_succ_self _) g1 g2 g3 (Flat.append hfx hf (by rw[hrow.1,hlen])) (by simp[hlen])
 unfold Oper.wp
 simp only[execOp,ho,resolve,invoke,builtin,Sem.run_bind,Sem.run_pure,Result.andThen_ok,List.map_toArray,List.map_cons,List.map_nil,hy,hrun]
 exact⟨_,r1.put hd r2⟩
theorem Zagn {x y:Operand}{e:TypeId}{te:TI}{i cc:Nat}{new:List (List AV)}(ho:o.op=.call { callee:=.builtin .append,args:=#[x,y],argTypes:=#[t,t] }) (hd:o.dst=some i) (hn:i<n)
  (hx:evA τ x=.c (.slice none 0 cc)) (hcc:cc=0) (hs:Src η te.sz new (evA τ y)) (ht:TyOk C.P t ti) (hk:ti.kind=.slice e) (hte:TyOk C.P e te) (hpos:0<te.sz)
  (hroom:new.length*te.bytes<=140737488355328) (hmax:new.length<=9223372036854775807) :
  Step C n o τ η (Zss τ o.dst (.own i ((η i).ver+1) 0 new.length)) (Zeo η i ⟨(η i).ver+1,some ⟨e,te.sz,false,new⟩⟩):=by
 intro w0 X m a w h
 have hv:=h.ev x
 rw[hx,hcc]at hv
 obtain⟨A,c,news,hy,hr,h1,hf⟩:=Zas8 h hs
 obtain⟨i0,hi0,hz0,hz1,hz2⟩:=info_parts hte.info
 have hrow:w.ownsRow 0 e te.sz (a.eval x) 0 []:=by rw[Zjp hv];exact World.ownsRow_nil _ _ _ _
 obtain⟨v',w',hrun,g1,g2,g3⟩:=Zpb (P:=C.P) w 0 t o.type e i0 te.zero te.sz te.bytes (ht.sliceU hk) hi0 hz0 hz1 hz2 hte.cells hpos (a.eval x) 0 [] hrow _ A new.length c news hr h1 (by simp only[maxLen];omega) (by simpa using hroom) (Nat.zero_le _)
 have ho1:(a.eval x).ownBlock=none:=by rw[Zjp hv];rfl
 rw[Nat.zero_add,List.nil_append]at g1
 obtain⟨r1,r2⟩:=h.rowed (i:=i) (ver':=(η i).ver+1) (E:=e) (sz:=te.sz) (els':=new) hn (.inl ho1) (Nat.lt_succ_self _) g1 g2 g3 hf rfl
 unfold Oper.wp
 simp only[execOp,ho,resolve,invoke,builtin,Sem.run_bind,Sem.run_pure,Result.andThen_ok,List.map_toArray,List.map_cons,List.map_nil,hy,hrun]
 exact⟨_,r1.put (by rw[hd];exact hn) r2⟩
theorem Zajw (off:Nat):∀(l:List Value)(k:Nat)(arr:Array Value),((l.zipIdx k).foldl (λcs (p:Value×Nat)=>cs.setIfInBounds (off+p.2) p.1) arr).size=arr.size /\
  ∀q,q<arr.size->((l.zipIdx k).foldl (λcs (p:Value×Nat)=>cs.setIfInBounds (off+p.2) p.1) arr)[q]?=if off+k<=q/\q<off+k+l.length then l[q-(off+k)]? else arr[q]?
 | [],k,arr=>⟨rfl,λq _=>by simp;omega⟩
 | v :: r,k,arr=>by
  obtain⟨h1,h2⟩:=Zajw off r (k+1) (arr.setIfInBounds (off+k) v)
  simp only[List.zipIdx_cons,List.foldl_cons]
  refine⟨by rw[h1];simp,λq hq=>?_⟩
  rw[h2 q (by simpa using hq)]
  by_cases e:q=off+k
  ·subst e
   rw[if_neg (by omega),if_pos (by simp),Array.getElem?_setIfInBounds_self_of_lt hq]
   simp
  ·rw[Array.getElem?_setIfInBounds_ne (λh=>e h.symm)]
   by_cases hc:off+k<=q/\q<off+k+(v :: r).length
   ·rw[if_pos (by simp at hc;omega),if_pos hc]
    obtain⟨p,hp⟩:∃p,q-(off+k)=p+1:=⟨q-(off+k)-1,by omega⟩
    rw[hp,show q-(off+(k+1))=p from by omega]
    simp
   ·rw[if_neg (by simp at hc;omega),if_neg hc]
def Sits (w:World)(vs:Shp)(m:MM)(e:List AV)(arr:Array Value):Prop:=e.length=arr.size/\∀(j:Nat) (x:AV),e[j]?=some x->∃u,arr[j]?=some u/\u.oneCell'=true/\RV w vs m x u
theorem Zar3 {w:World}{vs:Shp}{m:MM}{e xs:List AV}{arr us:Array Value}{off:Nat}(h:Sits w vs m e arr)(hx:Sits w vs m xs us)(ho:off+xs.length<=e.length) :
  Sits w vs m (lay e off xs) (us.zipIdx.foldl (λcs (p:Value×Nat)=>cs.setIfInBounds (off+p.2) p.1) arr):=by
 have hl:(lay e off xs).length=e.length:=by simp[lay];omega
 have hf:us.zipIdx.foldl (λcs (p:Value×Nat)=>cs.setIfInBounds (off+p.2) p.1) arr=(us.toList.zipIdx 0).foldl (λcs (p:Value×Nat)=>cs.setIfInBounds (off+p.2) p.1) arr:=by
  rw[<-Array.foldl_toList,Array.toList_zipIdx]
 obtain⟨h1,h2⟩:=Zajw off us.toList 0 arr
 rw[hf]
 refine⟨by rw[hl,h1,h.1],λj x hj=>?_⟩
 have hj':j<arr.size:=by rw[<-h.1,<-hl];exact(gS_.1 hj).1
 rw[h2 j hj']
 have ht:(e.take off).length=off:=by simp;omega
 have hux:us.toList.length=xs.length:=by simp[hx.1]
 unfold lay at hj
 by_cases c1:j<off
 ·rw[if_neg (by omega)]
  rw[List.append_assoc,List.getElem?_append_left (by omega),List.getElem?_take,if_pos c1]at hj
  exact h.2 j x hj
 ·by_cases c2:j<off+xs.length
  ·rw[if_pos (by omega)]
   rw[List.append_assoc,List.getElem?_append_right (by omega),ht,List.getElem?_append_left (by omega)]at hj
   obtain⟨u,u1,u2,u3⟩:=hx.2 _ x hj
   exact⟨u,by simpa using u1,u2,u3⟩
  ·rw[if_neg (by omega)]
   have hq:(e.take off++xs).length=off+xs.length:=by rw[lA_,ht]
   rw[List.getElem?_append_right (by omega),List.getElem?_drop,hq,show off+xs.length+(j-(off+xs.length))=j from by omega]at hj
   exact h.2 j x hj
def Zx0 (place:Nat->Option (Nat×Nat)):List AV->List (Nat×AV)->Option (List AV)
 | e,[]=>some e
 | e,(i,x) :: r=>match place i with
  | some (off,size)=>if(Zd1 x).length=size/\off+size<=e.length/\Zw9 (Zd1 x)=true then Zx0 place (lay e off (Zd1 x)) r else none
  | none=>none
theorem Zahp {w:World}{vs:Shp}{m:MM}{place:Nat->Option (Nat×Nat)}:∀(ps:List (Nat×AV))(qs:List (Nat×Value))(e e':List AV)(arr:Array Value),Sits w vs m e arr->ps.length=qs.length ->
  (∀(k:Nat) (p:Nat×AV) (q:Nat×Value),ps[k]?=some p->qs[k]?=some q->p.1=q.1/\RV w vs m p.2 q.2)->Zx0 place e ps=some e'->∃arr',Instr.fill place arr qs=some arr'/\Sits w vs m e' arr'
 | [],[],e,e',arr,hs,_,_,hl=>by
  simp[Zx0]at hl
  subst hl
  exact⟨arr,rfl,hs⟩
 | [],_ :: _,_,_,_,_,hl,_,_=>by simp at hl
 | _ :: _,[],_,_,_,_,hl,_,_=>by simp at hl
 | (i,x) :: ps,(i',v) :: qs,e,e',arr,hs,hlen,hr,hl=>by
  obtain⟨h1,h2⟩:=hr 0 (i,x) (i',v) rfl rfl
  simp only at h1 h2
  subst h1
  rw[Zx0]at hl
  cases hp:place i with
  | none=>rw[hp]at hl;cases hl
  | some os =>
   obtain⟨off,size⟩:=os
   rw[hp]at hl
   simp only at hl
   split at hl
   ·rename_i hc
    obtain⟨c1,c2,c3⟩:=hc
    obtain⟨d1,d2⟩:=Zac7 h2 c3
    have hs':=Zar3 (off:=off) hs ⟨d1,d2⟩ (by omega)
    obtain⟨arr',f1,f2⟩:=Zahp ps qs _ e' _ hs' (by simpa using hlen) (λk p q hp hq=>hr (k+1) p q (by simpa using hp) (by simpa using hq)) hl
    refine⟨arr',?_,f2⟩
    have hcond:(decide (v.cells.size≠size)||decide (off+v.cells.size>arr.size))=false:=by
     have:=hs.1
     simp
     omega
    unfold Instr.fill
    simp only[hp]
    rw[if_neg (by rw[hcond];simp)]
    exact f1
   ·cases hl
theorem Zaml {P:Program}{w:World}(sz:TypeId->Nat)(gs:Array Field)(h:∀g∈gs.toList,(sizeOf g.type).run P w=.ok (sz g.type) w) :
  (gs.mapM (λf=>do pure (f.offset,<-sizeOf f.type)):Sem (Array (Nat×Nat))).run P w=.ok (gs.toList.map (λg=>(g.offset,sz g.type))).toArray w:=by
 have key:∀l:List Field,(∀g∈l,(sizeOf g.type).run P w=.ok (sz g.type) w)->(l.mapM (λf=>do pure (f.offset,<-sizeOf f.type)):Sem (List (Nat×Nat))).run P w=.ok (l.map (λg=>(g.offset,sz g.type))) w:=by
  intro l
  induction l with
  | nil=>intro _;simp
  | cons g r ih =>
   intro hl
   rw[List.mapM_cons]
   simp only[Sem.run_bind,hl g (by simp),Result.andThen_ok,Sem.run_pure,ih (λx hx=>hl x (by simp[hx])),List.map_cons]
 rw[Array.mapM_eq_mapM_toList]
 have:=key gs.toList h
 rw[map_eq_pure_bind]
 simp only[Sem.run_bind,this,Result.andThen_ok,Sem.run_pure]
theorem Zakn {w0:World}{X:XX}{m:MM}{a:Act}{w:World}(h:Rep C n w0 X τ η m a w)(ps:Array (Nat×Operand)) :
  (ps.toList.map (λp=>(p.1,evA τ p.2))).length=(ps.map (λp=>(p.1,a.eval p.2))).toList.length /\
  ∀(k:Nat) (p:Nat×AV) (q:Nat×Value),(ps.toList.map (λp=>(p.1,evA τ p.2)))[k]?=some p->(ps.map (λp=>(p.1,a.eval p.2))).toList[k]?=some q->p.1=q.1/\RV w (shp η) m p.2 q.2:=by
 refine⟨by simp,λk p q hp hq=>?_⟩
 rw[Array.toList_map]at hq
 rw[List.getElem?_map]at hp hq
 cases hk:ps.toList[k]? with
 | none=>rw[hk]at hp;cases hp
 | some r =>
  rw[hk]at hp hq
  simp at hp hq
  subst hp hq
  exact⟨rfl,h.ev r.2⟩
theorem Zapl {w:World}{vs:Shp}{m:MM}(us:Array Value)(h:∀u∈us.toList,u.oneCell'=true):Sits w vs m (us.toList.map .c) us:=by
 refine⟨by simp,λj x hj=>?_⟩
 rw[List.getElem?_map]at hj
 cases hk:us.toList[j]? with
 | none=>rw[hk]at hj;cases hj
 | some u =>
  rw[hk]at hj
  simp at hj
  subst hj
  exact⟨u,by simpa using hk,h u (mG_ hk),.c u⟩
theorem Zauz {ps:Array (Nat×Operand)}{fs:List (Nat×TypeId)}{fsz:TypeId->Nat}{e':List AV}(ho:o.op=.build t ps)(ht:TyOk C.P t ti)(hk:ti.kind=.struct fs)(hfs:∀p∈fs,∃tf,TyOk C.P p.2 tf/\tf.sz=fsz p.2)
  (hz:∀u∈ti.zero.cells.toList,u.oneCell'=true) (hl:Zx0 (λi=>(fs[i]?).map (λp=>(p.1,fsz p.2))) (ti.zero.cells.toList.map .c) (ps.toList.map (λp=>(p.1,evA τ p.2)))=some e'):Zuc C n o τ η (.agg e'):=by
 intro w0 X m a w h
 obtain⟨gs,hu,hm⟩:=ht.structU hk
 obtain⟨q1,q2⟩:=Zakn h ps
 obtain⟨arr',f1,f2⟩:=Zahp _ _ _ _ _ (Zapl (w:=w) (vs:=shp η) (m:=m) ti.zero.cells hz) q1 q2 hl
 have hpl:=Zaml (P:=C.P) (w:=w) fsz gs (λg hg=>by
  obtain⟨tf,t1,t2⟩:=hfs (g.offset,g.type) (by rw[<-hm];exact List.mem_map.2 ⟨g,hg,rfl⟩)
  rw[t1.size,t2])
 have hfun:(λ(i:Nat)=>(gs.toList.map (λg=>(g.offset,fsz g.type))).toArray[i]?)=λ(i:Nat)=>(fs[i]?).map (λ(p:Nat×TypeId)=>(p.1,fsz p.2)):=by
  funext i
  rw[<-hm,List.getElem?_toArray,List.getElem?_map,List.getElem?_map,Option.map_map]
  rfl
 refine⟨.agg arr',?_,.agg f2.1 (λj x u hx hu'=>?_)⟩
 ·have hpl':(gs.mapM (λf=>(do let s<-sizeOf f.type;pure (f.offset,s):Sem (Nat×Nat))):Sem (Array (Nat×Nat))).run C.P w=.ok (gs.toList.map (λg=>(g.offset,fsz g.type))).toArray w:=hpl
  simp only[execOp,ho,Instr.build,Sem.run_bind,ht.zeroV,Result.andThen_ok,run_underlying hu,hpl',hfun]
  rw[f1]
  simp
 ·obtain⟨u',u1,_,u3⟩:=f2.2 j x hx
  rw[hu']at u1
  injection u1 with u1
  rw[u1]
  exact u3
theorem Zz4 {α:Type}{sz:Nat}:∀(els:List (List α)),(∀e∈els,e.length=sz)->∀(k:Nat)(e:List α)(j:Nat),els[k]?=some e->j<sz->els.flatten[k*sz+j]?=e[j]?
 | [],_,k,e,j,hk,_=>by simp at hk
 | e0 :: r,h,k,e,j,hk,hj=>by
  have h0:=h e0 (by simp)
  cases k with
  | zero =>
   simp at hk
   subst hk
   rw[List.flatten_cons,List.getElem?_append_left (by omega)]
   simp
  | succ k =>
   rw[List.flatten_cons,List.getElem?_append_right (by rw[Nat.succ_mul];omega),h0,show(k+1)*sz+j-sz=k*sz+j from by rw[Nat.succ_mul];omega]
   exact Zz4 r (λx hx=>h x (by simp[hx])) k e j (by simpa using hk) hj
theorem Zuf {α:Type}{sz:Nat}:∀(els:List (List α)),(∀e∈els,e.length=sz)->els.flatten.length=els.length*sz
 | [],_=>by simp
 | e0 :: r,h=>by
  rw[List.flatten_cons,lA_,Zuf r (λx hx=>h x (by simp[hx])),h e0 (by simp),lC_,Nat.succ_mul]
  omega
theorem Zafj {w:World}{vs:Shp}{m:MM}{sz:Nat}{els:List (List AV)}{arr:Array Value}(h:Sits w vs m els.flatten arr)(hl:∀e∈els,e.length=sz):Flat w vs m sz els arr:=by
 refine⟨by rw[<-h.1,Zuf els hl];exact Nat.le_refl _,λk e he=>⟨hl e (mG_ he),λj x hx=>?_⟩⟩
 have hj:j<sz:=by rw[<-hl e (mG_ he)];exact(gS_.1 hx).1
 exact h.2 _ x (by rw[Zz4 els hl k e j he hj,hx])
theorem Zagp {e:TypeId}{te:TI}{len d:Nat}{ps:Array (Nat×Operand)}{els:List (List AV)}(ho:o.op=.buildSlice t len ps)(hd:o.dst=some d)(hn:d<n)(ht:TyOk C.P t ti)(hk:ti.kind=.slice e)(hte:TyOk C.P e te)(hsmall:len*te.sz<=16777216)(hpos:0<te.sz)
  (hz:∀u∈te.zero.cells.toList,u.oneCell'=true) (hll:els.length=len) (hels:∀x∈els,x.length=te.sz)
  (hl:Zx0 (λi=>some (i*te.sz,te.sz)) ((List.range (len*te.sz)).map (λi=>.c (te.zero.cells.getD (i % te.sz) undef))) (ps.toList.map (λp=>(p.1,evA τ p.2)))=some els.flatten) :
  Step C n o τ η (Zss τ o.dst (.own d ((η d).ver+1) 0 len)) (Zeo η d ⟨(η d).ver+1,some ⟨e,te.sz,false,els⟩⟩):=by
 intro w0 X m a w h
 obtain⟨q1,q2⟩:=Zakn h ps
 have hzs:Sits w (shp η) m ((List.range (len*te.sz)).map (λi=>AV.c (te.zero.cells.getD (i % te.sz) undef))) ((Array.range (len*te.sz)).map (λi=>te.zero.cells.getD (i % te.sz) undef)):=by
  refine⟨by simp,λj x hj=>?_⟩
  rw[List.getElem?_map]at hj
  cases hr:(List.range (len*te.sz))[j]? with
  | none=>rw[hr]at hj;cases hj
  | some q =>
   obtain⟨g1,g2⟩:=gS_.1 hr
   simp at g1 g2
   subst g2
   rw[hr]at hj
   simp only[Option.map_some,Option.some.injEq]at hj
   subst hj
   have hp:0<te.sz:=Nat.pos_of_ne_zero (λe=>by rw[e]at g1;simp at g1)
   have hml:=Nat.mod_lt j hp
   have hlt:j % te.sz<te.zero.cells.size:=by rw[hte.cells];exact hml
   refine⟨te.zero.cells.getD (j % te.sz) undef,by simp[g1],hz _ ?_,.c _⟩
   rw[aD_,aE_ hlt]
   simp
 obtain⟨arr',f1,f2⟩:=Zahp _ _ _ _ _ hzs q1 q2 hl
 have hf:=Zafj f2 hels
 have hr:=h.fresh (i:=d) (ver:=(η d).ver+1) (B:=⟨e,te.sz,false,els⟩) rfl hn (Nat.lt_succ_self _) hf
 have hsz:arr'.size=len*te.sz:=by rw[<-f2.1,Zuf els hels,hll]
 have hrun:(execOp a.eval o).run C.P w=.ok (.value (.slice (some ⟨w.heap.size,0,none⟩) len len)) (w.alloc (.cells arr' e)):=by
  simp only[execOp,ho,Instr.buildSlice,Sem.run_bind,run_underlying (ht.sliceU hk),Result.andThen_ok,hte.size]
  rw[if_neg (by omega),show ps.map (λp=>match p with|(i,x)=>(i,a.eval x))=ps.map (λp=>(p.1,a.eval p.2))from rfl]
  by_cases h0:len*te.sz=0
  ·rw[h0]at f1 ⊢
   have f1':Instr.fill (λi=>some (i*te.sz,te.sz)) #[] (ps.map (λp=>(p.1,a.eval p.2))).toList=some arr':=by
    rw[<-f1]
    congr 1
    simp
   simp only[if_true,Sem.run_bind,Sem.run_pure,Result.andThen_ok]
   rw[show(Array.range 0).map ((#[]:Array Value)[· % (#[]:Array Value).size]!)=#[]from by simp]
   simp only[f1',newRow,newObj]
   simp[Sem.run]
  ·have hmap:(Array.range (len*te.sz)).map (te.zero.cells[· % te.zero.cells.size]!)=(Array.range (len*te.sz)).map (λi=>te.zero.cells.getD (i % te.sz) undef):=by
    refine Array.map_congr_left (λi hi=>?_)
    have hlt:i % te.sz<te.zero.cells.size:=by rw[hte.cells];exact Nat.mod_lt i hpos
    simp only[hte.cells]
    simp[hlt]
   simp only[if_neg h0,Sem.run_bind,hte.zeroV,Sem.run_pure,Result.andThen_ok,hmap,f1,newRow,newObj]
   simp[Sem.run]
 unfold Oper.wp
 rw[hrun]
 refine⟨_,hr.put (by rw[hd];exact hn) ?_⟩
 have:=RV.own (w:=w.alloc (.cells arr' e)) (vs:=shp (Zeo η d ⟨(η d).ver+1,some ⟨e,te.sz,false,els⟩⟩)) (m:=newM m d (some w.heap.size)) (k:=0) (len:=len) (cap:=len) (ty:=e) (n:=len*te.sz) Zad7 (Zet _ _ _) (Nat.le_refl _) ?_ ?_ (by simp)
 ·simpa using this
 ·have h1:len<=16777216:=Nat.le_trans (Nat.le_mul_of_pos_right _ hpos) hsmall
  simp only[maxLen]
  omega
 ·have:=heap_alloc_new w (.cells arr' e)
  simp only[World.shape?,this,hsz]
end
structure Foot where
 x:AV
 ups:List (Nat×Ent)
 rb:List Nat
def Foot.ids (f:Foot):List Nat:=f.ups.map (·.1)
def Zb5 (η:Nat->Ent):List (Nat×Ent)->Nat->Ent
 | []=>η
 | (i,e) :: r=>Zb5 (Zeo η i e) r
theorem Zfi {us:List (Nat×Ent)}:∀{η:Nat->Ent}{k:Nat},k∉us.map (·.1)->Zb5 η us k=η k:=by
 induction us with
 | nil=>intro η k _;rfl
 | cons u r ih =>
  intro η k h
  obtain⟨i,e⟩:=u
  simp at h
  rw[Zb5,ih (by simpa using h.2)]
  simp[Zeo,h.1]
theorem Zum {us:List (Nat×Ent)}:∀{η η':Nat->Ent}{k:Nat},k∈us.map (·.1)->Zb5 η us k=Zb5 η' us k:=by
 induction us with
 | nil=>intro η η' k h;simp at h
 | cons u r ih =>
  intro η η' k h
  obtain⟨i,e⟩:=u
  rw[Zb5,Zb5]
  by_cases hr:k∈r.map (·.1)
  ·exact ih hr
  ·rw[Zfi hr,Zfi hr]
   simp at h
   rcases h with rfl|h
   ·simp[Zeo]
   ·exact absurd (by simpa using h) hr
def OpWp (C:Cx)(ops:Array Oper)(o:Oper)(a:Act)(w:World)(K:Act->World->Prop):Prop :=
 if Region.wanted o (yielded ops a.tmps)then o.wp C.P a w K (λ_ _ _=>False)else K (a.put o.dst undef) w
def TS (C:Cx)(n:Nat)(ops:Array Oper)(o:Oper)(τ:Nat->AV)(η:Nat->Ent)(f:Foot):Prop :=
 ∀τ' η',(∀t∈o.looksAt ops,τ' t=τ t)->(∀i,i∈f.rb\/i∈f.ids->η' i=η i) ->
  ∀w0 X m a w,Rep C n w0 X τ' η' m a w->OpWp C ops o a w (λa' w'=>∃m',Rep C n w0 X (Zss τ' o.dst f.x) (Zb5 η' f.ups) m' a' w')
def Tr (C:Cx)(n:Nat)(ops:Array Oper):List Oper->(Nat->AV)->(Nat->Ent)->List Foot->(Nat->AV)->(Nat->Ent)->Prop
 | [],τ,η,[],τ',η'=>τ'=τ/\η'=η
 | o :: os,τ,η,f :: fs,τ',η'=>TS C n ops o τ η f/\Tr C n ops os (Zss τ o.dst f.x) (Zb5 η f.ups) fs τ' η'
 | _,_,_,_,_,_=>False
section
variable {C : Cx} {n : Nat} {ops : Array Oper} {Q : Exit -> Act -> World -> Prop}
theorem Zaqb {i:Nat}{o:Oper}{a:Act}{w:World}{K K':Act->World->Prop}(ho:ops[i]?=some o)(hk:∀a w,K a w->K' a w)(h:OpWp C ops o a w K):wpOp C.P ops Q i K' a w:=by
 unfold OpWp at h
 unfold wpOp
 simp only[ho]
 split
 ·rename_i hw
  rw[if_pos hw]at h
  have h1:o.wp C.P a w K' (λ_ _ _=>False):=Oper.wp_mono hk h
  refine .inl ?_
  unfold Oper.wp at h1 ⊢
  generalize (execOp a.eval o).run C.P w=r at h1 ⊢
  cases r with
  | ok nx w' =>
   cases nx <;> simp only[Oper.upon]at h1 ⊢ <;> first|exact h1|(refine Calls.mono h1 (λe w'' he=>?_);cases e <;> first|exact he|exact he.elim|(obtain⟨_,_,hf⟩:=he;exact hf.elim))
  | halt x w'=>cases x <;> simp only[Oper.upon]at h1 ⊢
 ·rename_i hw
  rw[if_neg hw]at h
  exact hk _ _ h
theorem Zatd : ∀(os:List Oper)(k:Nat)(τ:Nat->AV)(η:Nat->Ent)(fs:List Foot)(τ':Nat->AV)(η':Nat->Ent),Tr C n ops os τ η fs τ' η'->(∀j o,os[j]?=some o->ops[k+j]?=some o) ->
  ∀w0 X m a w,Rep C n w0 X τ η m a w->(∀m' a' w',Rep C n w0 X τ' η' m' a' w'->Q .normal a' w')->wpOps C.P ops Q ((List.range os.length).map (k+·)) a w
 | [],k,τ,η,[],τ',η',h,_,w0,X,m,a,w,hr,hq=>by
  obtain⟨rfl,rfl⟩:=h
  simpa [wpOps] using hq m a w hr
 | o :: os,k,τ,η,f :: fs,τ',η',h,hos,w0,X,m,a,w,hr,hq=>by
  obtain⟨h1,h2⟩:=h
  have e:(List.range (o :: os).length).map (k+·)=k :: (List.range os.length).map ((k+1)+·):=by
   rw[lC_,List.range_succ_eq_map,List.map_cons,List.map_map]
   congr 1
   exact List.map_congr_left (λx _=>by simp;omega)
  rw[e,wpOps_cons]
  refine Zaqb (by simpa using hos 0 o rfl) (λa w hK=>?_) (h1 τ η (λ_ _=>rfl) (λ_ _=>rfl) w0 X m a w hr)
  obtain⟨m',hr'⟩:=hK
  exact Zatd os (k+1) _ _ fs τ' η' h2 (λj o' hj=>by rw[Nat.add_assoc,Nat.add_comm 1 j];exact hos (j+1) o' (by simpa using hj)) w0 X m' a w hr' hq
 | [],_,_,_,_ :: _,_,_,h,_,_,_,_,_,_,_,_=>h.elim
 | _ :: _,_,_,_,[],_,_,h,_,_,_,_,_,_,_,_=>h.elim
def Zas1 (o:Oper)(acc:List Nat):Nat:=o.after.toList.foldl (λs e=>if Region.binds .any e then s ||| 2 ^ e.on ||| acc.getD e.on 0 else s) 0
def befs : List Oper->List Nat->List Nat
 | [],acc=>acc
 | o :: os,acc=>befs os (acc++[Zas1 o acc])
def Zam6 (ops:Array Oper)(D:Nat->Bool):Prop:=∀j o,ops[j]?=some o->D j=true->∀e∈o.after.toList,Region.binds .any e=true->D e.on=true
def Zato (D:Nat->Bool)(acc:List Nat):Prop:=∀j i,(acc.getD j 0).testBit i=true->D j=true->D i=true
theorem Zaf6 {D:Nat->Bool}{acc:List Nat}(hg:Zato D acc):∀(es:List Edge)(s:Nat),(∀e∈es,Region.binds .any e=true->D e.on=true)->(∀i,s.testBit i=true->D i=true) ->
  ∀i,(es.foldl (λs e=>if Region.binds .any e then s ||| 2 ^ e.on ||| acc.getD e.on 0 else s) s).testBit i=true->D i=true
 | [],s,_,hs,i,hi=>hs i hi
 | e :: es,s,he,hs,i,hi=>by
  rw[List.foldl_cons]at hi
  refine Zaf6 hg es _ (λx hx=>he x (by simp[hx])) (λk hk=>?_) i hi
  split at hk
  ·rename_i hb
   have hd:=he e (by simp) hb
   rw[Nat.testBit_or,Nat.testBit_or]at hk
   simp only[Bool.or_eq_true]at hk
   rcases hk with(h1|h1)|h1
   ·exact hs k h1
   ·rw[Nat.testBit_two_pow]at h1
    simp at h1
    rw[<-h1];exact hd
   ·exact hg _ k h1 hd
  ·exact hs k hk
theorem Zzs {D:Nat->Bool}(hc:Zam6 ops D):∀(os:List Oper)(acc:List Nat),(∀j o,os[j]?=some o->ops[acc.length+j]?=some o)->Zato D acc->Zato D (befs os acc)
 | [],acc,_,hg=>hg
 | o :: os,acc,hos,hg=>by
  rw[befs]
  refine Zzs hc os _ (λj o' hj=>by
   have:=hos (j+1) o' (by simpa using hj)
   rw[lA_,List.length_singleton,Nat.add_assoc,Nat.add_comm 1 j]
   exact this) (λj i hji hj=>?_)
  rcases Nat.lt_trichotomy j acc.length with h1|h1|h1
  ·rw[gD_,List.getElem?_append_left h1,<-gD_]at hji
   exact hg j i hji hj
  ·subst h1
   rw[gD_,List.getElem?_append_right (Nat.le_refl _)]at hji
   simp at hji
   exact Zaf6 hg _ 0 (λe he hb=>hc _ o (by simpa using hos 0 o rfl) hj e he hb) (λk hk=>by simp at hk) i (by simpa [Zas1] using hji)
  ·rw[gD_,List.getElem?_append_right (by omega)]at hji
   obtain⟨q,hq⟩:∃q,j-acc.length=q+1:=⟨j-acc.length-1,by omega⟩
   rw[hq]at hji
   simp at hji
end
abbrev SE := (Nat->AV)×(Nat->Ent)
def updS (p:Oper×Foot)(s:SE):SE:=(Zss s.1 p.1.dst p.2.x,Zb5 s.2 p.2.ups)
def Zob (D:Nat->Bool):List (Oper×Foot)->Nat->SE->SE
 | [],_,s=>s
 | p :: r,k,s=>Zob D r (k+1) (if D k then updS p s else s)
theorem Zxd {τ:Nat->AV}{d:Option Tmp}{x:AV}{t:Nat}(h:d≠some t):Zss τ d x t=τ t:=by
 cases d with
 | none=>rfl
 | some d =>
  have:t≠d:=λe=>h (by rw[e])
  simp[Zss,this]
theorem Zaje (D D':Nat->Bool)(t:Nat):∀(L:List (Oper×Foot))(k:Nat)(s s':SE),s.1 t=s'.1 t->(∀(j:Nat)(p:Oper×Foot),L[j]?=some p->p.1.dst=some t->D (k+j)=D' (k+j))->(Zob D L k s).1 t=(Zob D' L k s').1 t
 | [],_,_,_,h,_=>h
 | p :: r,k,s,s',h,hw=>by
  rw[Zob,Zob]
  refine Zaje D D' t r (k+1) _ _ ?_ (λj q hq hd=>by
   have:=hw (j+1) q (by simpa using hq) hd
   rw[show k+1+j=k+(j+1)from by omega]
   exact this)
  by_cases hd:p.1.dst=some t
  ·have:=hw 0 p rfl hd
   simp only[Nat.add_zero]at this
   rw[this]
   split
   ·simp[updS,Zss,hd]
   ·exact h
  ·have e1:∀q:SE,(updS p q).1 t=q.1 t:=λq=>Zxd hd
   split <;> split <;> simp[e1,h]
theorem Zajd (D D':Nat->Bool)(i:Nat):∀(L:List (Oper×Foot))(k:Nat)(s s':SE),s.2 i=s'.2 i->(∀(j:Nat)(p:Oper×Foot),L[j]?=some p->i∈p.2.ids->D (k+j)=D' (k+j))->(Zob D L k s).2 i=(Zob D' L k s').2 i
 | [],_,_,_,h,_=>h
 | p :: r,k,s,s',h,hw=>by
  rw[Zob,Zob]
  refine Zajd D D' i r (k+1) _ _ ?_ (λj q hq hd=>by
   have:=hw (j+1) q (by simpa using hq) hd
   rw[show k+1+j=k+(j+1)from by omega]
   exact this)
  by_cases hd:i∈p.2.ids
  ·have:=hw 0 p rfl hd
   simp only[Nat.add_zero]at this
   rw[this]
   split
   ·exact Zum hd
   ·exact h
  ·have e1:∀q:SE,(updS p q).2 i=q.2 i:=λq=>Zfi hd
   split <;> split <;> simp[e1,h]
def Zam9 (p q:Oper×Foot):Prop:=(∀d,p.1.dst=some d->q.1.dst≠some d)/\∀i∈p.2.ids,i∉q.2.ids
theorem Zap7 {p q:Oper×Foot}(h:Zam9 p q)(s:SE):updS q (updS p s)=updS p (updS q s):=by
 refine Prod.ext (funext λt=>?_) (funext λi=>?_)
 ·by_cases h1:p.1.dst=some t
  ·have h2:=h.1 t h1
   show Zss (Zss s.1 p.1.dst p.2.x) q.1.dst q.2.x t=Zss (Zss s.1 q.1.dst q.2.x) p.1.dst p.2.x t
   rw[Zxd h2]
   simp[Zss,h1]
  ·show Zss (Zss s.1 p.1.dst p.2.x) q.1.dst q.2.x t=Zss (Zss s.1 q.1.dst q.2.x) p.1.dst p.2.x t
   rw[Zxd (d:=p.1.dst) h1]
   by_cases h2:q.1.dst=some t
   ·simp[Zss,h2]
   ·rw[Zxd h2,Zxd h2,Zxd h1]
 ·show Zb5 (Zb5 s.2 p.2.ups) q.2.ups i=Zb5 (Zb5 s.2 q.2.ups) p.2.ups i
  by_cases h1:i∈p.2.ids
  ·rw[Zfi (h.2 i h1)]
   exact Zum h1
  ·rw[Zfi (η:=Zb5 s.2 q.2.ups) h1]
   by_cases h2:i∈q.2.ids
   ·exact Zum h2
   ·rw[Zfi h2,Zfi h2,Zfi h1]
theorem Zaes (D:Nat->Bool)(p:Oper×Foot):∀(L:List (Oper×Foot))(k:Nat)(s:SE),(∀(j:Nat)(q:Oper×Foot),L[j]?=some q->D (k+j)=true->Zam9 p q)->Zob D L k (updS p s)=updS p (Zob D L k s)
 | [],_,_,_=>rfl
 | q :: r,k,s,h=>by
  rw[Zob,Zob]
  have hr:=λs=>Zaes D p r (k+1) s (λj q' hq hd=>h (j+1) q' (by simpa using hq) (by rw[show k+(j+1)=k+1+j from by omega];exact hd))
  split
  ·rename_i hd
   rw[Zap7 (h 0 q rfl hd),hr]
  ·exact hr s
theorem Zs5 (D D':Nat->Bool):∀(L:List (Oper×Foot))(k:Nat)(s:SE),(∀j,j<L.length->D (k+j)=D' (k+j))->Zob D L k s=Zob D' L k s
 | [],_,_,_=>rfl
 | p :: r,k,s,h=>by
  rw[Zob,Zob]
  have h0:=h 0 (by simp)
  simp only[Nat.add_zero]at h0
  rw[h0]
  exact Zs5 D D' r (k+1) _ (λj hj=>by
   have:=h (j+1) (by simpa using hj)
   rw[show k+1+j=k+(j+1)from by omega]
   exact this)
theorem Zud (D:Nat->Bool):∀(L1 L2:List (Oper×Foot))(k:Nat)(s:SE),Zob D (L1++L2) k s=Zob D L2 (k+L1.length) (Zob D L1 k s)
 | [],_,_,_=>by simp[Zob]
 | p :: r,L2,k,s=>by
  rw[List.cons_append,Zob,Zud,Zob,lC_,show k+1+r.length=k+(r.length+1)from by omega]
theorem Zaqp {D D':Nat->Bool}{L:List (Oper×Foot)}{i:Nat}{p:Oper×Foot}{s:SE}(hi:L[i]?=some p)(h0:D i=false)(h1:D' i=true)(hne:∀j,j≠i->D' j=D j)
  (hind:∀(j:Nat) (q:Oper×Foot),i<j->L[j]?=some q->D j=true->Zam9 p q):Zob D' L 0 s=updS p (Zob D L 0 s):=by
 have hil:i<L.length:=(gS_.1 hi).1
 have hL:L=L.take i++p :: L.drop (i+1):=by
  conv=>lhs;rw[<-List.take_append_drop i L]
  rw[List.drop_eq_getElem_cons hil]
  congr 2
  exact(gS_.1 hi).2
 have ht:(L.take i).length=i:=by simp;omega
 rw[hL,Zud,Zud,ht,Nat.zero_add,Zob,Zob,h0,h1,if_pos rfl,if_neg (by simp)]
 rw[Zs5 D' D (L.take i) 0 s (λj hj=>by rw[Nat.zero_add];exact hne j (by omega)),Zs5 D' D (L.drop (i+1)) (i+1) _ (λj _=>hne _ (by omega))]
 exact Zaes D p _ _ _ (λj q hq hd=>hind (i+1+j) q (by omega) (by rw[List.getElem?_drop]at hq;exact hq) hd)
def Zvq (ops:Array Oper)(p q:Oper×Foot):Bool :=
 !(p.1.apart ops q.1)||p.2.ids.any (λi=>q.2.rb.contains i||q.2.ids.contains i)||p.2.rb.any (λi=>q.2.ids.contains i)
def Zafu (ops:Array Oper)(ms:List Nat)(j:Nat)(q:Oper×Foot):List (Oper×Foot)->Nat->Bool
 | [],_=>true
 | p :: r,i=>(decide (j<=i) || !Zvq ops p q||(ms.getD j 0).testBit i)&&Zafu ops ms j q r (i+1)
def Zyt (ops:Array Oper)(ms:List Nat)(L:List (Oper×Foot)):List (Oper×Foot)->Nat->Bool
 | [],_=>true
 | q :: r,j=>Zafu ops ms j q L 0&&Zyt ops ms L r (j+1)
def Zw5 (ops:Array Oper)(fs:List Foot):Bool:=Zyt ops (befs ops.toList []) (ops.toList.zip fs) (ops.toList.zip fs) 0
theorem Zafv {ops:Array Oper}{ms:List Nat}{j:Nat}{q:Oper×Foot}:∀(L:List (Oper×Foot))(i0:Nat),Zafu ops ms j q L i0=true->∀(i:Nat)(p:Oper×Foot),L[i]?=some p->i0+i<j->Zvq ops p q=true->(ms.getD j 0).testBit (i0+i)=true
 | [],_,_,i,p,hp,_,_=>by simp at hp
 | p0 :: r,i0,h,i,p,hp,hlt,hc=>by
  rw[Zafu,bA_]at h
  cases i with
  | zero =>
   simp at hp
   subst hp
   have:=h.1
   simp only[Bool.or_eq_true,decide_eq_true_eq,Bool.not_eq_true']at this
   rcases this with(h1|h1)|h1
   ·omega
   ·rw[hc]at h1;cases h1
   ·simpa using h1
  | succ i =>
   have:=Zafv r (i0+1) h.2 i p (by simpa using hp) (by omega) hc
   rw[show i0+(i+1)=i0+1+i from by omega]
   exact this
theorem Zaab {ops:Array Oper}{ms:List Nat}{L:List (Oper×Foot)}:∀(M:List (Oper×Foot))(j0:Nat),Zyt ops ms L M j0=true->∀(j:Nat)(q:Oper×Foot),M[j]?=some q->Zafu ops ms (j0+j) q L 0=true
 | [],_,_,j,q,hq=>by simp at hq
 | q0 :: r,j0,h,j,q,hq=>by
  rw[Zyt,bA_]at h
  cases j with
  | zero=>simp at hq;subst hq;simpa using h.1
  | succ j =>
   have:=Zaab r (j0+1) h.2 j q (by simpa using hq)
   rw[show j0+(j+1)=j0+1+j from by omega]
   exact this
theorem Zaj6 {ops:Array Oper}{fs:List Foot}(h:Zw5 ops fs=true){i j:Nat}{p q:Oper×Foot}(hp:(ops.toList.zip fs)[i]?=some p)(hq:(ops.toList.zip fs)[j]?=some q)(hlt:i<j)(hc:Zvq ops p q=true):((befs ops.toList []).getD j 0).testBit i=true:=by
 have h1:=Zaab _ 0 h j q hq
 rw[Nat.zero_add]at h1
 have:=Zafv _ 0 h1 i p hp (by omega) hc
 simpa using this
def Zsf : List Oper->Nat->Bool
 | [],_=>true
 | o :: r,k=>o.after.toList.all (λe=>!Region.binds .any e||decide (e.on<k))&&Zsf r (k+1)
theorem Zzr : ∀(L:List Oper)(k:Nat),Zsf L k=true->∀(j:Nat)(o:Oper),L[j]?=some o->∀e∈o.after.toList,Region.binds .any e=true->e.on<k+j
 | [],_,_,j,o,ho=>by simp at ho
 | o0 :: r,k,h,j,o,ho=>by
  rw[Zsf,bA_]at h
  cases j with
  | zero =>
   simp at ho
   subst ho
   intro e he hb
   have:=List.all_eq_true.1 h.1 e he
   simp only[hb,Bool.not_true,Bool.false_or,decide_eq_true_eq]at this
   omega
  | succ j =>
   intro e he hb
   have:=Zzr r (k+1) h.2 j o (by simpa using ho) e he hb
   omega
section
variable {C : Cx} {n : Nat} {ops : Array Oper} {Q : Exit -> Act -> World -> Prop}
theorem Zatc : ∀(os:List Oper)(τ:Nat->AV)(η:Nat->Ent)(fs:List Foot)(τ':Nat->AV)(η':Nat->Ent),Tr C n ops os τ η fs τ' η'->os.length=fs.length
 | [],_,_,[],_,_,_=>rfl
 | _ :: os,_,_,_ :: fs,_,_,h=>by simp[Zatc os _ _ fs _ _ h.2]
 | [],_,_,_ :: _,_,_,h=>h.elim
 | _ :: _,_,_,[],_,_,h=>h.elim
theorem Zaw8 : ∀(os:List Oper)(k:Nat)(s:SE)(fs:List Foot)(τ':Nat->AV)(η':Nat->Ent),Tr C n ops os s.1 s.2 fs τ' η' ->
  (Zob (λ_=>true) (os.zip fs) k s=(τ',η'))/\∀(i:Nat) (p:Oper×Foot),(os.zip fs)[i]?=some p->TS C n ops p.1 (Zob (λj=>decide (j<k+i)) (os.zip fs) k s).1 (Zob (λj=>decide (j<k+i)) (os.zip fs) k s).2 p.2
 | [],k,s,[],τ',η',h=>by
  obtain⟨rfl,rfl⟩:=h
  exact⟨rfl,λi p hp=>by simp at hp⟩
 | o :: os,k,s,f :: fs,τ',η',h=>by
  obtain⟨h1,h2⟩:=h
  obtain⟨i1,i2⟩:=Zaw8 os (k+1) (updS (o,f) s) fs τ' η' h2
  refine⟨by simpa [Zob] using i1,λi p hp=>?_⟩
  cases i with
  | zero =>
   simp at hp
   subst hp
   have hid:Zob (λj=>decide (j<k+0)) ((o :: os).zip (f :: fs)) k s=s:=by
    have:∀(L:List (Oper×Foot)) (q:Nat) (s:SE),k<=q->Zob (λj=>decide (j<k+0)) L q s=s:=by
     intro L
     induction L with
     | nil=>intro q s _;rfl
     | cons a r ih=>intro q s hq;rw[Zob,ih (q+1) _ (by omega),if_neg (by simp;omega)]
    exact this _ k s (Nat.le_refl _)
   rw[hid]
   exact h1
  | succ i =>
   have:=i2 i p (by simpa using hp)
   rw[List.zip_cons_cons,Zob,if_pos (by simp)]
   rw[show k+1+i=k+(i+1)from by omega]at this
   exact this
 | [],_,_,_ :: _,_,_,h=>h.elim
 | _ :: _,_,_,[],_,_,h=>h.elim
def Zg9 (listed:Array Bool)(i:Nat):Bool:=listed.getD i false
theorem Zn8 {listed:Array Bool}(hs:listed.size=ops.size){i:Nat}:i∈Region.ready .any ops listed↔∃o,ops[i]?=some o/\Zg9 listed i=false/\∀e∈o.after.toList,Region.binds .any e=true->Zg9 listed e.on=true:=by
 unfold Region.ready Zg9
 rw[List.mem_filter,List.mem_range]
 constructor
 ·rintro⟨h1,h2⟩
  have ho:=aE_ h1
  rw[ho]at h2
  have hl:listed[i]?=some listed[i]:=aE_ (by omega)
  simp only[Option.map_some,Option.getD_some,bA_,aD_,hl,Bool.not_eq_true']at h2
  refine⟨_,ho,by simp[aD_,hl,h2.1],λe he hb=>?_⟩
  have:=Array.all_eq_true_iff_forall_mem.1 h2.2 e (by simpa using he)
  simp only[hb,Bool.not_true,Bool.false_or]at this
  simpa [aD_] using this
 ·rintro⟨o,h1,h2,h3⟩
  have hi:=(Array.getElem?_eq_some_iff.1 h1).1
  have hl:listed[i]?=some listed[i]:=aE_ (by omega)
  refine⟨hi,?_⟩
  simp only[aD_,hl,Option.getD_some]at h2
  rw[h1]
  simp only[Option.map_some,Option.getD_some,bA_,aD_,hl,h2,Bool.not_false,true_and]
  refine Array.all_eq_true_iff_forall_mem.2 (λe he=>?_)
  cases hb:Region.binds .any e
  ·simp
  ·have:=h3 e (by simpa using he) hb
   simpa [aD_] using this
end
section
variable {C : Cx} {n : Nat} {ops : Array Oper} {Q : Exit -> Act -> World -> Prop}
theorem Zae8 {p q:Oper×Foot}{t:Nat}(hp:p.1.dst=some t)(hq:t∈q.1.looksAt ops\/q.1.dst=some t):Zvq ops p q=true:=by
 unfold Zvq
 have:p.1.apart ops q.1=false:=by
  cases h:p.1.apart ops q.1
  ·rfl
  ·obtain⟨a,b,_⟩:=Oper.apart_spec h
   rcases hq with hq|hq
   ·exact absurd hq (a t hp)
   ·exact absurd hq (b t hp)
 simp[this]
theorem Zals {p q:Oper×Foot}{t:Nat}(hq:q.1.dst=some t)(hp:t∈p.1.looksAt ops):Zvq ops p q=true:=by
 unfold Zvq
 have:p.1.apart ops q.1=false:=by
  cases h:p.1.apart ops q.1
  ·rfl
  ·obtain⟨_,_,c⟩:=Oper.apart_spec h
   exact absurd hp (c t hq)
 simp[this]
theorem Zzx {p q:Oper×Foot}{i:Nat}(hp:i∈p.2.ids)(hq:i∈q.2.rb\/i∈q.2.ids):Zvq ops p q=true:=by
 have:p.2.ids.any (λi=>q.2.rb.contains i||q.2.ids.contains i)=true:=List.any_eq_true.2 ⟨i,hp,by simpa using hq⟩
 unfold Zvq
 rw[this]
 simp
theorem Zalr {p q:Oper×Foot}{i:Nat}(hp:i∈p.2.rb)(hq:i∈q.2.ids):Zvq ops p q=true:=by
 have:p.2.rb.any (λi=>q.2.ids.contains i)=true:=List.any_eq_true.2 ⟨i,hp,by simpa using hq⟩
 unfold Zvq
 rw[this]
 simp
theorem Zai5 {w0:World}{X:XX}{s0:SE}{τ':Nat->AV}{η':Nat->Ent}{fs:List Foot}(htr:Tr C n ops ops.toList s0.1 s0.2 fs τ' η')(hind:Zw5 ops fs=true)(hback:Zsf ops.toList 0=true)
  (hq:∀m' a' w',Rep C n w0 X τ' η' m' a' w'->Q .normal a' w'):∀(fuel:Nat) (listed:Array Bool) (m:MM) (a:Act) (w:World),listed.size=ops.size->Zam6 ops (Zg9 listed)->ops.size<=listed.toList.countP id+fuel ->
   Rep C n w0 X (Zob (Zg9 listed) (ops.toList.zip fs) 0 s0).1 (Zob (Zg9 listed) (ops.toList.zip fs) 0 s0).2 m a w->wpAny C.P .any ops Q fuel listed a w:=by
 obtain⟨hall,hat⟩:=Zaw8 ops.toList 0 s0 fs τ' η' htr
 have hlen:=Zatc _ _ _ _ _ _ htr
 simp at hlen
 have hzl:(ops.toList.zip fs).length=ops.size:=by simp;omega
 have hready:∀listed:Array Bool,listed.size=ops.size->Region.ready .any ops listed=[]->∀i,i<ops.size->Zg9 listed i=true:=by
  intro listed hs hr i
  induction i using Nat.strongRecOn with
  | _ i ih =>
   intro hi
   cases hd:Zg9 listed i
   ·exfalso
    have ho:=aE_ hi
    have:i∈Region.ready .any ops listed:=(Zn8 hs).2 ⟨_,ho,hd,λe he hb=>by
     have:=Zzr _ 0 hback i ops[i] (by simp) e he hb
     exact ih e.on (by omega) (by omega)⟩
    rw[hr]at this
    cases this
   ·rfl
 have hdone:∀(listed:Array Bool) (m:MM) (a:Act) (w:World),listed.size=ops.size->Region.ready .any ops listed=[] ->
   Rep C n w0 X (Zob (Zg9 listed) (ops.toList.zip fs) 0 s0).1 (Zob (Zg9 listed) (ops.toList.zip fs) 0 s0).2 m a w->Q .normal a w:=by
  intro listed m a w hs hr hrep
  rw[Zs5 (Zg9 listed) (λ_=>true) _ 0 s0 (λj hj=>by rw[Nat.zero_add];exact hready listed hs hr j (by omega)),hall]at hrep
  exact hq m a w hrep
 intro fuel
 induction fuel with
 | zero =>
  intro listed m a w hs hc hf hrep
  have hr:Region.ready .any ops listed=[]:=by
   cases h:Region.ready .any ops listed with
   | nil=>rfl
   | cons i r =>
    exfalso
    obtain⟨o,h1,h2,_⟩:=(Zn8 hs).1 (by rw[h];simp:i∈Region.ready .any ops listed)
    have hi:=(Array.getElem?_eq_some_iff.1 h1).1
    have hcnt:listed.toList.countP id=listed.toList.length:=by
     have:=List.countP_le_length (p:=id) (l:=listed.toList)
     rw[Array.length_toList]at this ⊢
     omega
    have:=List.countP_eq_length.1 hcnt listed[i] (by simp)
    simp only[id]at this
    simp only[Zg9,aD_,aE_ (show i<listed.size from by omega),Option.getD_some]at h2
    rw[this]at h2
    cases h2
  exact⟨hr,hdone listed m a w hs hr hrep⟩
 | succ fuel ih =>
  intro listed m a w hs hc hf hrep
  refine⟨λhr=>hdone listed m a w hs hr hrep,λi hi=>?_⟩
  obtain⟨o,h1,h2,h3⟩:=(Zn8 hs).1 hi
  have hil:=(Array.getElem?_eq_some_iff.1 h1).1
  obtain⟨f,hfi⟩:∃f,fs[i]?=some f:=⟨fs[i]'(by omega),gE_ _⟩
  have hp:(ops.toList.zip fs)[i]?=some (o,f):=by
   rw[List.getElem?_zip_eq_some]
   exact⟨by simpa using h1,hfi⟩
  have hts:=hat i (o,f) hp
  rw[Nat.zero_add]at hts
  have hgood:=Zzs hc ops.toList [] (λj o' hj=>by simpa using hj) (λj k hjk=>by simp at hjk)
  have hno:∀(j:Nat) (q:Oper×Foot),i<j->(ops.toList.zip fs)[j]?=some q->Zvq ops (o,f) q=true->Zg9 listed j=false:=by
   intro j q hij hqj hcf
   cases hd:Zg9 listed j
   ·rfl
   ·have:=hgood j i (Zaj6 hind hp hqj hij hcf) hd
    rw[h2]at this
    cases this
  have hyes:∀(j:Nat) (q:Oper×Foot),j<i->(ops.toList.zip fs)[j]?=some q->Zvq ops q (o,f)=true->Zg9 listed j=true:=by
   intro j q hij hqj hcf
   have hc':Zam6 ops (λk=>decide (k=i)||Zg9 listed k):=by
    intro k ok hk hd e he hb
    simp only[Bool.or_eq_true,decide_eq_true_eq]at hd ⊢
    rcases hd with rfl|hd
    ·rw[h1]at hk
     injection hk with hk
     subst hk
     exact .inr (h3 e he hb)
    ·exact .inr (hc k ok hk hd e he hb)
   have hg':=Zzs hc' ops.toList [] (λj o' hj=>by simpa using hj) (λj k hjk=>by simp at hjk)
   have:=hg' i j (Zaj6 hind hqj hp hij hcf) (by simp)
   simp only[Bool.or_eq_true,decide_eq_true_eq]at this
   exact this.resolve_left (by omega)
  have hagT:∀t∈o.looksAt ops,(Zob (Zg9 listed) (ops.toList.zip fs) 0 s0).1 t=(Zob (λj=>decide (j<i)) (ops.toList.zip fs) 0 s0).1 t:=by
   intro t ht
   refine Zaje _ _ t _ 0 _ _ rfl (λj q hq hd=>?_)
   rw[Nat.zero_add]
   rcases Nat.lt_trichotomy j i with hj|hj|hj
   ·rw[hyes j q hj hq (Zae8 hd (.inl ht))];simp[hj]
   ·subst hj;rw[h2];simp
   ·rw[hno j q hj hq (Zals hd ht)];simp;omega
  have hagE:∀k,k∈f.rb\/k∈f.ids->(Zob (Zg9 listed) (ops.toList.zip fs) 0 s0).2 k=(Zob (λj=>decide (j<i)) (ops.toList.zip fs) 0 s0).2 k:=by
   intro k hk
   refine Zajd _ _ k _ 0 _ _ rfl (λj q hq hd=>?_)
   rw[Nat.zero_add]
   rcases Nat.lt_trichotomy j i with hj|hj|hj
   ·rw[hyes j q hj hq (Zzx hd hk)];simp[hj]
   ·subst hj;rw[h2];simp
   ·have:Zvq ops (o,f) q=true:=by
     rcases hk with hk|hk
     ·exact Zalr hk hd
     ·exact Zzx hk (.inr hd)
    rw[hno j q hj hq this];simp;omega
  refine Zaqb h1 (λa' w' hK=>?_) (hts _ _ hagT hagE w0 X m a w hrep)
  obtain⟨m',hrep'⟩:=hK
  have hset:∀k,Zg9 (listed.setIfInBounds i true) k=if k=i then true else Zg9 listed k:=by
   intro k
   unfold Zg9
   rw[aD_,aD_]
   by_cases e:k=i
   ·subst e;rw[Array.getElem?_setIfInBounds_self_of_lt (by omega)];simp
   ·rw[Array.getElem?_setIfInBounds_ne (λh=>e h.symm),if_neg e]
  refine ih (listed.setIfInBounds i true) m' a' w' (by simp[hs]) (λj oj hj hd e he hb=>?_) ?_ ?_
  ·rw[hset]at hd ⊢
   split
   ·rfl
   ·split at hd
    ·rename_i hji
     subst hji
     rw[h1]at hj
     injection hj with hj
     subst hj
     exact h3 e he hb
    ·exact hc j oj hj hd e he hb
  ·have hlt:i<listed.toList.length:=by simp;omega
   have hfalse:listed.toList[i]=false:=by
    simp only[Zg9,aD_,aE_ (show i<listed.size from by omega),Option.getD_some]at h2
    simpa using h2
   rw[Array.toList_setIfInBounds,List.countP_set hlt]
   simp[hfalse]
   simp at hf
   omega
  ·rw[Zaqp (D:=Zg9 listed) (D':=Zg9 (listed.setIfInBounds i true)) hp h2 (by rw[hset];simp) (λj hj=>by rw[hset,if_neg hj]) (λj q hij hqj hd=>?_)]
   ·exact hrep'
   ·refine⟨λd hd1 hd2=>?_,λk hk1 hk2=>?_⟩
    ·have:=hno j q hij hqj (Zae8 hd1 (.inr hd2))
     rw[hd]at this
     cases this
    ·have:=hno j q hij hqj (Zzx hk1 (.inr hk2))
     rw[hd]at this
     cases this
theorem Zyb {id:Nat}{draw:Bool}{w0:World}{X:XX}{τ τ':Nat->AV}{η η':Nat->Ent}{fs:List Foot}{m:MM}{a:Act}{w:World}(htr:Tr C n ops ops.toList τ η fs τ' η')
  (hdraw:draw=true->C.P.follows .mixedOrders=true/\Zw5 ops fs=true/\Zsf ops.toList 0=true) (hr:Rep C n w0 X τ η m a w) (hq:∀m' a' w',Rep C n w0 X τ' η' m' a' w'->Q .normal a' w'):(Code.region id ops draw).wp C.P Q a w:=by
 cases draw with
 | false =>
  refine wp_region ?_
  have:=Zatd (Q:=Q) ops.toList 0 τ η fs τ' η' htr (λj o hj=>by simpa using hj) w0 X m a w hr hq
  simpa using this
 | true =>
  obtain⟨h1,h2,h3⟩:=hdraw rfl
  refine wp_region_any h1 (Zai5 (s0:=(τ,η)) htr h2 h3 hq ops.size (Array.replicate ops.size false) m a _ (by simp) (λj o hj hd=>?_) (by omega) ?_)
  ·exfalso
   simp only[Zg9,aD_]at hd
   rcases Nat.lt_or_ge j ops.size with h|h
   ·simp[h]at hd
   ·simp[Nat.not_lt.2 h]at hd
  ·have e:Zob (Zg9 (Array.replicate ops.size false)) (ops.toList.zip fs) 0 (τ,η)=(τ,η):=by
    have:∀(L:List (Oper×Foot)) (q:Nat) (s:SE),Zob (Zg9 (Array.replicate ops.size false)) L q s=s:=by
     intro L
     induction L with
     | nil=>intro q s;rfl
     | cons x r ih =>
      intro q s
      rw[Zob,ih,if_neg]
      simp only[Zg9,aD_]
      rcases Nat.lt_or_ge q ops.size with h|h
      ·simp[h]
      ·simp[Nat.not_lt.2 h]
    exact this _ _ _
   rw[e]
   exact hr.drew _
end
abbrev tmF (l:List AV):Nat->AV:=λt=>l.getD t .dead
abbrev hpF (l:List Ent):Nat->Ent:=λi=>l.getD i ⟨0,none⟩
def getK {α:Type}:List α->Nat->(α->Prop)->Prop
 | [],_,_=>False
 | x :: _,0,k=>k x
 | _ :: r,n+1,k=>getK r n k
def setK {α:Type}:List α->Nat->α->(List α->Prop)->Prop
 | [],_,_,_=>False
 | _ :: r,0,v,k=>k (v :: r)
 | x :: r,n+1,v,k=>setK r n v (λq=>k (x :: q))
def Zdo {α:Type}:List α->(List α->Prop)->Prop
 | [],k=>k []
 | x :: r,k=>Zdo r (λq=>k (x :: q))
def ifK : Bool->Prop->Prop
 | true,p=>p
 | false,_=>False
def Zabp {α:Type}:Option α->(α->Prop)->Prop
 | some x,k=>k x
 | none,_=>False
theorem Zkn {α:Type}:∀{l:List α}{n:Nat}{k:α->Prop},getK l n k->∃x,l[n]?=some x/\k x
 | [],_,_,h=>h.elim
 | x :: _,0,_,h=>⟨x,rfl,h⟩
 | _ :: r,n+1,k,h=>by simpa using Zkn (l:=r) (n:=n) (k:=k) h
theorem Zaim {α:Type}:∀{l:List α}{n:Nat}{v:α}{k:List α->Prop},setK l n v k->n<l.length/\k (l.set n v)
 | [],_,_,_,h=>h.elim
 | x :: _,0,_,_,h=>⟨by simp,h⟩
 | x :: r,n+1,v,k,h=>by
  obtain⟨h1,h2⟩:=Zaim (l:=r) (n:=n) (v:=v) h
  exact⟨by simpa using h1,h2⟩
theorem Zcl {α:Type}:∀{l:List α}{k:List α->Prop},Zdo l k->k l
 | [],_,h=>h
 | x :: r,k,h=>Zcl (l:=r) (k:=λq=>k (x :: q)) h
theorem Zeh {b:Bool}{p:Prop}(h:ifK b p):b=true/\p:=by
 cases b
 ·exact h.elim
 ·exact⟨rfl,h⟩
theorem Zng {α:Type}{o:Option α}{k:α->Prop}(h:Zabp o k):∃x,o=some x/\k x:=by
 cases o
 ·exact h.elim
 ·exact⟨_,rfl,h⟩
def evK (tm:List AV):Operand->(AV->Prop)->Prop
 | .tmp t,k=>getK tm t k
 | .const v,k=>k (.c v)
 | .global g,k=>k (.c (.pointer (some ⟨g,0,none⟩)))
 | .func f,k=>k (.clo (.func f) [] [])
theorem Zfn {tm:List AV}{x:Operand}{k:AV->Prop}(h:evK tm x k):k (evA (tmF tm) x):=by
 rcases x with t|v|g|f
 ·obtain⟨y,h1,h2⟩:=Zkn h
  show k (tm.getD t .dead)
  rw[gD_,h1]
  exact h2
 ·exact h
 ·exact h
 ·exact h
def tyK (T:List (Option TI))(t:TypeId)(k:TI->Prop):Prop:=getK T t (λo=>Zabp o k)
theorem Zjo {C:Cx}{t:TypeId}{k:TI->Prop}(h:tyK C.T t k):∃ti,TyOk C.P t ti/\k ti:=by
 obtain⟨o,h1,h2⟩:=Zkn h
 obtain⟨ti,rfl,h3⟩:=Zng h2
 exact⟨ti,C.tyOk t ti h1,h3⟩
def Zxs (hp:List Ent)(i ver:Nat)(k:Blk->Prop):Prop:=getK hp i (λe=>ifK (e.ver.beq ver) (Zabp e.blk k))
theorem Zgh {hp:List Ent}{i ver:Nat}{k:Blk->Prop}(h:Zxs hp i ver k):∃B,hpF hp i=⟨ver,some B⟩/\k B:=by
 obtain⟨e,h1,h2⟩:=Zkn h
 obtain⟨h3,h4⟩:=Zeh h2
 obtain⟨B,h5,h6⟩:=Zng h4
 refine⟨B,?_,h6⟩
 show hp.getD i _=_
 rw[gD_,h1]
 have:=Nat.eq_of_beq_eq_true h3
 subst this
 cases e
 simp only at h5
 rw[h5]
 rfl
def elK (B:Blk)(kk:Nat)(k:List AV->Prop):Prop :=
 match B.box,B.els with
 | true,[e]=>ifK (kk.beq 0) (k e)
 | true,_=>False
 | false,els=>True->∃e,els[kk]?=some e/\k e
theorem Zan5 {B:Blk}{kk:Nat}{k:List AV->Prop}(h:elK B kk k):∃e,B.els[kk]?=some e/\(B.box=true->B.els=[e]/\kk=0)/\k e:=by
 obtain⟨ty,sz,box,els⟩:=B
 cases box with
 | true =>
  match els,h with
  | [e],h =>
   obtain⟨h3,h4⟩:=Zeh h
   have:=Nat.eq_of_beq_eq_true h3
   subst this
   exact⟨e,rfl,λ_=>⟨rfl,rfl⟩,h4⟩
  | [],h=>exact h.elim
  | _ :: _ :: _,h=>exact h.elim
 | false =>
  obtain⟨e,h2,h3⟩:=(show True->∃e,els[kk]?=some e/\k e from h) trivial
  exact⟨e,h2,λq=>(by cases q),h3⟩
def cutK (ti:TI)(e:List AV)(j:Nat)(k:AV->Prop):Prop :=
 match ti.kind.agg with
 | true=>ifK (Nat.ble (j+ti.sz) e.length) (Zdo ((e.drop j).take ti.sz) (λcs=>k (.agg cs)))
 | false=>ifK (ti.sz.beq 1) (getK e j k)
theorem Zada {ti:TI}{e:List AV}{j:Nat}{k:AV->Prop}(h:cutK ti e j k):j+ti.sz<=e.length/\(ti.kind.agg=false->ti.sz=1)/\k (cut ti e j):=by
 unfold cutK at h
 split at h
 ·rename_i ha
  obtain⟨h1,h2⟩:=Zeh h
  refine⟨Nat.le_of_ble_eq_true h1,λq=>(by rw[ha]at q;cases q),?_⟩
  have:=Zcl h2
  simpa [cut,ha] using this
 ·rename_i ha
  obtain⟨h1,h2⟩:=Zeh h
  have h1':=Nat.eq_of_beq_eq_true h1
  obtain⟨x,h3,h4⟩:=Zkn h2
  have:=(gS_.1 h3).1
  exact⟨by omega,λ_=>h1',by simpa [cut,ha,gD_,h3] using h4⟩
def Zabw (a:AV)(k:List AV->Prop):Prop:=Zdo (Zd1 a) (λcs=>ifK (Zw9 cs) (k cs))
theorem Zvm {a:AV}{k:List AV->Prop}(h:Zabw a k):Zw9 (Zd1 a)=true/\k (Zd1 a):=Zeh (Zcl h)
abbrev Kt := AV->List (Nat×Ent)->List Nat->List Prop->Prop
def binK (op:BinOp)(u v:Value)(k:Kt):Prop :=
 match op,u,v with
 | .add,.string p,.string q=>k (.c (.string (p++q))) [] [] [p.size+q.size<=9223372036854775807]
 | .quo,.int a p,.int _ q=>k (.c (.int a (a.wrap (p.tdiv q)))) [] [] [v=.int a q,q≠0]
 | .rem,.int a p,.int _ q=>k (.c (.int a (p.tmod q))) [] [] [v=.int a q,q≠0]
 | op,u,v=>Zabp (binV op u v) (λr=>match r with
  | .int a z=>k (.c (.int a z)) [] [] []
  | .bool b=>k (.c (.bool b)) [] [] []
  | _=>False)
def nilK (op:BinOp)(a:AV)(k:Kt):Prop :=
 match op,a with
 | .eql,.c .nilIface=>k (.c (.bool true)) [] [] []
 | .neq,.c .nilIface=>k (.c (.bool false)) [] [] []
 | .eql,.ifc _ _=>k (.c (.bool false)) [] [] []
 | .neq,.ifc _ _=>k (.c (.bool true)) [] [] []
 | _,_=>False
def bndK (tm:List AV)(dflt:Nat):Option Operand->(Nat->List Prop->Prop)->Prop
 | none,k=>k dflt []
 | some x,k=>evK tm x (λa=>match a with
  | .c (.int _ z)=>k z.toNat [0<=z]
  | _=>False)
def Zakm (tm:List AV):List (Nat×Operand)->(List (Nat×AV)->Prop)->Prop
 | [],k=>k []
 | (i,x) :: r,k=>evK tm x (λa=>Zakm tm r (λq=>k ((i,a) :: q)))
def layK (place:Nat->Option (Nat×Nat)):List AV->List (Nat×AV)->(List AV->Prop)->Prop
 | e,[],k=>k e
 | e,(i,x) :: r,k=>Zabp (place i) (λp=>Zabw x (λcs=>ifK (cs.length.beq p.2&&Nat.ble (p.1+p.2) e.length) (Zdo (lay e p.1 cs) (λe'=>layK place e' r k))))
def Zant : Nat->Nat->List AV->(List (List AV)->Prop)->Prop
 | 0,_,l,k=>match l with
  | []=>k []
  | _=>False
 | n+1,sz,l,k=>Zdo (l.take sz) (λc=>ifK (c.length.beq sz) (Zdo (l.drop sz) (λr=>Zant n sz r (λq=>k (c :: q)))))
def srcK (hp:List Ent)(sz:Nat)(a:AV)(k:List (List AV)->List Nat->List Prop->Prop):Prop :=
 match a with
 | .sl s l=>ifK (s.beq sz) (k l [] [])
 | .own i ver 0 len=>Zxs hp i ver (λB=>ifK (B.sz.beq sz) (k B.els [i] [B.els.length=len]))
 | .own i ver (k0+1) len=>Zxs hp i ver (λB=>ifK (B.sz.beq sz) (k ((B.els.drop (k0+1)).take len) [i] [k0+1+len<=B.els.length]))
 | .c (.slice none 0 _)=>k [] [] []
 | _=>False
def Zan7 (T:List (Option TI))(s f:Nat)(k:Nat->TI->Prop):Prop :=
 tyK T s (λts=>match ts.kind with
  | .struct fs=>getK fs f (λp=>tyK T p.2 (λtf=>k p.1 tf))
  | _=>False)
def lenK (C:Cx)(tm:List AV)(hp:List Ent)(x:Operand)(t:TypeId)(any:Prop)(k:Kt):Prop :=
 tyK C.T t (λti=>evK tm x (λa=>match ti.kind,a with
  | .slice _,.sl _ l=>k (.c (.int .i64 l.length)) [] [] []
  | .slice _,.own i ver _ len=>Zxs hp i ver (λ_=>k (.c (.int .i64 len)) [] [i] [])
  | .slice _,.c (.slice _ q _)=>k (.c (.int .i64 q)) [] [] []
  | .str,.c (.string s)=>k (.c (.int .i64 s.size)) [] [] []
  | .other,.mp _ _=>any
  | _,_=>False))
def Zane (C:Cx)(tm:List AV)(hp:List Ent)(o:Oper)(x y:Operand)(t t':TypeId)(k:Kt):Prop :=
 ifK (t.beq t') (tyK C.T t (λti=>match ti.kind with
  | .slice e=>tyK C.T e (λte=>ifK (!te.sz.beq 0) (evK tm x (λa=>evK tm y (λb=>match a with
   | .own i ver 0 len=>Zxs hp i ver (λB=>ifK (B.sz.beq te.sz&&B.ty.beq e&&Nat.blt i tm.length) (srcK hp B.sz b (λnew rb ps =>
     k (.own i (ver+1) 0 (len+new.length)) [(i,⟨ver+1,some ⟨e,B.sz,false,B.els++new⟩⟩)] rb (ps++[B.els.length=len,(len+new.length)*te.bytes<=140737488355328,len+new.length<=9223372036854775807]))))
   | .c (.slice none 0 0)=>Zabp o.dst (λd=>getK hp d (λen=>srcK hp te.sz b (λnew rb ps =>
     k (.own d (en.ver+1) 0 new.length) [(d,⟨en.ver+1,some ⟨e,te.sz,false,new⟩⟩)] rb (ps++[new.length*te.bytes<=140737488355328,new.length<=9223372036854775807]))))
   | _=>False))))
  | _=>False))
def Zatz (C:Cx)(tm:List AV)(hp:List Ent)(o:Oper)(c:Call)(any:Prop)(k:Kt):Prop :=
 match c.callee with
 | .builtin .len=>match c.args.toList,c.argTypes.toList with
  | [x],[t]=>lenK C tm hp x t any k
  | _,_=>False
 | .builtin .append=>match c.args.toList,c.argTypes.toList with
  | [x,y],[t,t']=>Zane C tm hp o x y t t' k
  | _,_=>False
 | _=>any
def opK (C:Cx)(tm:List AV)(hp:List Ent)(o:Oper)(any:Prop)(k:Kt):Prop :=
 match o.op with
 | .move x=>evK tm x (λa=>k a [] [] [])
 | .assign x=>evK tm x (λa=>k a [] [] [])
 | .alloc t=>tyK C.T t (λti=>ifK (!isM true t) (Zabp o.dst (λd=>getK hp d (λe=>Zabw (.c ti.zero) (λcs=>k (.ptr d (e.ver+1) 0 0) [(d,⟨e.ver+1,some ⟨t,cs.length,true,[cs]⟩⟩)] [] [])))))
 | .box t x=>evK tm x (λa=>ifK (!isM true t) (Zabp o.dst (λd=>getK hp d (λe=>Zabw a (λcs=>k (.ptr d (e.ver+1) 0 0) [(d,⟨e.ver+1,some ⟨t,cs.length,true,[cs]⟩⟩)] [] [])))))
 | .load t x=>tyK C.T t (λti=>evK tm x (λa=>match a with
  | .ptr i ver kk j=>Zxs hp i ver (λB=>ifK (Nat.ble (j+ti.sz) B.sz && !isM B.box B.ty) (elK B kk (λe=>cutK ti e j (λr=>k r [] [i] []))))
  | .pim e j=>cutK ti e j (λr=>k r [] [] [])
  | _=>False))
 | .store t x y=>match o.dst with
  | some _=>False
  | none=>tyK C.T t (λti=>evK tm x (λa=>evK tm y (λb=>match a with
   | .ptr i ver kk j=>Zxs hp i ver (λB=>Zabw b (λcs=>ifK (cs.length.beq ti.sz&&Nat.ble (j+ti.sz) B.sz && !isM B.box B.ty) (elK B kk (λe=>Zdo (lay e j cs) (λe' =>
     match B with
     | ⟨ty,sz,true,_⟩=>k .dead [(i,⟨ver,some ⟨ty,sz,true,[e']⟩⟩)] [] []
     | ⟨ty,sz,false,els⟩=>k .dead [(i,⟨ver,some ⟨ty,sz,false,els.set kk e'⟩⟩)] [] [])))))
   | _=>False)))
 | .nilCheck x=>evK tm x (λa=>match a with
  | .ptr i ver kk j=>Zxs hp i ver (λ_=>k (.ptr i ver kk j) [] [i] [])
  | .pim e j=>k (.pim e j) [] [] []
  | _=>False)
 | .binOp op xt x y _=>evK tm x (λa=>match y with
  | .const .nilIface=>tyK C.T xt (λti=>match ti.kind with
   | .iface=>nilK op a k
   | _=>False)
  | _=>evK tm y (λb=>match a,b with
   | .c (.bool p),.c (.bool q)=>tyK C.T xt (λti=>match ti.kind with
    | .bool=>match op with
     | .eql=>k (.c (.bool (p == q))) [] [] []
     | .neq=>k (.c (.bool (!(p == q)))) [] [] []
     | _=>False
    | _=>False)
   | .c (.slice none 0 0),.c (.slice none 0 0)=>any
   | .c u,.c v=>binK op u v k
   | .agg _,.agg _=>any
   | _,_=>False))
 | .unOp .not _ x=>evK tm x (λa=>match a with
  | .c (.bool b)=>k (.c (.bool (!b))) [] [] []
  | _=>False)
 | .unOp .neg _ x=>evK tm x (λa=>match a with
  | .c (.int kd z)=>k (.c (.int kd (kd.wrap (0-z)))) [] [] []
  | _=>False)
 | .pick c x y=>evK tm c (λq=>match q with
  | .c (.bool b)=>True->(b=true->evK tm x (λa=>k a [] [] []))/\(b=false->evK tm y (λa=>k a [] [] []))
  | _=>False)
 | .convert src dst x=>tyK C.T src (λ_=>tyK C.T dst (λtd=>evK tm x (λa=>match a,td.kind with
  | .c (.int _ z),.int kd=>k (.c (.int kd (kd.wrap z))) [] [] []
  | .c (.string s),.str=>k (.c (.string s)) [] [] []
  | .c (.string _),.slice _=>any
  | .own _ _ _ _,.str=>any
  | _,_=>False)))
 | .makeInterface xt x=>tyK C.T xt (λti=>match ti.kind with
  | .iface=>False
  | .other=>False
  | _=>evK tm x (λa=>k (.ifc xt a) [] [] []))
 | .extract x j=>evK tm x (λa=>match a with
  | .tup vs=>getK vs j (λy=>k y [] [] [])
  | _=>False)
 | .fieldAddr s x f=>Zan7 C.T s f (λoff tf=>ifK (!tf.sz.beq 0) (evK tm x (λa=>match a with
  | .ptr i ver kk j=>Zxs hp i ver (λ_=>k (.ptr i ver kk (j+off)) [] [i] [])
  | .pim e j=>k (.pim e (j+off)) [] [] []
  | _=>False)))
 | .field s x f=>Zan7 C.T s f (λoff tf=>evK tm x (λa=>match a with
  | .agg cs=>cutK tf cs off (λr=>k r [] [] [])
  | _=>False))
 | .indexAddr t x y=>tyK C.T t (λti=>match ti.kind with
  | .slice e=>tyK C.T e (λte=>evK tm x (λa=>evK tm y (λb=>match a,b with
   | .sl sz l,.c (.int _ z)=>ifK (te.sz.beq sz) (True->∃el,l[z.toNat]?=some el/\k (.pim el 0) [] [] [0<=z])
   | .own i ver k0 len,.c (.int _ z)=>Zxs hp i ver (λB=>ifK (te.sz.beq B.sz) (k (.ptr i ver (k0+z.toNat) 0) [] [i] [0<=z,z<len]))
   | _,_=>False)))
  | .array _ _=>any
  | _=>False)
 | .index t x y=>tyK C.T t (λti=>match ti.kind with
  | .str=>evK tm x (λa=>evK tm y (λb=>match a,b with
   | .c (.string s),.c (.int _ z)=>k (.c (.int .u8 (s.data.getD z.toNat 0).toNat)) [] [] [0<=z,z<s.size]
   | _,_=>False))
  | _=>False)
 | .slice _ _ _ _ (some _)=>False
 | .slice t x lo hi none=>tyK C.T t (λti=>evK tm x (λa=>match ti.kind,a with
  | .str,.c (.string s)=>bndK tm 0 lo (λl p1=>bndK tm s.size hi (λr p2=>k (.c (.string (s.extract l r))) [] [] (p1++p2++[l<=r,r<=s.size])))
  | .slice e,.sl sz ls=>tyK C.T e (λte=>ifK (te.sz.beq sz) (bndK tm 0 lo (λl p1=>bndK tm ls.length hi (λr p2=>k (.sl sz ((ls.take r).drop l)) [] [] (p1++p2++[l<=r,r<=ls.length])))))
  | .slice e,.own i ver k0 len=>tyK C.T e (λte=>Zxs hp i ver (λB=>ifK (te.sz.beq B.sz) (bndK tm 0 lo (λl p1=>bndK tm len hi (λr p2=>k (.own i ver (k0+l) (r-l)) [] [i] (p1++p2++[l<=r,r<=len]))))))
  | _,_=>False))
 | .call c=>Zatz C tm hp o c any k
 | .build t ps=>tyK C.T t (λti=>match ti.kind with
  | .struct fs=>ifK (Zw9 (Zd1 (.c ti.zero))&&fs.all (λp=>match C.T[p.2]? with|some (some _)=>true|_=>false)) (Zakm tm ps.toList (λqs=>Zdo (ti.zero.cells.toList.map .c) (λz=>layK (λi=>(fs[i]?).map (λp=>(p.1,match C.T[p.2]? with|some (some tf)=>tf.sz|_=>0))) z qs (λe=>k (.agg e) [] [] []))))
  | _=>False)
 | .buildSlice t len ps=>tyK C.T t (λti=>match ti.kind with
  | .slice e=>tyK C.T e (λte=>ifK (!te.sz.beq 0&&Nat.ble (len*te.sz) 16777216&&Zw9 (Zd1 (.c te.zero))) (Zabp o.dst (λd=>getK hp d (λen=>Zakm tm ps.toList (λqs =>
    Zdo ((List.range (len*te.sz)).map (λi=>.c (te.zero.cells.getD (i % te.sz) undef))) (λz=>layK (λi=>some (i*te.sz,te.sz)) z qs (λfl=>Zant len te.sz fl (λels =>
     k (.own d (en.ver+1) 0 len) [(d,⟨en.ver+1,some ⟨e,te.sz,false,els⟩⟩)] [] []))))))))
  | _=>False)
 | _=>any
def AllP : List Prop->Prop
 | []=>True
 | [p]=>p
 | p :: r=>p/\AllP r
theorem Zzc {p:Prop}{r:List Prop}:AllP (p :: r)↔p/\AllP r:=by
 cases r with
 | nil=>simp[AllP]
 | cons q r=>rfl
theorem Zh3 {a b:List Prop}:AllP (a++b)↔AllP a/\AllP b:=by
 induction a with
 | nil=>simp[AllP]
 | cons p r ih=>rw[List.cons_append,Zzc,Zzc,ih,and_assoc]
def LF (C:Cx)(n:Nat)(o:Oper)(τ:Nat->AV)(η:Nat->Ent)(f:Foot):Prop :=
 ∀τ' η',(∀y∈o.op.operands,evA τ' y=evA τ y)->(∀i,i∈f.rb\/i∈f.ids->η' i=η i)->Step C n o τ' η' (Zss τ' o.dst f.x) (Zb5 η' f.ups)
section
variable {C : Cx} {n : Nat} {tm : List AV} {hp : List Ent} {o : Oper}
theorem Zbq {τ:Nat->AV}{η:Nat->Ent}{x:AV}{rb:List Nat}(hd:InB n o.dst)(h:∀τ' η',(∀y∈o.op.operands,evA τ' y=evA τ y)->(∀i,i∈rb->η' i=η i)->Zuc C n o τ' η' x):LF C n o τ η ⟨x,[],rb⟩ :=
 λτ' η' h1 h2=>Zapx hd (h τ' η' h1 (λi hi=>h2 i (.inl hi)))
theorem Zaft {d:Nat}{e:Ent}(h:hp[d]?=some e):hpF hp d=e:=by
 show hp.getD d _=e
 rw[gD_,h]
 rfl
def Goal (C:Cx)(n:Nat)(tm:List AV)(hp:List Ent)(o:Oper)(k:Kt):Prop:=∃x ups rb ps,k x ups rb ps/\(AllP ps->LF C n o (tmF tm) (hpF hp) ⟨x,ups,rb⟩)
theorem Zauw {t:TypeId}{x:Operand}{k:Kt}(hd:InB n o.dst)(ho:o.op=.load t x)(h:tyK C.T t (λti=>evK tm x (λa=>match a with
  | .ptr i ver kk j=>Zxs hp i ver (λB=>ifK (Nat.ble (j+ti.sz) B.sz && !isM B.box B.ty) (elK B kk (λe=>cutK ti e j (λr=>k r [] [i] []))))
  | .pim e j=>cutK ti e j (λr=>k r [] [] [])
  | _=>False))):Goal C n tm hp o k:=by
 obtain⟨ti,ht,h⟩:=Zjo h
 have h:=Zfn h
 split at h
 ·rename_i i ver kk j he
  obtain⟨B,hB,h⟩:=Zgh h
  obtain⟨h1,h⟩:=Zeh h
  rw[bA_,Bool.not_eq_true']at h1
  obtain⟨h1,hM⟩:=h1
  obtain⟨e,hee,_,h⟩:=Zan5 h
  obtain⟨c1,c2,h⟩:=Zada h
  exact⟨_,_,_,_,h,λ_=>Zbq hd (λτ' η' g1 g2=>Zacc ho (by rw[g1 x (by simp[ho,Op.operands]),he]) (by rw[g2 i (by simp),hB]) hee ht c2 (Nat.le_of_ble_eq_true h1) hM)⟩
 ·rename_i e j he
  obtain⟨c1,c2,h⟩:=Zada h
  exact⟨_,_,_,_,h,λ_=>Zbq hd (λτ' η' g1 g2=>Zame ho (by rw[g1 x (by simp[ho,Op.operands]),he]) ht c2 c1)⟩
 ·exact h.elim
theorem Zaro {t:TypeId}{x y:Operand}{k:Kt}(hdn:o.dst=none)(ho:o.op=.store t x y)(h:tyK C.T t (λti=>evK tm x (λa=>evK tm y (λb=>match a with
   | .ptr i ver kk j=>Zxs hp i ver (λB=>Zabw b (λcs=>ifK (cs.length.beq ti.sz&&Nat.ble (j+ti.sz) B.sz && !isM B.box B.ty) (elK B kk (λe=>Zdo (lay e j cs) (λe' =>
     match B with
     | ⟨ty,sz,true,_⟩=>k .dead [(i,⟨ver,some ⟨ty,sz,true,[e']⟩⟩)] [] []
     | ⟨ty,sz,false,els⟩=>k .dead [(i,⟨ver,some ⟨ty,sz,false,els.set kk e'⟩⟩)] [] [])))))
   | _=>False)))):Goal C n tm hp o k:=by
 obtain⟨ti,ht,h⟩:=Zjo h
 have h:=Zfn (Zfn h)
 split at h
 ·rename_i i ver kk j he
  obtain⟨B,hB,h⟩:=Zgh h
  obtain⟨h1,h⟩:=Zvm h
  obtain⟨h2,h⟩:=Zeh h
  rw[bA_,Bool.not_eq_true',bA_]at h2
  obtain⟨h2,hM⟩:=h2
  obtain⟨e,hee,hbx,h⟩:=Zan5 h
  have h:=Zcl h
  have key:∀τ' η',(∀y∈o.op.operands,evA τ' y=evA (tmF tm) y)->η' i=hpF hp i->Step C n o τ' η' (Zss τ' o.dst .dead) (Zeo η' i ⟨ver,some { B with els:=B.els.set kk (lay e j (Zd1 (evA (tmF tm) y))) }⟩):=by
   intro τ' η' g1 g2
   have gx:=g1 x (by simp[ho,Op.operands])
   have gy:=g1 y (by simp[ho,Op.operands])
   have:=Zau7 (C:=C) (n:=n) (τ:=τ') (η:=η') (B:=B) ho hdn (by rw[gx,he]) (by rw[g2,hB]) hee ht (by rw[gy];exact Nat.eq_of_beq_eq_true h2.1) (by rw[gy];exact h1) (Nat.le_of_ble_eq_true h2.2) hM
   rw[gy]at this
   rw[hdn]
   exact this
  split at h
  ·refine⟨_,_,_,_,h,λ_ τ' η' g1 g2=>?_⟩
   have:=key τ' η' g1 (g2 i (.inr (by simp[Foot.ids])))
   obtain⟨hb1,rfl⟩:=hbx rfl
   simp only at hb1
   subst hb1
   exact this
  ·refine⟨_,_,_,_,h,λ_ τ' η' g1 g2=>?_⟩
   exact key τ' η' g1 (g2 i (.inr (by simp[Foot.ids])))
 ·exact h.elim
end
section
variable {C : Cx} {n : Nat} {tm : List AV} {hp : List Ent} {o : Oper}
theorem Zawl {op:BinOp}{xt yt:TypeId}{x y:Operand}{k:Kt}(hd:InB n o.dst)(ho:o.op=.binOp op xt x y yt){u v:Value}(hx:evA (tmF tm) x=.c u)(hy:evA (tmF tm) y=.c v)(h:binK op u v k):Goal C n tm hp o k:=by
 have gx:∀τ',(∀y∈o.op.operands,evA τ' y=evA (tmF tm) y)->evA τ' x=.c u:=λτ' g=>by rw[g x (by simp[ho,Op.operands]),hx]
 have gy:∀τ',(∀y∈o.op.operands,evA τ' y=evA (tmF tm) y)->evA τ' y=.c v:=λτ' g=>by rw[g y (by simp[ho,Op.operands]),hy]
 unfold binK at h
 split at h
 ·exact⟨_,_,_,_,h,λhq=>Zbq hd (λτ' η' g1 _=>Zarr ho (gx τ' g1) (gy τ' g1) hq)⟩
 ·exact⟨_,_,_,_,h,λhq=>Zbq hd (λτ' η' g1 _=>Zay3 ho (gx τ' g1) (by rw[gy τ' g1,hq.1]) hq.2)⟩
 ·exact⟨_,_,_,_,h,λhq=>Zbq hd (λτ' η' g1 _=>Zay6 ho (gx τ' g1) (by rw[gy τ' g1,hq.1]) hq.2)⟩
 ·obtain⟨r,hr,h⟩:=Zng h
  split at h
  ·exact⟨_,_,_,_,h,λ_=>Zbq hd (λτ' η' g1 _=>Zawq ho (gx τ' g1) (gy τ' g1) hr)⟩
  ·exact⟨_,_,_,_,h,λ_=>Zbq hd (λτ' η' g1 _=>Zawq ho (gx τ' g1) (gy τ' g1) hr)⟩
  ·exact h.elim
theorem Zawn {op:BinOp}{xt yt:TypeId}{x:Operand}{k:Kt}{ti:TI}(hd:InB n o.dst)(ho:o.op=.binOp op xt x (.const .nilIface) yt)(ht:TyOk C.P xt ti)(hk:ti.kind=.iface)(h:nilK op (evA (tmF tm) x) k):Goal C n tm hp o k:=by
 have gx:∀τ',(∀y∈o.op.operands,evA τ' y=evA (tmF tm) y)->evA τ' x=evA (tmF tm) x:=λτ' g=>g x (by simp[ho,Op.operands])
 unfold nilK at h
 split at h
 ·rename_i e
  exact⟨_,_,_,_,h,λ_=>Zbq hd (λτ' η' g1 _=>Zart ho (.inl ⟨rfl,rfl⟩) (by rw[gx τ' g1,e];rfl) ht hk)⟩
 ·rename_i e
  exact⟨_,_,_,_,h,λ_=>Zbq hd (λτ' η' g1 _=>Zart (z:=true) ho (.inr ⟨rfl,rfl⟩) (by rw[gx τ' g1,e];rfl) ht hk)⟩
 ·rename_i e
  exact⟨_,_,_,_,h,λ_=>Zbq hd (λτ' η' g1 _=>Zart ho (.inl ⟨rfl,rfl⟩) (by rw[gx τ' g1,e];rfl) ht hk)⟩
 ·rename_i e
  exact⟨_,_,_,_,h,λ_=>Zbq hd (λτ' η' g1 _=>Zart (z:=false) ho (.inr ⟨rfl,rfl⟩) (by rw[gx τ' g1,e];rfl) ht hk)⟩
 ·exact h.elim
theorem Zaff {s f:Nat}{k:Nat->TI->Prop}(h:Zan7 C.T s f k):∃ts fs off ft tf,TyOk C.P s ts/\ts.kind=.struct fs/\fs[f]?=some (off,ft)/\TyOk C.P ft tf/\k off tf:=by
 obtain⟨ts,h1,h⟩:=Zjo h
 split at h
 ·rename_i fs hk
  obtain⟨p,h2,h⟩:=Zkn h
  obtain⟨tf,h3,h⟩:=Zjo h
  exact⟨ts,fs,p.1,p.2,tf,h1,hk,h2,h3,h⟩
 ·exact h.elim
theorem Zwy {dflt:Nat}{x:Option Operand}{k:Nat->List Prop->Prop}(h:bndK tm dflt x k):∃q ps,k q ps/\(AllP ps->∀τ',(∀y,x=some y->evA τ' y=evA (tmF tm) y)->Bnd τ' dflt x q):=by
 cases x with
 | none=>exact⟨_,_,h,λ_ _ _=>rfl⟩
 | some y =>
  have h:=Zfn h
  split at h
  ·rename_i kd z e
   refine⟨_,_,h,λhz τ' g=>⟨kd,?_⟩⟩
   rw[g y rfl,e]
   have:((z.toNat:Nat):Int)=z:=Int.toNat_of_nonneg hz
   rw[this]
  ·exact h.elim
theorem Zapq {sz:Nat}{a:AV}{k:List (List AV)->List Nat->List Prop->Prop}(h:srcK hp sz a k):∃new rb ps,k new rb ps/\(AllP ps->∀η',(∀i∈rb,η' i=hpF hp i)->Src η' sz new a):=by
 unfold srcK at h
 split at h
 ·obtain⟨h1,h⟩:=Zeh h
  exact⟨_,_,_,h,λ_ η' _=>⟨Nat.eq_of_beq_eq_true h1,rfl⟩⟩
 ·rename_i i ver len
  obtain⟨B,hB,h⟩:=Zgh h
  obtain⟨h1,h⟩:=Zeh h
  refine⟨_,_,_,h,λhl η' g=>⟨B,by rw[g i (by simp),hB],Nat.eq_of_beq_eq_true h1,?_,?_⟩⟩
  ·have:B.els.length=len:=hl
   omega
  ·have:B.els.length=len:=hl
   rw[List.drop_zero,tL_ (by omega)]
 ·rename_i i ver k0 len
  obtain⟨B,hB,h⟩:=Zgh h
  obtain⟨h1,h⟩:=Zeh h
  exact⟨_,_,_,h,λhl η' g=>⟨B,by rw[g i (by simp),hB],Nat.eq_of_beq_eq_true h1,hl,rfl⟩⟩
 ·exact⟨_,_,_,h,λ_ η' _=>rfl⟩
 ·exact h.elim
theorem Zaal : ∀{ps:List (Nat×Operand)}{k:List (Nat×AV)->Prop},Zakm tm ps k->k (ps.map (λp=>(p.1,evA (tmF tm) p.2)))
 | [],_,h=>h
 | (i,x) :: r,k,h=>by
  have h:=Zfn h
  exact Zaal (ps:=r) (k:=λq=>k ((i,evA (tmF tm) x) :: q)) h
theorem Zah6 {place:Nat->Option (Nat×Nat)}:∀{ps:List (Nat×AV)}{e:List AV}{k:List AV->Prop},layK place e ps k->∃e',Zx0 place e ps=some e'/\k e'
 | [],e,_,h=>⟨e,rfl,h⟩
 | (i,x) :: r,e,k,h=>by
  obtain⟨p,hp,h⟩:=Zng h
  obtain⟨h1,h⟩:=Zvm h
  obtain⟨h2,h⟩:=Zeh h
  rw[bA_]at h2
  obtain⟨e',h3,h4⟩:=Zah6 (ps:=r) (Zcl h)
  refine⟨e',?_,h4⟩
  rw[Zx0,hp]
  simp only
  rw[if_pos ⟨Nat.eq_of_beq_eq_true h2.1,Nat.le_of_ble_eq_true h2.2,h1⟩]
  exact h3
theorem Zae1 {sz:Nat}:∀{len:Nat}{l:List AV}{k:List (List AV)->Prop},Zant len sz l k->∃els,els.length=len/\(∀x∈els,x.length=sz)/\els.flatten=l/\k els
 | 0,[],_,h=>⟨[],rfl,by simp,rfl,h⟩
 | 0,_ :: _,_,h=>h.elim
 | len+1,l,k,h=>by
  have h:=Zcl h
  obtain⟨h1,h⟩:=Zeh h
  obtain⟨els,e1,e2,e3,e4⟩:=Zae1 (len:=len) (Zcl h)
  refine⟨l.take sz :: els,by simp[e1],λx hx=>?_,by rw[List.flatten_cons,e3,List.take_append_drop],e4⟩
  rcases List.mem_cons.1 hx with rfl|hx
  ·exact Nat.eq_of_beq_eq_true h1
  ·exact e2 x hx
theorem Zacb {u:Value}(h:Zw9 (Zd1 (.c u))=true):∀v∈u.cells.toList,v.oneCell'=true:=by
 intro v hv
 cases u with
 | agg us =>
  have hv':v∈us.toList:=hv
  exact List.all_eq_true.1 h (.c v) (List.mem_map.2 ⟨v,hv',rfl⟩)
 | _ =>
  simp[Value.cells]at hv
  subst hv
  simpa [Zw9,Zd1,oneA] using h
theorem Zawm {x:Operand}{t:TypeId}{any:Prop}{k:Kt}(hd:InB n o.dst)(ha:any->Goal C n tm hp o k)(ho:o.op=.call { callee:=.builtin .len,args:=#[x],argTypes:=#[t] }) (h:lenK C tm hp x t any k):Goal C n tm hp o k:=by
 obtain⟨ti,ht,h⟩:=Zjo h
 have h:=Zfn h
 have gx:∀τ',(∀y∈o.op.operands,evA τ' y=evA (tmF tm) y)->evA τ' x=evA (tmF tm) x:=λτ' g=>g x (by simp[ho,Op.operands,Call.operands])
 split at h
 ·rename_i e' sz l hk e
  exact⟨_,_,_,_,h,λ_=>Zbq hd (λτ' η' g1 _=>Zars ho ht (by rw[gx τ' g1,e];rfl) (by rw[gx τ' g1,e];exact⟨_,hk⟩))⟩
 ·rename_i e' i ver k0 len hk e
  obtain⟨B,hB,h⟩:=Zgh h
  exact⟨_,_,_,_,h,λ_=>Zbq hd (λτ' η' g1 g2=>Zars ho ht (by rw[gx τ' g1,e];rfl) (by rw[gx τ' g1,e];exact⟨⟨_,hk⟩,by rw[g2 i (by simp),hB]⟩))⟩
 ·rename_i hk e
  exact⟨_,_,_,_,h,λ_=>Zbq hd (λτ' η' g1 _=>Zars ho ht (by rw[gx τ' g1,e];rfl) (by rw[gx τ' g1,e];exact⟨_,hk⟩))⟩
 ·rename_i hk e
  exact⟨_,_,_,_,h,λ_=>Zbq hd (λτ' η' g1 _=>Zars ho ht (by rw[gx τ' g1,e];rfl) (by rw[gx τ' g1,e];exact hk))⟩
 ·exact ha h
 ·exact h.elim
theorem Zaou {x y:Operand}{t t':TypeId}{k:Kt}(hln:tm.length<=n)(hd:InB n o.dst)(ho:o.op=.call { callee:=.builtin .append,args:=#[x,y],argTypes:=#[t,t'] }) (h:Zane C tm hp o x y t t' k):Goal C n tm hp o k:=by
 obtain⟨htt,h2⟩:=Zeh h
 clear h
 have htt:=Nat.eq_of_beq_eq_true htt
 subst htt
 obtain⟨ti,ht,h⟩:=Zjo h2
 have gx:∀τ',(∀y∈o.op.operands,evA τ' y=evA (tmF tm) y)->evA τ' x=evA (tmF tm) x:=λτ' g=>g x (by simp[ho,Op.operands,Call.operands])
 have gy:∀τ',(∀y∈o.op.operands,evA τ' y=evA (tmF tm) y)->evA τ' y=evA (tmF tm) y:=λτ' g=>g y (by simp[ho,Op.operands,Call.operands])
 split at h
 ·rename_i ety hk
  obtain⟨te,hte,h⟩:=Zjo h
  obtain⟨h0,h⟩:=Zeh h
  have hz:0<te.sz:=Nat.pos_of_ne_zero (λe=>by rw[e]at h0;simp at h0)
  have h:=Zfn (Zfn h)
  split at h
  ·rename_i i ver len e
   obtain⟨B,hB,h⟩:=Zgh h
   obtain⟨h1,h⟩:=Zeh h
   rw[bA_,bA_]at h1
   obtain⟨h1,hin⟩:=h1
   have hin:i<n:=Nat.lt_of_lt_of_le (by simpa [Nat.blt_eq] using hin) hln
   have hsz:=Nat.eq_of_beq_eq_true h1.1
   obtain⟨new,rb,ps,h,hs⟩:=Zapq h
   refine⟨_,_,_,_,h,λhq τ' η' g1 g2=>?_⟩
   rw[Zh3]at hq
   have hi:η' i=⟨ver,some B⟩:=by rw[g2 i (.inr (by simp[Foot.ids])),hB]
   exact Zago (C:=C) (n:=n) (τ:=τ') (η:=η') ho hd hin (by rw[gx τ' g1,e]) hi hq.2.1 (by rw[gy τ' g1];exact hs hq.1 η' (λj hj=>g2 j (.inl hj))) ht hk hte hsz.symm (Nat.eq_of_beq_eq_true h1.2) (by omega) hq.2.2.1 hq.2.2.2
  ·rename_i e
   obtain⟨d,hdd,h⟩:=Zng h
   obtain⟨en,hen,h⟩:=Zkn h
   obtain⟨new,rb,ps,h,hs⟩:=Zapq h
   refine⟨_,_,_,_,h,λhq τ' η' g1 g2=>?_⟩
   rw[Zh3]at hq
   have hη:(η' d).ver=en.ver:=by rw[g2 d (.inr (by simp[Foot.ids])),Zaft hen]
   have:=Zagn (C:=C) (n:=n) (τ:=τ') (η:=η') ho hdd (by rw[hdd]at hd;exact hd) (by rw[gx τ' g1,e]) rfl (by rw[gy τ' g1];exact hs hq.1 η' (λj hj=>g2 j (.inl hj))) ht hk hte hz hq.2.1 hq.2.2
   rw[hη]at this
   exact this
  ·exact h.elim
 ·exact h.elim
theorem Zauv {c:Call}{any:Prop}{k:Kt}(hln:tm.length<=n)(hd:InB n o.dst)(ho:o.op=.call c)(ha:any->Goal C n tm hp o k)(h:Zatz C tm hp o c any k):Goal C n tm hp o k:=by
 obtain⟨callee,args,argTypes⟩:=c
 unfold Zatz at h
 split at h
 ·rename_i hc
  split at h
  ·rename_i x t h1 h2
   simp only at hc h1 h2
   have e1:args=#[x]:=Array.ext' h1
   have e2:argTypes=#[t]:=Array.ext' h2
   subst hc e1 e2
   exact Zawm hd ha ho h
  ·exact h.elim
 ·rename_i hc
  split at h
  ·rename_i x y t t' h1 h2
   simp only at hc h1 h2
   have e1:args=#[x,y]:=Array.ext' h1
   have e2:argTypes=#[t,t']:=Array.ext' h2
   subst hc e1 e2
   exact Zaou hln hd ho h
  ·exact h.elim
 ·exact ha h
theorem Zas2 {any:Prop}{k:Kt}(hln:tm.length<=n)(hd:InB n o.dst)(ha:any->Goal C n tm hp o k)(h:opK C tm hp o any k):Goal C n tm hp o k:=by
 unfold opK at h
 split at h
 ·rename_i x ho
  exact⟨_,_,_,_,Zfn h,λ_=>Zbq hd (λτ' η' g1 _=>by rw[<-g1 x (by simp[ho,Op.operands])];exact Zakk (.inl ho))⟩
 ·rename_i x ho
  exact⟨_,_,_,_,Zfn h,λ_=>Zbq hd (λτ' η' g1 _=>by rw[<-g1 x (by simp[ho,Op.operands])];exact Zakk (.inr ho))⟩
 ·rename_i t ho
  obtain⟨ti,ht,h⟩:=Zjo h
  obtain⟨hM,h⟩:=Zeh h
  rw[Bool.not_eq_true']at hM
  obtain⟨d,hdd,h⟩:=Zng h
  obtain⟨e,he,h⟩:=Zkn h
  obtain⟨h1,h⟩:=Zvm h
  refine⟨_,_,_,_,h,λ_ τ' η' g1 g2=>?_⟩
  have hη:(η' d).ver=e.ver:=by rw[g2 d (.inr (by simp[Foot.ids])),Zaft he]
  have:=Zau6 (C:=C) (n:=n) (τ:=τ') (η:=η') ho hdd (by rw[hdd]at hd;exact hd) hM ht h1
  rw[hη]at this
  exact this
 ·rename_i t x ho
  have h:=Zfn h
  obtain⟨hM,h⟩:=Zeh h
  rw[Bool.not_eq_true']at hM
  obtain⟨d,hdd,h⟩:=Zng h
  obtain⟨e,he,h⟩:=Zkn h
  obtain⟨h1,h⟩:=Zvm h
  refine⟨_,_,_,_,h,λ_ τ' η' g1 g2=>?_⟩
  have hη:(η' d).ver=e.ver:=by rw[g2 d (.inr (by simp[Foot.ids])),Zaft he]
  have gx:=g1 x (by simp[ho,Op.operands])
  have:=Zay7 (C:=C) (n:=n) (τ:=τ') (η:=η') ho hdd (by rw[hdd]at hd;exact hd) hM (by rw[gx];exact h1)
  rw[hη,gx]at this
  exact this
 ·rename_i t x ho
  exact Zauw hd ho h
 ·rename_i t x y ho
  split at h
  ·exact h.elim
  ·rename_i hdn
   exact Zaro hdn ho h
 ·rename_i x ho
  have h:=Zfn h
  split at h
  ·rename_i i ver kk j e
   obtain⟨B,hB,h⟩:=Zgh h
   exact⟨_,_,_,_,h,λ_=>Zbq hd (λτ' η' g1 g2=>Zabn ho (by rw[g1 x (by simp[ho,Op.operands]),e]) (by rw[g2 i (by simp),hB]))⟩
  ·rename_i e
   exact⟨_,_,_,_,h,λ_=>Zbq hd (λτ' η' g1 g2=>Zabm ho (by rw[g1 x (by simp[ho,Op.operands]),e]))⟩
  ·exact h.elim
 ·rename_i op xt x y yt ho
  have h:=Zfn h
  split at h
  ·obtain⟨ti,ht,h⟩:=Zjo h
   split at h
   ·rename_i hk
    exact Zawn hd ho ht hk h
   ·exact h.elim
  ·have h:=Zfn h
   have gx:∀τ',(∀y∈o.op.operands,evA τ' y=evA (tmF tm) y)->evA τ' x=evA (tmF tm) x:=λτ' g=>g x (by simp[ho,Op.operands])
   have gy:∀τ',(∀y∈o.op.operands,evA τ' y=evA (tmF tm) y)->evA τ' y=evA (tmF tm) y:=λτ' g=>g y (by simp[ho,Op.operands])
   split at h
   ·rename_i p q e1 e2
    obtain⟨ti,ht,h⟩:=Zjo h
    split at h
    ·rename_i hk
     split at h
     ·exact⟨_,_,_,_,h,λ_=>Zbq hd (λτ' η' g1 _=>Zakj ho (by rw[gx τ' g1,e1]) (by rw[gy τ' g1,e2]) ht hk (.inl ⟨rfl,rfl⟩))⟩
     ·exact⟨_,_,_,_,h,λ_=>Zbq hd (λτ' η' g1 _=>Zakj ho (by rw[gx τ' g1,e1]) (by rw[gy τ' g1,e2]) ht hk (.inr ⟨rfl,rfl⟩))⟩
     ·exact h.elim
    ·exact h.elim
   ·exact ha h
   ·rename_i e1 e2
    exact Zawl hd ho e1 e2 h
   ·exact ha h
   ·exact h.elim
 ·rename_i t x ho
  have h:=Zfn h
  split at h
  ·rename_i e
   exact⟨_,_,_,_,h,λ_=>Zbq hd (λτ' η' g1 _=>Zay5 ho (by rw[g1 x (by simp[ho,Op.operands]),e]))⟩
  ·exact h.elim
 ·rename_i t x ho
  have h:=Zfn h
  split at h
  ·rename_i e
   exact⟨_,_,_,_,h,λ_=>Zbq hd (λτ' η' g1 _=>Zay4 ho (by rw[g1 x (by simp[ho,Op.operands]),e]))⟩
  ·exact h.elim
 ·rename_i c x y ho
  have h:=Zfn h
  split at h
  ·rename_i b e
   obtain⟨h1,h2⟩:=h trivial
   have gc:∀τ',(∀y∈o.op.operands,evA τ' y=evA (tmF tm) y)->evA τ' c=.c (.bool b):=λτ' g=>by rw[g c (by simp[ho,Op.operands]),e]
   cases b
   ·refine⟨_,_,_,_,Zfn (h2 rfl),λ_=>Zbq hd (λτ' η' g1 _=>?_)⟩
    have:=Zakl (C:=C) (n:=n) (η:=η') ho (gc τ' g1)
    rw[<-g1 y (by simp[ho,Op.operands])]
    simpa using this
   ·refine⟨_,_,_,_,Zfn (h1 rfl),λ_=>Zbq hd (λτ' η' g1 _=>?_)⟩
    have:=Zakl (C:=C) (n:=n) (η:=η') ho (gc τ' g1)
    rw[<-g1 x (by simp[ho,Op.operands])]
    simpa using this
  ·exact h.elim
 ·rename_i src dst x ho
  obtain⟨ts,hts,h⟩:=Zjo h
  obtain⟨td,htd,h⟩:=Zjo h
  have h:=Zfn h
  split at h
  ·rename_i e hk
   exact⟨_,_,_,_,h,λ_=>Zbq hd (λτ' η' g1 _=>Zawr ho (by rw[g1 x (by simp[ho,Op.operands]),e]) hts htd hk)⟩
  ·rename_i e hk
   exact⟨_,_,_,_,h,λ_=>Zbq hd (λτ' η' g1 _=>Zamd ho (by rw[g1 x (by simp[ho,Op.operands]),e]) hts htd hk)⟩
  ·exact ha h
  ·exact ha h
  ·exact h.elim
 ·rename_i xt x ho
  obtain⟨ti,ht,h⟩:=Zjo h
  split at h
  ·exact h.elim
  ·exact h.elim
  ·rename_i k1 k2
   exact⟨_,_,_,_,Zfn h,λ_=>Zbq hd (λτ' η' g1 _=>by rw[<-g1 x (by simp[ho,Op.operands])];exact Zau1 ho ht k1 k2)⟩
 ·rename_i x j ho
  have h:=Zfn h
  split at h
  ·rename_i e
   obtain⟨y,hy,h⟩:=Zkn h
   exact⟨_,_,_,_,h,λ_=>Zbq hd (λτ' η' g1 _=>Zaoy ho (by rw[g1 x (by simp[ho,Op.operands]),e]) hy)⟩
  ·exact h.elim
 ·rename_i s x f ho
  obtain⟨ts,fs,off,ft,tf,q1,q2,q3,q4,h⟩:=Zaff h
  obtain⟨h0,h⟩:=Zeh h
  have hz:tf.sz≠0:=λe=>by rw[e]at h0;simp at h0
  have h:=Zfn h
  split at h
  ·rename_i i ver kk j e
   obtain⟨B,hB,h⟩:=Zgh h
   exact⟨_,_,_,_,h,λ_=>Zbq hd (λτ' η' g1 g2=>Zaic ho (by rw[g1 x (by simp[ho,Op.operands]),e]) (by rw[g2 i (by simp),hB]) q1 q2 q3 q4 hz)⟩
  ·rename_i e
   exact⟨_,_,_,_,h,λ_=>Zbq hd (λτ' η' g1 g2=>Zaid ho (by rw[g1 x (by simp[ho,Op.operands]),e]) q1 q2 q3 q4 hz)⟩
  ·exact h.elim
 ·rename_i s x f ho
  obtain⟨ts,fs,off,ft,tf,q1,q2,q3,q4,h⟩:=Zaff h
  have h:=Zfn h
  split at h
  ·rename_i e
   obtain⟨c1,c2,h⟩:=Zada h
   exact⟨_,_,_,_,h,λ_=>Zbq hd (λτ' η' g1 g2=>Zau0 ho (by rw[g1 x (by simp[ho,Op.operands]),e]) q1 q2 q3 q4 c2 c1)⟩
  ·exact h.elim
 ·rename_i t x y ho
  obtain⟨ti,ht,h⟩:=Zjo h
  split at h
  ·rename_i e hk
   obtain⟨te,hte,h⟩:=Zjo h
   have h:=Zfn (Zfn h)
   split at h
   ·rename_i e1 e2
    obtain⟨h1,h⟩:=Zeh h
    obtain⟨el,hel,h⟩:=h trivial
    exact⟨_,_,_,_,h,λhz=>Zbq hd (λτ' η' g1 g2=>Zauy ho (by rw[g1 x (by simp[ho,Op.operands]),e1]) (by rw[g1 y (by simp[ho,Op.operands]),e2]) ht hk hte (Nat.eq_of_beq_eq_true h1) hz hel)⟩
   ·rename_i i ver k0 len kd z e1 e2
    obtain⟨B,hB,h⟩:=Zgh h
    obtain⟨h1,h⟩:=Zeh h
    exact⟨_,_,_,_,h,λhz=>Zbq hd (λτ' η' g1 g2=>Zarq ho (by rw[g1 x (by simp[ho,Op.operands]),e1]) (by rw[g2 i (by simp),hB]) (by rw[g1 y (by simp[ho,Op.operands]),e2]) ht hk hte (Nat.eq_of_beq_eq_true h1) hz.1 hz.2)⟩
   ·exact h.elim
  ·exact ha h
  ·exact h.elim
 ·rename_i t x y ho
  obtain⟨ti,ht,h⟩:=Zjo h
  split at h
  ·rename_i hk
   have h:=Zfn (Zfn h)
   split at h
   ·rename_i e1 e2
    exact⟨_,_,_,_,h,λhz=>Zbq hd (λτ' η' g1 g2=>Zaie ho (by rw[g1 x (by simp[ho,Op.operands]),e1]) (by rw[g1 y (by simp[ho,Op.operands]),e2]) ht hk hz.1 hz.2)⟩
   ·exact h.elim
  ·exact h.elim
 ·exact h.elim
 ·rename_i t x lo hi ho
  obtain⟨ti,ht,h⟩:=Zjo h
  have h:=Zfn h
  have gx:∀τ',(∀y∈o.op.operands,evA τ' y=evA (tmF tm) y)->evA τ' x=evA (tmF tm) x:=λτ' g=>g x (by simp[ho,Op.operands])
  have glo:∀τ',(∀y∈o.op.operands,evA τ' y=evA (tmF tm) y)->∀y,lo=some y->evA τ' y=evA (tmF tm) y:=λτ' g y e=>g y (by subst e;simp[ho,Op.operands])
  have ghi:∀τ',(∀y∈o.op.operands,evA τ' y=evA (tmF tm) y)->∀y,hi=some y->evA τ' y=evA (tmF tm) y:=λτ' g y e=>g y (by subst e;simp[ho,Op.operands])
  split at h
  ·rename_i s hk e
   obtain⟨l,p1,h,b1⟩:=Zwy h
   obtain⟨r,p2,h,b2⟩:=Zwy h
   refine⟨_,_,_,_,h,λhz=>Zbq hd (λτ' η' g1 _=>?_)⟩
   rw[Zh3,Zh3]at hz
   exact Zaig ho (by rw[gx τ' g1,e]) ht hk (b1 hz.1.1 τ' (glo τ' g1)) (b2 hz.1.2 τ' (ghi τ' g1)) hz.2.1 hz.2.2
  ·rename_i ety sz ls hk e
   obtain⟨te,hte,h⟩:=Zjo h
   obtain⟨h1,h⟩:=Zeh h
   obtain⟨l,p1,h,b1⟩:=Zwy h
   obtain⟨r,p2,h,b2⟩:=Zwy h
   refine⟨_,_,_,_,h,λhz=>Zbq hd (λτ' η' g1 _=>?_)⟩
   rw[Zh3,Zh3]at hz
   exact Zamf ho (by rw[gx τ' g1,e]) ht hk hte (Nat.eq_of_beq_eq_true h1) (b1 hz.1.1 τ' (glo τ' g1)) (b2 hz.1.2 τ' (ghi τ' g1)) hz.2.1 hz.2.2
  ·rename_i ety i ver k0 len hk e
   obtain⟨te,hte,h⟩:=Zjo h
   obtain⟨B,hB,h⟩:=Zgh h
   obtain⟨h1,h⟩:=Zeh h
   obtain⟨l,p1,h,b1⟩:=Zwy h
   obtain⟨r,p2,h,b2⟩:=Zwy h
   refine⟨_,_,_,_,h,λhz=>Zbq hd (λτ' η' g1 g2=>?_)⟩
   rw[Zh3,Zh3]at hz
   exact Zaif ho (by rw[gx τ' g1,e]) (by rw[g2 i (by simp),hB]) ht hk hte (Nat.eq_of_beq_eq_true h1) (b1 hz.1.1 τ' (glo τ' g1)) (b2 hz.1.2 τ' (ghi τ' g1)) hz.2.1 hz.2.2
  ·exact h.elim
 ·rename_i c ho
  exact Zauv hln hd ho ha h
 ·rename_i t ps ho
  obtain⟨ti,ht,h⟩:=Zjo h
  split at h
  ·rename_i fs hk
   obtain⟨h1,h⟩:=Zeh h
   rw[bA_]at h1
   have h:=Zcl (Zaal h)
   obtain⟨e',h2,h⟩:=Zah6 h
   refine⟨_,_,_,_,h,λ_=>Zbq hd (λτ' η' g1 _=>?_)⟩
   have hps:ps.toList.map (λp=>(p.1,evA τ' p.2))=ps.toList.map (λp=>(p.1,evA (tmF tm) p.2)):=List.map_congr_left (λp hp=>by
    rw[g1 p.2 (by rw[ho];simp only[Op.operands];simp;exact⟨p.1,by simpa using hp⟩)])
   refine Zauz (fsz:=λq=>match C.T[q]? with|some (some tf)=>tf.sz|_=>0) ho ht hk (λp hp=>?_) (Zacb h1.1) (by rw[hps];exact h2)
   have:=List.all_eq_true.1 h1.2 p hp
   split at this
   ·rename_i tf htf
    exact⟨tf,C.tyOk _ _ htf,by simp only⟩
   ·cases this
  ·exact h.elim
 ·rename_i t len ps ho
  obtain⟨ti,ht,h⟩:=Zjo h
  split at h
  ·rename_i ety hk
   obtain⟨te,hte,h⟩:=Zjo h
   obtain⟨h1,h⟩:=Zeh h
   rw[bA_,bA_]at h1
   obtain⟨d,hdd,h⟩:=Zng h
   obtain⟨en,hen,h⟩:=Zkn h
   have h:=Zcl (Zaal h)
   obtain⟨fl,h2,h⟩:=Zah6 h
   obtain⟨els,e1,e2,e3,h⟩:=Zae1 h
   refine⟨_,_,_,_,h,λ_ τ' η' g1 g2=>?_⟩
   have hz:0<te.sz:=Nat.pos_of_ne_zero (λe=>by rw[e]at h1;simp at h1)
   have hη:(η' d).ver=en.ver:=by rw[g2 d (.inr (by simp[Foot.ids])),Zaft hen]
   have hps:ps.toList.map (λp=>(p.1,evA τ' p.2))=ps.toList.map (λp=>(p.1,evA (tmF tm) p.2)):=List.map_congr_left (λp hp=>by
    rw[g1 p.2 (by rw[ho];simp only[Op.operands];simp;exact⟨p.1,by simpa using hp⟩)])
   have:=Zagp (C:=C) (n:=n) (τ:=τ') (η:=η') (els:=els) ho hdd (by rw[hdd]at hd;exact hd) ht hk hte (Nat.le_of_ble_eq_true h1.1.2) hz (Zacb h1.2) e1 e2 (by rw[hps,h2,e3])
   rw[hη]at this
   exact this
  ·exact h.elim
 ·exact ha h
end
def updK : List Ent->List (Nat×Ent)->(List Ent->Prop)->Prop
 | hp,[],k=>k hp
 | hp,(i,e) :: r,k=>setK hp i e (λhp'=>updK hp' r k)
def Zsw (tm:List AV)(hp:List Ent)(dst:Option Tmp)(x:AV)(ups:List (Nat×Ent))(k:List AV->List Ent->Prop):Prop :=
 match dst with
 | none=>updK hp ups (λhp'=>k tm hp')
 | some d=>setK tm d x (λtm'=>updK hp ups (λhp'=>k tm' hp'))
def Zw1 (ops:Array Oper)(j:Nat):Option Tmp:=(ops[j]?).bind (·.dst)
def Zaf3 : List (Nat×Bool)->Nat->Option Bool
 | [],_=>none
 | (i,b) :: r,d=>match i.beq d with
  | true=>some b
  | false=>Zaf3 r d
def rmN : List (Nat×Bool)->Nat->List (Nat×Bool)
 | [],_=>[]
 | (i,b) :: r,d=>match i.beq d with
  | true=>rmN r d
  | false=>(i,b) :: rmN r d
def rmO (kn:List (Nat×Bool)):Option Tmp->List (Nat×Bool)
 | none=>kn
 | some d=>rmN kn d
def Zasy (ops:Array Oper)(kn:List (Nat×Bool))(tm:List AV)(g:Option (Nat×Bool))(run skip:List (Nat×Bool)->Prop):Prop :=
 match g with
 | none=>run kn
 | some (j,want)=>Zabp (Zw1 ops j) (λd=>match Zaf3 kn d,want with
  | some true,true=>run kn
  | some false,false=>run kn
  | some _,_=>skip kn
  | none,true=>getK tm d (λa=>match a with
   | .c (.bool b)=>True->(b=true->run ((d,true) :: kn))/\(b=false->skip ((d,false) :: kn))
   | .c (.tuple _)=>skip kn
   | _=>False)
  | none,false=>getK tm d (λa=>match a with
   | .c (.bool b)=>True->(b=false->run ((d,false) :: kn))/\(b=true->skip ((d,true) :: kn))
   | .c (.tuple _)=>skip kn
   | _=>False))
def Zau2 (kn:List (Nat×Bool))(tm:List AV)(o:Oper)(els:Prop)(k:Operand->AV->Prop):Prop :=
 match o.op with
 | .move x=>evK tm x (k x)
 | .assign x=>evK tm x (k x)
 | .pick (.tmp c) x y=>match Zaf3 kn c with
  | some true=>evK tm x (k x)
  | some false=>evK tm y (k y)
  | none=>els
 | _=>els
def knZ (kn:List (Nat×Bool))(dst:Option Tmp)(z:Operand):List (Nat×Bool) :=
 match dst with
 | none=>kn
 | some d=>match z with
  | .const (.bool b)=>(d,b) :: rmN kn d
  | .tmp s=>match Zaf3 kn s with
   | some b=>(d,b) :: rmN kn d
   | none=>rmN kn d
  | _=>rmN kn d
def allK : List Prop->Prop->Prop
 | [],K=>K
 | p :: r,K=>p/\allK r K
theorem Zand : ∀{ps:List Prop}{K:Prop},allK ps K->AllP ps/\K
 | [],_,h=>⟨trivial,h⟩
 | p :: r,K,h=>by
  obtain⟨h1,h2⟩:=h
  obtain⟨h3,h4⟩:=Zand (ps:=r) h2
  exact⟨Zzc.2 ⟨h1,h3⟩,h4⟩
def vcT (C:Cx)(ops:Array Oper):List Oper->List (Nat×Bool)->List AV->List Ent->List Foot->List Prop->(List Foot->List AV->List Ent->Prop)->Prop
 | [],_,tm,hp,fs,ps,K=>True->allK ps (K fs.reverse tm hp)
 | o :: os,kn,tm,hp,fs,ps,K =>
  Zasy ops kn tm o.guard
   (λkn=>Zau2 kn tm o
    (opK C tm hp o (True->∃f:Foot,LF C tm.length o (tmF tm) (hpF hp) f/\Zsw tm hp o.dst f.x f.ups (λtm' hp'=>Zdo (rmO kn o.dst) (λkn'=>vcT C ops os kn' tm' hp' (f :: fs) ps K)))
     (λx ups rb qs=>Zsw tm hp o.dst x ups (λtm' hp'=>Zdo (ps++qs) (λps'=>Zdo (rmO kn o.dst) (λkn'=>vcT C ops os kn' tm' hp' (⟨x,ups,rb⟩ :: fs) ps' K)))))
    (λz x=>Zsw tm hp o.dst x [] (λtm' hp'=>Zdo (knZ kn o.dst z) (λkn'=>vcT C ops os kn' tm' hp' (⟨x,[],[]⟩ :: fs) ps K))))
   (λkn=>Zsw tm hp o.dst (.c (.tuple #[])) [] (λtm' hp'=>Zdo (rmO kn o.dst) (λkn'=>vcT C ops os kn' tm' hp' (⟨.c (.tuple #[]),[],[]⟩ :: fs) ps K)))
def KnOk (tm:List AV)(kn:List (Nat×Bool)):Prop:=∀d b,(d,b)∈kn->d<tm.length/\tmF tm d=.c (.bool b)
theorem Zyv {kn:List (Nat×Bool)}{d:Nat}{b:Bool}(h:Zaf3 kn d=some b):(d,b)∈kn:=by
 induction kn with
 | nil=>cases h
 | cons p r ih =>
  obtain⟨i,q⟩:=p
  rw[Zaf3]at h
  split at h
  ·rename_i hb
   have:=Nat.eq_of_beq_eq_true hb
   subst this
   injection h with h
   subst h
   exact mS_
  ·exact mC_ _ (ih h)
theorem Zau3 {kn:List (Nat×Bool)}{d i:Nat}{b:Bool}(h:(i,b)∈rmN kn d):(i,b)∈kn/\i≠d:=by
 induction kn with
 | nil=>cases h
 | cons p r ih =>
  obtain⟨j,q⟩:=p
  rw[rmN]at h
  split at h
  ·exact⟨mC_ _ (ih h).1,(ih h).2⟩
  ·rename_i hb
   rcases List.mem_cons.1 h with e|h
   ·injection e with e1 e2
    subst e1 e2
    exact⟨mS_,λe=>by rw[e,Nat.beq_refl]at hb;cases hb⟩
   ·exact⟨mC_ _ (ih h).1,(ih h).2⟩
theorem Zah5 {tm tm':List AV}{kn:List (Nat×Bool)}{dst:Option Tmp}{x:AV}(h:KnOk tm kn)(hl:tm'.length=tm.length)(ht:tmF tm'=Zss (tmF tm) dst x):KnOk tm' (rmO kn dst):=by
 intro d b hd
 cases dst with
 | none =>
  obtain⟨h1,h2⟩:=h d b hd
  exact⟨by rw[hl];exact h1,by rw[ht];exact h2⟩
 | some q =>
  obtain⟨h0,hne⟩:=Zau3 hd
  obtain⟨h1,h2⟩:=h d b h0
  refine⟨by rw[hl];exact h1,?_⟩
  rw[ht]
  simp only[Zss,hne,if_false]
  exact h2
section
variable {C : Cx} {ops : Array Oper}
theorem Zavj {tm:List AV}{d:Nat}{x:AV}(h:d<tm.length):tmF (tm.set d x)=Zss (tmF tm) (some d) x:=by
 funext t
 show(tm.set d x).getD t .dead=if t=d then x else tm.getD t .dead
 rw[gD_,gD_]
 by_cases e:t=d
 ·subst e;simp[h]
 ·rw[List.getElem?_set_ne (λh=>e h.symm),if_neg e]
theorem Zaue {hp:List Ent}{i:Nat}{x:Ent}(h:i<hp.length):hpF (hp.set i x)=Zeo (hpF hp) i x:=by
 funext t
 show(hp.set i x).getD t _=if t=i then x else hp.getD t _
 rw[gD_,gD_]
 by_cases e:t=i
 ·subst e;simp[h]
 ·rw[List.getElem?_set_ne (λh=>e h.symm),if_neg e]
theorem Zai3 : ∀{ups:List (Nat×Ent)}{hp:List Ent}{k:List Ent->Prop},updK hp ups k->∃hp',hpF hp'=Zb5 (hpF hp) ups/\k hp'
 | [],hp,_,h=>⟨hp,rfl,h⟩
 | (i,e) :: r,hp,k,h=>by
  obtain⟨h1,h2⟩:=Zaim h
  obtain⟨hp',h3,h4⟩:=Zai3 (ups:=r) h2
  exact⟨hp',by rw[h3,Zaue h1];rfl,h4⟩
theorem Zti {tm:List AV}{hp:List Ent}{dst:Option Tmp}{x:AV}{ups:List (Nat×Ent)}{k:List AV->List Ent->Prop}(h:Zsw tm hp dst x ups k) :
  InB tm.length dst/\∃tm' hp',tm'.length=tm.length/\tmF tm'=Zss (tmF tm) dst x/\hpF hp'=Zb5 (hpF hp) ups/\k tm' hp':=by
 cases dst with
 | none =>
  obtain⟨hp',h1,h2⟩:=Zai3 h
  exact⟨trivial,tm,hp',rfl,rfl,h1,h2⟩
 | some d =>
  obtain⟨h0,h⟩:=Zaim h
  obtain⟨hp',h1,h2⟩:=Zai3 h
  exact⟨h0,tm.set d x,hp',by simp,Zavj h0,h1,h2⟩
theorem Zawf {tm tm':List AV}{kn:List (Nat×Bool)}{dst:Option Tmp}{z:Operand}(h:KnOk tm kn)(hin:InB tm.length dst)(hl:tm'.length=tm.length)(ht:tmF tm'=Zss (tmF tm) dst (evA (tmF tm) z)):KnOk tm' (knZ kn dst z):=by
 have hr:=Zah5 (x:=evA (tmF tm) z) h hl ht
 cases dst with
 | none=>exact hr
 | some d =>
  have hd:tmF tm' d=evA (tmF tm) z:=by rw[ht];simp[Zss]
  have hin':d<tm'.length:=by rw[hl];exact hin
  have more:∀b,evA (tmF tm) z=.c (.bool b)->KnOk tm' ((d,b) :: rmN kn d):=λb hb i q hi=>by
   rcases List.mem_cons.1 hi with e|hi
   ·injection e with e1 e2;subst e1 e2;exact⟨hin',by rw[hd,hb]⟩
   ·exact hr i q hi
  unfold knZ
  simp only
  split
  ·exact more _ rfl
  ·rename_i s
   cases hl:Zaf3 kn s with
   | none=>exact hr
   | some b=>exact more b (h _ _ (Zyv hl)).2
  ·exact hr
theorem Zab3 {α:Type}:∀(l:List α)(k:List α->Prop),Zdo l k↔k l
 | [],_=>Iff.rfl
 | x :: r,k=>Zab3 r (λq=>k (x :: q))
theorem Zaax {α:Type}:∀{l:List α}{n:Nat}{v:α}{k k':List α->Prop},setK l n v k->(∀q,k q->k' q)->setK l n v k'
 | [],_,_,_,_,h,_=>h
 | _ :: _,0,_,_,_,h,hk=>hk _ h
 | _ :: r,n+1,v,_,_,h,hk=>Zaax (l:=r) (n:=n) (v:=v) h (λ_ hq=>hk _ hq)
theorem Zaa4 : ∀{ups:List (Nat×Ent)}{hp:List Ent}{k k':List Ent->Prop},updK hp ups k->(∀q,k q->k' q)->updK hp ups k'
 | [],_,_,_,h,hk=>hk _ h
 | (_,_) :: r,_,_,_,h,hk=>Zaax h (λ_ hq=>Zaa4 (ups:=r) hq hk)
theorem Zams {tm:List AV}{hp:List Ent}{dst:Option Tmp}{x:AV}{ups:List (Nat×Ent)}{k k':List AV->List Ent->Prop}(h:Zsw tm hp dst x ups k)(hk:∀a b,k a b->k' a b):Zsw tm hp dst x ups k':=by
 cases dst with
 | none=>exact Zaa4 h (λ_ hq=>hk _ _ hq)
 | some d=>exact Zaax h (λ_ hq=>Zaa4 hq (λ_ hq=>hk _ _ hq))
theorem Zarl {o:Oper}{τ τ':Nat->AV}(h:∀t∈o.looksAt ops,τ' t=τ t):∀y∈o.op.operands,evA τ' y=evA τ y:=by
 intro y hy
 rcases y with t|v|g|f
 ·refine h t ?_
  unfold Oper.looksAt
  refine List.mem_append.2 (.inl (List.mem_filterMap.2 ⟨.tmp t,by simpa using hy,rfl⟩))
 ·rfl
 ·rfl
 ·rfl
theorem Zajy {n:Nat}{o:Oper}{j d:Nat}{want b:Bool}{τ:Nat->AV}{η:Nat->Ent}{w0:World}{X:XX}{m:MM}{a:Act}{w:World}(hr:Rep C n w0 X τ η m a w)(hg:o.guard=some (j,want))(hj:Zw1 ops j=some d)(hd:d<n)(hb:τ d=.c (.bool b)) :
  Region.wanted o (yielded ops a.tmps)=(b == want):=by
 have h1:=hr.tm d
 rw[hb]at h1
 have h2:=Zjp h1
 have hlt:d<a.tmps.size:=by rw[hr.sz];exact hd
 rw[aD_,aE_ hlt]at h2
 simp only[Option.getD_some]at h2
 unfold Zw1 at hj
 simp only[Region.wanted,hg,yielded,hj,Option.bind_some,aE_ hlt,h2]
 cases b <;> cases want <;> rfl
theorem Zuj {o:Oper}{j d:Nat}{want:Bool}(hg:o.guard=some (j,want))(hj:Zw1 ops j=some d):d∈o.looksAt ops:=by
 unfold Oper.looksAt
 refine List.mem_append.2 (.inr ?_)
 rw[hg]
 unfold Zw1 at hj
 simp[hj]
theorem Zap5 {n:Nat}{o:Oper}{τ:Nat->AV}{η:Nat->Ent}{f:Foot}(h:LF C n o τ η f)(hg:o.guard=none\/∃j d want,o.guard=some (j,want)/\Zw1 ops j=some d/\d<n/\τ d=.c (.bool want)):TS C n ops o τ η f:=by
 intro τ' η' h1 h2 w0 X m a w hr
 have hw:Region.wanted o (yielded ops a.tmps)=true:=by
  rcases hg with hg|⟨j,d,want,g1,g2,g3,g4⟩
  ·simp[Region.wanted,hg]
  ·rw[Zajy hr g1 g2 g3 (by rw[h1 d (Zuj g1 g2),g4])]
   simp
 unfold OpWp
 rw[if_pos hw]
 exact h τ' η' (Zarl h1) h2 w0 X m a w hr
theorem Zaq9 {n:Nat}{o:Oper}{j d:Nat}{want:Bool}{τ:Nat->AV}{η:Nat->Ent}{w0:World}{X:XX}{m:MM}{a:Act}{w:World}{us:Array Value}(hr:Rep C n w0 X τ η m a w)(hg:o.guard=some (j,want))(hj:Zw1 ops j=some d)(hd:d<n)(hb:τ d=.c (.tuple us)) :
  Region.wanted o (yielded ops a.tmps)=false:=by
 have h1:=hr.tm d
 rw[hb]at h1
 have h2:=Zjp h1
 have hlt:d<a.tmps.size:=by rw[hr.sz];exact hd
 rw[aD_,aE_ hlt]at h2
 simp only[Option.getD_some]at h2
 unfold Zw1 at hj
 simp only[Region.wanted,hg,yielded,hj,Option.bind_some,aE_ hlt,h2]
 rfl
theorem Zavk {n:Nat}{o:Oper}{τ:Nat->AV}{η:Nat->Ent}(hd:InB n o.dst){j d:Nat}{want:Bool}(g1:o.guard=some (j,want))(g2:Zw1 ops j=some d)(g3:d<n)(g4:τ d=.c (.bool (!want))\/∃us,τ d=.c (.tuple us)):TS C n ops o τ η ⟨.c (.tuple #[]),[],[]⟩:=by
 intro τ' η' h1 h2 w0 X m a w hr
 have hw:Region.wanted o (yielded ops a.tmps)=false:=by
  rcases g4 with g4|⟨us,g4⟩
  ·rw[Zajy hr g1 g2 g3 (by rw[h1 d (Zuj g1 g2),g4])]
   cases want <;> rfl
  ·exact Zaq9 hr g1 g2 g3 (by rw[h1 d (Zuj g1 g2),g4])
 unfold OpWp
 rw[if_neg (by rw[hw];simp)]
 exact⟨m,hr.put hd (.c _)⟩
theorem Zaoi {kn:List (Nat×Bool)}{tm:List AV}{g:Option (Nat×Bool)}{run skip:List (Nat×Bool)->Prop}(hkn:KnOk tm kn)(h:Zasy ops kn tm g run skip) :
  (g=none/\run kn)\/∃(j:Nat) (want:Bool) (d:Nat) (kn':List (Nat×Bool)),g=some (j,want)/\Zw1 ops j=some d/\d<tm.length/\KnOk tm kn'/\((tmF tm d=.c (.bool want)/\run kn')\/((tmF tm d=.c (.bool (!want))\/∃us,tmF tm d=.c (.tuple us))/\skip kn')):=by
 have more:∀(d:Nat) (b:Bool),d<tm.length->tmF tm d=.c (.bool b)->KnOk tm ((d,b) :: kn):=λd b h1 h2 i q hi=>by
  rcases List.mem_cons.1 hi with e|hi
  ·injection e with e1 e2;subst e1 e2;exact⟨h1,h2⟩
  ·exact hkn i q hi
 cases g with
 | none=>exact .inl ⟨rfl,h⟩
 | some p =>
  obtain⟨j,want⟩:=p
  obtain⟨d,hd,h⟩:=Zng h
  refine .inr ?_
  cases hl:Zaf3 kn d with
  | some b =>
   obtain⟨q1,q2⟩:=hkn _ _ (Zyv hl)
   rw[hl]at h
   refine⟨j,want,d,kn,rfl,hd,q1,hkn,?_⟩
   cases b <;> cases want
   ·exact .inl ⟨q2,h⟩
   ·exact .inr ⟨.inl q2,h⟩
   ·exact .inr ⟨.inl q2,h⟩
   ·exact .inl ⟨q2,h⟩
  | none =>
   rw[hl]at h
   have aux:∀(q:AV->Prop),getK tm d q->∃av,d<tm.length/\tmF tm d=av/\q av:=λq hq=>by
    obtain⟨av,hav,hq⟩:=Zkn hq
    refine⟨av,(gS_.1 hav).1,?_,hq⟩
    show tm.getD d .dead=av
    rw[gD_,hav]
    rfl
   cases want
   ·obtain⟨av,h1,h2,h⟩:=aux _ h
    split at h
    ·rename_i b
     obtain⟨g1,g2⟩:=h trivial
     cases b
     ·exact⟨j,false,d,_,rfl,hd,h1,more d false h1 h2,.inl ⟨h2,g1 rfl⟩⟩
     ·exact⟨j,false,d,_,rfl,hd,h1,more d true h1 h2,.inr ⟨.inl h2,g2 rfl⟩⟩
    ·exact⟨j,false,d,kn,rfl,hd,h1,hkn,.inr ⟨.inr ⟨_,h2⟩,h⟩⟩
    ·exact h.elim
   ·obtain⟨av,h1,h2,h⟩:=aux _ h
    split at h
    ·rename_i b
     obtain⟨g1,g2⟩:=h trivial
     cases b
     ·exact⟨j,true,d,_,rfl,hd,h1,more d false h1 h2,.inr ⟨.inl h2,g2 rfl⟩⟩
     ·exact⟨j,true,d,_,rfl,hd,h1,more d true h1 h2,.inl ⟨h2,g1 rfl⟩⟩
    ·exact⟨j,true,d,kn,rfl,hd,h1,hkn,.inr ⟨.inr ⟨_,h2⟩,h⟩⟩
    ·exact h.elim
theorem Zak7 : ∀(os:List Oper)(kn:List (Nat×Bool))(tm:List AV)(hp:List Ent)(fs:List Foot)(ps:List Prop)(K:List Foot->List AV->List Ent->Prop),KnOk tm kn->vcT C ops os kn tm hp fs ps K ->
  ∃fs' tm' hp',Tr C tm.length ops os (tmF tm) (hpF hp) fs' (tmF tm') (hpF hp')/\AllP ps/\K (fs.reverse++fs') tm' hp'/\tm'.length=tm.length
 | [],_,tm,hp,fs,ps,K,_,h=>by
  obtain⟨h1,h2⟩:=Zand (h trivial)
  exact⟨[],tm,hp,⟨rfl,rfl⟩,h1,by simpa using h2,rfl⟩
 | o :: os,kn0,tm,hp,fs,ps,K,hkn0,h=>by
  have fin:∀(f:Foot) (q:Prop),(q->TS C tm.length ops o (tmF tm) (hpF hp) f)->∀(kn1:List (Nat×Bool)) (tm1:List AV) (hp1:List Ent) (ps':List Prop),KnOk tm1 kn1->tm1.length=tm.length->tmF tm1=Zss (tmF tm) o.dst f.x->hpF hp1=Zb5 (hpF hp) f.ups->(AllP ps'->q/\AllP ps)->vcT C ops os kn1 tm1 hp1 (f :: fs) ps' K ->
    ∃fs' tm' hp',Tr C tm.length ops (o :: os) (tmF tm) (hpF hp) fs' (tmF tm') (hpF hp')/\AllP ps/\K (fs.reverse++fs') tm' hp'/\tm'.length=tm.length:=by
   intro f q hts kn1 tm1 hp1 ps' hkn1 e1 e2 e3 e4 hv
   obtain⟨fs',tm',hp',t1,t2,t3,t4⟩:=Zak7 os kn1 tm1 hp1 (f :: fs) ps' K hkn1 hv
   obtain⟨hq,hps⟩:=e4 t2
   rw[e1]at t1
   rw[e2,e3]at t1
   exact⟨f :: fs',tm',hp',⟨hts hq,t1⟩,hps,by simpa using t3,by rw[t4,e1]⟩
  have run1:∀(kn:List (Nat×Bool)),KnOk tm kn->(o.guard=none\/∃j d want,o.guard=some (j,want)/\Zw1 ops j=some d/\d<tm.length/\tmF tm d=.c (.bool want)) ->
    opK C tm hp o (True->∃f:Foot,LF C tm.length o (tmF tm) (hpF hp) f/\Zsw tm hp o.dst f.x f.ups (λtm' hp'=>Zdo (rmO kn o.dst) (λkn'=>vcT C ops os kn' tm' hp' (f :: fs) ps K)))
     (λx ups rb qs=>Zsw tm hp o.dst x ups (λtm' hp'=>Zdo (ps++qs) (λps'=>Zdo (rmO kn o.dst) (λkn'=>vcT C ops os kn' tm' hp' (⟨x,ups,rb⟩ :: fs) ps' K)))) ->
    ∃fs' tm' hp',Tr C tm.length ops (o :: os) (tmF tm) (hpF hp) fs' (tmF tm') (hpF hp')/\AllP ps/\K (fs.reverse++fs') tm' hp'/\tm'.length=tm.length:=by
   intro kn hkn hg hop
   have hany:∀n,(InB tm.length o.dst->n=tm.length)->(True->∃f:Foot,LF C tm.length o (tmF tm) (hpF hp) f/\Zsw tm hp o.dst f.x f.ups (λtm' hp'=>Zdo (rmO kn o.dst) (λkn'=>vcT C ops os kn' tm' hp' (f :: fs) ps K))) ->
     Goal C n tm hp o (λx ups rb qs=>Zsw tm hp o.dst x ups (λtm' hp'=>Zdo (ps++qs) (λps'=>Zdo (rmO kn o.dst) (λkn'=>vcT C ops os kn' tm' hp' (⟨x,ups,rb⟩ :: fs) ps' K)))):=by
    intro n hn hany
    obtain⟨f,hf,hst⟩:=hany trivial
    have hin:=(Zti hst).1
    refine⟨f.x,f.ups,f.rb,[],Zams hst (λtm' hp' hv=>(Zab3 _ _).2 ?_),λ_=>?_⟩
    ·rw[List.append_nil];exact hv
    ·rw[hn hin];exact hf
   by_cases hd:InB tm.length o.dst
   ·obtain⟨x,ups,rb,qs,hk,hlf⟩:=Zas2 (n:=tm.length) (Nat.le_refl _) hd (hany _ (λ_=>rfl)) hop
    obtain⟨_,tm1,hp1,e1,e2,e3,hv⟩:=Zti hk
    exact fin ⟨x,ups,rb⟩ (AllP qs) (λhq=>Zap5 (hlf hq) hg) (rmO kn o.dst) tm1 hp1 (ps++qs) (Zah5 hkn e1 e2) e1 e2 e3 (λh=>(Zh3.1 h).symm) (Zcl (Zcl hv))
   ·exfalso
    cases hdd:o.dst with
    | none=>rw[hdd]at hd;exact hd trivial
    | some d =>
     obtain⟨x,ups,rb,qs,hk,_⟩:=Zas2 (n:=tm.length+d+1) (by omega) (by rw[hdd];exact Nat.lt_succ_of_le (Nat.le_add_left _ _)) (hany _ (λhin=>absurd hin hd)) hop
     exact hd (Zti hk).1
  have run:∀(kn:List (Nat×Bool)),KnOk tm kn->(o.guard=none\/∃j d want,o.guard=some (j,want)/\Zw1 ops j=some d/\d<tm.length/\tmF tm d=.c (.bool want)) ->
    Zau2 kn tm o
     (opK C tm hp o (True->∃f:Foot,LF C tm.length o (tmF tm) (hpF hp) f/\Zsw tm hp o.dst f.x f.ups (λtm' hp'=>Zdo (rmO kn o.dst) (λkn'=>vcT C ops os kn' tm' hp' (f :: fs) ps K)))
      (λx ups rb qs=>Zsw tm hp o.dst x ups (λtm' hp'=>Zdo (ps++qs) (λps'=>Zdo (rmO kn o.dst) (λkn'=>vcT C ops os kn' tm' hp' (⟨x,ups,rb⟩ :: fs) ps' K)))))
     (λz x=>Zsw tm hp o.dst x [] (λtm' hp'=>Zdo (knZ kn o.dst z) (λkn'=>vcT C ops os kn' tm' hp' (⟨x,[],[]⟩ :: fs) ps K))) ->
    ∃fs' tm' hp',Tr C tm.length ops (o :: os) (tmF tm) (hpF hp) fs' (tmF tm') (hpF hp')/\AllP ps/\K (fs.reverse++fs') tm' hp'/\tm'.length=tm.length:=by
   intro kn hkn hg hpk
   have direct:∀z:Operand,(InB tm.length o.dst->LF C tm.length o (tmF tm) (hpF hp) ⟨evA (tmF tm) z,[],[]⟩)->Zsw tm hp o.dst (evA (tmF tm) z) [] (λtm' hp'=>Zdo (knZ kn o.dst z) (λkn'=>vcT C ops os kn' tm' hp' (⟨evA (tmF tm) z,[],[]⟩ :: fs) ps K)) ->
     ∃fs' tm' hp',Tr C tm.length ops (o :: os) (tmF tm) (hpF hp) fs' (tmF tm') (hpF hp')/\AllP ps/\K (fs.reverse++fs') tm' hp'/\tm'.length=tm.length:=by
    intro z hlf hst
    obtain⟨hin,tm1,hp1,e1,e2,e3,hv⟩:=Zti hst
    exact fin ⟨evA (tmF tm) z,[],[]⟩ True (λ_=>Zap5 (hlf hin) hg) (knZ kn o.dst z) tm1 hp1 ps (Zawf hkn hin e1 e2) e1 e2 e3 (λh=>⟨trivial,h⟩) (Zcl hv)
   unfold Zau2 at hpk
   split at hpk
   ·rename_i x ho
    exact direct x (λhin=>Zbq hin (λτ' η' g1 _=>by rw[<-g1 x (by simp[ho,Op.operands])];exact Zakk (.inl ho))) (by have hq:=Zfn hpk;exact hq)
   ·rename_i x ho
    exact direct x (λhin=>Zbq hin (λτ' η' g1 _=>by rw[<-g1 x (by simp[ho,Op.operands])];exact Zakk (.inr ho))) (by have hq:=Zfn hpk;exact hq)
   ·rename_i c x y ho
    split at hpk
    ·rename_i hl
     have hc:=(hkn _ _ (Zyv hl)).2
     refine direct x (λhin=>Zbq hin (λτ' η' g1 _=>?_)) (by have hq:=Zfn hpk;exact hq)
     have:=Zakl (C:=C) (n:=tm.length) (τ:=τ') (η:=η') (b:=true) ho (by rw[g1 (.tmp c) (by simp[ho,Op.operands])];exact hc)
     rw[<-g1 x (by simp[ho,Op.operands])]
     simpa using this
    ·rename_i hl
     have hc:=(hkn _ _ (Zyv hl)).2
     refine direct y (λhin=>Zbq hin (λτ' η' g1 _=>?_)) (by have hq:=Zfn hpk;exact hq)
     have:=Zakl (C:=C) (n:=tm.length) (τ:=τ') (η:=η') (b:=false) ho (by rw[g1 (.tmp c) (by simp[ho,Op.operands])];exact hc)
     rw[<-g1 y (by simp[ho,Op.operands])]
     simpa using this
    ·exact run1 kn hkn hg hpk
   ·exact run1 kn hkn hg hpk
  have skip:∀(kn:List (Nat×Bool)),KnOk tm kn->∀(j d:Nat) (want:Bool),o.guard=some (j,want)->Zw1 ops j=some d->d<tm.length->(tmF tm d=.c (.bool (!want))\/∃us,tmF tm d=.c (.tuple us)) ->
    Zsw tm hp o.dst (.c (.tuple #[])) [] (λtm' hp'=>Zdo (rmO kn o.dst) (λkn'=>vcT C ops os kn' tm' hp' (⟨.c (.tuple #[]),[],[]⟩ :: fs) ps K)) ->
    ∃fs' tm' hp',Tr C tm.length ops (o :: os) (tmF tm) (hpF hp) fs' (tmF tm') (hpF hp')/\AllP ps/\K (fs.reverse++fs') tm' hp'/\tm'.length=tm.length:=by
   intro kn hkn j d want hg hd hlt htd hst
   obtain⟨hin,tm1,hp1,e1,e2,e3,hv⟩:=Zti hst
   exact fin ⟨.c (.tuple #[]),[],[]⟩ True (λ_=>Zavk hin hg hd hlt htd) (rmO kn o.dst) tm1 hp1 ps (Zah5 hkn e1 e2) e1 e2 e3 (λh=>⟨trivial,h⟩) (Zcl hv)
  rw[vcT]at h
  rcases Zaoi hkn0 h with⟨hg,h⟩|⟨j,want,d,kn,hg,hd,hlt,hkn,⟨htd,h⟩|⟨htd,h⟩⟩
  ·exact run kn0 hkn0 (.inl hg) h
  ·exact run kn hkn (.inr ⟨j,d,want,hg,hd,hlt,htd⟩) h
  ·exact skip kn hkn j d want hg hd hlt htd h
end
end Go.Proofs.YtpfnmpdcneejbaaGreatDoor.Am
