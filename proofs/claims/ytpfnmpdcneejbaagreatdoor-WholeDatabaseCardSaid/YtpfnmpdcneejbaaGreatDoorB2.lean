/- Texts of the proof, part 2 of 8. -/
import Derived.Test.YtpfnmpdcneejbaaGreatDoorB1
import Derived.Deep.LoopGhost
import Derived.Test.YtpfnmpdcneejbaaGreatDoorChecked
import Derived.WalkKit
import Derived.Laws.StructEq
import Derived.Laws.IdiomStrings
import Derived.Lib.Strings
import Derived.Laws.Cover3
import Derived.Shelf.SlSortCmp.WholeK
import Derived.Shelf.SlSortCmp.Whole1
import Derived.Ground.SlsfProg
import Derived.Shelf.Strings.Builder1
import Derived.Shelf.Small.Bits
import Derived.Shelf.Small.Wraps
import Derived.Shelf.Strings.BuilderF
import Derived.Shelf.Strings.BuilderK
import Derived.Shelf.Strconv.Itoa0
import Derived.Shelf.Strconv.Itoa1
import Derived.Shelf.LaysM
import Derived.Shelf.Strconv.Itoa2
import Derived.Shelf.Strconv.Itoa3
import Derived.Shelf.Sort.Plain
import Derived.Ground.Names2Prog
import Derived.Shelf.Slices.Clone
import Derived.Shelf.Slices.SearchI
import Derived.Shelf.Slices.In.SortNone
import Derived.Test.YtpfnmpdcneejbaaGreatDoorProg
import Derived.Deep.RegionHeld3
import Derived.Shelf.SlSortCmp.NoneTotal
import Derived.Lib.AppendZerosOnto
import Derived.Lib.Overlaps
import Derived.Laws.Externs
import Derived.Lib.SmallJoins
import Derived.Lib.ItoaNum
set_option linter.unusedVariables false
set_option linter.unusedSectionVars false
set_option linter.unusedSimpArgs false
open List renaming getElem?_eq_getElem→gE_, length_map→lM_, length_append→lA_, mem_cons_of_mem→mC_, length_cons→lC_, mem_cons_self→mS_, mem_of_getElem?→mG_, getElem?_eq_some_iff→gS_, getD_eq_getElem?_getD→gD_, mem_singleton→mI_, take_of_length_le→tL_
open Option.some renaming inj→sI_
open Bool renaming and_eq_true→bA_
open Array renaming getD_eq_getD_getElem?→aD_, getElem?_eq_getElem→aE_
namespace Go.Proofs.YtpfnmpdcneejbaaGreatDoor.Am
open Go.RowKit
def mwk (η η':Nat->Ent)(m:MM):MM:=⟨λi=>match(η i).blk,(η' i).blk with|some _,some _=>m i|_,_=>none,m.O⟩
def WV (N:Nat)(η η':Nat->Ent)(x x':AV):Prop:=∀w m v,Mem N w η m->RV w (shp η) m x v->RV w (shp η') (mwk η η' m) x' v
section
variable {N : Nat} {η η' : Nat -> Ent}
theorem Zom {m:MM}{i b:Nat}(h:mwk η η' m i=some b):(η i).blk≠none/\(η' i).blk≠none/\m i=some b:=by
 have h':(match(η i).blk,(η' i).blk with|some _,some _=>m i|_,_=>none)=some b:=h
 split at h'
 ·rename_i h1 h2
  exact⟨by rw[h1];simp,by rw[h2];simp,h'⟩
 ·cases h'
theorem Zq4 {m:MM}{i:Nat}{e e':Ent}{B B':Blk}(h1:η i=e)(h2:η' i=e')(hB:e.blk=some B)(hB':e'.blk=some B'):mwk η η' m i=m i:=by
 show(match(η i).blk,(η' i).blk with|some _,some _=>m i|_,_=>none)=m i
 rw[h1,h2,hB,hB']
theorem Zakc {m:MM}{i:Nat}(h:(η i).blk=none):mwk η η' m i=none:=by
 show(match(η i).blk,(η' i).blk with|some _,some _=>m i|_,_=>none)=none
 rw[h]
theorem Zyy {m:MM}{b:Nat}(h:Zdf (shp η') (mwk η η' m) b):Zdf (shp η) m b:=by
 rcases h with h|⟨i,_,h2⟩
 ·exact .inl h
 ·obtain⟨h3,_,h5⟩:=Zom h2
  exact .inr ⟨i,Zau.2 h3,h5⟩
theorem Zxi {w:World}{vs vs':Shp}{m m':MM}{x:AV}(hx:Fr x)(ho:∀b,Zdf vs' m' b->Zdf vs m b):∀{v:Value},RV w vs m x v->RV w vs' m' x v:=by
 induction hx with
 | c u=>intro v h;rw[Zjp h];exact .c u
 | sl hl ih =>
  intro v h
  obtain⟨A,cap,b,off,f,rfl,hA,hc,hm,hlen,hcell,hr,hfr⟩:=Zxj h
  refine .sl (b:=b) (off:=off) (f:=f) (λhne=>?_) hc hm hlen hcell (λk j e y h1 h2=>ih e (mG_ h1) y (mG_ h2) (hr k j e y h1 h2)) hfr
  obtain⟨a1,a2,a3⟩:=hA hne
  exact⟨a1,λh=>a2 (ho _ h),a3⟩
 | pim hl ih =>
  intro v h
  obtain⟨b,off,f,rfl,hno,hlt,hcell,hr⟩:=Zacg h
  exact .pim (λh=>hno (ho _ h)) hlt hcell (λj y h1=>ih y (mG_ h1) (hr j y h1))
 | agg hl ih =>
  intro v h
  obtain⟨us,rfl,hlen,hr⟩:=Zt1 h
  exact .agg hlen (λj y u h1 h2=>ih y (mG_ h1) (hr j y u h1 h2))
 | tup hl ih =>
  intro v h
  obtain⟨us,rfl,hlen,hr⟩:=Zagm h
  exact .tup hlen (λj y u h1 h2=>ih y (mG_ h1) (hr j y u h1 h2))
 | clo h1 h2 i1 i2 =>
  intro v h
  cases h with
  | clo a1 a2 a3 a4=>exact .clo a1 (λj y u q1 q2=>i1 y (mG_ q1) (a2 j y u q1 q2)) a3 (λj y u q1 q2=>i2 y (mG_ q1) (a4 j y u q1 q2))
 | ifc h1 ih =>
  intro v h
  cases h with
  | ifc a1=>exact .ifc (ih a1)
theorem Zaqc (x:AV):WV N η η' x .dead:=λ_ _ v _ _=>.dead v
theorem Zaqd {x:AV}(h:Fr x):WV N η η' x x:=λ_ _ _ _ hv=>Zxi h (λ_=>Zyy) hv
theorem Zayp {sz:Nat}{l:List (List AV)}:WV N η η' (.sl sz l) (.sl sz l):=λ_ _ _ _ hv=>by
 have:=hv
 obtain⟨_,_,_,_,_,_,_,_,_,_,_,_,hfr⟩:=Zxj this
 exact Zxi (.sl hfr) (λ_=>Zyy) hv
theorem Zati {i ver ver' k len:Nat}{B B':Blk}(h1:η i=⟨ver,some B⟩)(h2:η' i=⟨ver',some B'⟩)(hs:B.sz=B'.sz):WV N η η' (.own i ver k len) (.own i ver' k len):=by
 intro w m v hm hv
 have hs':(shp η') i=(ver',some B.sz):=by simp[shp,h2,hs]
 have hk:=Zq4 (m:=m) h1 h2 rfl rfl
 rcases Zor hv h1 with⟨rfl,rfl,e,rfl⟩|⟨k',A,rfl,rfl,rfl⟩|⟨b,cap,ty,nn,e1,e2,e3,e4,e5,rfl⟩
 ·exact .ownN hs' (by rw[hk,e])
 ·exact .ownZ hs'
 ·exact .own hs' (by rw[hk,e1]) e2 e3 e4 e5
theorem Zayo {i ver ver' k j:Nat}{B B':Blk}(h1:η i=⟨ver,some B⟩)(h2:η' i=⟨ver',some B'⟩)(hs:B.sz=B'.sz):WV N η η' (.ptr i ver k j) (.ptr i ver' k j):=by
 intro w m v hm hv
 obtain⟨b,e1,rfl⟩:=Zos hv h1
 exact .ptr (by simp[shp,h2,hs]) (by rw[Zq4 (m:=m) h1 h2 rfl rfl,e1])
theorem Zavo {i ver ver' k j:Nat}{B B':Blk}(h1:η i=⟨ver,some B⟩)(h2:η' i=⟨ver',some B'⟩)(hs:B.sz=B'.sz):WV N η η' (.ptrO i ver k j) (.ptrO i ver' k j):=by
 intro w m v hm hv
 rcases Zail hv h1 with rfl|⟨b,e1,rfl⟩
 ·exact .ptrON (sz:=B'.sz) (by simp[shp,h2])
 ·exact .ptrO (by simp[shp,h2,hs]) (by rw[Zq4 (m:=m) h1 h2 rfl rfl,e1])
theorem Za0p {i ver ver' k j:Nat}{B B':Blk}(h1:η i=⟨ver,some B⟩)(h2:η' i=⟨ver',some B'⟩)(hs:B.sz=B'.sz):WV N η η' (.ptr i ver k j) (.ptrO i ver' k j):=by
 intro w m v hm hv
 obtain⟨b,e1,rfl⟩:=Zos hv h1
 exact .ptrO (by simp[shp,h2,hs]) (by rw[Zq4 (m:=m) h1 h2 rfl rfl,e1])
theorem Za0n {i ver ver':Nat}{B B':Blk}(h1:η i=⟨ver,some B⟩)(h2:η' i=⟨ver',some B'⟩):WV N η η' (.mp i ver) (.mp i ver'):=by
 intro w m v hm hv
 obtain⟨b,e1,rfl⟩:=Zaw1 hv h1
 exact .mp (sz:=B'.sz) (by simp[shp,h2]) (by rw[Zq4 (m:=m) h1 h2 rfl rfl,e1])
theorem Za0o {i ver' k j:Nat}{B':Blk}(h2:η' i=⟨ver',some B'⟩):WV N η η' (.c (.pointer none)) (.ptrO i ver' k j):=by
 intro w m v hm hv
 rw[Zjp hv]
 exact .ptrON (sz:=B'.sz) (by simp[shp,h2])
theorem Zavp {i ver' cc:Nat}{B':Blk}(h1:(η i).blk=none)(h2:η' i=⟨ver',some B'⟩)(hc:cc=0):WV N η η' (.c (.slice none 0 cc)) (.own i ver' 0 0):=by
 intro w m v hm hv
 subst hc
 rw[Zjp hv]
 exact .ownN (sz:=B'.sz) (by simp[shp,h2]) (Zakc h1)
theorem Zayn {sz cc:Nat}:WV N η η' (.c (.slice none 0 cc)) (.sl sz []):=by
 intro w m v hm hv
 rw[Zjp hv]
 exact RV.sl (l:=[]) (b:=0) (off:=0) (f:=λ_ _=>undef) (λh=>absurd rfl h) (Nat.zero_le _) (by simp) (λk e h=>by simp at h) (λk j e x h=>by simp at h) (λk j e x h=>by simp at h) (λe he=>by cases he)
theorem Zath {cs cs':List AV}(hl:cs.length=cs'.length)(h:∀(j:Nat)(x x':AV),cs[j]?=some x->cs'[j]?=some x'->WV N η η' x x'):WV N η η' (.agg cs) (.agg cs'):=by
 intro w m v hm hv
 obtain⟨us,rfl,hlen,hr⟩:=Zt1 hv
 refine .agg (by omega) (λj x' u h1 h2=>?_)
 have hlt:j<cs.length:=by rw[hl];exact(gS_.1 h1).1
 exact h j _ x' (gE_ hlt) h1 w m u hm (hr j _ u (gE_ hlt) h2)
theorem Zau4 {w:World}{vs:Shp}{m:MM}{t:TypeId}{x:AV}{v:Value}(h:RV w vs m (.ifc t x) v):∃u,v=.iface t u/\RV w vs m x u:=by
 cases h with
 | ifc h=>exact⟨_,rfl,h⟩
theorem Zaym {t:TypeId}{x x':AV}(h:WV N η η' x x'):WV N η η' (.ifc t x) (.ifc t x'):=by
 intro w m v hm hv
 obtain⟨u,rfl,hu⟩:=Zau4 hv
 exact .ifc (h w m u hm hu)
theorem Zacf {w:World}{vs:Shp}{m:MM}{f:Fn}{cs ds:List AV}{v:Value}(h:RV w vs m (.clo f cs ds) v):∃us us':Array Value,v=.func f us us'/\cs.length=us.size/\(∀(j:Nat)(x:AV)(u:Value),cs[j]?=some x->us[j]?=some u->RV w vs m x u)/\ds.length=us'.size/\(∀(j:Nat)(x:AV)(u:Value),ds[j]?=some x->us'[j]?=some u->RV w vs m x u):=by
 cases h with
 | clo h1 h2 h3 h4=>exact⟨_,_,rfl,h1,h2,h3,h4⟩
theorem Zayl {f:Fn}{cs cs' ds ds':List AV}(hl:cs.length=cs'.length)(h:∀(j:Nat)(x x':AV),cs[j]?=some x->cs'[j]?=some x'->WV N η η' x x')(hl2:ds.length=ds'.length)(h2:∀(j:Nat)(x x':AV),ds[j]?=some x->ds'[j]?=some x'->WV N η η' x x'):WV N η η' (.clo f cs ds) (.clo f cs' ds'):=by
 intro w m v hm hv
 obtain⟨us,us',rfl,l1,r1,l2,r2⟩:=Zacf hv
 refine .clo (by omega) (λj x' u h3 h4=>?_) (by omega) (λj x' u h3 h4=>?_)
 ·have hlt:j<cs.length:=by rw[hl];exact(gS_.1 h3).1
  exact h j _ x' (gE_ hlt) h3 w m u hm (r1 j _ u (gE_ hlt) h4)
 ·have hlt:j<ds.length:=by rw[hl2];exact(gS_.1 h3).1
  exact h2 j _ x' (gE_ hlt) h3 w m u hm (r2 j _ u (gE_ hlt) h4)
theorem Zavm {i ver k len:Nat}{B:Blk}{els':List (List AV)}(h1:η i=⟨ver,some B⟩)(h2:(η' i).blk=none)(hl:els'.length=B.els.length)(hw:∀(k:Nat)(e e':List AV),B.els[k]?=some e->els'[k]?=some e'->e'.length=e.length/\∀(j:Nat)(x x':AV),e[j]?=some x->e'[j]?=some x'->WV N η η' x x')
  (hkl:k+len<=els'.length) (hfr:FrL els') (hmax:len<=140737488355328):WV N η η' (.own i ver k len) (.sl B.sz ((els'.drop k).take len)):=by
 intro w m v hm hv
 have hll:((els'.drop k).take len).length=len:=by simp;omega
 have hfr':FrL ((els'.drop k).take len):=λe he=>hfr e (List.mem_of_mem_drop (List.mem_of_mem_take he))
 have nil:∀A,RV w (shp η') (mwk η η' m) (.sl B.sz ([]:List (List AV))) (.slice A 0 0):=λA =>
  RV.sl (l:=[]) (b:=0) (off:=0) (f:=λ_ _=>undef) (λh=>absurd rfl h) (Nat.le_refl _) (by simp) (λk e h=>by simp at h) (λk j e x h=>by simp at h) (λk j e x h=>by simp at h) (λe he=>by cases he)
 rcases Zor hv h1 with⟨rfl,rfl,e,rfl⟩|⟨k',A,rfl,rfl,rfl⟩|⟨b,cap,ty,nn,e1,e2,e3,e4,e5,rfl⟩
 ·simpa using nil none
 ·simpa using nil A
 ·have hok:=hm.ok i B (by rw[h1])
  rw[e1]at hok
  obtain⟨arr,a1,a2,a3⟩:=hok.unmap e4
  have hlive:(η i).blk≠none:=by rw[h1];simp
  have hget:∀q e,((els'.drop k).take len)[q]?=some e->els'[k+q]?=some e:=λq e he=>by
   rw[List.getElem?_take]at he
   split at he
   ·rw[List.getElem?_drop]at he;exact he
   ·cases he
  have hold:∀(q:Nat) (e':List AV),els'[q]?=some e'->∃e:List AV,B.els[q]?=some e/\e'.length=e.length/\∀(j:Nat) (x x':AV),e[j]?=some x->e'[j]?=some x'->WV N η η' x x':=λq e' he'=>by
   have hlt:q<B.els.length:=by rw[<-hl];exact(gS_.1 he').1
   exact⟨_,gE_ hlt,hw q _ e' (gE_ hlt) he'⟩
  have hcell:∀(q j:Nat) (e':List AV) (x':AV),((els'.drop k).take len)[q]?=some e'->e'[j]?=some x'->∃u,arr.getD ((k+q)*B.sz+j) undef=u/\arr[(k+q)*B.sz+j]?=some u/\u.oneCell'=true/\RV w (shp η') (mwk η η' m) x' u:=λq j e' x' he hj=>by
   obtain⟨e,q1,q2,q3⟩:=hold _ e' (hget q e' he)
   have hlt:j<e.length:=by rw[<-q2];exact(gS_.1 hj).1
   obtain⟨u,u1,u2,u3⟩:=(a3 _ e q1).2 j _ (gE_ hlt)
   exact⟨u,by simp[aD_,u1],u1,u2,q3 j _ x' (gE_ hlt) hj w m u hm u3⟩
  have:=RV.sl (w:=w) (vs:=shp η') (m:=mwk η η' m) (sz:=B.sz) (l:=(els'.drop k).take len) (A:=some ⟨b,k*B.sz,none⟩) (cap:=cap) (b:=b) (off:=k*B.sz) (f:=λq j=>arr.getD ((k+q)*B.sz+j) undef)
   (λ_=>⟨rfl,?_,lt_of_block a1⟩) (by omega) (by omega) (λq e' he=>?_) (λq j e x he hj=>?_) (λq j e x he hj=>?_) hfr'
  ·rw[hll]at this
   exact this
  ·rintro(h|⟨i',h3,h4⟩)
   ·exact hm.sep i b hlive e1 h
   ·obtain⟨h5,h6,h7⟩:=Zom h4
    have:=hm.inj i' i b h5 hlive h7 e1
    subst this
    exact h6 h2
  ·obtain⟨e,q1,q2,_⟩:=hold _ e' (hget q e' he)
   rw[q2]
   exact(a3 _ e q1).1
  ·obtain⟨u,q1,q2,q3,_⟩:=hcell q j e x he hj
   refine⟨?_,by rw[q1];exact q3⟩
   rw[q1,show k*B.sz+(q*B.sz+j)=(k+q)*B.sz+j from by rw[Nat.add_mul];omega]
   simp[World.cell?,a1,q2]
  ·obtain⟨u,q1,_,_,q4⟩:=hcell q j e x he hj
   rw[q1]
   exact q4
theorem Zavn {i ver k j:Nat}{B:Blk}{e e':List AV}(hM:isM B.box B.ty=false)(h1:η i=⟨ver,some B⟩)(h2:(η' i).blk=none)(he:B.els[k]?=some e)(hl:e'.length=e.length)(hw:∀(j:Nat)(x x':AV),e[j]?=some x->e'[j]?=some x'->WV N η η' x x'):WV N η η' (.ptr i ver k j) (.pim e' j):=by
 intro w m v hm hv
 obtain⟨b,e1,rfl⟩:=Zos hv h1
 have hok:=hm.ok i B (by rw[h1])
 rw[e1]at hok
 obtain⟨arr,a1,a2,a3⟩:=hok.cellsF hM
 have hlive:(η i).blk≠none:=by rw[h1];simp
 have hcell:∀(q:Nat) (x':AV),e'[q]?=some x'->∃u,arr.getD (k*B.sz+q) undef=u/\arr[k*B.sz+q]?=some u/\RV w (shp η') (mwk η η' m) x' u:=λq x' hq=>by
  have hlt:q<e.length:=by rw[<-hl];exact(gS_.1 hq).1
  obtain⟨u,u1,_,u3⟩:=(a3 _ e he).2 q _ (gE_ hlt)
  exact⟨u,by simp[aD_,u1],u1,hw q _ x' (gE_ hlt) hq w m u hm u3⟩
 refine .pim (b:=b) (off:=k*B.sz) (f:=λq=>arr.getD (k*B.sz+q) undef) ?_ (lt_of_block a1) (λq x hq=>?_) (λq x hq=>?_)
 ·rintro(h|⟨i',h3,h4⟩)
  ·exact hm.sep i b hlive e1 h
  ·obtain⟨h5,h6,h7⟩:=Zom h4
   have:=hm.inj i' i b h5 hlive h7 e1
   subst this
   exact h6 h2
 ·obtain⟨u,q1,q2,_⟩:=hcell q x hq
  rw[q1]
  simp[World.cell?,a1,q2]
 ·obtain⟨u,q1,_,q3⟩:=hcell q x hq
  rw[q1]
  exact q3
inductive BW (η η':Nat->Ent):AV->AV->Prop
 | fr {x:AV}:Fr x->BW η η' x x
 | sl {sz:Nat} {l:List (List AV)}:BW η η' (.sl sz l) (.sl sz l)
 | nil {sz cc:Nat}:BW η η' (.c (.slice none 0 cc)) (.sl sz [])
 | own {i ver k len sz:Nat} {B:Blk} {els' l:List (List AV)}:η i=⟨ver,some B⟩->(η' i).blk=none->B.sz=sz->els'.length=B.els.length ->
   (∀(k:Nat) (e e':List AV),B.els[k]?=some e->els'[k]?=some e'->e'.length=e.length)->(∀(k:Nat) (e e':List AV),B.els[k]?=some e->els'[k]?=some e'->∀(j:Nat) (x x':AV),e[j]?=some x->e'[j]?=some x'->BW η η' x x') ->
   k+len<=els'.length->FrL els'->len<=140737488355328->l=(els'.drop k).take len->BW η η' (.own i ver k len) (.sl sz l)
 | ptr {i ver k j:Nat} {B:Blk} {e e':List AV}:isM B.box B.ty=false->η i=⟨ver,some B⟩->(η' i).blk=none->B.els[k]?=some e->e'.length=e.length->(∀(j:Nat) (x x':AV),e[j]?=some x->e'[j]?=some x'->BW η η' x x')->BW η η' (.ptr i ver k j) (.pim e' j)
 | agg {cs cs':List AV}:cs.length=cs'.length->(∀(j:Nat) (x x':AV),cs[j]?=some x->cs'[j]?=some x'->BW η η' x x')->BW η η' (.agg cs) (.agg cs')
 | clo {f:Fn} {cs cs' ds ds':List AV}:cs.length=cs'.length->(∀(j:Nat) (x x':AV),cs[j]?=some x->cs'[j]?=some x'->BW η η' x x')->ds.length=ds'.length->(∀(j:Nat) (x x':AV),ds[j]?=some x->ds'[j]?=some x'->BW η η' x x')->BW η η' (.clo f cs ds) (.clo f cs' ds')
theorem BW.wv {x x':AV}(h:BW η η' x x'):WV N η η' x x':=by
 induction h with
 | fr h=>exact Zaqd h
 | sl=>exact Zayp
 | nil=>intro w m v hm hv;rw[Zjp hv];exact RV.sl (l:=[]) (b:=0) (off:=0) (f:=λ_ _=>undef) (λh=>absurd rfl h) (Nat.zero_le _) (by simp) (λk e h=>by simp at h) (λk j e x h=>by simp at h) (λk j e x h=>by simp at h) (λe he=>by cases he)
 | own h1 h2 hs hl hl2 _ hkl hfr hmax he ih=>subst hs he;exact Zavm h1 h2 hl (λk e e' q1 q2=>⟨hl2 k e e' q1 q2,ih k e e' q1 q2⟩) hkl hfr hmax
 | ptr hM h1 h2 he hl _ ih=>exact Zavn hM h1 h2 he hl ih
 | agg hl _ ih=>exact Zath hl ih
 | clo hl _ hl2 _ ih ih2=>exact Zayl hl ih hl2 ih2
inductive RowK (η η':Nat->Ent):List (List AV)->List (List AV)->Prop
 | same {els els':List (List AV)}:els=els'->FrL els->RowK η η' els els'
 | part {els els':List (List AV)}:els'.length=els.length->(∀(k:Nat) (e e':List AV),els[k]?=some e->els'[k]?=some e'->e'.length=e.length/\∀(j:Nat) (x x':AV),e[j]?=some x->e'[j]?=some x'->BW η η' x x')->RowK η η' els els'
 | wv {els els':List (List AV)}:els'.length=els.length->(∀(k:Nat) (e e':List AV),els[k]?=some e->els'[k]?=some e'->e'.length=e.length/\∀(j:Nat) (x x':AV),e[j]?=some x->e'[j]?=some x'->∀N,WV N η η' x x')->RowK η η' els els'
def WE (N:Nat)(η η':Nat->Ent)(i:Nat):Prop :=
 ∀B',(η' i).blk=some B'->(∃B,(η i).blk=some B/\B'.ty=B.ty/\B'.sz=B.sz/\B'.box=B.box/\B'.els.length=B.els.length/\∀(k:Nat) (e e':List AV),B.els[k]?=some e->B'.els[k]?=some e'->e'.length=e.length/\∀(j:Nat) (x x':AV),e[j]?=some x->e'[j]?=some x'->WV N η η' x x') \/
  ((η i).blk=none/\B'.els=[]/\B'.box=false)
theorem Zaww {C:Cx}{n:Nat}{w0:World}{X:XX}{τ τ':Nat->AV}{η η':Nat->Ent}{m:MM}{a:Act}{w:World}(h:Rep C n w0 X τ η m a w)(ht:∀t,WV C.N η η' (τ t) (τ' t))(he:∀i,WE C.N η η' i)(hkp:∀i,X.ks i->n<=i->(η i).blk≠none->(η' i).blk≠none):Rep C n w0 X τ' η' (mwk η η' m) a w:=by
 refine⟨λt=>ht t w m _ h.mem (h.tm t),h.sz,h.df,⟨λi B' hB'=>?_,λi i' b h1 h2 h3 h4=>?_,λi b h1 h2=>?_,λi b h1 h2=>?_,h.mem.olt,h.mem.big⟩,h.kin,h.oo,λi b h1 h2=>?_,h.gl,λi hi=>?_⟩
 ·rcases he i B' hB' with⟨B,hB,e1,e2,e0,e3,e4⟩|⟨e1,e2,e3⟩
  ·have hk:=Zq4 (m:=m) (i:=i) rfl rfl hB hB'
   rw[hk]
   have hok:=h.mem.ok i B hB
   cases hmi:m i with
   | none =>
    rw[hmi]at hok
    have:B.els=[]:=hok.1
    have hl:B'.els=[]:=List.length_eq_zero_iff.1 (by rw[e3,this];rfl)
    exact⟨hl,by rw[e0];exact hok.2⟩
   | some b =>
    rw[hmi]at hok
    obtain⟨arr,a1,a2,a3⟩:=hok
    refine⟨arr,a1.congr e0 e1 e3 e2,by rw[e3,e2];exact a2,λk e' he'=>?_⟩
    have hlt:k<B.els.length:=by rw[<-e3];exact(gS_.1 he').1
    have hge:=gE_ hlt
    obtain⟨l1,l2⟩:=e4 k _ e' hge he'
    obtain⟨q1,q2⟩:=a3 k _ hge
    refine⟨by rw[l1,q1,e2],λj x' hx'=>?_⟩
    have hj:j<(B.els[k]).length:=by rw[<-l1];exact(gS_.1 hx').1
    have hgj:=gE_ hj
    obtain⟨u,u1,u2,u3⟩:=q2 j _ hgj
    exact⟨u,by rw[e2];exact u1,by rw[e0,e1];exact u2,l2 j _ x' hgj hx' w m u h.mem u3⟩
  ·rw[Zakc e1]
   exact⟨e2,e3⟩
 ·obtain⟨a1,_,a3⟩:=Zom h3
  obtain⟨b1,_,b3⟩:=Zom h4
  exact h.mem.inj i i' b a1 b1 a3 b3
 ·obtain⟨a1,_,a3⟩:=Zom h2
  exact h.mem.low i b a1 a3
 ·obtain⟨a1,_,a3⟩:=Zom h2
  exact h.mem.sep i b a1 a3
 ·obtain⟨a1,_,a3⟩:=Zom h2
  exact h.own i b a1 a3
 ·obtain⟨k1,k2,k3,k4⟩:=h.kk i hi
  have k5:=hkp i hi k1 k2
  have hm:mwk η η' m i=m i:=by
   cases hB:(η i).blk with
   | none=>exact absurd hB k2
   | some B =>
    cases hB':(η' i).blk with
    | none=>exact absurd hB' k5
    | some B'=>exact Zq4 rfl rfl hB hB'
  exact⟨k1,k5,by rw[hm,k3],λb hb=>k4 b (by rw[<-hm];exact hb)⟩
end
structure St where
 tm:List AV
 hp:List Ent
def wkV0 (hp hp':List Ent)(x x':AV)(K:Prop):Prop :=
 match x' with
 | .dead=>K
 | .own i' ver' k' len'=>match x with
  | .own i ver k len=>ifK (i.beq i') (Zxs hp i ver (λB=>Zxs hp' i' ver' (λB'=>ifK (B.sz.beq B'.sz) ((k=k'/\len=len')/\K))))
  | .c (.slice none 0 0)=>getK hp i' (λe=>match e.blk with
   | none=>Zxs hp' i' ver' (λ_=>(k'=0/\len'=0)/\K)
   | some _=>False)
  | _=>False
 | .ptr i' ver' k' j'=>match x with
  | .ptr i ver k j=>ifK (i.beq i') (Zxs hp i ver (λB=>Zxs hp' i' ver' (λB'=>ifK (B.sz.beq B'.sz) ((k=k'/\j=j')/\K))))
  | _=>False
 | .ptrO i' ver' k' j'=>match x with
  | .ptrO i ver k j=>ifK (i.beq i') (Zxs hp i ver (λB=>Zxs hp' i' ver' (λB'=>ifK (B.sz.beq B'.sz) ((k=k'/\j=j')/\K))))
  | .ptr i ver k j=>ifK (i.beq i') (Zxs hp i ver (λB=>Zxs hp' i' ver' (λB'=>ifK (B.sz.beq B'.sz) ((k=k'/\j=j')/\K))))
  | .c (.pointer none)=>Zxs hp' i' ver' (λ_=>K)
  | _=>False
 | .mp i' ver'=>match x with
  | .mp i ver=>ifK (i.beq i') (Zxs hp i ver (λB=>Zxs hp' i' ver' (λB'=>ifK (B.sz.beq B'.sz) K)))
  | _=>False
 | .sl sz' l'=>match x with
  | .own i ver k len=>BW (hpF hp) (hpF hp') (.own i ver k len) (.sl sz' l')/\K
  | .sl sz l=>(sz=sz'/\l=l')/\K
  | .c (.slice none 0 0)=>(l'=[])/\K
  | _=>False
 | .c v'=>(x=.c v')/\K
 | x'=>BW (hpF hp) (hpF hp') x x'/\K
def wkT0 (hp hp':List Ent):List AV->List AV->Prop->Prop
 | [],[],K=>K
 | x :: r,x' :: r',K=>wkV0 hp hp' x x' (wkT0 hp hp' r r' K)
 | _,_,_=>False
def wkV (hp hp':List Ent)(x x':AV)(K:Prop):Prop :=
 match x' with
 | .agg cs'=>match x with
  | .agg cs=>wkT0 hp hp' cs cs' K
  | _=>False
 | .ifc t' y'=>match x with
  | .ifc t y=>ifK (Nat.beq t t') (wkV0 hp hp' y y' K)
  | _=>False
 | x'=>wkV0 hp hp' x x' K
def wkT (hp hp':List Ent):List AV->List AV->Prop->Prop
 | [],[],K=>K
 | x :: r,x' :: r',K=>wkV hp hp' x x' (wkT hp hp' r r' K)
 | _,_,_=>False
def wkE (hp hp':List Ent)(e e':Ent)(K:Prop):Prop :=
 match e'.blk with
 | none=>K
 | some B'=>match e.blk with
  | none=>ifK (!B'.box) ((B'.els=[])/\K)
  | some B=>ifK (B.ty.beq B'.ty&&B.sz.beq B'.sz) (match isM B.box B.ty,B.box,B'.box,B.els,B'.els with
   | false,true,true,[c],[c']=>wkT hp hp' c c' K
   | false,false,false,els,els'=>RowK (hpF hp) (hpF hp') els els'/\K
   | true,true,true,els,els'=>RowK (hpF hp) (hpF hp') els els'/\K
   | _,_,_,_,_=>False)
def wkH (hp hp':List Ent):List Ent->List Ent->Prop->Prop
 | _,[],K=>K
 | e :: r,e' :: r',K=>wkE hp hp' e e' (wkH hp hp' r r' K)
 | _,_,_=>False
def Zah3 : List Ent->List Ent->Bool
 | [],_=>true
 | ⟨_,none⟩ :: r,[]=>Zah3 r []
 | ⟨_,some _⟩ :: _,[]=>false
 | ⟨_,none⟩ :: r,_ :: r'=>Zah3 r r'
 | ⟨_,some _⟩ :: r,⟨_,some _⟩ :: r'=>Zah3 r r'
 | ⟨_,some _⟩ :: _,⟨_,none⟩ :: _=>false
def Zalw {α:Type}:Nat->List α->List α
 | 0,l=>l
 | _+1,[]=>[]
 | n+1,_ :: r=>Zalw n r
def leK (s s':St)(K:Prop):Prop:=ifK (Zah3 (Zalw s.tm.length s.hp) (Zalw s.tm.length s'.hp)) (wkT s.hp s'.hp s.tm s'.tm (wkH s.hp s'.hp s.hp s'.hp K))
theorem Zafe {l:List Ent}:∀{n:Nat}{i:Nat},hpF (Zalw n l) i=hpF l (n+i):=by
 intro n
 induction n generalizing l with
 | zero=>intro i;rw[Nat.zero_add];rfl
 | succ n ih =>
  intro i
  cases l with
  | nil=>simp[Zalw]
  | cons e r=>rw[Zalw,ih,show n+1+i=(n+i)+1 from by omega];simp
theorem Zyu : ∀{l l':List Ent},Zah3 l l'=true->∀i,(hpF l i).blk≠none->(hpF l' i).blk≠none
 | [],_,_,i,h=>by simp at h
 | ⟨_,none⟩ :: r,[],h,i,hi=>by
  cases i with
  | zero=>simp at hi
  | succ i=>have:=Zyu (l:=r) (l':=[]) h i (by simpa using hi);simp at this
 | ⟨_,some _⟩ :: _,[],h,_,_=>by simp[Zah3]at h
 | ⟨_,none⟩ :: r,_ :: r',h,i,hi=>by
  cases i with
  | zero=>simp at hi
  | succ i=>have:=Zyu (l:=r) (l':=r') h i (by simpa using hi);simpa using this
 | ⟨_,some _⟩ :: r,⟨_,some _⟩ :: r',h,i,hi=>by
  cases i with
  | zero=>simp
  | succ i=>have:=Zyu (l:=r) (l':=r') h i (by simpa using hi);simpa using this
 | ⟨_,some _⟩ :: _,⟨_,none⟩ :: _,h,_,_=>by simp[Zah3]at h
section
variable {N : Nat}
theorem Zai4 {hp hp':List Ent}{x x':AV}{K:Prop}(h:wkV0 hp hp' x x' K):WV N (hpF hp) (hpF hp') x x'/\K:=by
 unfold wkV0 at h
 split at h
 ·exact⟨Zaqc _,h⟩
 ·split at h
  ·obtain⟨h1,h⟩:=Zeh h
   obtain⟨B,hB,h⟩:=Zgh h
   obtain⟨B',hB',h⟩:=Zgh h
   obtain⟨h2,⟨rfl,rfl⟩,hK⟩:=Zeh h
   have:=Nat.eq_of_beq_eq_true h1
   subst this
   exact⟨Zati hB hB' (Nat.eq_of_beq_eq_true h2),hK⟩
  ·obtain⟨e,he,h⟩:=Zkn h
   split at h
   ·rename_i hn
    obtain⟨B',hB',⟨rfl,rfl⟩,hK⟩:=Zgh h
    exact⟨Zavp (by rw[Zaft he];exact hn) hB' rfl,hK⟩
   ·exact h.elim
  ·exact h.elim
 ·split at h
  ·obtain⟨h1,h⟩:=Zeh h
   obtain⟨B,hB,h⟩:=Zgh h
   obtain⟨B',hB',h⟩:=Zgh h
   obtain⟨h2,⟨rfl,rfl⟩,hK⟩:=Zeh h
   have:=Nat.eq_of_beq_eq_true h1
   subst this
   exact⟨Zayo hB hB' (Nat.eq_of_beq_eq_true h2),hK⟩
  ·exact h.elim
 ·split at h
  ·obtain⟨h1,h⟩:=Zeh h
   obtain⟨B,hB,h⟩:=Zgh h
   obtain⟨B',hB',h⟩:=Zgh h
   obtain⟨h2,⟨rfl,rfl⟩,hK⟩:=Zeh h
   have:=Nat.eq_of_beq_eq_true h1
   subst this
   exact⟨Zavo hB hB' (Nat.eq_of_beq_eq_true h2),hK⟩
  ·obtain⟨h1,h⟩:=Zeh h
   obtain⟨B,hB,h⟩:=Zgh h
   obtain⟨B',hB',h⟩:=Zgh h
   obtain⟨h2,⟨rfl,rfl⟩,hK⟩:=Zeh h
   have:=Nat.eq_of_beq_eq_true h1
   subst this
   exact⟨Za0p hB hB' (Nat.eq_of_beq_eq_true h2),hK⟩
  ·obtain⟨B',hB',hK⟩:=Zgh h
   exact⟨Za0o hB',hK⟩
  ·exact h.elim
 ·split at h
  ·obtain⟨h1,h⟩:=Zeh h
   obtain⟨B,hB,h⟩:=Zgh h
   obtain⟨B',hB',h⟩:=Zgh h
   obtain⟨h2,hK⟩:=Zeh h
   have:=Nat.eq_of_beq_eq_true h1
   subst this
   exact⟨Za0n hB hB',hK⟩
  ·exact h.elim
 ·split at h
  ·exact⟨h.1.wv,h.2⟩
  ·obtain⟨⟨rfl,rfl⟩,h⟩:=h
   exact⟨Zayp,h⟩
  ·obtain⟨rfl,h⟩:=h
   exact⟨Zayn,h⟩
  ·exact h.elim
 ·obtain⟨rfl,h⟩:=h
  exact⟨Zaqd (.c _),h⟩
 ·exact⟨h.1.wv,h.2⟩
theorem Zaqa {hp hp':List Ent}:∀{l l':List AV}{K:Prop},wkT0 hp hp' l l' K->l.length=l'.length/\(∀(j:Nat)(x x':AV),l[j]?=some x->l'[j]?=some x'->WV N (hpF hp) (hpF hp') x x')/\K
 | [],[],K,h=>⟨rfl,λj x x' hx=>by simp at hx,h⟩
 | x :: r,x' :: r',K,h=>by
  obtain⟨h1,h2⟩:=Zai4 (N:=N) h
  obtain⟨h3,h4,h5⟩:=Zaqa (l:=r) (l':=r') h2
  refine⟨by simp[h3],λj y y' hy hy'=>?_,h5⟩
  cases j with
  | zero=>simp at hy hy';subst hy hy';exact h1
  | succ j=>exact h4 j y y' (by simpa using hy) (by simpa using hy')
 | [],_ :: _,_,h=>h.elim
 | _ :: _,[],_,h=>h.elim
theorem Zayk {hp hp':List Ent}{x x':AV}{K:Prop}(h:wkV hp hp' x x' K):WV N (hpF hp) (hpF hp') x x'/\K:=by
 unfold wkV at h
 split at h
 ·split at h
  ·obtain⟨h1,h2,h3⟩:=Zaqa (N:=N) h
   exact⟨Zath h1 h2,h3⟩
  ·exact h.elim
 ·split at h
  ·obtain⟨h1,g⟩:=Zeh h
   obtain⟨h2,h3⟩:=Zai4 (N:=N) g
   have e:=Nat.eq_of_beq_eq_true h1
   subst e
   exact⟨Zaym h2,h3⟩
  ·exact h.elim
 ·exact Zai4 h
theorem Zak9 {hp hp':List Ent}:∀{l l':List AV}{K:Prop},wkT hp hp' l l' K->l.length=l'.length/\(∀(j:Nat)(x x':AV),l[j]?=some x->l'[j]?=some x'->WV N (hpF hp) (hpF hp') x x')/\K
 | [],[],K,h=>⟨rfl,λj x x' hx=>by simp at hx,h⟩
 | x :: r,x' :: r',K,h=>by
  obtain⟨h1,h2⟩:=Zayk (N:=N) h
  obtain⟨h3,h4,h5⟩:=Zak9 (l:=r) (l':=r') h2
  refine⟨by simp[h3],λj y y' hy hy'=>?_,h5⟩
  cases j with
  | zero=>simp at hy hy';subst hy hy';exact h1
  | succ j=>exact h4 j y y' (by simpa using hy) (by simpa using hy')
 | [],_ :: _,_,h=>h.elim
 | _ :: _,[],_,h=>h.elim
theorem Zayj {hp hp':List Ent}{i:Nat}{e e':Ent}{K:Prop}(he:hpF hp i=e)(he':hpF hp' i=e')(h:wkE hp hp' e e' K):WE N (hpF hp) (hpF hp') i/\K:=by
 unfold wkE at h
 split at h
 ·rename_i hn
  exact⟨λB' hB'=>(by rw[he',hn]at hB';cases hB'),h⟩
 ·rename_i B' hB'
  split at h
  ·rename_i hn
   obtain⟨h1,h2,h⟩:=Zeh h
   refine⟨λB'' hB''=>.inr ⟨by rw[he,hn],?_,?_⟩,h⟩
   ·rw[he',hB']at hB'';injection hB'' with hB'';rw[<-hB''];exact h2
   ·rw[he',hB']at hB'';injection hB'' with hB'';rw[<-hB''];simpa using h1
  ·rename_i B hB
   obtain⟨h1,hh⟩:=Zeh h
   clear h
   rw[bA_]at h1
   have e1:=Nat.eq_of_beq_eq_true h1.1
   have e2:=Nat.eq_of_beq_eq_true h1.2
   clear h1
   obtain⟨ty,sz,box,els⟩:=B
   obtain⟨ty',sz',box',els'⟩:=B'
   simp only at e1 e2
   subst e1 e2
   split at hh
   ·rename_i c c' _ b1 b2 l1 l2
    simp only at b1 b2 l1 l2
    subst b1 b2 l1 l2
    obtain⟨h3,h4,h5⟩:=Zak9 (N:=N) hh
    refine⟨λB'' hB''=>.inl ⟨_,by rw[he,hB],?_⟩,h5⟩
    rw[he',hB']at hB''
    injection hB'' with hB''
    subst hB''
    refine⟨rfl,rfl,rfl,rfl,λk q q' hq hq'=>?_⟩
    cases k with
    | zero=>simp at hq hq';subst hq hq';exact⟨h3.symm,h4⟩
    | succ k=>simp at hq
   ·rename_i els1 els2 _ b1 b2
    simp only at b1 b2
    obtain⟨h34,h5⟩:=hh
    subst b1 b2
    refine⟨λB'' hB''=>.inl ⟨_,by rw[he,hB],?_⟩,h5⟩
    rw[he',hB']at hB''
    injection hB'' with hB''
    subst hB''
    cases h34 with
    | same h3 h4 =>
     simp only at h3 h4
     subst h3
     refine⟨rfl,rfl,rfl,rfl,λk q q' hq hq'=>?_⟩
     simp only at hq hq'
     rw[hq]at hq'
     injection hq' with hq'
     subst hq'
     refine⟨rfl,λj x x' hx hx'=>?_⟩
     rw[hx]at hx'
     injection hx' with hx'
     subst hx'
     exact Zaqd (h4 q (mG_ hq) x (mG_ hx))
    | part h3 h4 =>
     exact⟨rfl,rfl,rfl,h3,λk q q' hq hq'=>⟨(h4 k q q' hq hq').1,λj x x' hx hx'=>((h4 k q q' hq hq').2 j x x' hx hx').wv⟩⟩
    | wv h3 h4 =>
     exact⟨rfl,rfl,rfl,h3,λk q q' hq hq'=>⟨(h4 k q q' hq hq').1,λj x x' hx hx'=>(h4 k q q' hq hq').2 j x x' hx hx' _⟩⟩
   ·rename_i els1 els2 _ b1 b2
    simp only at b1 b2
    obtain⟨h34,h5⟩:=hh
    subst b1 b2
    refine⟨λB'' hB''=>.inl ⟨_,by rw[he,hB],?_⟩,h5⟩
    rw[he',hB']at hB''
    injection hB'' with hB''
    subst hB''
    cases h34 with
    | same h3 h4 =>
     simp only at h3 h4
     subst h3
     refine⟨rfl,rfl,rfl,rfl,λk q q' hq hq'=>?_⟩
     simp only at hq hq'
     rw[hq]at hq'
     injection hq' with hq'
     subst hq'
     refine⟨rfl,λj x x' hx hx'=>?_⟩
     rw[hx]at hx'
     injection hx' with hx'
     subst hx'
     exact Zaqd (h4 q (mG_ hq) x (mG_ hx))
    | part h3 h4 =>
     exact⟨rfl,rfl,rfl,h3,λk q q' hq hq'=>⟨(h4 k q q' hq hq').1,λj x x' hx hx'=>((h4 k q q' hq hq').2 j x x' hx hx').wv⟩⟩
    | wv h3 h4 =>
     exact⟨rfl,rfl,rfl,h3,λk q q' hq hq'=>⟨(h4 k q q' hq hq').1,λj x x' hx hx'=>(h4 k q q' hq hq').2 j x x' hx hx' _⟩⟩
   ·exact hh.elim
theorem Zatg {hp hp':List Ent}:∀(l l':List Ent)(i0:Nat){K:Prop},(∀i,hpF hp (i0+i)=l.getD i ⟨0,none⟩)->(∀i,hpF hp' (i0+i)=l'.getD i ⟨0,none⟩)->wkH hp hp' l l' K->(∀i,i0<=i->WE N (hpF hp) (hpF hp') i)/\K
 | l,[],i0,K,h1,h2,h=>by
  have h':K:=by cases l <;> exact h
  refine⟨λi hi B' hB'=>?_,h'⟩
  have:=h2 (i-i0)
  rw[show i0+(i-i0)=i from by omega]at this
  rw[this]at hB'
  simp at hB'
 | e :: r,e' :: r',i0,K,h1,h2,h=>by
  have q1:hpF hp i0=e:=by simpa using h1 0
  have q2:hpF hp' i0=e':=by simpa using h2 0
  obtain⟨h3,h4⟩:=Zayj (N:=N) q1 q2 h
  obtain⟨h5,h6⟩:=Zatg r r' (i0+1) (λi=>by have:=h1 (i+1);rw[show i0+1+i=i0+(i+1)from by omega];simpa using this) (λi=>by have:=h2 (i+1);rw[show i0+1+i=i0+(i+1)from by omega];simpa using this) h4
  refine⟨λi hi=>?_,h6⟩
  rcases Nat.eq_or_lt_of_le hi with h|h
  ·subst h;exact h3
  ·exact h5 i h
 | [],_ :: _,_,_,_,_,h=>h.elim
end
def Zzn (C:Cx)(w0:World)(X:XX)(s:St)(m:MM)(a:Act)(w:World):Prop:=Rep C s.tm.length w0 X (tmF s.tm) (hpF s.hp) m a w
theorem Zx1 {C:Cx}{s s':St}{K:Prop}(h:leK s s' K):s'.tm.length=s.tm.length/\K/\∀w0 X m a w,Zzn C w0 X s m a w->∃m',Zzn C w0 X s' m' a w:=by
 obtain⟨hkeep,h⟩:=Zeh h
 obtain⟨h1,h2,h3⟩:=Zak9 (N:=C.N) h
 obtain⟨h4,h5⟩:=Zatg (N:=C.N) s.hp s'.hp 0 (λi=>by rw[Nat.zero_add]) (λi=>by rw[Nat.zero_add]) h3
 refine⟨h1.symm,h5,λw0 X m a w hr=>⟨mwk (hpF s.hp) (hpF s'.hp) m,?_⟩⟩
 unfold Zzn at hr ⊢
 rw[<-h1]
 refine Zaww hr (λt=>?_) (λi=>h4 i (Nat.zero_le _)) (λi _ hi hl=>?_)
 ·show WV C.N _ _ (s.tm.getD t .dead) (s'.tm.getD t .dead)
  rcases Nat.lt_or_ge t s.tm.length with hlt|hge
  ·have a1:=gE_ hlt
   have a2:=gE_ (show t<s'.tm.length from by omega)
   have:=h2 t _ _ a1 a2
   simpa [gD_,a1,a2] using this
  ·rw[show s'.tm.getD t .dead=.dead from by rw[gD_,List.getElem?_eq_none (by omega)];rfl]
   exact Zaqc _
 ·have:=Zyu hkeep (i-s.tm.length) (by rw[Zafe,show s.tm.length+(i-s.tm.length)=i from by omega];exact hl)
  rw[Zafe,show s.tm.length+(i-s.tm.length)=i from by omega]at this
  exact this
def AWP (C:Cx)(c:Code)(Q:Exit->St->Prop)(s:St):Prop :=
 ∀w0 X m a w,Zzn C w0 X s m a w->c.wp C.P (λe a' w'=>∃s' m',s'.tm.length=s.tm.length/\Q e s'/\Zzn C w0 X s' m' a' w') a w
def Zai1 (next:St->Prop)(Q:Exit->St->Prop):Exit->St->Prop
 | .normal,s=>next s
 | e,s=>Q e s
def ifB : Bool->Prop->Prop->Prop
 | true,p,_=>p
 | false,_,q=>q
def Zavv (id:Nat)(Q:Exit->St->Prop):Exit->St->Prop
 | .exit j,s=>ifB (j.beq id) (Q .normal s) (Q (.exit j) s)
 | e,s=>Q e s
section
variable {C : Cx} {Q : Exit -> St -> Prop} {s : St}
theorem Zaqq {c:Code}{Q':Exit->St->Prop}(h:AWP C c Q s)(hq:∀e s,Q e s->Q' e s):AWP C c Q' s :=
 λw0 X m a w hr=>wp_mono (h w0 X m a w hr) (λ_ _ _ ⟨s',m',h1,h2,h3⟩=>⟨s',m',h1,hq _ _ h2,h3⟩)
theorem Zask {c:Code}{s':St}(hl:leK s s' True)(h:AWP C c Q s'):AWP C c Q s:=by
 obtain⟨h1,_,h2⟩:=Zx1 (C:=C) hl
 intro w0 X m a w hr
 obtain⟨m',hr'⟩:=h2 w0 X m a w hr
 exact wp_mono (h w0 X m' a w hr') (λ_ _ _ ⟨s2,m2,g1,g2,g3⟩=>⟨s2,m2,by rw[g1,h1],g2,g3⟩)
theorem aSk (h:Q .normal s):AWP C .skip Q s:=λ_ _ m _ _ hr=>wp_skip ⟨s,m,rfl,h,hr⟩
theorem aEx {id:Nat}(h:Q (.exit id) s):AWP C (.exit id) Q s:=λ_ _ m _ _ hr=>wp_exit ⟨s,m,rfl,h,hr⟩
theorem aRt (h:Q .ret s):AWP C .ret Q s:=λ_ _ m _ _ hr=>wp_ret ⟨s,m,rfl,h,hr⟩
theorem aSq {x y:Code}(h:AWP C x (Zai1 (AWP C y Q) Q) s):AWP C (.seq x y) Q s:=by
 intro w0 X m a w hr
 refine wp_seq (wp_mono (h w0 X m a w hr) ?_)
 rintro e a' w' ⟨s',m',h1,h2,h3⟩
 cases e with
 | normal=>exact wp_mono (h2 w0 X m' a' w' h3) (λ_ _ _ ⟨s2,m2,g1,g2,g3⟩=>⟨s2,m2,by rw[g1,h1],g2,g3⟩)
 | _=>exact⟨s',m',h1,h2,h3⟩
theorem aBk {id:Nat}{c:Code}(h:AWP C c (Zavv id Q) s):AWP C (.block id c) Q s:=by
 intro w0 X m a w hr
 refine wp_block (wp_mono (h w0 X m a w hr) ?_)
 rintro e a' w' ⟨s',m',h1,h2,h3⟩
 cases e with
 | exit j =>
  simp only[Exit.inBlock]
  have h2':ifB (j.beq id) (Q .normal s') (Q (.exit j) s'):=h2
  split
  ·rename_i hj
   rw[show j.beq id=true from by rw[hj];exact Nat.beq_refl id]at h2'
   exact⟨s',m',h1,h2',h3⟩
  ·rename_i hj
   have:j.beq id=false:=by
    cases hb:j.beq id
    ·rfl
    ·exact absurd (Nat.eq_of_beq_eq_true hb) hj
   rw[this]at h2'
   exact⟨s',m',h1,h2',h3⟩
 | _=>exact⟨s',m',h1,h2,h3⟩
theorem aCd {c:Operand}{x y:Code}{tm:List AV}{hp:List Ent}(h:evK tm c (λa=>match a with
  | .c (.bool t)=>True->(t=true->AWP C x Q ⟨tm,hp⟩)/\(t=false->AWP C y Q ⟨tm,hp⟩)
  | _=>False)):AWP C (.cond c x y) Q ⟨tm,hp⟩:=by
 intro w0 X m a w hr
 have h:=Zfn h
 split at h
 ·rename_i t e
  have hv:=Rep.ev hr c
  rw[e]at hv
  obtain⟨h1,h2⟩:=h trivial
  exact wp_cond_split (Zjp hv) (λht=>h1 ht w0 X m a w hr) (λht=>h2 ht w0 X m a w hr)
 ·exact h.elim
theorem aRg {id:Nat}{ops:Array Oper}{draw:Bool}{tm:List AV}{hp:List Ent}(h:vcT C ops ops.toList [] tm hp [] [] (λfs tm hp=>(draw=true->Zw5 ops fs=true/\Zsf ops.toList 0=true)/\Q .normal ⟨tm,hp⟩)):AWP C (.region id ops draw) Q ⟨tm,hp⟩:=by
 intro w0 X m a w hr
 obtain⟨fs,tm',hp',h1,_,⟨h3,h4⟩,h5⟩:=Zak7 _ _ _ _ _ _ _ (λd b hd=>by cases hd) h
 refine Zyb h1 (λhd=>⟨C.mixed,by simpa using (h3 hd).1,(h3 hd).2⟩) hr (λm' a' w' hr'=>⟨⟨tm',hp'⟩,m',h5,h4,?_⟩)
 unfold Zzn
 rw[h5]
 exact hr'
def mkT : Nat->Nat->List (Nat×AV)->List AV
 | _,0,_=>[]
 | i,n+1,(j,a) :: r=>match j.beq i with
  | true=>a :: mkT (i+1) n r
  | false=>.dead :: mkT (i+1) n ((j,a) :: r)
 | i,n+1,[]=>.dead :: mkT (i+1) n []
def mkH : Nat->Nat->List (Nat×Blk)->List Ent
 | _,0,_=>[]
 | i,n+1,(j,a) :: r=>match j.beq i with
  | true=>⟨0,some a⟩ :: mkH (i+1) n r
  | false=>⟨0,none⟩ :: mkH (i+1) n ((j,a) :: r)
 | i,n+1,[]=>⟨0,none⟩ :: mkH (i+1) n []
def mkS (n:Nat)(t:List (Nat×AV))(h:List (Nat×Blk)):St:=⟨mkT 0 n t,mkH 0 n h⟩
theorem aSR {id:Nat}{ops:Array Oper}{draw:Bool}{tm:List AV}{hp:List Ent}{y:Code}(h:vcT C ops ops.toList [] tm hp [] [] (λfs tm hp=>(draw=true->Zw5 ops fs=true/\Zsf ops.toList 0=true)/\Zai1 (AWP C y Q) Q .normal ⟨tm,hp⟩)):AWP C (.seq (.region id ops draw) y) Q ⟨tm,hp⟩:=aSq (aRg h)
theorem Zaj {α:Type}{c:Code}(I:α->St)(R:α->Prop)(μ:α->Nat)(x0:α)(hR:R x0)(h0:leK s (I x0) True)
  (round:∀x,R x->Zdo (I x).tm (λtm=>Zdo (I x).hp (λhp=>True->AWP C c (Zai1 (λs'=>∃x',R x'/\μ x'<μ x/\leK s' (I x') True) Q) ⟨tm,hp⟩))):AWP C (.loop c) Q s:=by
 intro w0 X m a w hr
 obtain⟨g1,_,g2⟩:=Zx1 (C:=C) h0
 obtain⟨m0,hr0⟩:=g2 w0 X m a w hr
 refine wp_loop_ghost (λn a w=>∃x m,R x/\μ x=n/\(I x).tm.length=s.tm.length/\Zzn C w0 X (I x) m a w) (μ x0) ⟨x0,m0,hR,rfl,g1,hr0⟩ ?_
 rintro n a w ⟨x,m,hRx,rfl,hl,hx⟩
 refine wp_mono (Zcl (Zcl (round x hRx)) trivial w0 X m a w hx) ?_
 rintro e a' w' ⟨s',m',h1,h2,h3⟩
 cases e with
 | normal =>
  obtain⟨x',hR',hlt,hle⟩:=h2
  obtain⟨k1,_,k2⟩:=Zx1 (C:=C) hle
  obtain⟨m2,h4⟩:=k2 w0 X m' a' w' h3
  exact⟨μ x',hlt,x',m2,hR',rfl,by rw[k1,h1];exact hl,h4⟩
 | _=>exact⟨s',m',by rw[h1];exact hl,h2,h3⟩
end
def nov : Shp:=λ_=>(0,none)
abbrev xx0 (O:Nat->Prop):XX:=⟨λ_=>False,O,λ_=>False,λ_=>none⟩
def mO (O:Nat->Prop):MM:=⟨λ_=>none,O⟩
theorem Zhu {O:Nat->Prop}{b:Nat}:Zdf nov (mO O) b↔O b:=by
 constructor
 ·rintro(h|⟨i,h,_⟩)
  ·exact h
  ·exact absurd rfl h
 ·exact .inl
def ACall (C:Cx)(f:FuncId)(args:List AV)(r:AV):Prop :=
 (∀(vs:Array Value) (w:World),(callFunc f vs).run C.P w=.ok (.enter f vs) w) /\
 ∀(w:World) (O:Nat->Prop) (cargs:Array Value),C.Gl w->C.N<=w.heap.size->(∀b,O b->b<w.heap.size/\C.N<=b)->cargs.size=args.length->(∀(j:Nat) (x:AV) (v:Value),args[j]?=some x->cargs[j]?=some v->RV w nov (mO O) x v) ->
  Calls C.P f cargs w (λe w'=>∃v,e=.returned v/\RV w' nov (mO O) r v/\Kin w (λ_=>False) w'/\C.Gl w')
def resK (C:Cx)(tm:List AV)(hp:List Ent):List ResultVar->(List AV->Prop)->Prop
 | [],k=>k []
 | .tmp t :: r,k=>getK tm t (λa=>resK C tm hp r (λq=>k (a :: q)))
 | .cell p t :: r,k=>tyK C.T t (λti=>getK tm p (λa=>match a with
  | .ptr i ver kk j=>Zxs hp i ver (λB=>ifK (Nat.ble (j+ti.sz) B.sz && !isM B.box B.ty) (elK B kk (λe=>cutK ti e j (λx=>resK C tm hp r (λq=>k (x :: q))))))
  | _=>False))
def oneK : List AV->AV->(List AV->List AV->Prop)->Prop
 | [x],r,k=>k [x] [r]
 | xs,.tup rs,k=>k xs rs
 | _,_,_=>False
def retK (C:Cx)(rs:List ResultVar)(r:AV):Exit->St->Prop
 | .normal,s=>resK C s.tm s.hp rs (λxs=>oneK xs r (λxs rs=>True->wkT s.hp [] xs rs True))
 | .ret,s=>resK C s.tm s.hp rs (λxs=>oneK xs r (λxs rs=>True->wkT s.hp [] xs rs True))
 | _,_=>False
theorem Zaov {xs:List AV}{r:AV}{k:List AV->List AV->Prop}(h:oneK xs r k):(∃x,xs=[x]/\k [x] [r])\/(∃rs,r=.tup rs/\(∀x,xs≠[x])/\k xs rs):=by
 unfold oneK at h
 split at h
 ·exact .inl ⟨_,rfl,h⟩
 ·rename_i hne
  exact .inr ⟨_,rfl,λx e=>hne x e,h⟩
 ·exact h.elim
section
variable {C : Cx} {n : Nat}
theorem Zaka {t:TypeId}{ti:TI}{p i ver k j:Nat}{B:Blk}{e:List AV}{τ:Nat->AV}{η:Nat->Ent}{w0:World}{X:XX}{m:MM}{a:Act}{w:World}(h:Rep C n w0 X τ η m a w)(hx:τ p=.ptr i ver k j)(hi:η i=⟨ver,some B⟩)(he:B.els[k]?=some e)(ht:TyOk C.P t ti)(h1:ti.kind.agg=false->ti.sz=1)(hj:j+ti.sz<=B.sz)(hM:isM B.box B.ty=false) :
  ∃ad v,a.tmps.getD p undef=.pointer (some ad)/\(loadVar t ad).run C.P w=.ok v w/\RV w (shp η) m (cut ti e j) v:=by
 have hv:=h.tm p
 rw[hx]at hv
 obtain⟨b,hb,hu⟩:=Zos hv hi
 obtain⟨v,h2,h3⟩:=Zacc (o:=⟨none,.load t (.tmp p),0, "",#[],none⟩) (x:=.tmp p) rfl hx hi he ht h1 hj hM w0 X m a w h
 refine⟨_,v,hu,?_,h3⟩
 have hu':a.eval (.tmp p)=.pointer (some ⟨b,k*B.sz+j,none⟩):=hu
 simp only[execOp,Instr.loadAt,hu',Instr.sureAddr,Sem.run_bind,Sem.run_pure,Result.andThen_ok]at h2
 generalize (loadVar t ⟨b,k*B.sz+j,none⟩).run C.P w=q at h2
 cases q with
 | ok u w' =>
  simp only[Result.andThen_ok]at h2
  injection h2 with h4 h5
  injection h4 with h4
  rw[h4,h5]
 | halt u w'=>cases h2
theorem Zad3 {tm:List AV}{hp:List Ent}{w0:World}{X:XX}{m:MM}{a:Act}{w:World}(h:Rep C tm.length w0 X (tmF tm) (hpF hp) m a w):∀{rs:List ResultVar}{k:List AV->Prop},resK C tm hp rs k ->
  ∃xs us,k xs/\(rs.mapM (λr=>(match r with | .tmp t=>pure (a.tmps.getD t undef) | .cell q t=>do loadVar t (<-asAddr (a.tmps.getD q undef)):Sem Value)):Sem (List Value)).run C.P w=.ok us w/\xs.length=us.length /\
   ∀(j:Nat) (x:AV) (u:Value),xs[j]?=some x->us[j]?=some u->RV w (shp (hpF hp)) m x u
 | [],k,hk=>⟨[],[],hk,by simp,rfl,λj x u hx=>by simp at hx⟩
 | .tmp t :: r,k,hk=>by
  obtain⟨x,hx,hk⟩:=Zkn hk
  obtain⟨xs,us,h1,h2,h3,h4⟩:=Zad3 h hk
  have htx:tmF tm t=x:=by
   show tm.getD t .dead=x
   rw[gD_,hx]
   rfl
  refine⟨x :: xs,a.tmps.getD t undef :: us,h1,?_,by simp[h3],λj y u hy hu=>?_⟩
  ·rw[List.mapM_cons]
   simp only[Sem.run_bind,Sem.run_pure,Result.andThen_ok,h2]
  ·cases j with
   | zero =>
    simp only[List.getElem?_cons_zero,Option.some.injEq]at hy hu
    subst hy hu
    rw[<-htx]
    exact h.tm t
   | succ j=>exact h4 j y u (by simpa using hy) (by simpa using hu)
 | .cell p t :: r,k,hk=>by
  obtain⟨ti,ht,hk⟩:=Zjo hk
  obtain⟨x,hx,hk⟩:=Zkn hk
  have htx:tmF tm p=x:=by
   show tm.getD p .dead=x
   rw[gD_,hx]
   rfl
  split at hk
  ·obtain⟨B,hB,hk⟩:=Zgh hk
   obtain⟨g1,hk⟩:=Zeh hk
   rw[bA_,Bool.not_eq_true']at g1
   obtain⟨e,he,_,hk⟩:=Zan5 hk
   obtain⟨c1,c2,hk⟩:=Zada hk
   obtain⟨ad,v,q1,q2,q3⟩:=Zaka h htx hB he ht c2 (Nat.le_of_ble_eq_true g1.1) g1.2
   obtain⟨xs,us,h1,h2,h3,h4⟩:=Zad3 h hk
   refine⟨_ :: xs,v :: us,h1,?_,by simp[h3],λj y u hy hu=>?_⟩
   ·rw[List.mapM_cons]
    have hA:(asAddr (a.tmps.getD p undef)).run C.P w=.ok ad w:=by rw[q1];rfl
    simp only[Sem.run_bind,hA,Sem.run_pure,Result.andThen_ok,q2,h2]
   ·cases j with
    | zero =>
     simp only[List.getElem?_cons_zero,Option.some.injEq]at hy hu
     subst hy hu
     exact q3
    | succ j=>exact h4 j y u (by simpa using hy) (by simpa using hu)
  ·exact hk.elim
theorem Zau9 : shp (hpF [])=nov:=by
 funext i
 simp[shp,nov]
theorem Zaut (η:Nat->Ent)(m:MM):mwk η (hpF []) m=mO m.O:=by
 unfold mwk mO
 congr 1
 funext i
 simp
theorem aOf {f:FuncId}{fn:Func}{c:Code}{args:List AV}{r:AV}(hf:C.P.funcs[f]?=some fn)(hb:fn.body=some c)(hname:(fn.name == "runtime.NumGoroutine")=false)(hn:fn.ntmps=n)(_ha:args.length<=n)
  (h:Zdo (args++List.replicate (n-args.length) .dead) (λtm=>Zdo (List.replicate n ⟨0,none⟩) (λhp=>True->AWP C c (retK C fn.results.toList r) ⟨tm,hp⟩))):ACall C f args r:=by
 have h:=Zcl (Zcl h) trivial
 refine⟨λvs w=>?_,λw O cargs hg hN hO hsz hargs=>?_⟩
 ·simp only[callFunc,Sem.run_bind,program,Sem.run,Result.andThen_ok,hf,hname,hb]
  rfl
 have hη:∀i,hpF (List.replicate n ⟨0,none⟩) i=⟨0,none⟩:=λi=>by
  show(List.replicate n (⟨0,none⟩:Ent)).getD i _=_
  rw[gD_,List.getElem?_replicate]
  split <;> rfl
 have hηf:hpF (List.replicate n ⟨0,none⟩)=λ_=>⟨0,none⟩:=funext hη
 have hshp:shp (hpF (List.replicate n ⟨0,none⟩))=nov:=by rw[hηf];rfl
 have hrep:Zzn C w (xx0 O) ⟨args++List.replicate (n-args.length) .dead,List.replicate n ⟨0,none⟩⟩ (mO O) { tmps:=cargs++Array.replicate (fn.ntmps-cargs.size) undef,defers:=[] } w:=by
  refine⟨λt=>?_,by simp[hn,hsz],rfl,⟨λi B hB=>?_,λi i' b hl=>?_,λi b hl=>?_,λi b hl=>?_,hO,hN⟩,⟨rfl,rfl,rfl,Nat.le_refl _,λ_ _ _=>rfl⟩,rfl,λi b hl=>?_,hg,λi hi=>hi.elim⟩
  ·rw[hshp]
   show RV w nov (mO O) ((args++List.replicate (n-args.length) AV.dead).getD t .dead) _
   rcases Nat.lt_or_ge t args.length with hlt|hge
   ·rw[gD_,List.getElem?_append_left hlt,gE_ hlt]
    have hc:t<cargs.size:=by omega
    refine hargs t _ _ (gE_ hlt) ?_
    rw[aD_,Array.getElem?_append_left hc,aE_ hc]
    rfl
   ·have:(args++List.replicate (n-args.length) AV.dead).getD t .dead=.dead:=by
     rw[gD_,List.getElem?_append_right hge,List.getElem?_replicate]
     split <;> rfl
    rw[this]
    exact .dead _
  all_goals (simp only[hη]at *;first|(exact absurd rfl hl)|(cases hB))
 refine calls_of_wp hf hb (wp_mono (h w _ (mO O) _ w hrep) ?_)
 rintro e a' w' ⟨s',m',hl,hq,hr'⟩
 have fin:resK C s'.tm s'.hp fn.results.toList (λxs=>oneK xs r (λxs rs=>True->wkT s'.hp [] xs rs True))->a'.defers=[]/\∃v,(results fn a'.tmps).run C.P w'=.ok v w'/\∃u,Ending.returned v=.returned u/\RV w' nov (mO O) r u/\Kin w (λ_=>False) w'/\C.Gl w':=by
  intro hk
  obtain⟨xs,us,h1,h2,h3,h4⟩:=Zad3 hr' hk
  refine⟨hr'.df,?_⟩
  have hO':m'.O=O:=hr'.oo
  have hfin:∀(ys:List AV),wkT s'.hp [] xs ys True->xs.length=ys.length/\∀(j:Nat) (y:AV) (u:Value),ys[j]?=some y->us[j]?=some u->RV w' nov (mO O) y u:=by
   intro ys hw
   obtain⟨g1,g2,_⟩:=Zak9 (N:=C.N) hw
   refine⟨g1,λj y u hy hu=>?_⟩
   have hlt:j<xs.length:=by rw[g1];exact(gS_.1 hy).1
   have:=g2 j _ y (gE_ hlt) hy w' m' u hr'.mem (h4 j _ u (gE_ hlt) hu)
   rw[Zau9,Zaut,hO']at this
   exact this
  have hrun:(results fn a'.tmps).run C.P w'=.ok (if h:us.toArray.size=1 then us.toArray[0]else .tuple us.toArray) w':=by
   unfold results
   rw[Array.mapM_eq_mapM_toList,map_eq_pure_bind]
   simp only[Sem.run_bind]
   erw [h2]
   simp
  refine⟨_,hrun,_,rfl,?_,hr'.kin,hr'.gl⟩
  rcases Zaov h1 with⟨x,rfl,h1⟩|⟨rs,rfl,hne,h1⟩
  ·obtain⟨g1,g2⟩:=hfin [r] (h1 trivial)
   have hus:us.length=1:=by simpa using h3.symm
   obtain⟨u,rfl⟩:=List.length_eq_one_iff.1 hus
   simpa using g2 0 r u rfl rfl
  ·obtain⟨g1,g2⟩:=hfin rs (h1 trivial)
   have hus:us.length≠1:=λe=>by
    obtain⟨x,rfl⟩:=List.length_eq_one_iff.1 (show xs.length=1 by omega)
    exact hne x rfl
   rw[dif_neg (by simpa using hus)]
   refine .tup (by simp;omega) (λj x u hx hu=>g2 j x u hx (by simpa using hu))
 cases e with
 | normal=>exact fin hq
 | ret=>exact fin hq
 | _=>exact hq.elim
def fr0 : AV->Prop
 | .c _=>True
 | .sl _ _=>True
 | x=>Fr x
def frs0 : List AV->Prop
 | []=>True
 | x :: r=>fr0 x/\frs0 r
def fr1 : AV->Prop
 | .agg cs=>frs0 cs
 | .tup cs=>frs0 cs
 | x=>fr0 x
def frs : List AV->Prop
 | []=>True
 | x :: r=>fr1 x/\frs r
theorem Zapf {w:World}{vs vs':Shp}{m m':MM}{x:AV}{v:Value}(hx:fr0 x)(ho:∀b,Zdf vs' m' b->Zdf vs m b)(h:RV w vs m x v):RV w vs' m' x v:=by
 unfold fr0 at hx
 split at hx
 ·exact Zxi (.c _) ho h
 ·have:=h
  obtain⟨_,_,_,_,_,_,_,_,_,_,_,_,hfr⟩:=Zxj this
  exact Zxi (.sl hfr) ho h
 ·exact Zxi hx ho h
theorem Zahy : ∀{l:List AV}{j:Nat}{x:AV},frs0 l->l[j]?=some x->fr0 x
 | [],_,_,_,h=>by simp at h
 | y :: r,0,x,h,hx=>by simp at hx;subst hx;exact h.1
 | y :: r,j+1,x,h,hx=>Zahy (l:=r) (j:=j) h.2 (by simpa using hx)
theorem Zaoh : ∀{l:List AV}{j:Nat}{x:AV},frs l->l[j]?=some x->fr1 x
 | [],_,_,_,h=>by simp at h
 | y :: r,0,x,h,hx=>by simp at hx;subst hx;exact h.1
 | y :: r,j+1,x,h,hx=>Zaoh (l:=r) (j:=j) h.2 (by simpa using hx)
theorem Zagl {w:World}{vs vs':Shp}{m m':MM}{x:AV}{v:Value}(hx:fr1 x)(ho:∀b,Zdf vs' m' b->Zdf vs m b)(h:RV w vs m x v):RV w vs' m' x v:=by
 unfold fr1 at hx
 split at hx
 ·obtain⟨us,rfl,h1,h2⟩:=Zt1 h
  exact .agg h1 (λj y u hy hu=>Zapf (Zahy hx hy) ho (h2 j y u hy hu))
 ·obtain⟨us,rfl,h1,h2⟩:=Zagm h
  exact .tup h1 (λj y u hy hu=>Zapf (Zahy hx hy) ho (h2 j y u hy hu))
 ·exact Zapf hx ho h
theorem Zauk {o:Oper}{τ:Nat->AV}{η:Nat->Ent}{f:FuncId}{os:Array Operand}{ats:Array TypeId}{r:AV}{args:List AV}(ho:o.op=.call ⟨.value (.func f),os,ats⟩)(hd:InB n o.dst)(hargs:os.toList.map (evA τ)=args)(hc:ACall C f args r)(hfr:frs args)(hr:fr1 r):LF C n o τ η ⟨r,[],[]⟩:=by
 subst hargs
 intro τ' η' hτ _ w0 X m a w h
 obtain⟨hen,hcall⟩:=hc
 have hmap:os.toList.map (evA τ')=os.toList.map (evA τ):=List.map_congr_left (λy hy=>hτ y (by simp[ho,Op.operands,Call.operands];exact .inr (by simpa using hy)))
 have hrun:(execOp a.eval o).run C.P w=.ok (.enter f (os.map a.eval)) w:=by
  simp[execOp,ho,resolve,Act.eval,Deferred.ofValue,invoke,hen]
 have hO:∀b,Zdf (shp η') m b->b<w.heap.size/\C.N<=b:=by
  rintro b (h1|⟨i,h1,h2⟩)
  ·exact h.mem.olt b h1
  ·exact⟨h.mem.lt (Zau.1 h1) h2,h.mem.low i b (Zau.1 h1) h2⟩
 have:=hcall w (Zdf (shp η') m) (os.map a.eval) h.gl h.mem.big hO (by simp) (λj x v hx hv=>by
  refine Zagl (Zaoh hfr hx) (λb hb=>Zhu.1 hb) ?_ (vs:=shp η') (m:=m)
  rw[<-hmap,List.getElem?_map]at hx
  rw[Array.getElem?_map]at hv
  cases hj:os[j]? with
  | none=>rw[hj]at hv;cases hv
  | some q =>
   have hj':os.toList[j]?=some q:=by simpa using hj
   rw[hj']at hx
   rw[hj]at hv
   simp at hx hv
   rw[<-hx,<-hv]
   exact h.ev q)
 unfold Oper.wp
 rw[hrun]
 refine Calls.mono this ?_
 rintro e w' ⟨v,rfl,h1,h2,h3⟩
 have hm:Mono w (shp η') m w' (shp η') m:=by
  refine⟨h2.size,λb hb _=>h2.block b hb (by simp),λ_ _ h=>h,λ_=>Nat.le_refl _,λi _=>⟨rfl,λhl=>⟨rfl,λb hb=>?_⟩⟩⟩
  unfold World.shape?
  rw[h2.block b (h.mem.lt (Zau.1 hl) hb) (by simp)]
 have hmem:Mem C.N w' η' m:=⟨λi B hB=>(h.mem.ok i B hB).mono hm (λb hb=>h2.block b (h.mem.lt (by rw[hB];simp) hb) (by simp)),h.mem.inj,h.mem.low,h.mem.sep,λb hb=>⟨Nat.lt_of_lt_of_le (h.mem.olt b hb).1 h2.size,(h.mem.olt b hb).2⟩,Nat.le_trans h.mem.big h2.size⟩
 have hkin:Kin w0 X.X w':=⟨h2.os.trans h.kin.os,h2.tape.trans h.kin.tape,h2.output.trans h.kin.output,Nat.le_trans h.kin.size h2.size,λb hb hx=>by rw[h2.block b (Nat.lt_of_lt_of_le hb h.kin.size) (by simp),h.kin.block b hb hx]⟩
 exact⟨m,(h.move hm hmem hkin rfl h.own (λ_ _=>rfl)).put hd (Zagl hr (λb hb=>Zhu.2 hb) h1)⟩
end
attribute [irreducible] AWP
theorem ty_2 : TyOk Tryz.prog 2 ⟨1,8,.int .i64 0,.int .i64⟩:=⟨by kernel_rfl,⟨_,Tryz.underlying2,rfl⟩,rfl⟩
theorem ty_3 : TyOk Tryz.prog 3 ⟨1,8,.int .i64 0,.int .i64⟩:=⟨by kernel_rfl,⟨_,Tryz.underlying3,rfl⟩,rfl⟩
theorem ty_4 : TyOk Tryz.prog 4 ⟨1,1,.bool false,.bool⟩:=⟨by kernel_rfl,⟨_,Tryz.underlying4,trivial⟩,rfl⟩
theorem ty_5 : TyOk Tryz.prog 5 ⟨1,1,.int .u8 0,.int .u8⟩:=⟨by kernel_rfl,⟨_,Tryz.underlying5,rfl⟩,rfl⟩
theorem ty_6 : TyOk Tryz.prog 6 ⟨1,1,.int .u8 0,.int .u8⟩:=⟨by kernel_rfl,⟨_,Tryz.underlying6,rfl⟩,rfl⟩
theorem ty_7 : TyOk Tryz.prog 7 ⟨4,24,.agg #[.int .i64 0,.int .i64 0,.bool false,.int .u8 0],.struct [(0,2),(1,3),(2,4),(3,6)]⟩:=⟨by kernel_rfl,⟨_,Tryz.underlying7,rfl⟩,rfl⟩
theorem ty_8 : TyOk Tryz.prog 8 ⟨4,24,.agg #[.int .i64 0,.int .i64 0,.bool false,.int .u8 0],.struct [(0,2),(1,3),(2,4),(3,6)]⟩:=⟨by kernel_rfl,⟨_,Tryz.underlying8,rfl⟩,rfl⟩
theorem ty_9 : TyOk Tryz.prog 9 ⟨1,16,.string .empty,.str⟩:=⟨by kernel_rfl,⟨_,Tryz.underlying9,trivial⟩,rfl⟩
theorem Zazc : TyOk Tryz.prog 10 ⟨1,16,.string .empty,.str⟩:=⟨by kernel_rfl,⟨_,Tryz.underlying10,trivial⟩,rfl⟩
theorem Zazd : TyOk Tryz.prog 11 ⟨1,16,.string .empty,.str⟩:=⟨by kernel_rfl,⟨_,Tryz.underlying11,trivial⟩,rfl⟩
theorem Zaze : TyOk Tryz.prog 12 ⟨1,8,.int .u64 0,.int .u64⟩:=⟨by kernel_rfl,⟨_,Tryz.underlying12,rfl⟩,rfl⟩
theorem Zazf : TyOk Tryz.prog 13 ⟨2,24,.agg #[.string .empty,.int .u64 0],.struct [(0,9),(1,12)]⟩:=⟨by kernel_rfl,⟨_,Tryz.underlying13,rfl⟩,rfl⟩
theorem Zazg : TyOk Tryz.prog 14 ⟨2,24,.agg #[.string .empty,.int .u64 0],.struct [(0,9),(1,12)]⟩:=⟨by kernel_rfl,⟨_,Tryz.underlying14,rfl⟩,rfl⟩
theorem Zazh : TyOk Tryz.prog 15 ⟨1,8,.pointer none,.ptr⟩:=⟨by kernel_rfl,⟨_,Tryz.underlying15,trivial⟩,rfl⟩
theorem Zazi : TyOk Tryz.prog 16 ⟨1,8,.pointer none,.ptr⟩:=⟨by kernel_rfl,⟨_,Tryz.underlying16,trivial⟩,rfl⟩
theorem Zazj : TyOk Tryz.prog 17 ⟨1,8,.pointer none,.ptr⟩:=⟨by kernel_rfl,⟨_,Tryz.underlying17,trivial⟩,rfl⟩
theorem Zazk : TyOk Tryz.prog 18 ⟨1,8,.agg #[.pointer none],.struct [(0,17)]⟩:=⟨by kernel_rfl,⟨_,Tryz.underlying18,rfl⟩,rfl⟩
theorem Zazl : TyOk Tryz.prog 19 ⟨1,8,.agg #[.pointer none],.struct [(0,17)]⟩:=⟨by kernel_rfl,⟨_,Tryz.underlying19,rfl⟩,rfl⟩
theorem Zazm : TyOk Tryz.prog 20 ⟨1,16,.nilIface,.iface⟩:=⟨by kernel_rfl,⟨_,Tryz.underlying20,trivial⟩,rfl⟩
theorem Zazn : TyOk Tryz.prog 21 ⟨1,4,.int .i32 0,.int .i32⟩:=⟨by kernel_rfl,⟨_,Tryz.underlying21,rfl⟩,rfl⟩
theorem Zazo : TyOk Tryz.prog 22 ⟨1,24,.slice none 0 0,.slice 3⟩:=⟨by kernel_rfl,⟨_,Tryz.underlying22,rfl⟩,rfl⟩
theorem Zazp : TyOk Tryz.prog 23 ⟨1,24,.slice none 0 0,.slice 53⟩:=⟨by kernel_rfl,⟨_,Tryz.underlying23,rfl⟩,rfl⟩
theorem Zazq : TyOk Tryz.prog 24 ⟨1,24,.slice none 0 0,.slice 49⟩:=⟨by kernel_rfl,⟨_,Tryz.underlying24,rfl⟩,rfl⟩
theorem Zazr : TyOk Tryz.prog 25 ⟨4,96,.agg #[.slice none 0 0,.slice none 0 0,.slice none 0 0,.slice none 0 0],.struct [(0,22),(1,22),(2,23),(3,24)]⟩:=⟨by kernel_rfl,⟨_,Tryz.underlying25,rfl⟩,rfl⟩
theorem Zazs : TyOk Tryz.prog 26 ⟨4,96,.agg #[.slice none 0 0,.slice none 0 0,.slice none 0 0,.slice none 0 0],.struct [(0,22),(1,22),(2,23),(3,24)]⟩:=⟨by kernel_rfl,⟨_,Tryz.underlying26,rfl⟩,rfl⟩
theorem Zazt : TyOk Tryz.prog 30 ⟨1,8,.pointer none,.ptr⟩:=⟨by kernel_rfl,⟨_,Tryz.underlying30,trivial⟩,rfl⟩
theorem Zazu : TyOk Tryz.prog 31 ⟨1,16,.nilIface,.iface⟩:=⟨by kernel_rfl,⟨_,Tryz.underlying31,trivial⟩,rfl⟩
theorem Zazv : TyOk Tryz.prog 32 ⟨1,16,.nilIface,.iface⟩:=⟨by kernel_rfl,⟨_,Tryz.underlying32,trivial⟩,rfl⟩
theorem Zazw : TyOk Tryz.prog 36 ⟨1,24,.slice none 0 0,.slice 70⟩:=⟨by kernel_rfl,⟨_,Tryz.underlying36,rfl⟩,rfl⟩
theorem Zazx : TyOk Tryz.prog 37 ⟨2,32,.agg #[.int .i64 0,.slice none 0 0],.struct [(0,3),(1,36)]⟩:=⟨by kernel_rfl,⟨_,Tryz.underlying37,rfl⟩,rfl⟩
theorem Zazy : TyOk Tryz.prog 38 ⟨2,32,.agg #[.int .i64 0,.slice none 0 0],.struct [(0,3),(1,36)]⟩:=⟨by kernel_rfl,⟨_,Tryz.underlying38,rfl⟩,rfl⟩
theorem Zazz : TyOk Tryz.prog 44 ⟨1,8,.int .i64 0,.int .i64⟩:=⟨by kernel_rfl,⟨_,Tryz.underlying44,rfl⟩,rfl⟩
theorem Zaz0 : TyOk Tryz.prog 47 ⟨1,24,.slice none 0 0,.slice 51⟩:=⟨by kernel_rfl,⟨_,Tryz.underlying47,rfl⟩,rfl⟩
theorem Zaz1 : TyOk Tryz.prog 48 ⟨4,72,.agg #[.string .empty,.int .i64 0,.slice none 0 0,.slice none 0 0],.struct [(0,9),(1,3),(2,23),(3,47)]⟩:=⟨by kernel_rfl,⟨_,Tryz.underlying48,rfl⟩,rfl⟩
theorem Zaz2 : TyOk Tryz.prog 49 ⟨4,72,.agg #[.string .empty,.int .i64 0,.slice none 0 0,.slice none 0 0],.struct [(0,9),(1,3),(2,23),(3,47)]⟩:=⟨by kernel_rfl,⟨_,Tryz.underlying49,rfl⟩,rfl⟩
theorem Zaz3 : TyOk Tryz.prog 50 ⟨3,40,.agg #[.slice none 0 0,.int .i64 0,.int .i64 0],.struct [(0,23),(1,3),(2,3)]⟩:=⟨by kernel_rfl,⟨_,Tryz.underlying50,rfl⟩,rfl⟩
theorem Zaz4 : TyOk Tryz.prog 51 ⟨3,40,.agg #[.slice none 0 0,.int .i64 0,.int .i64 0],.struct [(0,23),(1,3),(2,3)]⟩:=⟨by kernel_rfl,⟨_,Tryz.underlying51,rfl⟩,rfl⟩
theorem Zaz5 : TyOk Tryz.prog 52 ⟨2,16,.agg #[.int .i64 0,.int .i64 0],.struct [(0,3),(1,3)]⟩:=⟨by kernel_rfl,⟨_,Tryz.underlying52,rfl⟩,rfl⟩
theorem Zaz6 : TyOk Tryz.prog 53 ⟨2,16,.agg #[.int .i64 0,.int .i64 0],.struct [(0,3),(1,3)]⟩:=⟨by kernel_rfl,⟨_,Tryz.underlying53,rfl⟩,rfl⟩
theorem Zaz7 : TyOk Tryz.prog 58 ⟨1,24,.slice none 0 0,.slice 94⟩:=⟨by kernel_rfl,⟨_,Tryz.underlying58,rfl⟩,rfl⟩
theorem Zaz8 : TyOk Tryz.prog 59 ⟨1,24,.slice none 0 0,.slice 4⟩:=⟨by kernel_rfl,⟨_,Tryz.underlying59,rfl⟩,rfl⟩
theorem Zaz9 : TyOk Tryz.prog 60 ⟨5,88,.agg #[.int .i64 0,.int .i64 0,.slice none 0 0,.slice none 0 0,.slice none 0 0],.struct [(0,3),(1,3),(2,22),(3,58),(4,59)]⟩:=⟨by kernel_rfl,⟨_,Tryz.underlying60,rfl⟩,rfl⟩
theorem Za0a : TyOk Tryz.prog 61 ⟨5,88,.agg #[.int .i64 0,.int .i64 0,.slice none 0 0,.slice none 0 0,.slice none 0 0],.struct [(0,3),(1,3),(2,22),(3,58),(4,59)]⟩:=⟨by kernel_rfl,⟨_,Tryz.underlying61,rfl⟩,rfl⟩
theorem Za0b : TyOk Tryz.prog 66 ⟨8,160,.agg #[.slice none 0 0,.slice none 0 0,.int .i64 0,.int .i64 0,.slice none 0 0,.slice none 0 0,.slice none 0 0,.slice none 0 0],.struct [(0,22),(1,22),(2,61),(7,22)]⟩:=⟨by kernel_rfl,⟨_,Tryz.underlying66,rfl⟩,rfl⟩
theorem Za0c : TyOk Tryz.prog 67 ⟨8,160,.agg #[.slice none 0 0,.slice none 0 0,.int .i64 0,.int .i64 0,.slice none 0 0,.slice none 0 0,.slice none 0 0,.slice none 0 0],.struct [(0,22),(1,22),(2,61),(7,22)]⟩:=⟨by kernel_rfl,⟨_,Tryz.underlying67,rfl⟩,rfl⟩
theorem Za0d : TyOk Tryz.prog 69 ⟨2,32,.agg #[.slice none 0 0,.int .i64 0],.struct [(0,23),(1,3)]⟩:=⟨by kernel_rfl,⟨_,Tryz.underlying69,rfl⟩,rfl⟩
theorem Za0e : TyOk Tryz.prog 70 ⟨2,32,.agg #[.slice none 0 0,.int .i64 0],.struct [(0,23),(1,3)]⟩:=⟨by kernel_rfl,⟨_,Tryz.underlying70,rfl⟩,rfl⟩
theorem Za0f : TyOk Tryz.prog 79 ⟨1,24,.slice none 0 0,.slice 23⟩:=⟨by kernel_rfl,⟨_,Tryz.underlying79,rfl⟩,rfl⟩
theorem Za0g : TyOk Tryz.prog 88 ⟨1,24,.slice none 0 0,.slice 22⟩:=⟨by kernel_rfl,⟨_,Tryz.underlying88,rfl⟩,rfl⟩
theorem Za0h : TyOk Tryz.prog 93 ⟨3,24,.agg #[.int .i64 0,.int .i64 0,.int .i64 0],.struct [(0,3),(1,3),(2,3)]⟩:=⟨by kernel_rfl,⟨_,Tryz.underlying93,rfl⟩,rfl⟩
theorem Za0i : TyOk Tryz.prog 94 ⟨3,24,.agg #[.int .i64 0,.int .i64 0,.int .i64 0],.struct [(0,3),(1,3),(2,3)]⟩:=⟨by kernel_rfl,⟨_,Tryz.underlying94,rfl⟩,rfl⟩
theorem Za0j : TyOk Tryz.prog 95 ⟨1,24,.slice none 0 0,.slice 58⟩:=⟨by kernel_rfl,⟨_,Tryz.underlying95,rfl⟩,rfl⟩
theorem Za0k : TyOk Tryz.prog 96 ⟨1,8,.pointer none,.ptr⟩:=⟨by kernel_rfl,⟨_,Tryz.underlying96,trivial⟩,rfl⟩
theorem Za0l : TyOk Tryz.prog 97 ⟨1,24,.slice none 0 0,.slice 101⟩:=⟨by kernel_rfl,⟨_,Tryz.underlying97,rfl⟩,rfl⟩
theorem Za0m : TyOk Tryz.prog 98 ⟨1,24,.slice none 0 0,.slice 101⟩:=⟨by kernel_rfl,⟨_,Tryz.underlying98,rfl⟩,rfl⟩
theorem Zaw9 : TyOk Tryz.prog 100 ⟨2,16,.agg #[.int .i64 0,.int .i64 0],.struct [(0,3),(1,3)]⟩:=⟨by kernel_rfl,⟨_,Tryz.underlying100,rfl⟩,rfl⟩
theorem Zaxa : TyOk Tryz.prog 101 ⟨2,16,.agg #[.int .i64 0,.int .i64 0],.struct [(0,3),(1,3)]⟩:=⟨by kernel_rfl,⟨_,Tryz.underlying101,rfl⟩,rfl⟩
theorem Zaxb : TyOk Tryz.prog 107 ⟨1,8,.pointer none,.ptr⟩:=⟨by kernel_rfl,⟨_,Tryz.underlying107,trivial⟩,rfl⟩
theorem Zaxc : TyOk Tryz.prog 108 ⟨7,136,.agg #[.slice none 0 0,.slice none 0 0,.slice none 0 0,.slice none 0 0,.int .i64 0,.slice none 0 0,.int .i64 0],.struct [(0,26),(4,38),(6,3)]⟩:=⟨by kernel_rfl,⟨_,Tryz.underlying108,rfl⟩,rfl⟩
theorem Zaxd : TyOk Tryz.prog 109 ⟨7,136,.agg #[.slice none 0 0,.slice none 0 0,.slice none 0 0,.slice none 0 0,.int .i64 0,.slice none 0 0,.int .i64 0],.struct [(0,26),(4,38),(6,3)]⟩:=⟨by kernel_rfl,⟨_,Tryz.underlying109,rfl⟩,rfl⟩
theorem Zaxe : TyOk Tryz.prog 115 ⟨1,24,.slice none 0 0,.slice 118⟩:=⟨by kernel_rfl,⟨_,Tryz.underlying115,rfl⟩,rfl⟩
theorem Zaxf : TyOk Tryz.prog 117 ⟨3,24,.agg #[.int .i64 0,.int .i64 0,.int .i64 0],.struct [(0,3),(1,3),(2,3)]⟩:=⟨by kernel_rfl,⟨_,Tryz.underlying117,rfl⟩,rfl⟩
theorem Zaxg : TyOk Tryz.prog 118 ⟨3,24,.agg #[.int .i64 0,.int .i64 0,.int .i64 0],.struct [(0,3),(1,3),(2,3)]⟩:=⟨by kernel_rfl,⟨_,Tryz.underlying118,rfl⟩,rfl⟩
theorem Zaxh : TyOk Tryz.prog 120 ⟨1,8,.pointer none,.ptr⟩:=⟨by kernel_rfl,⟨_,Tryz.underlying120,trivial⟩,rfl⟩
theorem Zaxi : TyOk Tryz.prog 122 ⟨3,40,.agg #[.slice none 0 0,.int .i64 0,.int .i64 0],.struct [(0,23),(1,3),(2,3)]⟩:=⟨by kernel_rfl,⟨_,Tryz.underlying122,rfl⟩,rfl⟩
theorem Zaxj : TyOk Tryz.prog 123 ⟨3,40,.agg #[.slice none 0 0,.int .i64 0,.int .i64 0],.struct [(0,23),(1,3),(2,3)]⟩:=⟨by kernel_rfl,⟨_,Tryz.underlying123,rfl⟩,rfl⟩
theorem Zaxk : TyOk Tryz.prog 124 ⟨1,24,.slice none 0 0,.slice 123⟩:=⟨by kernel_rfl,⟨_,Tryz.underlying124,rfl⟩,rfl⟩
theorem Zaxl : TyOk Tryz.prog 125 ⟨1,24,.slice none 0 0,.slice 123⟩:=⟨by kernel_rfl,⟨_,Tryz.underlying125,rfl⟩,rfl⟩
theorem Zaxm : TyOk Tryz.prog 131 ⟨1,8,.pointer none,.ptr⟩:=⟨by kernel_rfl,⟨_,Tryz.underlying131,trivial⟩,rfl⟩
theorem Zaxn : TyOk Tryz.prog 132 ⟨1,24,.slice none 0 0,.slice 5⟩:=⟨by kernel_rfl,⟨_,Tryz.underlying132,rfl⟩,rfl⟩
theorem Zaxo : TyOk Tryz.prog 133 ⟨2,32,.agg #[.pointer none,.slice none 0 0],.struct [(0,131),(1,132)]⟩:=⟨by kernel_rfl,⟨_,Tryz.underlying133,rfl⟩,rfl⟩
theorem Zaxp : TyOk Tryz.prog 134 ⟨2,32,.agg #[.pointer none,.slice none 0 0],.struct [(0,131),(1,132)]⟩:=⟨by kernel_rfl,⟨_,Tryz.underlying134,rfl⟩,rfl⟩
theorem Zaxq : TyOk Tryz.prog 146 ⟨1,16,.nilIface,.iface⟩:=⟨by kernel_rfl,⟨_,Tryz.underlying146,trivial⟩,rfl⟩
theorem Zaxr : TyOk Tryz.prog 147 ⟨1,16,.nilIface,.iface⟩:=⟨by kernel_rfl,⟨_,Tryz.underlying147,trivial⟩,rfl⟩
theorem Zaxs : TyOk Tryz.prog 164 ⟨1,8,.pointer none,.ptr⟩:=⟨by kernel_rfl,⟨_,Tryz.underlying164,trivial⟩,rfl⟩
theorem Zaxt : TyOk Tryz.prog 170 ⟨1,8,.int .u64 0,.int .u64⟩:=⟨by kernel_rfl,⟨_,Tryz.underlying170,rfl⟩,rfl⟩
theorem Zaxu : TyOk Tryz.prog 172 ⟨1,8,.pointer none,.ptr⟩:=⟨by kernel_rfl,⟨_,Tryz.underlying172,trivial⟩,rfl⟩
theorem Zaxv : TyOk Tryz.prog 173 ⟨4,48,.agg #[.slice none 0 0,.int .i64 0,.int .i64 0,.bool false],.struct [(0,22),(1,3),(2,3),(3,4)]⟩:=⟨by kernel_rfl,⟨_,Tryz.underlying173,rfl⟩,rfl⟩
theorem Zaxw : TyOk Tryz.prog 174 ⟨4,48,.agg #[.slice none 0 0,.int .i64 0,.int .i64 0,.bool false],.struct [(0,22),(1,3),(2,3),(3,4)]⟩:=⟨by kernel_rfl,⟨_,Tryz.underlying174,rfl⟩,rfl⟩
theorem Zaxx : TyOk Tryz.prog 177 ⟨1,24,.slice none 0 0,.slice 79⟩:=⟨by kernel_rfl,⟨_,Tryz.underlying177,rfl⟩,rfl⟩
theorem Zaxy : TyOk Tryz.prog 190 ⟨1,8,.int .i64 0,.int .i64⟩:=⟨by kernel_rfl,⟨_,Tryz.underlying190,rfl⟩,rfl⟩
theorem Zaxz : TyOk Tryz.prog 197 ⟨1,4,.int .u32 0,.int .u32⟩:=⟨by kernel_rfl,⟨_,Tryz.underlying197,rfl⟩,rfl⟩
theorem Zax0 : TyOk Tryz.prog 199 ⟨1,8,.int .u64 0,.int .u64⟩:=⟨by kernel_rfl,⟨_,Tryz.underlying199,rfl⟩,rfl⟩
theorem Zax1 : TyOk Tryz.prog 212 ⟨24,24,.agg #[.int .u8 0,.int .u8 0,.int .u8 0,.int .u8 0,.int .u8 0,.int .u8 0,.int .u8 0,.int .u8 0,.int .u8 0,.int .u8 0,.int .u8 0,.int .u8 0,.int .u8 0,.int .u8 0,.int .u8 0,.int .u8 0,.int .u8 0,.int .u8 0,.int .u8 0,.int .u8 0,.int .u8 0,.int .u8 0,.int .u8 0,.int .u8 0],.array 24 5⟩:=⟨by kernel_rfl,⟨_,Tryz.underlying212,⟨rfl,rfl⟩⟩,rfl⟩
theorem Zax2 : TyOk Tryz.prog 216 ⟨1,8,.int .u64 0,.int .u64⟩:=⟨by kernel_rfl,⟨_,Tryz.underlying216,rfl⟩,rfl⟩
theorem Zax3 : TyOk Tryz.prog 220 ⟨1,8,.pointer none,.ptr⟩:=⟨by kernel_rfl,⟨_,Tryz.underlying220,trivial⟩,rfl⟩
theorem Zax4 : TyOk Tryz.prog 231 ⟨20,160,.agg #[.int .u64 0,.int .u64 0,.int .u64 0,.int .u64 0,.int .u64 0,.int .u64 0,.int .u64 0,.int .u64 0,.int .u64 0,.int .u64 0,.int .u64 0,.int .u64 0,.int .u64 0,.int .u64 0,.int .u64 0,.int .u64 0,.int .u64 0,.int .u64 0,.int .u64 0,.int .u64 0],.array 20 199⟩:=⟨by kernel_rfl,⟨_,Tryz.underlying231,⟨rfl,rfl⟩⟩,rfl⟩
theorem Zax5 : TyOk Tryz.prog 233 ⟨1,8,.pointer none,.ptr⟩:=⟨by kernel_rfl,⟨_,Tryz.underlying233,trivial⟩,rfl⟩
theorem Zax6 : TyOk Tryz.prog 241 ⟨32,32,.agg #[.int .u8 0,.int .u8 0,.int .u8 0,.int .u8 0,.int .u8 0,.int .u8 0,.int .u8 0,.int .u8 0,.int .u8 0,.int .u8 0,.int .u8 0,.int .u8 0,.int .u8 0,.int .u8 0,.int .u8 0,.int .u8 0,.int .u8 0,.int .u8 0,.int .u8 0,.int .u8 0,.int .u8 0,.int .u8 0,.int .u8 0,.int .u8 0,.int .u8 0,.int .u8 0,.int .u8 0,.int .u8 0,.int .u8 0,.int .u8 0,.int .u8 0,.int .u8 0],.array 32 5⟩:=⟨by kernel_rfl,⟨_,Tryz.underlying241,⟨rfl,rfl⟩⟩,rfl⟩
theorem Zax7 : TyOk Tryz.prog 242 ⟨64,64,.agg #[.int .u8 0,.int .u8 0,.int .u8 0,.int .u8 0,.int .u8 0,.int .u8 0,.int .u8 0,.int .u8 0,.int .u8 0,.int .u8 0,.int .u8 0,.int .u8 0,.int .u8 0,.int .u8 0,.int .u8 0,.int .u8 0,.int .u8 0,.int .u8 0,.int .u8 0,.int .u8 0,.int .u8 0,.int .u8 0,.int .u8 0,.int .u8 0,.int .u8 0,.int .u8 0,.int .u8 0,.int .u8 0,.int .u8 0,.int .u8 0,.int .u8 0,.int .u8 0,.int .u8 0,.int .u8 0,.int .u8 0,.int .u8 0,.int .u8 0,.int .u8 0,.int .u8 0,.int .u8 0,.int .u8 0,.int .u8 0,.int .u8 0,.int .u8 0,.int .u8 0,.int .u8 0,.int .u8 0,.int .u8 0,.int .u8 0,.int .u8 0,.int .u8 0,.int .u8 0,.int .u8 0,.int .u8 0,.int .u8 0,.int .u8 0,.int .u8 0,.int .u8 0,.int .u8 0,.int .u8 0,.int .u8 0,.int .u8 0,.int .u8 0,.int .u8 0],.array 64 5⟩:=⟨by kernel_rfl,⟨_,Tryz.underlying242,⟨rfl,rfl⟩⟩,rfl⟩
theorem Zax8 : TyOk Tryz.prog 252 ⟨4,40,.agg #[.pointer none,.pointer none,.pointer none,.string .empty],.struct [(0,17),(1,17),(2,17),(3,9)]⟩:=⟨by kernel_rfl,⟨_,Tryz.underlying252,rfl⟩,rfl⟩
theorem Zax9 : TyOk Tryz.prog 253 ⟨4,40,.agg #[.pointer none,.pointer none,.pointer none,.string .empty],.struct [(0,17),(1,17),(2,17),(3,9)]⟩:=⟨by kernel_rfl,⟨_,Tryz.underlying253,rfl⟩,rfl⟩
theorem Zaya : TyOk Tryz.prog 254 ⟨0,0,.agg #[],.array 0 16⟩:=⟨by kernel_rfl,⟨_,Tryz.underlying254,⟨rfl,rfl⟩⟩,rfl⟩
theorem Zayb : TyOk Tryz.prog 255 ⟨0,0,.agg #[],.struct [(0,254)]⟩:=⟨by kernel_rfl,⟨_,Tryz.underlying255,rfl⟩,rfl⟩
theorem Zayc : TyOk Tryz.prog 256 ⟨0,0,.agg #[],.struct [(0,254)]⟩:=⟨by kernel_rfl,⟨_,Tryz.underlying256,rfl⟩,rfl⟩
theorem Zayd : TyOk Tryz.prog 257 ⟨1,1,.int .u8 0,.int .u8⟩:=⟨by kernel_rfl,⟨_,Tryz.underlying257,rfl⟩,rfl⟩
theorem Zaye : TyOk Tryz.prog 258 ⟨1,1,.int .u8 0,.int .u8⟩:=⟨by kernel_rfl,⟨_,Tryz.underlying258,rfl⟩,rfl⟩
theorem Zayf : TyOk Tryz.prog 260 ⟨1,4,.int .i32 0,.int .i32⟩:=⟨by kernel_rfl,⟨_,Tryz.underlying260,rfl⟩,rfl⟩
theorem Zayg : TyOk Tryz.prog 261 ⟨1,4,.int .i32 0,.int .i32⟩:=⟨by kernel_rfl,⟨_,Tryz.underlying261,rfl⟩,rfl⟩
theorem Zayh : TyOk Tryz.prog 262 ⟨11,48,.agg #[.int .u64 0,.int .u64 0,.int .u32 0,.int .u8 0,.int .u8 0,.int .u8 0,.int .u8 0,.nilFunc,.pointer none,.int .i32 0,.int .i32 0],.struct [(0,12),(1,12),(2,197),(3,257),(4,5),(5,5),(6,258),(7,259),(8,164),(9,260),(10,261)]⟩:=⟨by kernel_rfl,⟨_,Tryz.underlying262,rfl⟩,rfl⟩
theorem Zayi : TyOk Tryz.prog 263 ⟨11,48,.agg #[.int .u64 0,.int .u64 0,.int .u32 0,.int .u8 0,.int .u8 0,.int .u8 0,.int .u8 0,.nilFunc,.pointer none,.int .i32 0,.int .i32 0],.struct [(0,12),(1,12),(2,197),(3,257),(4,5),(5,5),(6,258),(7,259),(8,164),(9,260),(10,261)]⟩:=⟨by kernel_rfl,⟨_,Tryz.underlying263,rfl⟩,rfl⟩
def Zaqo (P:Program):Nat->List (Option TI)->Prop
 | _,[]=>True
 | k,none :: r=>Zaqo P (k+1) r
 | k,some ti :: r=>TyOk P k ti/\Zaqo P (k+1) r
theorem Zac1 {P:Program}:∀{l:List (Option TI)}{k:Nat},Zaqo P k l->∀(t:Nat)(ti:TI),l[t]?=some (some ti)->TyOk P (k+t) ti
 | [],_,_,t,ti,h=>by simp at h
 | none :: r,k,ha,t,ti,h=>by
  cases t with
  | zero=>simp at h
  | succ t =>
   have:=Zac1 (l:=r) (k:=k+1) ha t ti (by simpa using h)
   rw[show k+(t+1)=k+1+t from by omega]
   exact this
 | some x :: r,k,ha,t,ti,h=>by
  cases t with
  | zero=>simp at h;subst h;exact ha.1
  | succ t =>
   have:=Zac1 (l:=r) (k:=k+1) ha.2 t ti (by simpa using h)
   rw[show k+(t+1)=k+1+t from by omega]
   exact this
def Zavl : List (Option TI):=[none,
 none,
 some ⟨1,8,.int .i64 0,.int .i64⟩,
 some ⟨1,8,.int .i64 0,.int .i64⟩,
 some ⟨1,1,.bool false,.bool⟩,
 some ⟨1,1,.int .u8 0,.int .u8⟩,
 some ⟨1,1,.int .u8 0,.int .u8⟩,
 some ⟨4,24,.agg #[.int .i64 0,.int .i64 0,.bool false,.int .u8 0],.struct [(0,2),(1,3),(2,4),(3,6)]⟩,
 some ⟨4,24,.agg #[.int .i64 0,.int .i64 0,.bool false,.int .u8 0],.struct [(0,2),(1,3),(2,4),(3,6)]⟩,
 some ⟨1,16,.string .empty,.str⟩,
 some ⟨1,16,.string .empty,.str⟩,
 some ⟨1,16,.string .empty,.str⟩,
 some ⟨1,8,.int .u64 0,.int .u64⟩,
 some ⟨2,24,.agg #[.string .empty,.int .u64 0],.struct [(0,9),(1,12)]⟩,
 some ⟨2,24,.agg #[.string .empty,.int .u64 0],.struct [(0,9),(1,12)]⟩,
 some ⟨1,8,.pointer none,.ptr⟩,
 some ⟨1,8,.pointer none,.ptr⟩,
 some ⟨1,8,.pointer none,.ptr⟩,
 some ⟨1,8,.agg #[.pointer none],.struct [(0,17)]⟩,
 some ⟨1,8,.agg #[.pointer none],.struct [(0,17)]⟩,
 some ⟨1,16,.nilIface,.iface⟩,
 some ⟨1,4,.int .i32 0,.int .i32⟩,
 some ⟨1,24,.slice none 0 0,.slice 3⟩,
 some ⟨1,24,.slice none 0 0,.slice 53⟩,
 some ⟨1,24,.slice none 0 0,.slice 49⟩,
 some ⟨4,96,.agg #[.slice none 0 0,.slice none 0 0,.slice none 0 0,.slice none 0 0],.struct [(0,22),(1,22),(2,23),(3,24)]⟩,
 some ⟨4,96,.agg #[.slice none 0 0,.slice none 0 0,.slice none 0 0,.slice none 0 0],.struct [(0,22),(1,22),(2,23),(3,24)]⟩,
 none,
 none,
 none,
 some ⟨1,8,.pointer none,.ptr⟩,
 some ⟨1,16,.nilIface,.iface⟩,
 some ⟨1,16,.nilIface,.iface⟩,
 none,
 none,
 none,
 some ⟨1,24,.slice none 0 0,.slice 70⟩,
 some ⟨2,32,.agg #[.int .i64 0,.slice none 0 0],.struct [(0,3),(1,36)]⟩,
 some ⟨2,32,.agg #[.int .i64 0,.slice none 0 0],.struct [(0,3),(1,36)]⟩,
 none,
 none,
 none,
 none,
 none,
 some ⟨1,8,.int .i64 0,.int .i64⟩,
 none,
 none,
 some ⟨1,24,.slice none 0 0,.slice 51⟩,
 some ⟨4,72,.agg #[.string .empty,.int .i64 0,.slice none 0 0,.slice none 0 0],.struct [(0,9),(1,3),(2,23),(3,47)]⟩,
 some ⟨4,72,.agg #[.string .empty,.int .i64 0,.slice none 0 0,.slice none 0 0],.struct [(0,9),(1,3),(2,23),(3,47)]⟩,
 some ⟨3,40,.agg #[.slice none 0 0,.int .i64 0,.int .i64 0],.struct [(0,23),(1,3),(2,3)]⟩,
 some ⟨3,40,.agg #[.slice none 0 0,.int .i64 0,.int .i64 0],.struct [(0,23),(1,3),(2,3)]⟩,
 some ⟨2,16,.agg #[.int .i64 0,.int .i64 0],.struct [(0,3),(1,3)]⟩,
 some ⟨2,16,.agg #[.int .i64 0,.int .i64 0],.struct [(0,3),(1,3)]⟩,
 none,
 none,
 none,
 none,
 some ⟨1,24,.slice none 0 0,.slice 94⟩,
 some ⟨1,24,.slice none 0 0,.slice 4⟩,
 some ⟨5,88,.agg #[.int .i64 0,.int .i64 0,.slice none 0 0,.slice none 0 0,.slice none 0 0],.struct [(0,3),(1,3),(2,22),(3,58),(4,59)]⟩,
 some ⟨5,88,.agg #[.int .i64 0,.int .i64 0,.slice none 0 0,.slice none 0 0,.slice none 0 0],.struct [(0,3),(1,3),(2,22),(3,58),(4,59)]⟩,
 none,
 none,
 none,
 none,
 some ⟨8,160,.agg #[.slice none 0 0,.slice none 0 0,.int .i64 0,.int .i64 0,.slice none 0 0,.slice none 0 0,.slice none 0 0,.slice none 0 0],.struct [(0,22),(1,22),(2,61),(7,22)]⟩,
 some ⟨8,160,.agg #[.slice none 0 0,.slice none 0 0,.int .i64 0,.int .i64 0,.slice none 0 0,.slice none 0 0,.slice none 0 0,.slice none 0 0],.struct [(0,22),(1,22),(2,61),(7,22)]⟩,
 none,
 some ⟨2,32,.agg #[.slice none 0 0,.int .i64 0],.struct [(0,23),(1,3)]⟩,
 some ⟨2,32,.agg #[.slice none 0 0,.int .i64 0],.struct [(0,23),(1,3)]⟩,
 none,
 none,
 none,
 none,
 none,
 none,
 none,
 none,
 some ⟨1,24,.slice none 0 0,.slice 23⟩,
 none,
 none,
 none,
 none,
 none,
 none,
 none,
 none,
 some ⟨1,24,.slice none 0 0,.slice 22⟩,
 none,
 none,
 none,
 none,
 some ⟨3,24,.agg #[.int .i64 0,.int .i64 0,.int .i64 0],.struct [(0,3),(1,3),(2,3)]⟩,
 some ⟨3,24,.agg #[.int .i64 0,.int .i64 0,.int .i64 0],.struct [(0,3),(1,3),(2,3)]⟩,
 some ⟨1,24,.slice none 0 0,.slice 58⟩,
 some ⟨1,8,.pointer none,.ptr⟩,
 some ⟨1,24,.slice none 0 0,.slice 101⟩,
 some ⟨1,24,.slice none 0 0,.slice 101⟩,
 none,
 some ⟨2,16,.agg #[.int .i64 0,.int .i64 0],.struct [(0,3),(1,3)]⟩,
 some ⟨2,16,.agg #[.int .i64 0,.int .i64 0],.struct [(0,3),(1,3)]⟩,
 none,
 none,
 none,
 none,
 none,
 some ⟨1,8,.pointer none,.ptr⟩,
 some ⟨7,136,.agg #[.slice none 0 0,.slice none 0 0,.slice none 0 0,.slice none 0 0,.int .i64 0,.slice none 0 0,.int .i64 0],.struct [(0,26),(4,38),(6,3)]⟩,
 some ⟨7,136,.agg #[.slice none 0 0,.slice none 0 0,.slice none 0 0,.slice none 0 0,.int .i64 0,.slice none 0 0,.int .i64 0],.struct [(0,26),(4,38),(6,3)]⟩,
 none,
 none,
 none,
 none,
 none,
 some ⟨1,24,.slice none 0 0,.slice 118⟩,
 none,
 some ⟨3,24,.agg #[.int .i64 0,.int .i64 0,.int .i64 0],.struct [(0,3),(1,3),(2,3)]⟩,
 some ⟨3,24,.agg #[.int .i64 0,.int .i64 0,.int .i64 0],.struct [(0,3),(1,3),(2,3)]⟩,
 none,
 some ⟨1,8,.pointer none,.ptr⟩,
 none,
 some ⟨3,40,.agg #[.slice none 0 0,.int .i64 0,.int .i64 0],.struct [(0,23),(1,3),(2,3)]⟩,
 some ⟨3,40,.agg #[.slice none 0 0,.int .i64 0,.int .i64 0],.struct [(0,23),(1,3),(2,3)]⟩,
 some ⟨1,24,.slice none 0 0,.slice 123⟩,
 some ⟨1,24,.slice none 0 0,.slice 123⟩,
 none,
 none,
 none,
 none,
 none,
 some ⟨1,8,.pointer none,.ptr⟩,
 some ⟨1,24,.slice none 0 0,.slice 5⟩,
 some ⟨2,32,.agg #[.pointer none,.slice none 0 0],.struct [(0,131),(1,132)]⟩,
 some ⟨2,32,.agg #[.pointer none,.slice none 0 0],.struct [(0,131),(1,132)]⟩,
 none,
 none,
 none,
 none,
 none,
 none,
 none,
 none,
 none,
 none,
 none,
 some ⟨1,16,.nilIface,.iface⟩,
 some ⟨1,16,.nilIface,.iface⟩,
 none,
 none,
 none,
 none,
 none,
 none,
 none,
 none,
 none,
 none,
 none,
 none,
 none,
 none,
 none,
 none,
 some ⟨1,8,.pointer none,.ptr⟩,
 none,
 none,
 none,
 none,
 none,
 some ⟨1,8,.int .u64 0,.int .u64⟩,
 none,
 some ⟨1,8,.pointer none,.ptr⟩,
 some ⟨4,48,.agg #[.slice none 0 0,.int .i64 0,.int .i64 0,.bool false],.struct [(0,22),(1,3),(2,3),(3,4)]⟩,
 some ⟨4,48,.agg #[.slice none 0 0,.int .i64 0,.int .i64 0,.bool false],.struct [(0,22),(1,3),(2,3),(3,4)]⟩,
 none,
 none,
 some ⟨1,24,.slice none 0 0,.slice 79⟩,
 none,
 none,
 none,
 none,
 none,
 none,
 none,
 none,
 none,
 none,
 none,
 none,
 some ⟨1,8,.int .i64 0,.int .i64⟩,
 none,
 none,
 none,
 none,
 none,
 none,
 some ⟨1,4,.int .u32 0,.int .u32⟩,
 none,
 some ⟨1,8,.int .u64 0,.int .u64⟩,
 none,
 none,
 none,
 none,
 none,
 none,
 none,
 none,
 none,
 none,
 none,
 none,
 some ⟨24,24,.agg #[.int .u8 0,.int .u8 0,.int .u8 0,.int .u8 0,.int .u8 0,.int .u8 0,.int .u8 0,.int .u8 0,.int .u8 0,.int .u8 0,.int .u8 0,.int .u8 0,.int .u8 0,.int .u8 0,.int .u8 0,.int .u8 0,.int .u8 0,.int .u8 0,.int .u8 0,.int .u8 0,.int .u8 0,.int .u8 0,.int .u8 0,.int .u8 0],.array 24 5⟩,
 none,
 none,
 none,
 some ⟨1,8,.int .u64 0,.int .u64⟩,
 none,
 none,
 none,
 some ⟨1,8,.pointer none,.ptr⟩,
 none,
 none,
 none,
 none,
 none,
 none,
 none,
 none,
 none,
 none,
 some ⟨20,160,.agg #[.int .u64 0,.int .u64 0,.int .u64 0,.int .u64 0,.int .u64 0,.int .u64 0,.int .u64 0,.int .u64 0,.int .u64 0,.int .u64 0,.int .u64 0,.int .u64 0,.int .u64 0,.int .u64 0,.int .u64 0,.int .u64 0,.int .u64 0,.int .u64 0,.int .u64 0,.int .u64 0],.array 20 199⟩,
 none,
 some ⟨1,8,.pointer none,.ptr⟩,
 none,
 none,
 none,
 none,
 none,
 none,
 none,
 some ⟨32,32,.agg #[.int .u8 0,.int .u8 0,.int .u8 0,.int .u8 0,.int .u8 0,.int .u8 0,.int .u8 0,.int .u8 0,.int .u8 0,.int .u8 0,.int .u8 0,.int .u8 0,.int .u8 0,.int .u8 0,.int .u8 0,.int .u8 0,.int .u8 0,.int .u8 0,.int .u8 0,.int .u8 0,.int .u8 0,.int .u8 0,.int .u8 0,.int .u8 0,.int .u8 0,.int .u8 0,.int .u8 0,.int .u8 0,.int .u8 0,.int .u8 0,.int .u8 0,.int .u8 0],.array 32 5⟩,
 some ⟨64,64,.agg #[.int .u8 0,.int .u8 0,.int .u8 0,.int .u8 0,.int .u8 0,.int .u8 0,.int .u8 0,.int .u8 0,.int .u8 0,.int .u8 0,.int .u8 0,.int .u8 0,.int .u8 0,.int .u8 0,.int .u8 0,.int .u8 0,.int .u8 0,.int .u8 0,.int .u8 0,.int .u8 0,.int .u8 0,.int .u8 0,.int .u8 0,.int .u8 0,.int .u8 0,.int .u8 0,.int .u8 0,.int .u8 0,.int .u8 0,.int .u8 0,.int .u8 0,.int .u8 0,.int .u8 0,.int .u8 0,.int .u8 0,.int .u8 0,.int .u8 0,.int .u8 0,.int .u8 0,.int .u8 0,.int .u8 0,.int .u8 0,.int .u8 0,.int .u8 0,.int .u8 0,.int .u8 0,.int .u8 0,.int .u8 0,.int .u8 0,.int .u8 0,.int .u8 0,.int .u8 0,.int .u8 0,.int .u8 0,.int .u8 0,.int .u8 0,.int .u8 0,.int .u8 0,.int .u8 0,.int .u8 0,.int .u8 0,.int .u8 0,.int .u8 0,.int .u8 0],.array 64 5⟩,
 none,
 none,
 none,
 none,
 none,
 none,
 none,
 none,
 none,
 some ⟨4,40,.agg #[.pointer none,.pointer none,.pointer none,.string .empty],.struct [(0,17),(1,17),(2,17),(3,9)]⟩,
 some ⟨4,40,.agg #[.pointer none,.pointer none,.pointer none,.string .empty],.struct [(0,17),(1,17),(2,17),(3,9)]⟩,
 some ⟨0,0,.agg #[],.array 0 16⟩,
 some ⟨0,0,.agg #[],.struct [(0,254)]⟩,
 some ⟨0,0,.agg #[],.struct [(0,254)]⟩,
 some ⟨1,1,.int .u8 0,.int .u8⟩,
 some ⟨1,1,.int .u8 0,.int .u8⟩,
 none,
 some ⟨1,4,.int .i32 0,.int .i32⟩,
 some ⟨1,4,.int .i32 0,.int .i32⟩,
 some ⟨11,48,.agg #[.int .u64 0,.int .u64 0,.int .u32 0,.int .u8 0,.int .u8 0,.int .u8 0,.int .u8 0,.nilFunc,.pointer none,.int .i32 0,.int .i32 0],.struct [(0,12),(1,12),(2,197),(3,257),(4,5),(5,5),(6,258),(7,259),(8,164),(9,260),(10,261)]⟩,
 some ⟨11,48,.agg #[.int .u64 0,.int .u64 0,.int .u32 0,.int .u8 0,.int .u8 0,.int .u8 0,.int .u8 0,.nilFunc,.pointer none,.int .i32 0,.int .i32 0],.struct [(0,12),(1,12),(2,197),(3,257),(4,5),(5,5),(6,258),(7,259),(8,164),(9,260),(10,261)]⟩]
theorem Zazb : Zaqo Tryz.prog 0 Zavl:=⟨ty_2,ty_3,ty_4,ty_5,ty_6,ty_7,ty_8,ty_9,Zazc,Zazd,Zaze,Zazf,Zazg,Zazh,Zazi,Zazj,Zazk,Zazl,Zazm,Zazn,Zazo,Zazp,Zazq,Zazr,Zazs,Zazt,Zazu,Zazv,Zazw,Zazx,Zazy,Zazz,Zaz0,Zaz1,Zaz2,Zaz3,Zaz4,Zaz5,Zaz6,Zaz7,Zaz8,Zaz9,Za0a,Za0b,Za0c,Za0d,Za0e,Za0f,Za0g,Za0h,Za0i,Za0j,Za0k,Za0l,Za0m,Zaw9,Zaxa,Zaxb,Zaxc,Zaxd,Zaxe,Zaxf,Zaxg,Zaxh,Zaxi,Zaxj,Zaxk,Zaxl,Zaxm,Zaxn,Zaxo,Zaxp,Zaxq,Zaxr,Zaxs,Zaxt,Zaxu,Zaxv,Zaxw,Zaxx,Zaxy,Zaxz,Zax0,Zax1,Zax2,Zax3,Zax4,Zax5,Zax6,Zax7,Zax8,Zax9,Zaya,Zayb,Zayc,Zayd,Zaye,Zayf,Zayg,Zayh,Zayi,trivial⟩
theorem Zbz (t:Nat)(ti:TI)(h:Zavl[t]?=some (some ti)):TyOk Tryz.prog t ti:=by
 have:=Zac1 Zazb t ti h
 rwa [Nat.zero_add]at this
def cI (z:Int):List AV:=[.c (.int .i64 z)]
def cF (x:Zaa):List AV:=[.c (.int .i64 x.1),.c (.int .i64 x.2)]
def cN (x:Zaw):List AV:=[.sl 2 (x.1.map cF),.c (.int .i64 x.2)]
theorem Zpd {z:Int}(h1:-9223372036854775808<=z)(h2:z<=9223372036854775807):IntKind.i64.wrap z=z:=by
 rw[IntKind.wrap_i64]
 omega
theorem Zad {α β:Type}{l:List α}{f:α->β}{k:Nat}{x:α}(h:l[k]?=some x):(l.map f)[k]?=some (f x):=by
 rw[List.getElem?_map,h]
 rfl
theorem Zgt {α:Type}{l:List α}{f:α->List AV}(h:∀x∈l,∀y∈f x,Fr y):FrL (l.map f):=by
 intro e he y hy
 obtain⟨x,hx,rfl⟩:=List.mem_map.1 he
 exact h x hx y hy
theorem Zayw (x:Zaa):∀y∈cF x,Fr y:=by
 intro y hy
 simp[cF]at hy
 rcases hy with rfl|rfl <;> exact .c _
theorem Zsi (l:List Zaa):FrL (l.map cF):=Zgt (λx _=>Zayw x)
theorem Zayx (x:Zaw):∀y∈cN x,Fr y:=by
 intro y hy
 simp[cN]at hy
 rcases hy with rfl|rfl
 ·exact .sl (Zsi _)
 ·exact .c _
theorem Zaof (l:List Zaw):FrL (l.map cN):=Zgt (λx _=>Zayx x)
theorem Zrh (l:List Int):FrL (l.map cI):=Zgt (λx _ y hy=>by simp[cI]at hy;subst hy;exact .c _)
theorem Zald {a b:List (List AV)}(h1:FrL a)(h2:FrL b):FrL (a++b):=by
 intro e he
 rcases List.mem_append.1 he with h|h
 ·exact h1 e h
 ·exact h2 e h
theorem Zsk {α β:Type}{l:List α}{f:α->β}{k:Nat}{e:β}(h:(l.map f)[k]?=some e):∃x,l[k]?=some x/\e=f x:=by
 rw[List.getElem?_map]at h
 cases hx:l[k]? with
 | none=>rw[hx]at h;cases h
 | some x=>rw[hx]at h;simp at h;exact⟨x,rfl,h.symm⟩
def sel {α:Type}(b:Bool)(x y:Option α):Option α :=
 match b with
 | true=>x
 | false=>y
def grd {α:Type}(p:Prop) [Decidable p](x:Option α):Option α:=if p then x else none
def ixn {α β:Type}(l:List α)(i:Nat)(k:α->Option β):Option β :=
 match l[i]? with
 | some y=>k y
 | none=>none
def ix {α β:Type}(l:List α)(i:Int)(k:α->Option β):Option β:=ixn l i.toNat (λy=>grd (0<=i) (k y))
def ob1 {α β:Type}(x:Option α)(k:α->Option β):Option β :=
 match x with
 | some a=>k a
 | none=>none
def ob2 {α β γ:Type}(x:Option (α×β))(k:α->β->Option γ):Option γ :=
 match x with
 | some (a,b)=>k a b
 | none=>none
def ob3 {α β γ δ:Type}(x:Option (α×β×γ))(k:α->β->γ->Option δ):Option δ :=
 match x with
 | some (a,b,c)=>k a b c
 | none=>none
def Zj9 {α β γ:Type}(f:α->Option γ)(g:β->Option γ):α⊕β->Option γ
 | .inl a=>f a
 | .inr b=>g b
inductive Er where
 | nil
 | no (z:Int)
 deriving DecidableEq
def eA : Er->AV
 | .nil=>.c .nilIface
 | .no z=>.ifc 44 (.c (.int .i64 z))
def erM {α:Type}(e:Er)(x:Option α)(k:Int->Option α):Option α :=
 match e with
 | .nil=>x
 | .no z=>k z
abbrev byt (s:ByteArray)(i:Int):Int:=((s.data.getD i.toNat 0).toNat:Int)
section
variable {α β γ δ ε : Type}
theorem Zaw3 {b:Bool}{x y z:Option α}(hb:b=true)(h:sel b x y=z):x=z:=by subst hb;exact h
theorem Zaw2 {b:Bool}{x y z:Option α}(hb:b=false)(h:sel b x y=z):y=z:=by subst hb;exact h
theorem spl {b:Bool}{x y z:Option α}{P Q:Prop}(h:sel b x y=z)(t:b=true->x=z->P)(f:b=false->y=z->Q):(b=true->P)/\(b=false->Q):=⟨λhb=>t hb (Zaw3 hb h),λhb=>f hb (Zaw2 hb h)⟩
theorem spf {b:Bool}{x y z:Option α}{P Q:Prop}(h:sel b x y=z)(f:b=false->y=z->Q)(t:b=true->x=z->P):(b=false->Q)/\(b=true->P):=⟨λhb=>f hb (Zaw2 hb h),λhb=>t hb (Zaw3 hb h)⟩
theorem Zll {P Q:Prop}(h:P):(true=true->P)/\(true=false->Q):=⟨λ_=>h,λe=>(by cases e)⟩
theorem Znf {P Q:Prop}(h:Q):(false=true->P)/\(false=false->Q):=⟨λe=>(by cases e),λ_=>h⟩
theorem Zaf {p:Prop} [Decidable p]{x:Option α}{z:α}(h:grd p x=some z):p/\x=some z:=by
 unfold grd at h
 split at h
 ·exact⟨by assumption,h⟩
 ·cases h
theorem Zcm {l:List α}{i:Nat}{k:α->Option β}{z:β}(h:ixn l i k=some z):∃y,l[i]?=some y/\k y=some z:=by
 unfold ixn at h
 split at h
 ·exact⟨_,by assumption,h⟩
 ·cases h
theorem Za9 {l:List α}{i:Int}{k:α->Option β}{z:β}(h:ix l i k=some z):∃y,l[i.toNat]?=some y/\0<=i/\k y=some z:=by
 obtain⟨y,h1,h2⟩:=Zcm h
 obtain⟨h3,h4⟩:=Zaf h2
 exact⟨y,h1,h3,h4⟩
theorem Zae {x:Option α}{k:α->Option β}{z:β}(h:ob1 x k=some z):∃a,x=some a/\k a=some z:=by
 match x,h with
 | some a,h=>exact⟨a,rfl,h⟩
theorem Zdv {x:Option (α×β)}{k:α->β->Option γ}{z:γ}(h:ob2 x k=some z):∃a b,x=some (a,b)/\k a b=some z:=by
 match x,h with
 | some (a,b),h=>exact⟨a,b,rfl,h⟩
theorem Zvx {x:Option (α×β×γ)}{k:α->β->γ->Option δ}{z:δ}(h:ob3 x k=some z):∃a b c,x=some (a,b,c)/\k a b c=some z:=by
 match x,h with
 | some (a,b,c),h=>exact⟨a,b,c,rfl,h⟩
theorem Zcx {f:α->Option γ}{g:β->Option γ}{a:α}{z:Option γ}(h:Zj9 f g (.inl a)=z):f a=z:=h
theorem Za4 {f:α->Option γ}{g:β->Option γ}{b:β}{z:Option γ}(h:Zj9 f g (.inr b)=z):g b=z:=h
theorem Zdn {x:Option α}{k:Int->Option α}{z:Option α}(h:erM .nil x k=z):x=z:=h
theorem Zlf {x:Option α}{k:Int->Option α}{e:Int}{z:Option α}(h:erM (.no e) x k=z):k e=z:=h
theorem Zak {f:Nat->Option α}{n:Nat}{o:α}(h0:f 0=none)(h:f n=some o):∃k,n=k+1/\f (k+1)=some o:=by
 cases n with
 | zero=>rw[h0]at h;cases h
 | succ k=>exact⟨k,rfl,h⟩
theorem ltS {n k:Nat}(h:n=k+1):k<n:=by omega
theorem inj1 {a b:α}(h:some a=some b):a=b:=sI_ h
theorem Zw6 {a a':α}{b b':β}(h:some (a,b)=some (a',b')):a=a'/\b=b':=by injection h with h;injection h with h1 h2;exact⟨h1,h2⟩
theorem inj3 {a a':α}{b b':β}{c c':γ}(h:some (a,b,c)=some (a',b',c')):a=a'/\b=b'/\c=c':=by injection h with h;injection h with h1 h2;injection h2 with h2 h3;exact⟨h1,h2,h3⟩
end
section
variable {C : Cx} {Q : Exit -> St -> Prop} {s : St}
theorem Zat {α:Type}{x y:Code}(I:α->St)(P:α->Prop)(h1:AWP C x (Zai1 (λs'=>∃v,P v/\leK s' (I v) True) Q) s)
  (h2:∀v,P v->Zdo (I v).tm (λtm=>Zdo (I v).hp (λhp=>True->AWP C y Q ⟨tm,hp⟩))):AWP C (.seq x y) Q s:=by
 refine aSq (Zaqq h1 (λe s' h=>?_))
 cases e <;> first|exact h|skip
 obtain⟨v,hp,hl⟩:=h
 have h3:=Zcl (Zcl (h2 v hp)) trivial
 exact Zask hl h3
end
theorem Zam7 : FrL []:=λe he=>by cases he
theorem Zaql {e:List AV}{l:List (List AV)}(h1:∀y∈e,Fr y)(h2:FrL l):FrL (e :: l):=by
 intro a ha
 rcases List.mem_cons.1 ha with rfl|h
 ·exact h1
 ·exact h2 a h
theorem Zd2 : ∀y∈([]:List AV),Fr y:=λy hy=>by cases hy
theorem Zaz {x:AV}{r:List AV}(h1:Fr x)(h2:∀y∈r,Fr y):∀y∈x :: r,Fr y:=by
 intro a ha
 rcases List.mem_cons.1 ha with rfl|h
 ·exact h1
 ·exact h2 a h
theorem Zatn {l:List (List AV)}{k:Nat}{e:List AV}(h1:FrL l)(h2:∀y∈e,Fr y):FrL (l.set k e):=by
 intro a ha
 rcases List.mem_or_eq_of_mem_set ha with h|rfl
 ·exact h1 a h
 ·exact h2
theorem Zayz (e:Er):Fr (eA e):=by
 cases e
 ·exact .c _
 ·exact .ifc (.c _)
theorem Zav8 (e:Er):fr0 (eA e):=by cases e <;> first|trivial|exact .ifc (.c _)
theorem Zawa (e:Er):fr1 (eA e):=by cases e <;> first|trivial|exact .ifc (.c _)
theorem Zasw {x:AV}(h:Fr x):fr1 x:=by
 cases h with
 | agg h =>
  rename_i cs
  show frs0 cs
  induction cs with
  | nil=>trivial
  | cons y r ih=>exact⟨by have:=h y (by simp);unfold fr0;split <;> first|trivial|exact this,ih (λz hz=>h z (by simp[hz]))⟩
 | tup h =>
  rename_i cs
  show frs0 cs
  induction cs with
  | nil=>trivial
  | cons y r ih=>exact⟨by have:=h y (by simp);unfold fr0;split <;> first|trivial|exact this,ih (λz hz=>h z (by simp[hz]))⟩
 | c v=>trivial
 | sl h=>trivial
 | pim h=>exact .pim h
 | clo h1 h2=>exact .clo h1 h2
 | ifc h=>exact .ifc h
theorem Zh2 {α β:Type}{l:List α}{f:α->β}:(l.map f).take l.length=l.map f:=tL_ (Nat.le_of_eq (lM_ _))
class FrI (l:List (List AV)):Prop where
 h:FrL l
class FrE (e:List AV):Prop where
 h:∀y∈e,Fr y
class FrV (x:AV):Prop where
 h:Fr x
instance : FrI []:=⟨Zam7⟩
instance {e:List AV}{l:List (List AV)}[a:FrE e][b:FrI l]:FrI (e :: l):=⟨Zaql a.h b.h⟩
instance {l r:List (List AV)}[a:FrI l][b:FrI r]:FrI (l++r):=⟨Zald a.h b.h⟩
instance {l:List (List AV)}{k:Nat}{e:List AV}[a:FrI l][b:FrE e]:FrI (l.set k e):=⟨Zatn a.h b.h⟩
instance {l:List (List AV)}{k:Nat}[a:FrI l]:FrI (l.take k):=⟨λe he=>a.h e (List.mem_of_mem_take he)⟩
instance {l:List (List AV)}{k:Nat}[a:FrI l]:FrI (l.drop k):=⟨λe he=>a.h e (List.mem_of_mem_drop he)⟩
instance : FrE []:=⟨Zd2⟩
instance {x:AV}{r:List AV}[a:FrV x][b:FrE r]:FrE (x :: r):=⟨Zaz a.h b.h⟩
instance {v:Value}:FrV (.c v):=⟨.c v⟩
instance {sz:Nat}{l:List (List AV)}[a:FrI l]:FrV (.sl sz l):=⟨.sl a.h⟩
instance {t:Nat}{x:AV}[a:FrV x]:FrV (.ifc t x):=⟨.ifc a.h⟩
instance {e:Er}:FrV (eA e):=⟨Zayz e⟩
instance {cs:List AV}[a:FrE cs]:FrV (.agg cs):=⟨.agg a.h⟩
instance {e:List AV}{j:Nat}[a:FrE e]:FrV (.pim e j):=⟨.pim a.h⟩
instance {f:Fn}{cs ds:List AV}[a:FrE cs][b:FrE ds]:FrV (.clo f cs ds):=⟨.clo a.h b.h⟩
instance {l:List Zaa}:FrI (l.map cF):=⟨Zsi l⟩
instance {l:List Zaw}:FrI (l.map cN):=⟨Zaof l⟩
instance {l:List Int}:FrI (l.map cI):=⟨Zrh l⟩
def cS (x:ByteArray):List AV:=[.c (.string x)]
theorem Zayy (x:ByteArray):∀y∈cS x,Fr y:=Zaz (.c _) Zd2
theorem Zawb (l:List ByteArray):FrL (l.map cS):=Zgt (λx _=>Zayy x)
instance {l:List ByteArray}:FrI (l.map cS):=⟨Zawb l⟩
def cB (x:Bool):List AV:=[.c (.bool x)]
theorem Zayv (x:Bool):∀y∈cB x,Fr y:=Zaz (.c _) Zd2
theorem Zaod (l:List Bool):FrL (l.map cB):=Zgt (λx _=>Zayv x)
instance {l:List Bool}:FrI (l.map cB):=⟨Zaod l⟩
def c_u8 (x:Int):List AV:=[.c (.int .u8 x)]
theorem Zat9 (x:Int):∀y∈c_u8 x,Fr y:=Zaz (.c _) Zd2
theorem Zaq8 (l:List Int):FrL (l.map c_u8):=Zgt (λx _=>Zat9 x)
instance {l:List Int}:FrI (l.map c_u8):=⟨Zaq8 l⟩
def bys (s:ByteArray):List Int:=s.data.toList.map (λc=>(c.toNat:Int))
def Zn3 (η:Nat->Ent)(bs:List Nat):Nat->Ent:=λi=>if i∈bs then⟨(η i).ver,none⟩else η i
theorem Zadb {η:Nat->Ent}{bs:List Nat}{i:Nat}(h:i∈bs):(Zn3 η bs i).blk=none:=by simp[Zn3,h]
theorem Zs8 {η:Nat->Ent}{bs:List Nat}{i:Nat}(h:i∉bs):Zn3 η bs i=η i:=by simp[Zn3,h]
theorem Zab4 {η:Nat->Ent}{bs:List Nat}{i ver:Nat}{B:Blk}(h1:η i=⟨ver,some B⟩)(h2:(Zn3 η bs i).blk=none):i∈bs:=by
 by_cases h:i∈bs
 ·exact h
 ·rw[Zs8 h,h1]at h2;cases h2
theorem BW.congr {η η1:Nat->Ent}{bs:List Nat}(h:∀i∈bs,η1 i=η i){x y:AV}(hb:BW η (Zn3 η bs) x y):BW η1 (Zn3 η1 bs) x y:=by
 induction hb with
 | fr h=>exact .fr h
 | sl=>exact .sl
 | nil=>exact .nil
 | own h1 h2 hs hl hl2 _ hkl hfr hmax he ih =>
  have hi:=Zab4 h1 h2
  exact .own (by rw[h _ hi,h1]) (Zadb hi) hs hl hl2 ih hkl hfr hmax he
 | ptr hM h1 h2 he hl _ ih =>
  have hi:=Zab4 h1 h2
  exact .ptr hM (by rw[h _ hi,h1]) (Zadb hi) he hl ih
 | agg hl _ ih=>exact .agg hl ih
 | clo hl _ hl2 _ ih ih2=>exact .clo hl ih hl2 ih2
theorem BW.free {η η':Nat->Ent}{w:World}{vs:Shp}{m:MM}{x y:AV}(hb:BW η η' x y):∀{v:Value},RV w vs m y v->Fr y:=by
 induction hb with
 | fr h=>exact λ_=>h
 | sl =>
  intro v hv
  obtain⟨_,_,_,_,_,_,_,_,_,_,_,_,hfr⟩:=Zxj hv
  exact .sl hfr
 | nil=>exact λ_=>.sl Zam7
 | own h1 h2 hs hl hl2 _ hkl hfr hmax he ih=>intro v hv;rw[he];exact .sl (λe he'=>hfr e (List.mem_of_mem_drop (List.mem_of_mem_take he')))
 | @ptr i ver k j0 B e e' _ h1 h2 he hl _ ih =>
  intro v hv
  obtain⟨b,off,f,_,_,_,_,hr⟩:=Zacg hv
  refine .pim (λx' hx'=>?_)
  obtain⟨j,hj⟩:=List.getElem?_of_mem hx'
  have hlt:j<e.length:=by rw[<-hl];exact(gS_.1 hj).1
  exact ih j _ x' (gE_ hlt) hj (hr j x' hj)
 | agg hl _ ih =>
  intro v hv
  obtain⟨us,rfl,hlen,hr⟩:=Zt1 hv
  refine .agg (λx' hx'=>?_)
  obtain⟨j,hj⟩:=List.getElem?_of_mem hx'
  have hlt:=(gS_.1 hj).1
  exact ih j _ x' (gE_ (by omega)) hj (hr j x' us[j] hj (aE_ (by omega)))
 | clo hl _ hl2 _ ih ih2 =>
  intro v hv
  obtain⟨us,us',rfl,l1,r1,l2,r2⟩:=Zacf hv
  refine .clo (λx' hx'=>?_) (λx' hx'=>?_)
  ·obtain⟨j,hj⟩:=List.getElem?_of_mem hx'
   have hlt:=(gS_.1 hj).1
   exact ih j _ x' (gE_ (by omega)) hj (r1 j x' us[j] hj (aE_ (by omega)))
  ·obtain⟨j,hj⟩:=List.getElem?_of_mem hx'
   have hlt:=(gS_.1 hj).1
   exact ih2 j _ x' (gE_ (by omega)) hj (r2 j x' us'[j] hj (aE_ (by omega)))
inductive BWL (η η':Nat->Ent):List AV->List AV->Prop
 | nil:BWL η η' [] []
 | cons {x y:AV} {r s:List AV}:BW η η' x y->BWL η η' r s->BWL η η' (x :: r) (y :: s)
section
variable {η η' : Nat -> Ent}
theorem BWL.len {xs ys:List AV}(h:BWL η η' xs ys):xs.length=ys.length:=by
 induction h with
 | nil=>rfl
 | cons _ _ ih=>simp[ih]
theorem BWL.at {xs ys:List AV}(h:BWL η η' xs ys):∀(j:Nat)(x y:AV),xs[j]?=some x->ys[j]?=some y->BW η η' x y:=by
 induction h with
 | nil=>intro j x y hx;simp at hx
 | cons h1 _ ih =>
  intro j x y hx hy
  cases j with
  | zero=>simp at hx hy;subst hx hy;exact h1
  | succ j=>exact ih j x y (by simpa using hx) (by simpa using hy)
def BWLL (η η':Nat->Ent)(els els':List (List AV)):Prop:=els'.length=els.length/\∀(k:Nat) (e e':List AV),els[k]?=some e->els'[k]?=some e'->e'.length=e.length/\∀(j:Nat) (x x':AV),e[j]?=some x->e'[j]?=some x'->BW η η' x x'
theorem Zahd {els:List (List AV)}(h:FrL els):BWLL η η' els els:=by
 refine⟨rfl,λk e e' h1 h2=>?_⟩
 rw[h1]at h2
 injection h2 with h2
 subst h2
 refine⟨rfl,λj x x' h3 h4=>?_⟩
 rw[h3]at h4
 injection h4 with h4
 subst h4
 exact .fr (h e (mG_ h1) x (mG_ h3))
theorem Zanj {e e':List AV}{r r':List (List AV)}(h1:BWL η η' e e')(h2:BWLL η η' r r'):BWLL η η' (e :: r) (e' :: r'):=by
 refine⟨by simp[h2.1],λk q q' hq hq'=>?_⟩
 cases k with
 | zero=>simp at hq hq';subst hq hq';exact⟨h1.len.symm,h1.at⟩
 | succ k=>exact h2.2 k q q' (by simpa using hq) (by simpa using hq')
theorem Zzu {a a' b b':List (List AV)}(h1:BWLL η η' a a')(h2:BWLL η η' b b'):BWLL η η' (a++b) (a'++b'):=by
 refine⟨by simp[h1.1,h2.1],λk q q' hq hq'=>?_⟩
 rw[List.getElem?_append]at hq hq'
 rw[h1.1]at hq'
 split at hq
 ·rename_i hlt
  rw[if_pos hlt]at hq'
  exact h1.2 k q q' hq hq'
 ·rename_i hlt
  rw[if_neg hlt]at hq'
  exact h2.2 _ q q' hq hq'
theorem Zajl {a a':List (List AV)}{e e':List AV}{k k':Nat}(hk:k=k')(h1:BWLL η η' a a')(h2:BWL η η' e e'):BWLL η η' (a.set k e) (a'.set k' e'):=by
 subst hk
 refine⟨by simp[h1.1],λi q q' hq hq'=>?_⟩
 by_cases hi:i=k
 ·subst hi
  have hlt:i<a.length:=by have:=(gS_.1 hq).1;simpa using this
  rw[List.getElem?_set_self hlt]at hq
  rw[List.getElem?_set_self (by rw[h1.1];exact hlt)]at hq'
  simp at hq hq'
  subst hq hq'
  exact⟨h2.len.symm,h2.at⟩
 ·rw[List.getElem?_set_ne (λe=>hi e.symm)]at hq hq'
  exact h1.2 i q q' hq hq'
theorem Zavy {i ver k len sz:Nat}{B:Blk}{l:List (List AV)}(h1:η i=⟨ver,some B⟩)(h2:(η' i).blk=none)(hs:B.sz=sz)(hkl:k+len<=B.els.length)(hfr:FrL B.els)(hmax:len<=140737488355328)(hl:l=(B.els.drop k).take len):BW η η' (.own i ver k len) (.sl sz l) :=
 .own h1 h2 hs rfl (λk e e' q1 q2=>((Zahd (η:=η) (η':=η') hfr).2 k e e' q1 q2).1) (λk e e' q1 q2=>((Zahd hfr).2 k e e' q1 q2).2) hkl hfr hmax hl
theorem Zatx {i ver k len sz:Nat}{B:Blk}{els' l:List (List AV)}(h1:η i=⟨ver,some B⟩)(h2:(η' i).blk=none)(hs:B.sz=sz)(hw:BWLL η η' B.els els')(hkl:k+len<=els'.length)(hfr:FrL els')(hmax:len<=140737488355328)(hl:l=(els'.drop k).take len):BW η η' (.own i ver k len) (.sl sz l) :=
 .own h1 h2 hs hw.1 (λk e e' q1 q2=>(hw.2 k e e' q1 q2).1) (λk e e' q1 q2=>(hw.2 k e e' q1 q2).2) hkl hfr hmax hl
theorem Zaew {els els':List (List AV)}(h:els=els')(hf:FrL els):BWLL η η' els els':=by subst h;exact Zahd hf
theorem Zaty {i ver len sz:Nat}{B:Blk}{l:List (List AV)}(h1:η i=⟨ver,some B⟩)(h2:(η' i).blk=none)(hs:B.sz=sz)(hfr:FrL l)(hw:BWLL η η' B.els l)(hlen:len=l.length)(hmax:len<=140737488355328):BW η η' (.own i ver 0 len) (.sl sz l) :=
 Zatx h1 h2 hs hw (by omega) hfr hmax (by rw[List.drop_zero,hlen,List.take_length])
theorem Zavz {i ver k j:Nat}{B:Blk}{e e':List AV}(h1:η i=⟨ver,some B⟩)(h2:(η' i).blk=none)(he:B.els[k]?=some e)(hw:BWL η η' e e')(hM:isM B.box B.ty=false:=by rfl):BW η η' (.ptr i ver k j) (.pim e' j):=.ptr hM h1 h2 he hw.len.symm hw.at
theorem Zavw {cs cs':List AV}(h:BWL η η' cs cs'):BW η η' (.agg cs) (.agg cs'):=.agg h.len h.at
theorem Zavx {f:Fn}{ds ds':List AV}(h:BWL η η' ds ds'):BW η η' (.clo f [] ds) (.clo f [] ds'):=.clo rfl (λj x x' hx=>by simp at hx) h.len h.at
theorem bw_c {v:Value}:BW η η' (.c v) (.c v):=.fr (.c v)
theorem Zaev {bs:List Nat}{η1:Nat->Ent}(h:∀i∈bs,η1 i=η i){xs ys:List AV}(hb:BWL η (Zn3 η bs) xs ys):BWL η1 (Zn3 η1 bs) xs ys:=by
 induction hb with
 | nil=>exact .nil
 | cons h1 _ ih=>exact .cons (h1.congr h) ih
end
def Zamm : AV->Prop
 | .c _=>True
 | .ifc _ (.c _)=>True
 | _=>False
def Zar2 : List AV->Prop
 | []=>True
 | x :: r=>Zamm x/\Zar2 r
def scal : AV->Prop
 | .tup cs=>Zar2 cs
 | .agg cs=>Zar2 cs
 | x=>Zamm x
theorem Zar1 (e:Er):Zamm (eA e):=by cases e <;> trivial
theorem Zau8 (e:Er):scal (eA e):=by cases e <;> trivial
theorem Zad5 {w w':World}{vs vs':Shp}{m m':MM}{x:AV}{v:Value}(hx:Zamm x)(h:RV w vs m x v):RV w' vs' m' x v:=by
 unfold Zamm at hx
 split at hx
 ·rw[Zjp h];exact .c _
 ·obtain⟨u,rfl,h1⟩:∃u,v=.iface _ u/\RV w vs m _ u:=by cases h with|ifc h=>exact⟨_,rfl,h⟩
  rw[Zjp h1]
  exact .ifc (.c _)
 ·exact hx.elim
theorem Zad6 : ∀{l:List AV}{j:Nat}{x:AV},Zar2 l->l[j]?=some x->Zamm x
 | [],_,_,_,h=>by simp at h
 | y :: r,0,x,h,hx=>by simp at hx;subst hx;exact h.1
 | y :: r,j+1,x,h,hx=>Zad6 (l:=r) (j:=j) h.2 (by simpa using hx)
theorem Zau5 {w w':World}{vs vs':Shp}{m m':MM}{x:AV}{v:Value}(hx:scal x)(h:RV w vs m x v):RV w' vs' m' x v:=by
 unfold scal at hx
 split at hx
 ·obtain⟨us,rfl,h1,h2⟩:=Zagm h
  exact .tup h1 (λj y u hy hu=>Zad5 (Zad6 hx hy) (h2 j y u hy hu))
 ·obtain⟨us,rfl,h1,h2⟩:=Zt1 h
  exact .agg h1 (λj y u hy hu=>Zad5 (Zad6 hx hy) (h2 j y u hy hu))
 ·exact Zad5 hx h
section
variable {C : Cx} {n : Nat}
theorem lend {f:FuncId}{r:AV}{τ':Nat->AV}{η':Nat->Ent}{bs:List Nat}{os:Array Operand}{ys:List AV}{w0:World}{X:XX}{m:MM}{a:Act}{w:World}(h:Rep C n w0 X τ' η' m a w)
  (hb:BWL η' (Zn3 η' bs) (os.toList.map (evA τ')) ys) (hc:ACall C f ys r) :
  Calls C.P f (os.map a.eval) w (λe w'=>∃v,e=.returned v/\RV w' nov (mO (Zdf (shp (Zn3 η' bs)) (mwk η' (Zn3 η' bs) m))) r v/\Kin w (λ_=>False) w'/\C.Gl w'):=by
 have hO:∀b,Zdf (shp (Zn3 η' bs)) (mwk η' (Zn3 η' bs) m) b->b<w.heap.size/\C.N<=b:=by
  intro b hb
  rcases Zyy hb with h1|⟨i,h1,h2⟩
  ·exact h.mem.olt b h1
  ·exact⟨h.mem.lt (Zau.1 h1) h2,h.mem.low i b (Zau.1 h1) h2⟩
 refine hc.2 w _ (os.map a.eval) h.gl h.mem.big hO (by have:=hb.len;simpa using this) (λj y v hy hv=>?_)
 rw[Array.getElem?_map]at hv
 cases hj:os[j]? with
 | none=>rw[hj]at hv;cases hv
 | some q =>
  rw[hj]at hv
  simp at hv
  subst hv
  have hx:(os.toList.map (evA τ'))[j]?=some (evA τ' q):=by simp[hj]
  have hbw:=hb.at j _ y hx hy
  have hrv:=hbw.wv (N:=C.N) w m _ h.mem (h.ev q)
  exact Zxi (hbw.free hrv) (λb hb=>Zhu.1 hb) hrv
theorem Zajm {o:Oper}{f:FuncId}{os:Array Operand}{ats:Array TypeId}{r:AV}{ys:List AV}{a:Act}{w:World}(ho:o.op=.call ⟨.value (.func f),os,ats⟩)(hc:ACall C f ys r):(execOp a.eval o).run C.P w=.ok (.enter f (os.map a.eval)) w:=by
 simp[execOp,ho,resolve,Act.eval,Deferred.ofValue,invoke,hc.1]
theorem Zwv {τ:Nat->AV}{η:Nat->Ent}{w0:World}{X:XX}{m:MM}{a:Act}{w w':World}(h:Rep C n w0 X τ η m a w)(h2:Kin w (λ_=>False) w'):Rep C n w0 X τ η m a w':=by
 have hm:Mono w (shp η) m w' (shp η) m:=by
  refine⟨h2.size,λb hb _=>h2.block b hb (by simp),λ_ _ h=>h,λ_=>Nat.le_refl _,λi _=>⟨rfl,λhl=>⟨rfl,λb hb=>?_⟩⟩⟩
  unfold World.shape?
  rw[h2.block b (h.mem.lt (Zau.1 hl) hb) (by simp)]
 have hmem:Mem C.N w' η m:=⟨λi B hB=>(h.mem.ok i B hB).mono hm (λb hb=>h2.block b (h.mem.lt (by rw[hB];simp) hb) (by simp)),h.mem.inj,h.mem.low,h.mem.sep,λb hb=>⟨Nat.lt_of_lt_of_le (h.mem.olt b hb).1 h2.size,(h.mem.olt b hb).2⟩,Nat.le_trans h.mem.big h2.size⟩
 have hkin:Kin w0 X.X w':=⟨h2.os.trans h.kin.os,h2.tape.trans h.kin.tape,h2.output.trans h.kin.output,Nat.le_trans h.kin.size h2.size,λb hb hx=>by rw[h2.block b (Nat.lt_of_lt_of_le hb h.kin.size) (by simp),h.kin.block b hb hx]⟩
 exact h.move hm hmem hkin rfl h.own (λ_ _=>rfl)
theorem Zarh {o:Oper}{τ:Nat->AV}{η:Nat->Ent}{f:FuncId}{os:Array Operand}{ats:Array TypeId}{r:AV}{xs ys:List AV}(bs:List Nat)(ho:o.op=.call ⟨.value (.func f),os,ats⟩)(hd:InB n o.dst)(hargs:os.toList.map (evA τ)=xs)
  (hb:BWL η (Zn3 η bs) xs ys) (hc:ACall C f ys r) (hr:scal r):LF C n o τ η ⟨r,[],bs⟩:=by
 subst hargs
 intro τ' η' hτ hη w0 X m a w h
 have hmap:os.toList.map (evA τ')=os.toList.map (evA τ):=List.map_congr_left (λy hy=>hτ y (by simp[ho,Op.operands,Call.operands];exact .inr (by simpa using hy)))
 have hb':BWL η' (Zn3 η' bs) (os.toList.map (evA τ')) ys:=by rw[hmap];exact Zaev (λi hi=>hη i (.inl hi)) hb
 unfold Oper.wp
 rw[Zajm ho hc]
 refine Calls.mono (lend h hb' hc) ?_
 rintro e w' ⟨v,rfl,h1,h2,h3⟩
 exact⟨m,(Zwv h h2).put hd (Zau5 hr h1)⟩
theorem Zaed : ∀(us:List (Nat×Ent))(η:Nat->Ent)(g:Nat->Ent)(k:Nat),(∀p∈us,p.2=g p.1)->Zb5 η us k=if k∈us.map (·.1)then g k else η k
 | [],η,g,k,_=>by simp[Zb5]
 | (i,e) :: r,η,g,k,h=>by
  rw[Zb5,Zaed r (Zeo η i e) g k (λp hp=>h p (by simp[hp]))]
  have he:e=g i:=h (i,e) (by simp)
  by_cases hk:k∈r.map (·.1)
  ·rw[if_pos hk,if_pos (by simp only[List.map_cons,List.mem_cons];exact .inr hk)]
  ·rw[if_neg hk]
   by_cases hki:k=i
   ·subst hki;simp[Zeo,he]
   ·rw[if_neg (by simp only[List.map_cons,List.mem_cons];rintro(h|h);exact hki h;exact hk h)]
    simp[Zeo,hki]
theorem Zari {o:Oper}{τ:Nat->AV}{η:Nat->Ent}{f:FuncId}{os:Array Operand}{ats:Array TypeId}{r:AV}{xs ys:List AV}(us:List (Nat×Ent))(hus:∀p∈us,p.2=⟨(η p.1).ver+1,none⟩)(hul:∀p∈us,p.1<n)(ho:o.op=.call ⟨.value (.func f),os,ats⟩)(hd:InB n o.dst)(hargs:os.toList.map (evA τ)=xs)
  (hb:BWL η (Zn3 η (us.map (·.1))) xs ys) (hc:ACall C f ys r) (hr:fr1 r):LF C n o τ η ⟨r,us,[]⟩:=by
 subst hargs
 intro τ' η' hτ hη w0 X m a w h
 obtain⟨bs,hbs⟩:∃bs,bs=us.map (·.1):=⟨_,rfl⟩
 rw[<-hbs]at hb
 have hη':∀i∈bs,η' i=η i:=λi hi=>hη i (.inr (by rw[hbs]at hi;exact hi))
 have hmap:os.toList.map (evA τ')=os.toList.map (evA τ):=List.map_congr_left (λy hy=>hτ y (by simp[ho,Op.operands,Call.operands];exact .inr (by simpa using hy)))
 have hb':BWL η' (Zn3 η' bs) (os.toList.map (evA τ')) ys:=by rw[hmap];exact Zaev hη' hb
 have hup:∀k,Zb5 η' us k=if k∈bs then⟨(η' k).ver+1,none⟩else η' k:=by
  intro k
  rw[Zaed us η' (λi=>⟨(η i).ver+1,none⟩) k hus,hbs]
  by_cases hk:k∈us.map (·.1)
  ·rw[if_pos hk,if_pos hk,hη' k (by rw[hbs];exact hk)]
  ·rw[if_neg hk,if_neg hk]
 have hlive:∀i,(Zb5 η' us i).blk≠none->i∉bs/\Zb5 η' us i=η' i:=by
  intro i hi
  rw[hup]at hi ⊢
  by_cases hk:i∈bs
  ·rw[if_pos hk]at hi;exact absurd rfl hi
  ·exact⟨hk,by rw[if_neg hk]⟩
 have hown:∀b,Zdf (shp (Zb5 η' us)) m b->Zdf (shp (Zn3 η' bs)) (mwk η' (Zn3 η' bs) m) b:=by
  rintro b (h1|⟨i,h1,h2⟩)
  ·exact .inl h1
  ·obtain⟨k1,k2⟩:=hlive i (Zau.1 h1)
   have h3:(η' i).blk≠none:=by rw[<-k2];exact Zau.1 h1
   refine .inr ⟨i,Zau.2 (by rw[Zs8 k1];exact h3),?_⟩
   cases hB:(η' i).blk with
   | none=>exact absurd hB h3
   | some B=>simp only[mwk,Zs8 k1,hB];exact h2
 unfold Oper.wp
 rw[Zajm ho hc]
 refine Calls.mono (lend h hb' hc) ?_
 rintro e w' ⟨v,rfl,h1,h2,h3⟩
 have h4:=Zwv h h2
 have hm:Mono w' (shp η') m w' (shp (Zb5 η' us)) m:=by
  refine⟨Nat.le_refl _,λ_ _ _=>rfl,λb _ hno ho=>hno ?_,λi=>?_,λi hi=>?_⟩
  ·exact Zyy (hown b ho)
  ·show(η' i).ver<=(Zb5 η' us i).ver
   rw[hup]
   split
   ·exact Nat.le_succ _
   ·exact Nat.le_refl _
  ·have:Zb5 η' us i=η' i:=by
    rw[hup]
    split
    ·rename_i hk
     have hi':(Zb5 η' us i).ver=(η' i).ver:=hi
     rw[hup,if_pos hk]at hi'
     simp at hi'
    ·rfl
   exact⟨by simp only[shp,this],λ_=>⟨rfl,λ_ _=>rfl⟩⟩
 have hmem:Mem C.N w' (Zb5 η' us) m:=by
  refine⟨λi B hB=>?_,λi i' b q1 q2 q3 q4=>h4.mem.inj i i' b (by rw[<-(hlive i q1).2];exact q1) (by rw[<-(hlive i' q2).2];exact q2) q3 q4,λi b q1 q2=>h4.mem.low i b (by rw[<-(hlive i q1).2];exact q1) q2,λi b q1 q2=>h4.mem.sep i b (by rw[<-(hlive i q1).2];exact q1) q2,h4.mem.olt,h4.mem.big⟩
  have q:=hlive i (by rw[hB];simp)
  exact(h4.mem.ok i B (by rw[<-q.2];exact hB)).mono hm (λ_ _=>rfl)
 have h5:=h4.move hm hmem h4.kin rfl (λi b q1 q2=>h4.own i b (by rw[<-(hlive i q1).2];exact q1) q2) (λk hk=>by
  have:k∉bs:=λhkb=>by
   rw[hbs]at hkb
   obtain⟨p,hp,rfl⟩:=List.mem_map.1 hkb
   have:=hul p hp
   omega
  rw[hup,if_neg this])
 exact⟨m,h5.put hd (Zagl hr (λb hb=>Zhu.2 (hown b hb)) h1)⟩
def CCl (C:Cx)(F:AV)(xs:List AV)(r:AV):Prop:=∃f fs cap,F=.clo (.func f) fs cap/\ACall C f (fs++xs++cap) r
theorem Zawi {o:Oper}{τ:Nat->AV}{η:Nat->Ent}{c:Operand}{os:Array Operand}{ats:Array TypeId}{r F:AV}{xs:List AV}(ho:o.op=.call ⟨.value c,os,ats⟩)(hd:InB n o.dst)(hF:evA τ c=F)(hargs:os.toList.map (evA τ)=xs)(hc:CCl C F xs r)(hfF:Fr F)(hfr:frs xs)(hr:fr1 r):LF C n o τ η ⟨r,[],[]⟩:=by
 subst hargs
 obtain⟨f,fs,cap,rfl,hen,hcall⟩:=hc
 intro τ' η' hτ _ w0 X m a w h
 have hmap:os.toList.map (evA τ')=os.toList.map (evA τ):=List.map_congr_left (λy hy=>hτ y (by simp[ho,Op.operands,Call.operands];exact .inr (by simpa using hy)))
 have hcv:evA τ' c=.clo (.func f) fs cap:=by rw[hτ c (by simp[ho,Op.operands,Call.operands]),hF]
 have hv:=h.ev c
 rw[hcv]at hv
 have hvn:RV w nov (mO (Zdf (shp η') m)) (.clo (.func f) fs cap) (a.eval c):=Zxi hfF (λb hb=>Zhu.1 hb) hv
 obtain⟨us,us',hu,l1,r1,l2,r2⟩:=Zacf hvn
 have hrun:(execOp a.eval o).run C.P w=.ok (.enter f (us++os.map a.eval++us')) w:=by
  simp[execOp,ho,resolve,hu,Deferred.ofValue,invoke,hen]
 have hO:∀b,Zdf (shp η') m b->b<w.heap.size/\C.N<=b:=by
  rintro b (h1|⟨i,h1,h2⟩)
  ·exact h.mem.olt b h1
  ·exact⟨h.mem.lt (Zau.1 h1) h2,h.mem.low i b (Zau.1 h1) h2⟩
 have hmid:∀(j:Nat) (x:AV) (v:Value),(os.toList.map (evA τ))[j]?=some x->(os.map a.eval)[j]?=some v->RV w nov (mO (Zdf (shp η') m)) x v:=by
  intro j x v hx hv
  refine Zagl (Zaoh hfr hx) (λb hb=>Zhu.1 hb) ?_ (vs:=shp η') (m:=m)
  rw[<-hmap,List.getElem?_map]at hx
  rw[Array.getElem?_map]at hv
  cases hj:os[j]? with
  | none=>rw[hj]at hv;cases hv
  | some q =>
   have hj':os.toList[j]?=some q:=by simpa using hj
   rw[hj']at hx
   rw[hj]at hv
   simp at hx hv
   rw[<-hx,<-hv]
   exact h.ev q
 have:=hcall w (Zdf (shp η') m) (us++os.map a.eval++us') h.gl h.mem.big hO (by simp[l1,l2]) (λj x v hx hv=>by
  rw[List.getElem?_append]at hx
  rw[Array.getElem?_append]at hv
  have e1:(fs++os.toList.map (evA τ)).length=(us++os.map a.eval).size:=by simp[l1]
  rw[e1]at hx
  split at hx
  ·rename_i hlt
   rw[if_pos hlt]at hv
   rw[List.getElem?_append]at hx
   rw[Array.getElem?_append]at hv
   rw[l1]at hx
   split at hx
   ·rename_i hlt2
    rw[if_pos hlt2]at hv
    exact r1 j x v hx hv
   ·rename_i hlt2
    rw[if_neg hlt2]at hv
    exact hmid _ x v hx hv
  ·rename_i hlt
   rw[if_neg hlt]at hv
   exact r2 _ x v hx hv)
 unfold Oper.wp
 rw[hrun]
 refine Calls.mono this ?_
 rintro e w' ⟨v,rfl,h1,h2,h3⟩
 exact⟨m,(Zwv h h2).put hd (Zagl hr (λb hb=>Zhu.2 hb) h1)⟩
theorem Zadv {o:Oper}{τ:Nat->AV}{η:Nat->Ent}{fn:Fn}{first cap:Array Operand}{fs cs:List AV}(ho:o.op=.makeFunc fn first cap)(hd:InB n o.dst)(h1:first.toList.map (evA τ)=fs)(h2:cap.toList.map (evA τ)=cs):LF C n o τ η ⟨.clo fn fs cs,[],[]⟩:=by
 subst h1 h2
 refine Zbq hd (λτ' η' g1 _=>?_)
 have e1:first.toList.map (evA τ')=first.toList.map (evA τ):=List.map_congr_left (λy hy=>g1 y (by simp[ho,Op.operands];exact .inl (by simpa using hy)))
 have e2:cap.toList.map (evA τ')=cap.toList.map (evA τ):=List.map_congr_left (λy hy=>g1 y (by simp[ho,Op.operands];exact .inr (by simpa using hy)))
 rw[<-e1,<-e2]
 exact Zaws ho
theorem Zsn {o:Oper}{tm:List AV}{hp:List Ent}{t e:TypeId}{ti te:TI}{x y:Operand}{kx ky:IntKind}{p:Int}{d ver:Nat}{z:List AV}(ho:o.op=.makeSlice t x y)(hdd:o.dst=some d)(hdn:d<n)(ht:TyOk C.P t ti)(hk:ti.kind=.slice e)(hte:TyOk C.P e te)
  (hx:evA (tmF tm) x=.c (.int kx p)) (hy:evA (tmF tm) y=.c (.int ky p)) (hver:(hpF hp d).ver=ver) (h0:0<=p) (hb:p*te.bytes<=281474976710656) (h63:p<=9223372036854775807)
  (hz:te.zero.cells.toList.map AV.c=z) (hone:∀u∈te.zero.cells.toList,u.oneCell'=true) (_hpos:0<te.sz) :
  LF C n o (tmF tm) (hpF hp) ⟨.own d (ver+1) 0 p.toNat,[(d,⟨ver+1,some ⟨e,te.sz,false,List.replicate p.toNat z⟩⟩)],[]⟩:=by
 intro τ' η' hτ hη w0 X m a w h
 have hη':(η' d).ver=ver:=by rw[hη d (.inr (by simp[Foot.ids]))];exact hver
 have h1:=h.ev x
 have h2:=h.ev y
 rw[hτ x (by simp[ho,Op.operands]),hx]at h1
 rw[hτ y (by simp[ho,Op.operands]),hy]at h2
 obtain⟨i,hi,hiz⟩:∃i,C.P.info? e=some i/\i.zero=some te.zero/\i.size=te.sz/\i.bytes=te.bytes:=by
  have:=hte.info
  cases hh:C.P.info? e with
  | none=>rw[hh]at this;cases this
  | some i=>rw[hh]at this;simp at this;exact⟨i,rfl,this.1,this.2.1,this.2.2⟩
 obtain⟨hi1,hi2,hi3⟩:=hiz
 have hr:=run_make (P:=C.P) w t e i te.zero (ht.sliceU hk) hi hi1 kx ky p p h0 (Int.le_refl _) (by rw[hi3,Int.mul_comm];exact hb) h63
 have hzl:z.length=te.sz:=by rw[<-hz,lM_,<-hte.cells];simp
 have hflat:Flat w (shp η') m te.sz (List.replicate p.toNat z) (madeCells te.zero.cells (p.toNat*i.size)):=by
  refine⟨by simp[hi2,madeCells],λk q hq=>?_⟩
  obtain⟨hk1,rfl⟩:k<p.toNat/\z=q:=by
   rw[List.getElem?_replicate]at hq
   split at hq
   ·exact⟨by assumption,by injection hq⟩
   ·cases hq
  refine⟨hzl,λj v hj=>?_⟩
  have hjlt:j<te.sz:=by rw[<-hzl];exact(gS_.1 hj).1
  have hjc:j<te.zero.cells.size:=by rw[hte.cells];exact hjlt
  have hmod:(k*te.sz+j) % te.sz=j:=by rw[Nat.mul_comm,Nat.mul_add_mod];exact Nat.mod_eq_of_lt hjlt
  have hlt:k*te.sz+j<p.toNat*te.sz:=by
   calc k*te.sz+j<k*te.sz+te.sz:=by omega
    _=(k+1)*te.sz:=by rw[Nat.add_mul];omega
    _<=p.toNat*te.sz:=Nat.mul_le_mul_right _ hk1
  refine⟨te.zero.cells[j],?_,hone _ (by simp),?_⟩
  ·simp only[madeCells,hi2,Array.getElem?_map]
   rw[Array.getElem?_range,if_pos hlt]
   simp only[Option.map_some,hte.cells,hmod,Option.some.injEq]
   exact getElem!_pos te.zero.cells j hjc
  ·rw[<-hz,List.getElem?_map]at hj
   simp[hjc]at hj
   rw[<-hj]
   exact .c _
 have hfr:=h.fresh (i:=d) (ver:=(η' d).ver+1) (B:=⟨e,te.sz,false,List.replicate p.toNat z⟩) rfl hdn (Nat.lt_succ_self _) hflat
 have hrun:(execOp a.eval o).run C.P w=.ok (.value (.slice (some ⟨w.heap.size,0,none⟩) p.toNat p.toNat)) (w.alloc (.cells (madeCells te.zero.cells (p.toNat*i.size)) e)):=by
  simp only[execOp,ho,Zjp h1,Zjp h2,Sem.run_bind,hr,Result.andThen_ok,Sem.run_pure]
 unfold Oper.wp
 rw[hrun]
 rw[hη']at hfr
 refine⟨_,hfr.put (by rw[hdd];exact hdn) ?_⟩
 have:=RV.own (w:=w.alloc (.cells (madeCells te.zero.cells (p.toNat*i.size)) e)) (vs:=shp (Zeo η' d ⟨ver+1,some ⟨e,te.sz,false,List.replicate p.toNat z⟩⟩)) (m:=newM m d (some w.heap.size)) (k:=0) (len:=p.toNat) (cap:=p.toNat) (ty:=e) (n:=p.toNat*te.sz) Zad7 (Zet _ _ _) (Nat.le_refl _) ?_ ?_ (by simp)
 ·simpa [Zb5] using this
 ·simp only[maxLen];omega
 ·have:=heap_alloc_new w (.cells (madeCells te.zero.cells (p.toNat*i.size)) e)
  simp only[World.shape?,this]
  simp[madeCells,hi2]
theorem Zao9 {η η':Nat->Ent}{els els':List (List AV)}(h:BWLL η η' els els'):RowK η η' els els':=.part h.1 h.2
theorem Zaqv {η η':Nat->Ent}:BWLL η η' [] []:=⟨rfl,λk e e' h=>by simp at h⟩
theorem Zajk {η η':Nat->Ent}{k:Nat}{z z':List AV}(h:BWL η η' z z'):BWLL η η' (List.replicate k z) (List.replicate k z'):=by
 refine⟨by simp,λq e e' h1 h2=>?_⟩
 rw[List.getElem?_replicate]at h1 h2
 split at h1
 ·rename_i hlt
  rw[if_pos hlt]at h2
  injection h1 with h1
  injection h2 with h2
  subst h1 h2
  exact⟨h.len.symm,h.at⟩
 ·cases h1
def ltUs (n:Nat):List (Nat×Ent)->Prop
 | []=>True
 | p :: r=>p.1<n/\ltUs n r
theorem Zah7 {n:Nat}:∀{us:List (Nat×Ent)},ltUs n us->∀p∈us,p.1<n
 | [],_,_,hp=>by cases hp
 | q :: r,h,p,hp=>by
  rcases List.mem_cons.1 hp with rfl|h2
  ·exact h.1
  ·exact Zah7 h.2 p h2
def Zabi (η:Nat->Ent):List (Nat×Ent)->Prop
 | []=>True
 | p :: r=>p.2=⟨(η p.1).ver+1,none⟩/\Zabi η r
theorem Zac2 {η:Nat->Ent}:∀{us:List (Nat×Ent)},Zabi η us->∀p∈us,p.2=⟨(η p.1).ver+1,none⟩
 | [],_,p,h=>by cases h
 | q :: r,h,p,hp=>by
  rcases List.mem_cons.1 hp with rfl|h2
  ·exact h.1
  ·exact Zac2 h.2 p h2
theorem Zasl {c:Code}{Q:Exit->St->Prop}{s:St}(s1:St)(hl:leK s s1 True)(h:Zdo s1.tm (λtm=>Zdo s1.hp (λhp=>True->AWP C c Q ⟨tm,hp⟩))):AWP C c Q s:=Zask hl (Zcl (Zcl h) trivial)
theorem Zsm {o:Oper}{τ:Nat->AV}{η:Nat->Ent}{xt t:TypeId}{x:Operand}{y:AV}(ho:o.op=.typeAssert x xt t true)(hd:InB n o.dst)(hx:evA τ x=.ifc t y)(hA:∀v w,(Instr.typeAssert (.iface t v) xt t true).run C.P w=.ok (.tuple #[v,.bool true]) w):LF C n o τ η ⟨.tup [y,.c (.bool true)],[],[]⟩:=by
 refine Zbq hd (λτ' η' g1 _=>?_)
 intro w0 X m a w h
 have hv:=h.ev x
 rw[g1 x (by simp[ho,Op.operands]),hx]at hv
 obtain⟨u,hu,h1⟩:∃u,a.eval x=.iface t u/\RV w (shp η') m y u:=by
  generalize a.eval x=v at hv
  cases hv with|ifc h=>exact⟨_,rfl,h⟩
 refine⟨.tuple #[u,.bool true],by simp[execOp,ho,hu,hA],.tup rfl (λj z q hz hq=>?_)⟩
 match j,hz,hq with
 | 0,hz,hq=>simp at hz hq;subst hz hq;exact h1
 | 1,hz,hq=>simp at hz hq;subst hz hq;exact .c _
 | j+2,hz,hq=>simp at hz
theorem Zaom {o:Oper}{τ:Nat->AV}{η:Nat->Ent}{x y:Operand}{ats:Array TypeId}{k:IntKind}{p q:Int}(ho:o.op=.call ⟨.builtin .max,#[x,y],ats⟩)(hd:InB n o.dst)(hx:evA τ x=.c (.int k p))(hy:evA τ y=.c (.int k q)):LF C n o τ η ⟨.c (.int k (max p q)),[],[]⟩:=by
 refine Zbq hd (λτ' η' g1 _=>?_)
 intro w0 X m a w h
 have h1:=h.ev x
 have h2:=h.ev y
 rw[g1 x (by simp[ho,Op.operands,Call.operands]),hx]at h1
 rw[g1 y (by simp[ho,Op.operands,Call.operands]),hy]at h2
 refine⟨_,?_,.c _⟩
 simp[execOp,ho,resolve,invoke,builtin,Builtin.max_,Builtin.max2,Zjp h1,Zjp h2]
 split <;> omega
theorem Zaf2 {o:Oper}{τ:Nat->AV}{η:Nat->Ent}{x y:Operand}{ats:Array TypeId}{k:IntKind}{p q:Int}(ho:o.op=.call ⟨.builtin .min,#[x,y],ats⟩)(hd:InB n o.dst)(hx:evA τ x=.c (.int k p))(hy:evA τ y=.c (.int k q)):LF C n o τ η ⟨.c (.int k (min p q)),[],[]⟩:=by
 refine Zbq hd (λτ' η' g1 _=>?_)
 intro w0 X m a w h
 have h1:=h.ev x
 have h2:=h.ev y
 rw[g1 x (by simp[ho,Op.operands,Call.operands]),hx]at h1
 rw[g1 y (by simp[ho,Op.operands,Call.operands]),hy]at h2
 refine⟨_,?_,.c _⟩
 simp[execOp,ho,resolve,invoke,builtin,Builtin.min_,Builtin.min2,Zjp h1,Zjp h2]
 split <;> omega
end
structure View (w:World)(η:Nat->Ent)(m:MM)(η':Nat->Ent)(m':MM)(σ:Nat->Nat)(Fz Tg:Nat->Prop):Prop where
 own:∀b,Zdf (shp η') m' b->Zdf (shp η) m b
 frz:∀i b,Fz i->(η i).blk≠none->m i=some b->¬ Zdf (shp η') m' b
 at_:∀i,Tg i->(η' i).blk≠none->m' i=match(η (σ i)).blk with|some _=>m (σ i)|none=>none
inductive GW (η η':Nat->Ent)(σ:Nat->Nat)(Fz Tg:Nat->Prop):AV->AV->Prop
 | fr {x:AV}:Fr x->GW η η' σ Fz Tg x x
 | sl {sz:Nat} {l:List (List AV)}:GW η η' σ Fz Tg (.sl sz l) (.sl sz l)
 | nil {sz cc:Nat}:GW η η' σ Fz Tg (.c (.slice none 0 cc)) (.sl sz [])
 | thaw {i ver cc:Nat} {B':Blk}:Tg i->η' i=⟨ver,some B'⟩->(η (σ i)).blk=none->cc=0->GW η η' σ Fz Tg (.c (.slice none 0 cc)) (.own i ver 0 0)
 | ren {i ver i' ver' k len:Nat} {B B':Blk}:Tg i'->η i=⟨ver,some B⟩->η' i'=⟨ver',some B'⟩->σ i'=i->B.sz=B'.sz->GW η η' σ Fz Tg (.own i ver k len) (.own i' ver' k len)
 | pren {i ver i' ver' k j:Nat} {B B':Blk}:Tg i'->η i=⟨ver,some B⟩->η' i'=⟨ver',some B'⟩->σ i'=i->B.sz=B'.sz->GW η η' σ Fz Tg (.ptr i ver k j) (.ptr i' ver' k j)
 | oren {i ver i' ver' k j:Nat} {B B':Blk}:Tg i'->η i=⟨ver,some B⟩->η' i'=⟨ver',some B'⟩->σ i'=i->B.sz=B'.sz->GW η η' σ Fz Tg (.ptrO i ver k j) (.ptrO i' ver' k j)
 | opren {i ver i' ver' k j:Nat} {B B':Blk}:Tg i'->η i=⟨ver,some B⟩->η' i'=⟨ver',some B'⟩->σ i'=i->B.sz=B'.sz->GW η η' σ Fz Tg (.ptr i ver k j) (.ptrO i' ver' k j)
 | mren {i ver i' ver':Nat} {B B':Blk}:Tg i'->η i=⟨ver,some B⟩->η' i'=⟨ver',some B'⟩->σ i'=i->GW η η' σ Fz Tg (.mp i ver) (.mp i' ver')
 | onil {i' ver' k j:Nat} {B':Blk}:Tg i'->η' i'=⟨ver',some B'⟩->GW η η' σ Fz Tg (.c (.pointer none)) (.ptrO i' ver' k j)
 | own {i ver k len sz:Nat} {B:Blk} {els' l:List (List AV)}:η i=⟨ver,some B⟩->Fz i->B.sz=sz->els'.length=B.els.length ->
   (∀(k:Nat) (e e':List AV),B.els[k]?=some e->els'[k]?=some e'->e'.length=e.length)->(∀(k:Nat) (e e':List AV),B.els[k]?=some e->els'[k]?=some e'->∀(j:Nat) (x x':AV),e[j]?=some x->e'[j]?=some x'->GW η η' σ Fz Tg x x') ->
   k+len<=els'.length->FrL els'->len<=140737488355328->l=(els'.drop k).take len->GW η η' σ Fz Tg (.own i ver k len) (.sl sz l)
 | ptr {i ver k j:Nat} {B:Blk} {e e':List AV}:isM B.box B.ty=false->η i=⟨ver,some B⟩->Fz i->B.els[k]?=some e->e'.length=e.length->(∀(j:Nat) (x x':AV),e[j]?=some x->e'[j]?=some x'->GW η η' σ Fz Tg x x')->GW η η' σ Fz Tg (.ptr i ver k j) (.pim e' j)
 | agg {cs cs':List AV}:cs.length=cs'.length->(∀(j:Nat) (x x':AV),cs[j]?=some x->cs'[j]?=some x'->GW η η' σ Fz Tg x x')->GW η η' σ Fz Tg (.agg cs) (.agg cs')
 | tup {cs cs':List AV}:cs.length=cs'.length->(∀(j:Nat) (x x':AV),cs[j]?=some x->cs'[j]?=some x'->GW η η' σ Fz Tg x x')->GW η η' σ Fz Tg (.tup cs) (.tup cs')
 | ifc {t:TypeId} {x x':AV}:GW η η' σ Fz Tg x x'->GW η η' σ Fz Tg (.ifc t x) (.ifc t x')
 | clo {f:Fn} {cs cs' ds ds':List AV}:cs.length=cs'.length->(∀(j:Nat) (x x':AV),cs[j]?=some x->cs'[j]?=some x'->GW η η' σ Fz Tg x x')->ds.length=ds'.length->(∀(j:Nat) (x x':AV),ds[j]?=some x->ds'[j]?=some x'->GW η η' σ Fz Tg x x')->GW η η' σ Fz Tg (.clo f cs ds) (.clo f cs' ds')
section
variable {N : Nat} {w : World} {η η' : Nat -> Ent} {m m' : MM} {σ : Nat -> Nat} {Fz Tg : Nat -> Prop}
theorem View.some_ (hV:View w η m η' m' σ Fz Tg){i i' ver ver':Nat}{B B':Blk}(ht:Tg i')(h1:η i=⟨ver,some B⟩)(h2:η' i'=⟨ver',some B'⟩)(h3:σ i'=i):m' i'=m i:=by
 have:=hV.at_ i' ht (by rw[h2];simp)
 rw[h3,h1]at this
 exact this
theorem Zapg {w:World}{vs:Shp}{m:MM}{t:TypeId}{x:AV}{v:Value}(h:RV w vs m (.ifc t x) v):∃u,v=.iface t u/\RV w vs m x u:=by
 cases h with
 | ifc h=>exact⟨_,rfl,h⟩
theorem GW.rv (hV:View w η m η' m' σ Fz Tg)(hm:Mem N w η m){x x':AV}(h:GW η η' σ Fz Tg x x'):∀{v:Value},RV w (shp η) m x v->RV w (shp η') m' x' v:=by
 have nil:∀sz A,RV w (shp η') m' (.sl sz ([]:List (List AV))) (.slice A 0 0):=λsz A =>
  RV.sl (l:=[]) (b:=0) (off:=0) (f:=λ_ _=>undef) (λh=>absurd rfl h) (Nat.le_refl _) (by simp) (λk e h=>by simp at h) (λk j e x h=>by simp at h) (λk j e x h=>by simp at h) (λe he=>by cases he)
 induction h with
 | fr h=>exact λhv=>Zxi h hV.own hv
 | sl =>
  intro v hv
  have:=hv
  obtain⟨_,_,_,_,_,_,_,_,_,_,_,_,hfr⟩:=Zxj this
  exact Zxi (.sl hfr) hV.own hv
 | nil =>
  intro v hv
  rw[Zjp hv]
  exact RV.sl (l:=[]) (b:=0) (off:=0) (f:=λ_ _=>undef) (λh=>absurd rfl h) (Nat.zero_le _) (by simp) (λk e h=>by simp at h) (λk j e x h=>by simp at h) (λk j e x h=>by simp at h) (λe he=>by cases he)
 | @thaw i ver cc B' ht h1 h2 hc =>
  intro v hv
  subst hc
  rw[Zjp hv]
  have:=hV.at_ i ht (by rw[h1];simp)
  rw[h2]at this
  exact .ownN (sz:=B'.sz) (by simp[shp,h1]) this
 | @ren i ver i' ver' k len B B' ht h1 h2 h3 hs =>
  intro v hv
  have hs':(shp η') i'=(ver',some B.sz):=by simp[shp,h2,hs]
  have hk:=hV.some_ ht h1 h2 h3
  rcases Zor hv h1 with⟨rfl,rfl,e,rfl⟩|⟨k',A,rfl,rfl,rfl⟩|⟨b,cap,ty,nn,e1,e2,e3,e4,e5,rfl⟩
  ·exact .ownN hs' (by rw[hk,e])
  ·exact .ownZ hs'
  ·exact .own hs' (by rw[hk,e1]) e2 e3 e4 e5
 | @pren i ver i' ver' k j B B' ht h1 h2 h3 hs =>
  intro v hv
  obtain⟨b,e1,rfl⟩:=Zos hv h1
  exact .ptr (by simp[shp,h2,hs]) (by rw[hV.some_ ht h1 h2 h3,e1])
 | @oren i ver i' ver' k j B B' ht h1 h2 h3 hs =>
  intro v hv
  rcases Zail hv h1 with rfl|⟨b,e1,rfl⟩
  ·exact .ptrON (sz:=B'.sz) (by simp[shp,h2])
  ·exact .ptrO (by simp[shp,h2,hs]) (by rw[hV.some_ ht h1 h2 h3,e1])
 | @opren i ver i' ver' k j B B' ht h1 h2 h3 hs =>
  intro v hv
  obtain⟨b,e1,rfl⟩:=Zos hv h1
  exact .ptrO (by simp[shp,h2,hs]) (by rw[hV.some_ ht h1 h2 h3,e1])
 | @mren i ver i' ver' B B' ht h1 h2 h3 =>
  intro v hv
  obtain⟨b,e1,rfl⟩:=Zaw1 hv h1
  exact .mp (sz:=B'.sz) (by simp[shp,h2]) (by rw[hV.some_ ht h1 h2 h3,e1])
 | @onil i' ver' k j B' ht h2 =>
  intro v hv
  rw[Zjp hv]
  exact .ptrON (sz:=B'.sz) (by simp[shp,h2])
 | @own i ver k len sz B els' l h1 hz hs hl hl2 _ hkl hfr hmax he ih =>
  intro v hv
  subst hs he
  have hll:((els'.drop k).take len).length=len:=by simp;omega
  have hfr':FrL ((els'.drop k).take len):=λe he=>hfr e (List.mem_of_mem_drop (List.mem_of_mem_take he))
  rcases Zor hv h1 with⟨rfl,rfl,e,rfl⟩|⟨k',A,rfl,rfl,rfl⟩|⟨b,cap,ty,nn,e1,e2,e3,e4,e5,rfl⟩
  ·simpa using nil B.sz none
  ·simpa using nil B.sz A
  ·have hok:=hm.ok i B (by rw[h1])
   rw[e1]at hok
   obtain⟨arr,a1,a2,a3⟩:=hok.unmap e4
   have hget:∀q e,((els'.drop k).take len)[q]?=some e->els'[k+q]?=some e:=λq e he=>by
    rw[List.getElem?_take]at he
    split at he
    ·rw[List.getElem?_drop]at he;exact he
    ·cases he
   have hold:∀(q:Nat) (e':List AV),els'[q]?=some e'->∃e:List AV,B.els[q]?=some e/\e'.length=e.length/\∀(j:Nat) (x x':AV) (v:Value),e[j]?=some x->e'[j]?=some x'->RV w (shp η) m x v->RV w (shp η') m' x' v:=λq e' he'=>by
    have hlt:q<B.els.length:=by rw[<-hl];exact(gS_.1 he').1
    exact⟨_,gE_ hlt,hl2 q _ e' (gE_ hlt) he',λj x x' v hx hx' hv=>ih q _ e' (gE_ hlt) he' j x x' hx hx' hv⟩
   have hcell:∀(q j:Nat) (e':List AV) (x':AV),((els'.drop k).take len)[q]?=some e'->e'[j]?=some x'->∃u,arr.getD ((k+q)*B.sz+j) undef=u/\arr[(k+q)*B.sz+j]?=some u/\u.oneCell'=true/\RV w (shp η') m' x' u:=λq j e' x' he hj=>by
    obtain⟨e,q1,q2,q3⟩:=hold _ e' (hget q e' he)
    have hlt:j<e.length:=by rw[<-q2];exact(gS_.1 hj).1
    obtain⟨u,u1,u2,u3⟩:=(a3 _ e q1).2 j _ (gE_ hlt)
    exact⟨u,by simp[aD_,u1],u1,u2,q3 j _ x' u (gE_ hlt) hj u3⟩
   have:=RV.sl (w:=w) (vs:=shp η') (m:=m') (sz:=B.sz) (l:=(els'.drop k).take len) (A:=some ⟨b,k*B.sz,none⟩) (cap:=cap) (b:=b) (off:=k*B.sz) (f:=λq j=>arr.getD ((k+q)*B.sz+j) undef)
    (λ_=>⟨rfl,hV.frz i b hz (by rw[h1];simp) e1,lt_of_block a1⟩) (by omega) (by omega) (λq e' he=>?_) (λq j e x he hj=>?_) (λq j e x he hj=>?_) hfr'
   ·rw[hll]at this
    exact this
   ·obtain⟨e,q1,q2,_⟩:=hold _ e' (hget q e' he)
    rw[q2]
    exact(a3 _ e q1).1
   ·obtain⟨u,q1,q2,q3,_⟩:=hcell q j e x he hj
    refine⟨?_,by rw[q1];exact q3⟩
    rw[q1,show k*B.sz+(q*B.sz+j)=(k+q)*B.sz+j from by rw[Nat.add_mul];omega]
    simp[World.cell?,a1,q2]
   ·obtain⟨u,q1,_,_,q4⟩:=hcell q j e x he hj
    rw[q1]
    exact q4
 | @ptr i ver k j B e e' hM h1 hz he hl _ ih =>
  intro v hv
  obtain⟨b,e1,rfl⟩:=Zos hv h1
  have hok:=hm.ok i B (by rw[h1])
  rw[e1]at hok
  obtain⟨arr,a1,a2,a3⟩:=hok.cellsF hM
  have hcell:∀(q:Nat) (x':AV),e'[q]?=some x'->∃u,arr.getD (k*B.sz+q) undef=u/\arr[k*B.sz+q]?=some u/\RV w (shp η') m' x' u:=λq x' hq=>by
   have hlt:q<e.length:=by rw[<-hl];exact(gS_.1 hq).1
   obtain⟨u,u1,_,u3⟩:=(a3 _ e he).2 q _ (gE_ hlt)
   exact⟨u,by simp[aD_,u1],u1,ih q _ x' (gE_ hlt) hq u3⟩
  refine .pim (b:=b) (off:=k*B.sz) (f:=λq=>arr.getD (k*B.sz+q) undef) (hV.frz i b hz (by rw[h1];simp) e1) (lt_of_block a1) (λq x hq=>?_) (λq x hq=>?_)
  ·obtain⟨u,q1,q2,_⟩:=hcell q x hq
   rw[q1]
   simp[World.cell?,a1,q2]
  ·obtain⟨u,q1,_,q3⟩:=hcell q x hq
   rw[q1]
   exact q3
 | agg hl _ ih =>
  intro v hv
  obtain⟨us,rfl,hlen,hr⟩:=Zt1 hv
  refine .agg (by omega) (λj x' u h1 h2=>?_)
  have hlt:=(gS_.1 h1).1
  rw[<-hl]at hlt
  exact ih j _ x' (gE_ hlt) h1 (hr j _ u (gE_ hlt) h2)
 | tup hl _ ih =>
  intro v hv
  obtain⟨us,rfl,hlen,hr⟩:=Zagm hv
  refine .tup (by omega) (λj x' u h1 h2=>?_)
  have hlt:=(gS_.1 h1).1
  rw[<-hl]at hlt
  exact ih j _ x' (gE_ hlt) h1 (hr j _ u (gE_ hlt) h2)
 | clo hl _ hl2 _ ih ih2 =>
  intro v hv
  obtain⟨us,us',rfl,l1,r1,l2,r2⟩:=Zacf hv
  refine .clo (by omega) (λj x' u h3 h4=>?_) (by omega) (λj x' u h3 h4=>?_)
  ·have hlt:=(gS_.1 h3).1
   rw[<-hl]at hlt
   exact ih j _ x' (gE_ hlt) h3 (r1 j _ u (gE_ hlt) h4)
  ·have hlt:=(gS_.1 h3).1
   rw[<-hl2]at hlt
   exact ih2 j _ x' (gE_ hlt) h3 (r2 j _ u (gE_ hlt) h4)
 | ifc _ ih =>
  intro v hv
  obtain⟨u,rfl,hu⟩:=Zapg hv
  exact .ifc (ih hu)
theorem GW.congr {η1 η2:Nat->Ent}(h1:∀i,Fz i->η1 i=η i)(h2:∀i,Tg i->η2 i=η' i/\η1 (σ i)=η (σ i)){x y:AV}(h:GW η η' σ Fz Tg x y):GW η1 η2 σ Fz Tg x y:=by
 induction h with
 | fr h=>exact .fr h
 | sl=>exact .sl
 | nil=>exact .nil
 | thaw ht a b c=>exact .thaw ht (by rw[(h2 _ ht).1,a]) (by rw[(h2 _ ht).2,b]) c
 | ren ht a b c d=>exact .ren ht (by rw[<-c,(h2 _ ht).2,c,a]) (by rw[(h2 _ ht).1,b]) c d
 | pren ht a b c d=>exact .pren ht (by rw[<-c,(h2 _ ht).2,c,a]) (by rw[(h2 _ ht).1,b]) c d
 | oren ht a b c d=>exact .oren ht (by rw[<-c,(h2 _ ht).2,c,a]) (by rw[(h2 _ ht).1,b]) c d
 | opren ht a b c d=>exact .opren ht (by rw[<-c,(h2 _ ht).2,c,a]) (by rw[(h2 _ ht).1,b]) c d
 | onil ht b=>exact .onil ht (by rw[(h2 _ ht).1,b])
 | own a hz hs hl hl2 _ hkl hfr hmax he ih=>exact .own (by rw[h1 _ hz,a]) hz hs hl hl2 ih hkl hfr hmax he
 | mren ht a b c=>exact .mren ht (by rw[<-c,(h2 _ ht).2,c,a]) (by rw[(h2 _ ht).1,b]) c
 | ptr hM a hz he hl _ ih=>exact .ptr hM (by rw[h1 _ hz,a]) hz he hl ih
 | agg hl _ ih=>exact .agg hl ih
 | tup hl _ ih=>exact .tup hl ih
 | clo hl _ hl2 _ ih ih2=>exact .clo hl ih hl2 ih2
 | ifc _ ih=>exact .ifc ih
end
inductive GWL (η η':Nat->Ent)(σ:Nat->Nat)(Fz Tg:Nat->Prop):List AV->List AV->Prop
 | nil:GWL η η' σ Fz Tg [] []
 | cons {x y:AV} {r s:List AV}:GW η η' σ Fz Tg x y->GWL η η' σ Fz Tg r s->GWL η η' σ Fz Tg (x :: r) (y :: s)
structure GWLL (η η':Nat->Ent)(σ:Nat->Nat)(Fz Tg:Nat->Prop)(els els':List (List AV)):Prop where
 len:els'.length=els.length
 at_:∀(k:Nat) (e e':List AV),els[k]?=some e->els'[k]?=some e'->e'.length=e.length/\∀(j:Nat) (x x':AV),e[j]?=some x->e'[j]?=some x'->GW η η' σ Fz Tg x x'
def GB (η η':Nat->Ent)(σ:Nat->Nat)(Fz Tg:Nat->Prop)(o:Option Blk)(B':Blk):Prop :=
 match o with
 | some B=>(B'.ty=B.ty/\B'.sz=B.sz/\B'.box=B.box)/\(B'.els.length=B.els.length\/(B.box=false/\B'.els.length<=B.els.length))/\∀(k:Nat) (e e':List AV),B.els[k]?=some e->B'.els[k]?=some e'->e'.length=e.length/\∀(j:Nat) (x x':AV),e[j]?=some x->e'[j]?=some x'->GW η η' σ Fz Tg x x'
 | none=>B'.els=[]/\B'.box=false
section
variable {N : Nat} {w : World} {η η' : Nat -> Ent} {m m' : MM} {σ : Nat -> Nat} {Fz Tg : Nat -> Prop}
theorem GWL.len {xs ys:List AV}(h:GWL η η' σ Fz Tg xs ys):xs.length=ys.length:=by
 induction h with
 | nil=>rfl
 | cons _ _ ih=>simp[ih]
theorem GWL.at {xs ys:List AV}(h:GWL η η' σ Fz Tg xs ys):∀(j:Nat)(x y:AV),xs[j]?=some x->ys[j]?=some y->GW η η' σ Fz Tg x y:=by
 induction h with
 | nil=>intro j x y hx;simp at hx
 | cons h1 _ ih =>
  intro j x y hx hy
  cases j with
  | zero=>simp at hx hy;subst hx hy;exact h1
  | succ j=>exact ih j x y (by simpa using hx) (by simpa using hy)
theorem GWL.congr {η1 η2:Nat->Ent}(h1:∀i,Fz i->η1 i=η i)(h2:∀i,Tg i->η2 i=η' i/\η1 (σ i)=η (σ i)){xs ys:List AV}(h:GWL η η' σ Fz Tg xs ys):GWL η1 η2 σ Fz Tg xs ys:=by
 induction h with
 | nil=>exact .nil
 | cons h3 _ ih=>exact .cons (h3.congr h1 h2) ih
theorem GB.congr {η1 η2:Nat->Ent}(h1:∀i,Fz i->η1 i=η i)(h2:∀i,Tg i->η2 i=η' i/\η1 (σ i)=η (σ i)){o:Option Blk}{B':Blk}(h:GB η η' σ Fz Tg o B'):GB η1 η2 σ Fz Tg o B':=by
 cases o with
 | none=>exact h
 | some B=>exact⟨h.1,h.2.1,λk e e' q1 q2=>⟨(h.2.2 k e e' q1 q2).1,λj x x' q3 q4=>((h.2.2 k e e' q1 q2).2 j x x' q3 q4).congr h1 h2⟩⟩
theorem Zaud {els:List (List AV)}(h:FrL els):GWLL η η' σ Fz Tg els els:=by
 refine⟨rfl,λk e e' h1 h2=>?_⟩
 rw[h1]at h2
 injection h2 with h2
 subst h2
 refine⟨rfl,λj x x' h3 h4=>?_⟩
 rw[h3]at h4
 injection h4 with h4
 subst h4
 exact .fr (h e (mG_ h1) x (mG_ h3))
theorem Zmo {els els':List (List AV)}(h:els=els')(hf:FrL els):GWLL η η' σ Fz Tg els els':=by subst h;exact Zaud hf
theorem Zys : GWLL η η' σ Fz Tg [] []:=⟨rfl,λk e e' h=>by simp at h⟩
theorem Zvv {e e':List AV}{r r':List (List AV)}(h1:GWL η η' σ Fz Tg e e')(h2:GWLL η η' σ Fz Tg r r'):GWLL η η' σ Fz Tg (e :: r) (e' :: r'):=by
 refine⟨by simp[h2.1],λk q q' hq hq'=>?_⟩
 cases k with
 | zero=>simp at hq hq';subst hq hq';exact⟨h1.len.symm,h1.at⟩
 | succ k=>exact h2.2 k q q' (by simpa using hq) (by simpa using hq')
theorem Zok {a a':List (List AV)}{e e':List AV}{k k':Nat}(hk:k=k')(h1:GWLL η η' σ Fz Tg a a')(h2:GWL η η' σ Fz Tg e e'):GWLL η η' σ Fz Tg (a.set k e) (a'.set k' e'):=by
 subst hk
 refine⟨by simp[h1.1],λi q q' hq hq'=>?_⟩
 by_cases hi:i=k
 ·subst hi
  have hlt:i<a.length:=by have:=(gS_.1 hq).1;simpa using this
  rw[List.getElem?_set_self hlt]at hq
  rw[List.getElem?_set_self (by rw[h1.1];exact hlt)]at hq'
  simp at hq hq'
  subst hq hq'
  exact⟨h2.len.symm,h2.at⟩
 ·rw[List.getElem?_set_ne (λe=>hi e.symm)]at hq hq'
  exact h1.2 i q q' hq hq'
theorem Zoj {e e':List AV}{n:Nat}(h:GWL η η' σ Fz Tg e e'):GWLL η η' σ Fz Tg (List.replicate n e) (List.replicate n e'):=by
 refine⟨by simp,λi q q' hq hq'=>?_⟩
 rw[List.getElem?_replicate]at hq hq'
 split at hq
 ·rename_i hlt
  rw[if_pos hlt]at hq'
  simp at hq hq'
  subst hq hq'
  exact⟨h.len.symm,h.at⟩
 ·cases hq
theorem Zjf {a a' b b':List (List AV)}(h1:GWLL η η' σ Fz Tg a a')(h2:GWLL η η' σ Fz Tg b b'):GWLL η η' σ Fz Tg (a++b) (a'++b'):=by
 refine⟨by simp[h1.1,h2.1],λk q q' hq hq'=>?_⟩
 rw[List.getElem?_append]at hq hq'
 rw[h1.1]at hq'
 split at hq
 ·rename_i hlt
  rw[if_pos hlt]at hq'
  exact h1.2 k q q' hq hq'
 ·rename_i hlt
  rw[if_neg hlt]at hq'
  exact h2.2 _ q q' hq hq'
theorem Zajz {cs cs':List AV}(h:GWL η η' σ Fz Tg cs cs'):GW η η' σ Fz Tg (.agg cs) (.agg cs'):=.agg h.len h.at
theorem Zaj1 {t:TypeId}{x x':AV}(h:GW η η' σ Fz Tg x x'):GW η η' σ Fz Tg (.ifc t x) (.ifc t x'):=.ifc h
theorem Zaj4 {cs cs':List AV}(h:GWL η η' σ Fz Tg cs cs'):GW η η' σ Fz Tg (.tup cs) (.tup cs'):=.tup h.len h.at
theorem Zaj0 {f:Fn}{ds ds':List AV}(h:GWL η η' σ Fz Tg ds ds'):GW η η' σ Fz Tg (.clo f [] ds) (.clo f [] ds'):=.clo rfl (λj x x' hx=>by simp at hx) h.len h.at
theorem gw_c {v:Value}:GW η η' σ Fz Tg (.c v) (.c v):=.fr (.c v)
theorem Zafr {i ver k len sz:Nat}{B:Blk}{els' l:List (List AV)}(h1:η i=⟨ver,some B⟩)(h2:Fz i)(hs:B.sz=sz)(hw:GWLL η η' σ Fz Tg B.els els')(hkl:k+len<=els'.length)(hfr:FrL els')(hmax:len<=140737488355328)(hl:l=(els'.drop k).take len):GW η η' σ Fz Tg (.own i ver k len) (.sl sz l) :=
 .own h1 h2 hs hw.1 (λk e e' q1 q2=>(hw.2 k e e' q1 q2).1) (λk e e' q1 q2=>(hw.2 k e e' q1 q2).2) hkl hfr hmax hl
theorem Zadn {i ver len sz:Nat}{B:Blk}{l:List (List AV)}(h1:η i=⟨ver,some B⟩)(h2:Fz i)(hs:B.sz=sz)(hfr:FrL l)(hw:GWLL η η' σ Fz Tg B.els l)(hlen:len=l.length)(hmax:len<=140737488355328):GW η η' σ Fz Tg (.own i ver 0 len) (.sl sz l) :=
 Zafr h1 h2 hs hw (by omega) hfr hmax (by rw[List.drop_zero,hlen,List.take_length])
theorem Zaj2 {i ver k j:Nat}{B:Blk}{e e':List AV}(h1:η i=⟨ver,some B⟩)(h2:Fz i)(he:B.els[k]?=some e)(hw:GWL η η' σ Fz Tg e e')(hM:isM B.box B.ty=false:=by rfl):GW η η' σ Fz Tg (.ptr i ver k j) (.pim e' j):=.ptr hM h1 h2 he hw.len.symm hw.at
theorem Zaj3 {i ver i' ver' k len len':Nat}{B B':Blk}(ht:Tg i')(h1:η i=⟨ver,some B⟩)(h2:η' i'=⟨ver',some B'⟩)(h3:σ i'=i)(h4:B.sz=B'.sz)(hl:len=len'):GW η η' σ Fz Tg (.own i ver k len) (.own i' ver' k len'):=by subst hl;exact .ren ht h1 h2 h3 h4
theorem Zado {i ver i' ver' k j:Nat}{B B':Blk}(ht:Tg i')(h1:η i=⟨ver,some B⟩)(h2:η' i'=⟨ver',some B'⟩)(h3:σ i'=i)(h4:B.sz=B'.sz):GW η η' σ Fz Tg (.ptr i ver k j) (.ptr i' ver' k j):=.pren ht h1 h2 h3 h4
theorem Zadm {i ver i' ver' k j:Nat}{B B':Blk}(ht:Tg i')(h1:η i=⟨ver,some B⟩)(h2:η' i'=⟨ver',some B'⟩)(h3:σ i'=i)(h4:B.sz=B'.sz):GW η η' σ Fz Tg (.ptrO i ver k j) (.ptrO i' ver' k j):=.oren ht h1 h2 h3 h4
theorem Zyr {i ver i' ver' k j:Nat}{B B':Blk}(ht:Tg i')(h1:η i=⟨ver,some B⟩)(h2:η' i'=⟨ver',some B'⟩)(h3:σ i'=i)(h4:B.sz=B'.sz):GW η η' σ Fz Tg (.ptr i ver k j) (.ptrO i' ver' k j):=.opren ht h1 h2 h3 h4
theorem Zadk {i ver i' ver':Nat}{B B':Blk}(ht:Tg i')(h1:η i=⟨ver,some B⟩)(h2:η' i'=⟨ver',some B'⟩)(h3:σ i'=i):GW η η' σ Fz Tg (.mp i ver) (.mp i' ver'):=.mren ht h1 h2 h3
theorem Zadl {i' ver' k j:Nat}{B':Blk}(ht:Tg i')(h2:η' i'=⟨ver',some B'⟩):GW η η' σ Fz Tg (.c (.pointer none)) (.ptrO i' ver' k j):=.onil ht h2
theorem Zadp {i ver cc:Nat}{B':Blk}(ht:Tg i)(h1:η' i=⟨ver,some B'⟩)(h2:(η (σ i)).blk=none)(hc:cc=0:=by rfl):GW η η' σ Fz Tg (.c (.slice none 0 cc)) (.own i ver 0 0):=.thaw ht h1 h2 hc
theorem Zajx {B':Blk}(h1:B'.els=[])(h2:B'.box=false):GB η η' σ Fz Tg none B':=⟨h1,h2⟩
theorem Zadi {B B':Blk}(h1:B'.ty=B.ty/\B'.sz=B.sz/\B'.box=B.box)(h2:GWLL η η' σ Fz Tg B.els B'.els):GB η η' σ Fz Tg (some B) B':=⟨h1,.inl h2.1,h2.2⟩
theorem Zsj {B B':Blk}{m:Nat}(hb:B.box=false)(h1:B'.ty=B.ty/\B'.sz=B.sz/\B'.box=B.box)(h:B'.els=B.els.take m)(hf:FrL B'.els):GB η η' σ Fz Tg (some B) B':=by
 refine⟨h1,.inr ⟨hb,by rw[h,List.length_take];omega⟩,λk e e' he he'=>?_⟩
 have hm:=mG_ he'
 rw[h,List.getElem?_take]at he'
 split at he'
 ·rw[he]at he'
  injection he' with he'
  subst he'
  refine⟨rfl,λj x x' hx hx'=>?_⟩
  rw[hx]at hx'
  injection hx' with hx'
  subst hx'
  exact .fr (hf _ hm _ (mG_ hx))
 ·cases he'
theorem GB.ok (hV:View w η m η' m' σ Fz Tg)(hm:Mem N w η m){i:Nat}{B':Blk}(ht:Tg i)(hi:(η' i).blk=some B')(h:GB η η' σ Fz Tg (η (σ i)).blk B'):BlkOk w (shp η') m' B' (m' i):=by
 have hat:=hV.at_ i ht (by rw[hi];simp)
 cases hB:(η (σ i)).blk with
 | none =>
  rw[hB]at h hat
  rw[hat]
  exact h
 | some B =>
  rw[hB]at h hat
  rw[hat]
  obtain⟨⟨e1,e2,e3⟩,e4,e5⟩:=h
  have hok:=hm.ok (σ i) B hB
  cases hmi:m (σ i)with
  | none =>
   rw[hmi]at hok
   have:B.els=[]:=hok.1
   refine⟨List.length_eq_zero_iff.1 ?_,by rw[e3];exact hok.2⟩
   rw[this,List.length_nil]at e4
   omega
  | some b =>
   rw[hmi]at hok
   obtain⟨arr,a1,a2,a3⟩:=hok
   have hle:B'.els.length<=B.els.length:=by omega
   have a1':Cont w b B' arr:=by
    rcases e4 with e4|⟨hb,_⟩
    ·exact a1.congr e3 e1 e4 e2
    ·have hM:isM B.box B.ty=false:=by rw[hb];rfl
     exact Cont.cells (by rw[e1];exact a1.1 hM) (by rw[e3,e1];exact hM)
   refine⟨arr,a1',by rw[e2];exact Nat.le_trans (Nat.mul_le_mul_right _ hle) a2,λk e' he'=>?_⟩
   have hlt:k<B.els.length:=Nat.lt_of_lt_of_le (gS_.1 he').1 hle
   have hge:=gE_ hlt
   obtain⟨l1,l2⟩:=e5 k _ e' hge he'
   obtain⟨q1,q2⟩:=a3 k _ hge
   refine⟨by rw[l1,q1,e2],λj x' hx'=>?_⟩
   have hj:j<(B.els[k]).length:=by rw[<-l1];exact(gS_.1 hx').1
   have hgj:=gE_ hj
   obtain⟨u,u1,u2,u3⟩:=q2 j _ hgj
   exact⟨u,by rw[e2];exact u1,by rw[e3,e1];exact u2,(l2 j _ x' hgj hx').rv hV hm u3⟩
end
def fE : List (Nat×Blk)->Nat->Ent
 | [],_=>⟨0,none⟩
 | (j,B) :: r,i=>match Nat.beq i j with
  | true=>⟨0,some B⟩
  | false=>fE r i
def lk : List (Nat×Nat)->Nat->Nat
 | [],i=>i
 | (a,b) :: r,i=>match Nat.beq i a with
  | true=>b
  | false=>lk r i
def inB : List Nat->Nat->Bool
 | [],_=>false
 | j :: r,i=>match Nat.beq i j with
  | true=>true
  | false=>inB r i
def nodB : List Nat->Bool
 | []=>true
 | j :: r=>match inB r j with
  | true=>false
  | false=>nodB r
def Zmb (bs:List (Nat×Blk)):List Nat:=bs.map (·.1)
theorem Znz {i j:Nat}:Nat.beq i j=true↔i=j:=⟨Nat.eq_of_beq_eq_true,λh=>by rw[h];exact Nat.beq_refl j⟩
theorem Zez : ∀{l:List Nat}{i:Nat},inB l i=true↔i∈l
 | [],i=>by simp[inB]
 | j :: r,i=>by
  unfold inB
  cases h:Nat.beq i j with
  | true=>simp[Znz.1 h]
  | false =>
   have:i≠j:=λe=>by rw[Znz.2 e]at h;cases h
   simp[this,Zez (l:=r)]
theorem Zyw : ∀{l:List Nat},nodB l=true↔l.Nodup
 | []=>by simp[nodB]
 | j :: r=>by
  unfold nodB
  cases h:inB r j with
  | true=>simp[Zez.1 h]
  | false =>
   have:j∉r:=λe=>by rw[Zez.2 e]at h;cases h
   simp[this,Zyw (l:=r)]
theorem Zgu : ∀{bs:List (Nat×Blk)}{i:Nat},(fE bs i).blk≠none↔i∈Zmb bs
 | [],i=>by simp[fE,Zmb]
 | (j,B) :: r,i=>by
  unfold fE
  cases h:Nat.beq i j with
  | true=>simp[Zmb,Znz.1 h]
  | false =>
   have:i≠j:=λe=>by rw[Znz.2 e]at h;cases h
   have ih:=Zgu (bs:=r) (i:=i)
   simp only[Zmb]at ih ⊢
   simp[this,ih]
theorem Zan6 : ∀{bs:List (Nat×Blk)}{i:Nat}{B:Blk},(fE bs i).blk=some B->(i,B)∈bs
 | [],i,B,h=>by simp[fE]at h
 | (j,B') :: r,i,B,h=>by
  unfold fE at h
  cases hb:Nat.beq i j with
  | true =>
   rw[hb]at h
   injection h with h
   rw[Znz.1 hb,h]
   simp
  | false =>
   rw[hb]at h
   exact mC_ _ (Zan6 h)
theorem Zav5 {bs:List (Nat×Blk)}(hn:(Zmb bs).Nodup){i:Nat}{B:Blk}(h:(i,B)∈bs):fE bs i=⟨0,some B⟩:=by
 induction bs with
 | nil=>cases h
 | cons p r ih =>
  obtain⟨j,B'⟩:=p
  simp only[Zmb,List.map_cons,List.nodup_cons]at hn
  unfold fE
  cases hb:Nat.beq i j with
  | true =>
   have hij:=Znz.1 hb
   rcases List.mem_cons.1 h with h|h
   ·injection h with _ h;rw[h]
   ·exact absurd (List.mem_map.2 ⟨_,h,hij⟩) hn.1
  | false =>
   rcases List.mem_cons.1 h with h|h
   ·injection h with h _
    rw[Znz.2 h]at hb
    cases hb
   ·exact ih hn.2 h
theorem Zasv : ∀{bs:List (Nat×Blk)}{i:Nat},(fE bs i).ver=0
 | [],_=>rfl
 | (j,B) :: r,i=>by
  unfold fE
  cases Nat.beq i j
  ·exact Zasv
  ·rfl
structure GR (C:Cx)(w:World)(m:MM)(bs:List (Nat×Blk))(ks:List Nat)(r:AV)(bs':List (Nat×Blk))(v:Value)(m':MM)(w':World):Prop where
 rv:RV w' (shp (fE bs')) m' r v
 mem:Mem C.N w' (fE bs') m'
 oo:m'.O=m.O
 kin:Kin w (λb=>∃i,(fE bs i).blk≠none/\m i=some b) w'
 own:∀i b,(fE bs' i).blk≠none->m' i=some b->(∃k,(fE bs k).blk≠none/\m k=some b)\/w.heap.size<=b
 ks:∀i∈ks,m' i=m i/\∀b,m i=some b->w'.shape? b=w.shape? b
 gl:C.Gl w'
def Zc8 (C:Cx)(f:FuncId)(args:List AV)(bs:List (Nat×Blk))(ks:List Nat)(r:AV)(bs':List (Nat×Blk)):Prop :=
 (∀(vs:Array Value) (w:World),(callFunc f vs).run C.P w=.ok (.enter f vs) w) /\
 ∀(w:World) (m:MM) (cargs:Array Value),C.Gl w->Mem C.N w (fE bs) m->cargs.size=args.length->(∀(j:Nat) (x:AV) (v:Value),args[j]?=some x->cargs[j]?=some v->RV w (shp (fE bs)) m x v) ->
  Calls C.P f cargs w (λe w'=>∃v m',e=.returned v/\GR C w m bs ks r bs' v m' w')
def GBL (η η':Nat->Ent)(σ:Nat->Nat)(Fz Tg:Nat->Prop):List (Nat×Blk)->Prop
 | []=>True
 | (i,B) :: r=>GB η η' σ Fz Tg (η (σ i)).blk B/\GBL η η' σ Fz Tg r
theorem Zam8 {η η':Nat->Ent}{σ:Nat->Nat}{Fz Tg:Nat->Prop}:∀{l:List (Nat×Blk)}{i:Nat}{B:Blk},GBL η η' σ Fz Tg l->(i,B)∈l->GB η η' σ Fz Tg (η (σ i)).blk B
 | [],_,_,_,h=>by cases h
 | (j,B') :: r,i,B,h,hm=>by
  rcases List.mem_cons.1 hm with e|e
  ·injection e with e1 e2;subst e1 e2;exact h.1
  ·exact Zam8 h.2 e
def ksB (σl:List (Nat×Nat))(bs:List (Nat×Blk)):List Nat->Bool
 | []=>true
 | i :: r=>match Nat.beq (lk σl i) i,inB (Zmb bs) i with
  | true,true=>ksB σl bs r
  | _,_=>false
theorem Zasz {σl:List (Nat×Nat)}{bs:List (Nat×Blk)}:∀{l:List Nat},ksB σl bs l=true->∀i∈l,lk σl i=i/\i∈Zmb bs
 | [],_,i,h=>by cases h
 | j :: r,h,i,hi=>by
  unfold ksB at h
  split at h
  ·rename_i h1 h2
   rcases List.mem_cons.1 hi with rfl|hi
   ·exact⟨Znz.1 h1,Zez.1 h2⟩
   ·exact Zasz h i hi
  ·cases h
abbrev srcs (σl:List (Nat×Nat))(bs:List (Nat×Blk)):List Nat:=bs.map (λp=>lk σl p.1)
def okX (σl:List (Nat×Nat))(bs':List (Nat×Blk))(ks:List Nat):Bool:=match nodB (srcs σl bs'),nodB (Zmb bs'),ksB σl bs' ks with
 | true,true,true=>true
 | _,_,_=>false
theorem Zawk {σl:List (Nat×Nat)}{bs':List (Nat×Blk)}{ks:List Nat}(h:okX σl bs' ks=true):(srcs σl bs').Nodup/\(Zmb bs').Nodup/\ksB σl bs' ks=true:=by
 unfold okX at h
 split at h
 ·rename_i h1 h2 h3
  exact⟨Zyw.1 h1,Zyw.1 h2,h3⟩
 ·cases h
def GX (hp:List Ent)(bs':List (Nat×Blk))(ks:List Nat)(xs rs:List AV):Prop :=
 ∃σl:List (Nat×Nat),okX σl bs' ks=true/\GWL (hpF hp) (fE bs') (lk σl) (λi=>inB (srcs σl bs') i=false) (λi=>inB (Zmb bs') i=true) xs rs /\
  GBL (hpF hp) (fE bs') (lk σl) (λi=>inB (srcs σl bs') i=false) (λi=>inB (Zmb bs') i=true) bs'
def retG (C:Cx)(bs':List (Nat×Blk))(ks:List Nat)(rs:List ResultVar)(r:AV):Exit->St->Prop
 | .normal,s=>resK C s.tm s.hp rs (λxs=>oneK xs r (λxs rs=>True->GX s.hp bs' ks xs rs))
 | .ret,s=>resK C s.tm s.hp rs (λxs=>oneK xs r (λxs rs=>True->GX s.hp bs' ks xs rs))
 | _,_=>False
def mkG (n N:Nat)(t:List (Nat×AV))(h:List (Nat×Blk)):St:=⟨mkT 0 n t,mkH 0 N h⟩
theorem Zaga {α:Type}(f:α->Nat){l:List α}(h:(l.map f).Nodup){x y:α}(hx:x∈l)(hy:y∈l)(e:f x=f y):x=y:=by
 induction l with
 | nil=>cases hx
 | cons a r ih =>
  simp only[List.map_cons,List.nodup_cons]at h
  rcases List.mem_cons.1 hx with hx1|hx1 <;> rcases List.mem_cons.1 hy with hy1|hy1
  ·rw[hx1,hy1]
  ·subst hx1;exact absurd (List.mem_map.2 ⟨y,hy1,e.symm⟩) h.1
  ·subst hy1;exact absurd (List.mem_map.2 ⟨x,hx1,e⟩) h.1
  ·exact ih h.2 hx1 hy1
def Zx7 (bs:List (Nat×Blk)):Nat->Nat->List Ent
 | _,0=>[]
 | i,k+1=>fE bs i :: Zx7 bs (i+1) k
theorem Zagf {bs:List (Nat×Blk)}:∀(k i j:Nat),hpF (Zx7 bs i k) j=if j<k then fE bs (i+j)else⟨0,none⟩
 | 0,i,j=>by simp[Zx7]
 | k+1,i,j=>by
  cases j with
  | zero=>simp[Zx7]
  | succ j =>
   have:=Zagf (bs:=bs) k (i+1) j
   rw[show i+1+j=i+(j+1)from by omega]at this
   simpa [Zx7] using this
def ltB (N:Nat):List Nat->Bool
 | []=>true
 | j :: r=>match Nat.blt j N with
  | true=>ltB N r
  | false=>false
theorem Zas0 {N:Nat}:∀{l:List Nat},ltB N l=true->∀i∈l,i<N
 | [],_,i,h=>by cases h
 | j :: r,h,i,hi=>by
  unfold ltB at h
  split at h
  ·rename_i h1
   rcases List.mem_cons.1 hi with rfl|hi
   ·simpa [Nat.blt_eq] using h1
   ·exact Zas0 h i hi
  ·cases h
def geB (N:Nat)(bs:List (Nat×Blk)):List Nat->Bool
 | []=>true
 | j :: r=>match Nat.ble N j,inB (Zmb bs) j with
  | true,true=>geB N bs r
  | _,_=>false
theorem Zasx {N:Nat}{bs:List (Nat×Blk)}:∀{l:List Nat},geB N bs l=true->∀i∈l,N<=i/\i∈Zmb bs
 | [],_,i,h=>by cases h
 | j :: r,h,i,hi=>by
  unfold geB at h
  split at h
  ·rename_i h1 h2
   rcases List.mem_cons.1 hi with rfl|hi
   ·exact⟨Nat.le_of_ble_eq_true h1,Zez.1 h2⟩
   ·exact Zasx h i hi
  ·cases h
section
variable {C : Cx} {n : Nat}
theorem Zc4 {f:FuncId}{fn:Func}{c:Code}{args:List AV}{bs bs':List (Nat×Blk)}{ks:List Nat}{r:AV}(N:Nat)(hf:C.P.funcs[f]?=some fn)(hb:fn.body=some c)(hname:(fn.name == "runtime.NumGoroutine")=false)(hn:fn.ntmps=n)(_ha:args.length<=n)
  (hlt:ltB N (Zmb bs)=true) (hks:geB n bs ks=true)
  (h:Zdo (args++List.replicate (n-args.length) .dead) (λtm=>Zdo (Zx7 bs 0 N) (λhp=>True->AWP C c (retG C bs' ks fn.results.toList r) ⟨tm,hp⟩))):Zc8 C f args bs ks r bs':=by
 have h:=Zcl (Zcl h) trivial
 refine⟨λvs w=>?_,λw m cargs hg hM hsz hargs=>?_⟩
 ·simp only[callFunc,Sem.run_bind,program,Sem.run,Result.andThen_ok,hf,hname,hb]
  rfl
 have hη:hpF (Zx7 bs 0 N)=fE bs:=by
  funext i
  rw[Zagf]
  split
  ·rw[Nat.zero_add]
  ·rename_i hge
   have h1:(fE bs i).blk=none:=by
    by_cases he:(fE bs i).blk=none
    ·exact he
    ·exact absurd (Zas0 hlt i (Zgu.1 he)) hge
   have h2:=Zasv (bs:=bs) (i:=i)
   generalize fE bs i=e at h1 h2
   obtain⟨a,b⟩:=e
   simp only at h1 h2
   subst h1 h2
   rfl
 have hrep:Zzn C w ⟨λb=>∃i,(fE bs i).blk≠none/\m i=some b,m.O,λi=>i∈ks,m.f⟩ ⟨args++List.replicate (n-args.length) .dead,Zx7 bs 0 N⟩ m { tmps:=cargs++Array.replicate (fn.ntmps-cargs.size) undef,defers:=[] } w:=by
  unfold Zzn
  simp only[hη]
  refine⟨λt=>?_,by simp[hn,hsz],rfl,hM,⟨rfl,rfl,rfl,Nat.le_refl _,λ_ _ _=>rfl⟩,rfl,λi b hl hb=>.inl ⟨i,hl,hb⟩,hg,λi hi=>?_⟩
  ·show RV w _ m ((args++List.replicate (n-args.length) AV.dead).getD t .dead) _
   rcases Nat.lt_or_ge t args.length with hlt|hge
   ·rw[gD_,List.getElem?_append_left hlt,gE_ hlt]
    have hc:t<cargs.size:=by omega
    refine hargs t _ _ (gE_ hlt) ?_
    rw[aD_,Array.getElem?_append_left hc,aE_ hc]
    rfl
   ·have:(args++List.replicate (n-args.length) AV.dead).getD t .dead=.dead:=by
     rw[gD_,List.getElem?_append_right hge,List.getElem?_replicate]
     split <;> rfl
    rw[this]
    exact .dead _
  ·obtain⟨k1,k2⟩:=Zasx hks i hi
   exact⟨by simp;omega,Zgu.2 k2,rfl,λ_ _=>rfl⟩
 unfold AWP at h
 refine calls_of_wp hf hb (wp_mono (h w _ m _ w hrep) ?_)
 rintro e a' w' ⟨s',m',hl,hq,hr'⟩
 have fin:resK C s'.tm s'.hp fn.results.toList (λxs=>oneK xs r (λxs rs=>True->GX s'.hp bs' ks xs rs))->a'.defers=[]/\∃v,(results fn a'.tmps).run C.P w'=.ok v w'/\∃u m1,Ending.returned v=.returned u/\GR C w m bs ks r bs' u m1 w':=by
  intro hk
  obtain⟨xs,us,h1,h2,h3,h4⟩:=Zad3 hr' hk
  refine⟨hr'.df,?_⟩
  have hrun:(results fn a'.tmps).run C.P w'=.ok (if h:us.toArray.size=1 then us.toArray[0]else .tuple us.toArray) w':=by
   unfold results
   rw[Array.mapM_eq_mapM_toList,map_eq_pure_bind]
   simp only[Sem.run_bind]
   erw [h2]
   simp
  have hfin:∀(ys:List AV),GX s'.hp bs' ks xs ys->∃m1:MM,xs.length=ys.length/\(∀(j:Nat) (y:AV) (u:Value),ys[j]?=some y->us[j]?=some u->RV w' (shp (fE bs')) m1 y u) /\
    (∀v,RV w' (shp (fE bs')) m1 r v->GR C w m bs ks r bs' v m1 w'):=by
   rintro ys ⟨σl,hok,hwl,hbl⟩
   obtain⟨k1,k2,k3⟩:=Zawk hok
   let m1:MM:=⟨λi=>match(fE bs' i).blk with
    | some _=>(match(hpF s'.hp (lk σl i)).blk with|some _=>m' (lk σl i)|none=>none)
    | none=>none,m'.O⟩
   have hm1:∀i,(fE bs' i).blk≠none->m1 i=match(hpF s'.hp (lk σl i)).blk with|some _=>m' (lk σl i)|none=>none:=by
    intro i hi
    show(match(fE bs' i).blk with|some _=>_|none=>none)=_
    cases hB:(fE bs' i).blk with
    | none=>exact absurd hB hi
    | some B=>rfl
   have hm1s:∀i b,(fE bs' i).blk≠none->m1 i=some b->(hpF s'.hp (lk σl i)).blk≠none/\m' (lk σl i)=some b:=by
    intro i b hi hb
    rw[hm1 i hi]at hb
    cases hB:(hpF s'.hp (lk σl i)).blk with
    | none=>rw[hB]at hb;cases hb
    | some B=>rw[hB]at hb;exact⟨by simp,hb⟩
   have hsrc:∀i,(fE bs' i).blk≠none->lk σl i∈srcs σl bs':=by
    intro i hi
    obtain⟨p,hp,rfl⟩:=List.mem_map.1 (Zgu.1 hi)
    exact List.mem_map.2 ⟨p,hp,rfl⟩
   have hinj:∀i j,(fE bs' i).blk≠none->(fE bs' j).blk≠none->lk σl i=lk σl j->i=j:=by
    intro i j hi hj e
    obtain⟨p,hp,rfl⟩:=List.mem_map.1 (Zgu.1 hi)
    obtain⟨q,hq,rfl⟩:=List.mem_map.1 (Zgu.1 hj)
    rw[Zaga (λp:Nat×Blk=>lk σl p.1) k1 hp hq e]
   have hV:View w' (hpF s'.hp) m' (fE bs') m1 (lk σl) (λi=>inB (srcs σl bs') i=false) (λi=>inB (Zmb bs') i=true):=by
    refine⟨?_,?_,λi ht hi=>hm1 i hi⟩
    ·rintro b (ho|⟨i,hi,hb⟩)
     ·exact .inl ho
     ·obtain⟨q1,q2⟩:=hm1s i b (Zau.1 hi) hb
      exact .inr ⟨_,Zau.2 q1,q2⟩
    ·rintro i b hz hi hb (ho|⟨j,hj,hbj⟩)
     ·exact hr'.mem.sep i b hi hb ho
     ·obtain⟨q1,q2⟩:=hm1s j b (Zau.1 hj) hbj
      have:=hr'.mem.inj _ _ b hi q1 hb q2
      subst this
      have:=Zez.2 (hsrc j (Zau.1 hj))
      rw[hz]at this
      cases this
   have hmem:Mem C.N w' (fE bs') m1:=by
    refine⟨λi B hB=>?_,λi j b hi hj hb hb'=>?_,λi b hi hb=>?_,λi b hi hb=>?_,hr'.mem.olt,hr'.mem.big⟩
    ·exact(Zam8 hbl (Zan6 hB)).ok hV hr'.mem (Zez.2 (Zgu.1 (by rw[hB];simp))) hB
    ·obtain⟨q1,q2⟩:=hm1s i b hi hb
     obtain⟨q3,q4⟩:=hm1s j b hj hb'
     exact hinj i j hi hj (hr'.mem.inj _ _ b q1 q3 q2 q4)
    ·obtain⟨q1,q2⟩:=hm1s i b hi hb
     exact hr'.mem.low _ b q1 q2
    ·obtain⟨q1,q2⟩:=hm1s i b hi hb
     exact hr'.mem.sep _ b q1 q2
   refine⟨m1,hwl.len,λj y u hy hu=>?_,λv hv=>⟨hv,hmem,hr'.oo,hr'.kin,λi b hi hb=>?_,λi hi=>?_,hr'.gl⟩⟩
   ·have hlt:j<xs.length:=by rw[hwl.len];exact(gS_.1 hy).1
    exact(hwl.at j _ y (gE_ hlt) hy).rv hV hr'.mem (h4 j _ u (gE_ hlt) hu)
   ·obtain⟨q1,q2⟩:=hm1s i b hi hb
    exact hr'.own _ b q1 q2
   ·obtain⟨q1,q2⟩:=Zasz k3 i hi
    obtain⟨p1,p2,p3,p4⟩:=hr'.kk i hi
    have e1:m1 i=m' i:=by
     rw[hm1 i (Zgu.2 q2),q1]
     cases hB:(hpF s'.hp i).blk with
     | none=>exact absurd hB p2
     | some B=>rfl
    have p3':m' i=m i:=p3
    exact⟨by rw[e1,p3'],λb hb=>p4 b (by rw[p3',hb])⟩
  refine⟨_,hrun,?_⟩
  rcases Zaov h1 with⟨x,rfl,h1⟩|⟨rs,rfl,hne,h1⟩
  ·obtain⟨m1,g1,g2,g3⟩:=hfin [r] (h1 trivial)
   refine⟨_,m1,rfl,g3 _ ?_⟩
   have hus:us.length=1:=by simpa using h3.symm
   obtain⟨u,rfl⟩:=List.length_eq_one_iff.1 hus
   simpa using g2 0 r u rfl rfl
  ·obtain⟨m1,g1,g2,g3⟩:=hfin rs (h1 trivial)
   refine⟨_,m1,rfl,g3 _ ?_⟩
   have hus:us.length≠1:=λe=>by
    obtain⟨x,rfl⟩:=List.length_eq_one_iff.1 (show xs.length=1 by omega)
    exact hne x rfl
   rw[dif_neg (by simpa using hus)]
   refine .tup (by simp;omega) (λj x u hx hu=>g2 j x u hx (by simpa using hu))
 cases e with
 | normal=>exact fin hq
 | ret=>exact fin hq
 | _=>exact hq.elim
end
def okC (ρ:List (Nat×Nat))(fz:List Nat)(bs:List (Nat×Blk))(ks:List Nat)(bs':List (Nat×Blk))(go:List Nat):Bool :=
 nodB (srcs ρ bs)&&(nodB (srcs ρ bs')&&(nodB (Zmb bs)&&(nodB (Zmb bs')&&(fz.all (λi=>!inB (srcs ρ bs) i)&&(fz.all (inB go)&&((Zmb bs).all (λi=>inB go (lk ρ i)||inB ks i)&&ks.all (λi=>!inB go (lk ρ i)&&(inB (Zmb bs) i&&inB (Zmb bs') i))))))))
def Zjg (l:List (Nat×Ent)):List Nat:=l.map (·.1)
def nbOk (n:Nat)(η η1:Nat->Ent)(ρ:List (Nat×Nat))(ks:List Nat)(η':Nat->Ent)(σ:Nat->Nat)(Tg:Nat->Prop):List (Nat×Blk)->List (Nat×Ent)->Prop
 | [],[]=>True
 | (j,B) :: r,(k,⟨ver,some B'⟩) :: s=>(lk ρ j=k/\(match inB ks j with
  | true=>ver=(η k).ver/\some B'.sz=(η k).blk.map Blk.sz
  | false=>k<n/\(η k).ver+1<ver)/\GB η' η1 σ (λ_=>False) Tg (some B) B')/\nbOk n η η1 ρ ks η' σ Tg r s
 | _,_=>False
theorem Zakd {n:Nat}{η η1 η':Nat->Ent}{ρ:List (Nat×Nat)}{ks:List Nat}{σ:Nat->Nat}{Tg:Nat->Prop}:∀{bs':List (Nat×Blk)}{nb:List (Nat×Ent)},nbOk n η η1 ρ ks η' σ Tg bs' nb->Zjg nb=srcs ρ bs'
 | [],[],_=>rfl
 | (j,B) :: r,(k,⟨ver,some B'⟩) :: s,h=>by
  simp only[Zjg,srcs,List.map_cons,List.cons.injEq]
  exact⟨h.1.1.symm,Zakd h.2⟩
 | [],_ :: _,h=>h.elim
 | (j,B) :: r,[],h=>h.elim
 | (j,B) :: r,(k,⟨ver,none⟩) :: s,h=>h.elim
theorem Zaos {n:Nat}{η η1 η':Nat->Ent}{ρ:List (Nat×Nat)}{ks:List Nat}{σ:Nat->Nat}{Tg:Nat->Prop}:∀{bs':List (Nat×Blk)}{nb:List (Nat×Ent)},nbOk n η η1 ρ ks η' σ Tg bs' nb->∀k e,(k,e)∈nb ->
  ∃j B B',(j,B)∈bs'/\e.blk=some B'/\lk ρ j=k/\(inB ks j=true->e.ver=(η k).ver/\some B'.sz=(η k).blk.map Blk.sz)/\(inB ks j=false->k<n/\(η k).ver+1<e.ver)/\GB η' η1 σ (λ_=>False) Tg (some B) B'
 | [],[],_,k,e,hm=>by cases hm
 | (j,B) :: r,(k',⟨ver,some B'⟩) :: s,h,k,e,hm=>by
  rcases List.mem_cons.1 hm with q|q
  ·injection q with q1 q2
   subst q1 q2
   obtain⟨⟨a1,a2,a3⟩,_⟩:=h
   refine⟨j,B,B',by simp,rfl,a1,λhk=>?_,λhk=>?_,a3⟩
   ·rw[hk]at a2;exact a2
   ·rw[hk]at a2;exact a2
  ·obtain⟨j',C,C',b1,b2⟩:=Zaos h.2 k e q
   exact⟨j',C,C',mC_ _ b1,b2⟩
 | [],_ :: _,h,_,_,_=>h.elim
 | (j,B) :: r,[],h,_,_,_=>h.elim
 | (j,B) :: r,(k,⟨ver,none⟩) :: s,h,_,_,_=>h.elim
theorem Zlk : ∀(us vs:List (Nat×Ent))(η:Nat->Ent),Zb5 η (us++vs)=Zb5 (Zb5 η us) vs
 | [],_,_=>rfl
 | (i,e) :: r,vs,η=>by rw[List.cons_append,Zb5,Zb5,Zlk r]
theorem Zv5 : ∀{us:List (Nat×Ent)}{η:Nat->Ent}{k:Nat}{e:Ent},(Zjg us).Nodup->(k,e)∈us->Zb5 η us k=e
 | [],_,_,_,_,h=>by cases h
 | (i,e') :: r,η,k,e,hn,h=>by
  simp only[Zjg,List.map_cons,List.nodup_cons]at hn
  rw[Zb5]
  rcases List.mem_cons.1 h with h|h
  ·injection h with h1 h2
   subst h1 h2
   rw[Zfi hn.1]
   simp[Zeo]
  ·exact Zv5 hn.2 h
def Zln (ρ:List (Nat×Nat))(bs':List (Nat×Blk)):List (Nat×Nat):=bs'.map (λp=>(lk ρ p.1,p.1))
theorem Zajh {ρ:List (Nat×Nat)}:∀{bs':List (Nat×Blk)}{j:Nat}{B:Blk},(srcs ρ bs').Nodup->(j,B)∈bs'->lk (Zln ρ bs') (lk ρ j)=j
 | [],_,_,_,h=>by cases h
 | (i,C) :: r,j,B,hn,h=>by
  simp only[srcs,List.map_cons,List.nodup_cons]at hn
  show lk ((lk ρ i,i) :: Zln ρ r) (lk ρ j)=j
  unfold lk
  rcases List.mem_cons.1 h with h|h
  ·injection h with h1 _
   subst h1
   rw[Znz.2 rfl]
  ·cases hb:Nat.beq (lk ρ j) (lk ρ i)with
   | true=>exact absurd (List.mem_map.2 ⟨_,h,Znz.1 hb⟩) hn.1
   | false=>exact Zajh hn.2 h
section
variable {C : Cx} {n : Nat}
theorem Zadu {o:Oper}{τ:Nat->AV}{η:Nat->Ent}{f:FuncId}{r r':AV}{xs ys:List AV}{bs bs':List (Nat×Blk)}{ks:List Nat}(ρ:List (Nat×Nat))(fz:List Nat)(go nb:List (Nat×Ent))(rb:List Nat)
  (hrun0:∀(w0:World) (X:XX) (m:MM) (a:Act) (w:World) (τ':Nat->AV) (η':Nat->Ent),(∀y∈o.op.operands,evA τ' y=evA τ y)->(∀i∈rb,η' i=η i)->Rep C n w0 X τ' η' m a w->∃vs:Array Value,(execOp a.eval o).run C.P w=.ok (.enter f vs) w/\vs.size=xs.length/\∀(j:Nat) (x:AV) (v:Value),xs[j]?=some x->vs[j]?=some v->RV w (shp η') m x v) (hd:InB n o.dst) (hc:Zc8 C f ys bs ks r bs')
  (hok:okC ρ fz bs ks bs' (Zjg go)=true) (hgo:Zabi η go) (hgl:ltUs n go)
  (hw:GWL η (fE bs) (lk ρ) (λi=>inB fz i=true) (λi=>inB (Zmb bs) i=true) xs ys) (hb:GBL η (fE bs) (lk ρ) (λi=>inB fz i=true) (λi=>inB (Zmb bs) i=true) bs)
  (hr:GW (fE bs') (Zb5 η (go++nb)) (lk (Zln ρ bs')) (λ_=>False) (λi=>inB (Zjg nb) i=true) r r')
  (hnb:nbOk n η (Zb5 η (go++nb)) ρ ks (fE bs') (lk (Zln ρ bs')) (λi=>inB (Zjg nb) i=true) bs' nb):LF C n o τ η ⟨r',go++nb,rb⟩:=by
 intro τ' η' hτ hη w0 X m a w h
 simp only[okC,bA_,List.all_eq_true,Bool.or_eq_true,Bool.not_eq_true']at hok
 obtain⟨o1,o2,o3,o4,o5,o6,o7,o8⟩:=hok
 rw[Zyw]at o1 o2 o3 o4
 have hidsn:=Zakd hnb
 have hidN:(Zjg nb).Nodup:=by rw[hidsn];exact o2
 have hgoAt:∀k,k∈Zjg go->η' k=η k:=λk hk=>hη k (.inr (by simp only[Foot.ids,List.map_append,List.mem_append];exact .inl hk))
 have hnbAt:∀k,k∈Zjg nb->η' k=η k:=λk hk=>hη k (.inr (by simp only[Foot.ids,List.map_append,List.mem_append];exact .inr hk))
 have hkeep:∀i∈ks,lk ρ i∉Zjg go/\i∈Zmb bs/\i∈Zmb bs':=λi hi=>by
  obtain⟨q1,q2,q3⟩:=o8 i hi
  refine⟨λhm=>?_,Zez.1 q2,Zez.1 q3⟩
  rw[Zez.2 hm]at q1
  cases q1
 have hbs:∀i∈Zmb bs,lk ρ i∈Zjg go\/i∈ks:=λi hi=>by
  rcases o7 i hi with q|q
  ·exact .inl (Zez.1 q)
  ·exact .inr (Zez.1 q)
 have hfz:∀i∈fz,i∈Zjg go/\i∉srcs ρ bs:=λi hi=>by
  refine⟨Zez.1 (o6 i hi),λhm=>?_⟩
  have:=o5 i hi
  rw[Zez.2 hm]at this
  cases this
 have hlkmem:∀{l:List (Nat×Blk)} {i:Nat},i∈Zmb l->lk ρ i∈srcs ρ l:=λ{l i} hi=>by
  obtain⟨p,hp,rfl⟩:=List.mem_map.1 hi
  exact List.mem_map.2 ⟨p,hp,rfl⟩
 have hrhoAt:∀i∈Zmb bs,η' (lk ρ i)=η (lk ρ i):=λi hi=>by
  rcases hbs i hi with q|q
  ·exact hgoAt _ q
  ·exact hnbAt _ (by rw[hidsn];exact hlkmem (hkeep i q).2.2)
 have hw':GWL η' (fE bs) (lk ρ) (λi=>inB fz i=true) (λi=>inB (Zmb bs) i=true) xs ys:=by
  exact hw.congr (λi hi=>hgoAt i (hfz i (Zez.1 hi)).1) (λi hi=>⟨rfl,hrhoAt i (Zez.1 hi)⟩)
 have hb1:∀i B,(i,B)∈bs->GB η' (fE bs) (lk ρ) (λi=>inB fz i=true) (λi=>inB (Zmb bs) i=true) (η' (lk ρ i)).blk B:=λi B hm=>by
  rw[hrhoAt i (List.mem_map.2 ⟨_,hm,rfl⟩)]
  exact(Zam8 hb hm).congr (λi hi=>hgoAt i (hfz i (Zez.1 hi)).1) (λi hi=>⟨rfl,hrhoAt i (Zez.1 hi)⟩)
 let O0:Nat->Prop:=Zdf (shp (Zn3 η' (fz++srcs ρ bs))) m
 let m0:MM:=⟨λi=>match(fE bs i).blk with
  | some _=>(match(η' (lk ρ i)).blk with|some _=>m (lk ρ i)|none=>none)
  | none=>none,O0⟩
 have hO0:∀b,O0 b->Zdf (shp η') m b:=by
  rintro b (q|⟨i,q1,q2⟩)
  ·exact .inl q
  ·refine .inr ⟨i,?_,q2⟩
   have:=Zau.1 q1
   by_cases hi:i∈fz++srcs ρ bs
   ·exact absurd (Zadb hi) this
   ·rw[Zs8 hi]at this
    exact Zau.2 this
 have hO1:∀b,O0 b->m.O b\/∃i,i∉fz/\i∉srcs ρ bs/\(η' i).blk≠none/\m i=some b:=by
  rintro b (q|⟨i,q1,q2⟩)
  ·exact .inl q
  ·have:=Zau.1 q1
   by_cases hi:i∈fz++srcs ρ bs
   ·exact absurd (Zadb hi) this
   ·rw[Zs8 hi]at this
    simp only[List.mem_append,not_or]at hi
    exact .inr ⟨i,hi.1,hi.2,this,q2⟩
 have hO2:∀i b,i∉fz->i∉srcs ρ bs->(η' i).blk≠none->m i=some b->O0 b:=λi b q1 q2 q3 q4 =>
  .inr ⟨i,Zau.2 (by rw[Zs8 (by simp[q1];simpa using q2)];exact q3),q4⟩
 have hm0:∀i,(fE bs i).blk≠none->m0 i=match(η' (lk ρ i)).blk with|some _=>m (lk ρ i)|none=>none:=by
  intro i hi
  show(match(fE bs i).blk with|some _=>_|none=>none)=_
  cases hB:(fE bs i).blk with
  | none=>exact absurd hB hi
  | some B=>rfl
 have hm0s:∀i b,(fE bs i).blk≠none->m0 i=some b->(η' (lk ρ i)).blk≠none/\m (lk ρ i)=some b:=by
  intro i b hi hb
  rw[hm0 i hi]at hb
  cases hB:(η' (lk ρ i)).blk with
  | none=>rw[hB]at hb;cases hb
  | some B=>rw[hB]at hb;exact⟨by simp,hb⟩
 have hinj0:∀i j,(fE bs i).blk≠none->(fE bs j).blk≠none->lk ρ i=lk ρ j->i=j:=by
  intro i j hi hj e
  obtain⟨p,hp,rfl⟩:=List.mem_map.1 (Zgu.1 hi)
  obtain⟨q,hq,rfl⟩:=List.mem_map.1 (Zgu.1 hj)
  rw[Zaga (λp:Nat×Blk=>lk ρ p.1) o1 hp hq e]
 have hsrc0:∀i,(fE bs i).blk≠none->lk ρ i∈srcs ρ bs:=λi hi=>hlkmem (Zgu.1 hi)
 have hV0:View w η' m (fE bs) m0 (lk ρ) (λi=>inB fz i=true) (λi=>inB (Zmb bs) i=true):=by
  refine⟨?_,?_,λi _ hi=>hm0 i hi⟩
  ·rintro b (q|⟨i,q1,q2⟩)
   ·exact hO0 b q
   ·obtain⟨p1,p2⟩:=hm0s i b (Zau.1 q1) q2
    exact .inr ⟨_,Zau.2 p1,p2⟩
  ·rintro i b hz hi hbi (q|⟨j,q1,q2⟩)
   ·rcases hO1 b q with q|⟨k,k1,_,k3,k4⟩
    ·exact h.mem.sep i b hi hbi q
    ·have:=h.mem.inj i k b hi k3 hbi k4
     subst this
     exact k1 (Zez.1 hz)
   ·obtain⟨p1,p2⟩:=hm0s j b (Zau.1 q1) q2
    have:=h.mem.inj i _ b hi p1 hbi p2
    subst this
    exact(hfz _ (Zez.1 hz)).2 (hsrc0 j (Zau.1 q1))
 have hmem0:Mem C.N w (fE bs) m0:=by
  refine⟨λi B hB=>?_,λi j b hi hj hbi hbj=>?_,λi b hi hbi=>?_,λi b hi hbi ho=>?_,λb hb=>?_,h.mem.big⟩
  ·exact(hb1 i B (Zan6 hB)).ok hV0 h.mem (Zez.2 (Zgu.1 (by rw[hB];simp))) hB
  ·obtain⟨p1,p2⟩:=hm0s i b hi hbi
   obtain⟨q1,q2⟩:=hm0s j b hj hbj
   exact hinj0 i j hi hj (h.mem.inj _ _ b p1 q1 p2 q2)
  ·obtain⟨p1,p2⟩:=hm0s i b hi hbi
   exact h.mem.low _ b p1 p2
  ·obtain⟨p1,p2⟩:=hm0s i b hi hbi
   rcases hO1 b ho with q|⟨k,_,k2,k3,k4⟩
   ·exact h.mem.sep _ b p1 p2 q
   ·have:=h.mem.inj k _ b k3 p1 k4 p2
    subst this
    exact k2 (hsrc0 i hi)
  ·rcases hO0 b hb with q|⟨i,q1,q2⟩
   ·exact h.mem.olt b q
   ·exact⟨h.mem.lt (Zau.1 q1) q2,h.mem.low i b (Zau.1 q1) q2⟩
 obtain⟨us,hrun,hsz,hrvs⟩:=hrun0 w0 X m a w τ' η' hτ (λi hi=>hη i (.inl hi)) h
 unfold Oper.wp
 rw[hrun]
 refine Calls.mono (hc.2 w m0 us h.gl hmem0 (by have:=hw'.len;omega) (λj y v hy hv=>?_)) ?_
 ·have hlt:j<xs.length:=by rw[<-hsz];exact(Array.getElem?_eq_some_iff.1 hv).1
  have hx:xs[j]?=some xs[j]:=gE_ hlt
  exact(hw'.at j _ y hx hy).rv hV0 h.mem (hrvs j _ v hx hv)
 rintro e w' ⟨v,m1,rfl,gr⟩
 have hX0:∀b,(∃i,(fE bs i).blk≠none/\m0 i=some b)->∃i,(fE bs i).blk≠none/\(η' (lk ρ i)).blk≠none/\m (lk ρ i)=some b:=by
  rintro b ⟨i,q1,q2⟩
  obtain⟨p1,p2⟩:=hm0s i b q1 q2
  exact⟨i,q1,p1,p2⟩
 obtain⟨η1,hη1⟩:∃η1,η1=Zb5 η' (go++nb):=⟨_,rfl⟩
 have e1:∀k,k∉Zjg go->k∉Zjg nb->η1 k=η' k:=λk q1 q2=>by
  rw[hη1,Zfi (by simp only[List.map_append,List.mem_append,not_or];exact⟨q1,q2⟩)]
 have e2:∀k,k∈Zjg go->k∉Zjg nb->η1 k=⟨(η' k).ver+1,none⟩:=λk q1 q2=>by
  rw[hη1,Zlk,Zfi q2,Zaed go η' (λi=>⟨(η i).ver+1,none⟩) k (Zac2 hgo),if_pos (show k∈go.map (·.1)from q1),hgoAt k q1]
 have e3:∀k e,(k,e)∈nb->η1 k=e:=λk e q=>by
  rw[hη1,Zlk,Zv5 hidN q]
 have hids:∀k,k∈Zjg nb->∃e j B B',(k,e)∈nb/\η1 k=e/\(j,B)∈bs'/\e.blk=some B'/\lk ρ j=k/\lk (Zln ρ bs') k=j/\(j∈ks->e.ver=(η' k).ver/\some B'.sz=(η' k).blk.map Blk.sz)/\(j∉ks->k<n/\(η' k).ver+1<e.ver) /\
   GB (fE bs') (Zb5 η (go++nb)) (lk (Zln ρ bs')) (λ_=>False) (λi=>inB (Zjg nb) i=true) (some B) B':=by
  intro k hk
  obtain⟨⟨k',e⟩,hp,rfl⟩:=List.mem_map.1 hk
  obtain⟨j,B,B',b1,b2,b3,b4,b5,b6⟩:=Zaos hnb k' e hp
  refine⟨e,j,B,B',hp,e3 _ _ hp,b1,b2,b3,by rw[<-b3];exact Zajh o2 b1,λhj=>?_,λhj=>?_,b6⟩
  ·rw[hnbAt _ hk];exact b4 (Zez.2 hj)
  ·rw[hnbAt _ hk]
   refine b5 ?_
   cases hq:inB ks j with
   | true=>exact absurd (Zez.1 hq) hj
   | false=>rfl
 have hlive1:∀k,k∉Zjg nb->(η1 k).blk≠none->k∉Zjg go/\η1 k=η' k:=by
  intro k q1 q2
  by_cases hk:k∈Zjg go
  ·rw[e2 k hk q1]at q2
   exact absurd rfl q2
  ·exact⟨hk,e1 k hk q1⟩
 have hfree:∀k,k∉Zjg nb->k∉Zjg go->k∉fz/\k∉srcs ρ bs:=by
  intro k q1 q2
  refine⟨λhm=>q2 (hfz k hm).1,λhm=>?_⟩
  obtain⟨p,hp,rfl⟩:=List.mem_map.1 hm
  have hpk:p.1∈Zmb bs:=List.mem_map.2 ⟨p,hp,rfl⟩
  rcases hbs p.1 hpk with q|q
  ·exact q2 q
  ·exact q1 (by rw[hidsn];exact hlkmem (hkeep _ q).2.2)
 have hnX:∀k b,k∉Zjg nb->k∉Zjg go->(η' k).blk≠none->m k=some b->¬ ∃i,(fE bs i).blk≠none/\m0 i=some b:=by
  intro k b q1 q2 q3 q4 hx
  obtain⟨i,p1,p2,p3⟩:=hX0 b hx
  have:=h.mem.inj k _ b q3 p2 q4 p3
  subst this
  exact(hfree _ q1 q2).2 (hsrc0 i p1)
 let m2:MM:=⟨λk=>if k∈Zjg nb then m1 (lk (Zln ρ bs') k)else m k,m.O⟩
 have m2a:∀k,k∈Zjg nb->m2 k=m1 (lk (Zln ρ bs') k):=λk hk=>if_pos hk
 have m2b:∀k,k∉Zjg nb->m2 k=m k:=λk hk=>if_neg hk
 have hliveJ:∀k,k∈Zjg nb->(fE bs' (lk (Zln ρ bs') k)).blk≠none:=by
  intro k hk
  obtain⟨e,j,B,B',_,_,b1,_,_,b4,_⟩:=hids k hk
  rw[b4,Zav5 o4 b1]
  simp
 have hV2:View w' (fE bs') m1 η1 m2 (lk (Zln ρ bs')) (λ_=>False) (λi=>inB (Zjg nb) i=true):=by
  refine⟨?_,λi b hz=>hz.elim,λi ht _=>?_⟩
  ·rintro b (q|⟨k,q1,q2⟩)
   ·refine .inl ?_
    rw[gr.oo]
    exact .inl q
   ·by_cases hk:k∈Zjg nb
    ·rw[m2a k hk]at q2
     exact .inr ⟨_,Zau.2 (hliveJ k hk),q2⟩
    ·rw[m2b k hk]at q2
     obtain⟨p1,p2⟩:=hlive1 k hk (Zau.1 q1)
     obtain⟨f1,f2⟩:=hfree k hk p1
     refine .inl ?_
     rw[gr.oo]
     exact hO2 k b f1 f2 (by rw[<-p2];exact Zau.1 q1) q2
  ·have hk:=Zez.1 ht
   rw[m2a i hk]
   cases hB:(fE bs' (lk (Zln ρ bs') i)).blk with
   | none=>exact absurd hB (hliveJ i hk)
   | some B=>rfl
 have hsame:∀b,b<w.heap.size->(¬ ∃i,(fE bs i).blk≠none/\m0 i=some b)->w'.heap[b]?=w.heap[b]?:=λb q1 q2=>gr.kin.block b q1 q2
 have hM:Mono w (shp η') m w' (shp η1) m2:=by
  refine⟨gr.kin.size,λb hb hno=>hsame b hb (λhx=>?_),λb hb hno ho=>hno ?_,λk=>?_,λk hk=>?_⟩
  ·obtain⟨i,_,p2,p3⟩:=hX0 b hx
   exact hno (.inr ⟨_,Zau.2 p2,p3⟩)
  ·rcases ho with q|⟨k,q1,q2⟩
   ·exact .inl q
   ·by_cases hk:k∈Zjg nb
    ·rw[m2a k hk]at q2
     rcases gr.own _ b (hliveJ k hk) q2 with hx|hx
     ·obtain⟨i,_,p2,p3⟩:=hX0 b hx
      exact .inr ⟨_,Zau.2 p2,p3⟩
     ·omega
    ·rw[m2b k hk]at q2
     obtain⟨_,p2⟩:=hlive1 k hk (Zau.1 q1)
     exact .inr ⟨k,Zau.2 (by rw[<-p2];exact Zau.1 q1),q2⟩
  ·show(η' k).ver<=(η1 k).ver
   by_cases hk:k∈Zjg nb
   ·obtain⟨e,j,B,B',_,b0,b1,b2,b3,b4,b5,b6,_⟩:=hids k hk
    rw[b0]
    by_cases hj:j∈ks
    ·exact Nat.le_of_eq (b5 hj).1.symm
    ·have:=(b6 hj).2;omega
   ·by_cases hg:k∈Zjg go
    ·rw[e2 k hg hk];exact Nat.le_succ _
    ·rw[e1 k hg hk];exact Nat.le_refl _
  ·have hk':(η1 k).ver=(η' k).ver:=hk
   by_cases hn:k∈Zjg nb
   ·obtain⟨e,j,B,B',_,b0,b1,b2,b3,b4,b5,b6,_⟩:=hids k hn
    by_cases hj:j∈ks
    ·obtain⟨c1,c2⟩:=b5 hj
     refine⟨?_,λhl=>?_⟩
     ·simp only[shp,b0,b2,c1,<-c2,Option.map_some]
     ·obtain⟨g1,g2⟩:=gr.ks j hj
      have hm0k:m0 j=m k:=by
       rw[hm0 j (Zgu.2 (hkeep j hj).2.1),b3]
       cases hB:(η' k).blk with
       | none=>exact absurd hB (Zau.1 hl)
       | some B=>rfl
      refine⟨by rw[m2a k hn,b4,g1,hm0k],λb hb=>g2 b (by rw[hm0k,hb])⟩
    ·have:=(b6 hj).2
     rw[b0]at hk'
     omega
   ·by_cases hg:k∈Zjg go
    ·rw[e2 k hg hn]at hk'
     simp at hk'
    ·refine⟨by simp only[shp,e1 k hg hn],λhl=>⟨m2b k hn,λb hb=>?_⟩⟩
     unfold World.shape?
     rw[hsame b (h.mem.lt (Zau.1 hl) hb) (hnX k b hn hg (Zau.1 hl) hb)]
 have hgbk:∀k B',(η1 k).blk=some B'->k∈Zjg nb->GB (fE bs') η1 (lk (Zln ρ bs')) (λ_=>False) (λi=>inB (Zjg nb) i=true) (fE bs' (lk (Zln ρ bs') k)).blk B':=by
  intro k B' hB hk
  obtain⟨e,j,B,B2,_,b0,b1,b2,b3,b4,b5,b6,b7⟩:=hids k hk
  rw[b0,b2]at hB
  injection hB with hB
  subst hB
  rw[b4,Zav5 o4 b1]
  exact b7.congr (λi hi=>hi.elim) (λi hi=>⟨by
   obtain⟨e',_,_,_,q1,q2,_⟩:=hids i (Zez.1 hi)
   rw[q2,Zlk,Zv5 hidN q1],rfl⟩)
 have hmem:Mem C.N w' η1 m2:=by
  refine⟨λk B hB=>?_,λi j b hi hj hbi hbj=>?_,λk b hk hb=>?_,λk b hk hb=>?_,λb hb=>⟨Nat.lt_of_lt_of_le (h.mem.olt b hb).1 gr.kin.size,(h.mem.olt b hb).2⟩,Nat.le_trans h.mem.big gr.kin.size⟩
  ·by_cases hk:k∈Zjg nb
   ·exact(hgbk k B hB hk).ok hV2 gr.mem (Zez.2 hk) hB
   ·obtain⟨p1,p2⟩:=hlive1 k hk (by rw[hB];simp)
    rw[m2b k hk]
    have hB':(η' k).blk=some B:=by rw[<-p2];exact hB
    exact(h.mem.ok k B hB').mono hM (λb hb=>hsame b (h.mem.lt (by rw[hB'];simp) hb) (hnX k b hk p1 (by rw[hB'];simp) hb))
  ·have cross:∀i j,i∈Zjg nb->j∉Zjg nb->(η1 j).blk≠none->m2 i=some b->m2 j=some b->False:=by
    intro i j hi hj hl hbi hbj
    rw[m2a i hi]at hbi
    rw[m2b j hj]at hbj
    obtain⟨p1,p2⟩:=hlive1 j hj hl
    have hl':(η' j).blk≠none:=by rw[<-p2];exact hl
    rcases gr.own _ b (hliveJ i hi) hbi with hx|hx
    ·exact hnX j b hj p1 hl' hbj hx
    ·have:=h.mem.lt hl' hbj
     omega
   by_cases hin:i∈Zjg nb <;> by_cases hjn:j∈Zjg nb
   ·rw[m2a i hin]at hbi
    rw[m2a j hjn]at hbj
    have hij:=gr.mem.inj _ _ b (hliveJ i hin) (hliveJ j hjn) hbi hbj
    obtain⟨_,j1,_,_,_,_,_,_,c1,c2,_⟩:=hids i hin
    obtain⟨_,j2,_,_,_,_,_,_,d1,d2,_⟩:=hids j hjn
    rw[c2,d2]at hij
    rw[<-c1,<-d1,hij]
   ·exact(cross i j hin hjn hj hbi hbj).elim
   ·exact(cross j i hjn hin hi hbj hbi).elim
   ·rw[m2b i hin]at hbi
    rw[m2b j hjn]at hbj
    obtain⟨_,p2⟩:=hlive1 i hin hi
    obtain⟨_,q2⟩:=hlive1 j hjn hj
    exact h.mem.inj i j b (by rw[<-p2];exact hi) (by rw[<-q2];exact hj) hbi hbj
  ·by_cases hn:k∈Zjg nb
   ·rw[m2a k hn]at hb
    exact gr.mem.low _ b (hliveJ k hn) hb
   ·rw[m2b k hn]at hb
    obtain⟨_,p2⟩:=hlive1 k hn hk
    exact h.mem.low k b (by rw[<-p2];exact hk) hb
  ·by_cases hn:k∈Zjg nb
   ·rw[m2a k hn]at hb
    intro ho
    exact gr.mem.sep _ b (hliveJ k hn) hb (by rw[gr.oo];exact .inl ho)
   ·rw[m2b k hn]at hb
    obtain⟨_,p2⟩:=hlive1 k hn hk
    exact h.mem.sep k b (by rw[<-p2];exact hk) hb
 have hXb:∀b,(∃i,(fE bs i).blk≠none/\m0 i=some b)->X b\/w0.heap.size<=b:=λb hx=>by
  obtain⟨i,_,p2,p3⟩:=hX0 b hx
  exact h.own _ b p2 p3
 have hkin:Kin w0 X.X w':=⟨gr.kin.os.trans h.kin.os,gr.kin.tape.trans h.kin.tape,gr.kin.output.trans h.kin.output,Nat.le_trans h.kin.size gr.kin.size,λb hb hx=>by
  rw[hsame b (Nat.lt_of_lt_of_le hb h.kin.size) (λhq=>?_),h.kin.block b hb hx]
  rcases hXb b hq with q|q
  ·exact hx q
  ·omega⟩
 have hrep:=h.move hM hmem hkin rfl (λk b hk hb=>?_) (λk hk=>?_)
 ·refine⟨m2,?_⟩
  have hr':GW (fE bs') η1 (lk (Zln ρ bs')) (λ_=>False) (λi=>inB (Zjg nb) i=true) r r':=hr.congr (λi hi=>hi.elim) (λi hi=>⟨by
   obtain⟨e',_,_,_,q1,q2,_⟩:=hids i (Zez.1 hi)
   rw[q2,Zlk,Zv5 hidN q1],rfl⟩)
  have:=hrep.put hd (hr'.rv hV2 gr.mem gr.rv)
  rw[hη1]at this
  exact this
 ·by_cases hn:k∈Zjg nb
  ·rw[m2a k hn]at hb
   rcases gr.own _ b (hliveJ k hn) hb with hx|hx
   ·exact hXb b hx
   ·exact .inr (Nat.le_trans h.kin.size hx)
  ·rw[m2b k hn]at hb
   obtain⟨_,p2⟩:=hlive1 k hn hk
   exact h.own k b (by rw[<-p2];exact hk) hb
 ·by_cases hn:k∈Zjg nb
  ·obtain⟨e,j,B,B',_,b0,b1,b2,b3,b4,b5,b6,_⟩:=hids k hn
   rw[b0]
   by_cases hj:j∈ks
   ·exact(b5 hj).1
   ·have:=(b6 hj).1;omega
  ·by_cases hg:k∈Zjg go
   ·obtain⟨p,hp,rfl⟩:=List.mem_map.1 hg
    have:=Zah7 hgl p hp
    omega
   ·rw[e1 k hg hn]
theorem Zaj8 {o:Oper}{τ:Nat->AV}{η:Nat->Ent}{f:FuncId}{os:Array Operand}{ats:Array TypeId}{r r':AV}{xs ys:List AV}{bs bs':List (Nat×Blk)}{ks:List Nat}(ρ:List (Nat×Nat))(fz:List Nat)(go nb:List (Nat×Ent))
  (ho:o.op=.call ⟨.value (.func f),os,ats⟩) (hd:InB n o.dst) (hargs:os.toList.map (evA τ)=xs) (hc:Zc8 C f ys bs ks r bs')
  (hok:okC ρ fz bs ks bs' (Zjg go)=true) (hgo:Zabi η go) (hgl:ltUs n go)
  (hw:GWL η (fE bs) (lk ρ) (λi=>inB fz i=true) (λi=>inB (Zmb bs) i=true) xs ys) (hb:GBL η (fE bs) (lk ρ) (λi=>inB fz i=true) (λi=>inB (Zmb bs) i=true) bs)
  (hr:GW (fE bs') (Zb5 η (go++nb)) (lk (Zln ρ bs')) (λ_=>False) (λi=>inB (Zjg nb) i=true) r r')
  (hnb:nbOk n η (Zb5 η (go++nb)) ρ ks (fE bs') (lk (Zln ρ bs')) (λi=>inB (Zjg nb) i=true) bs' nb):LF C n o τ η ⟨r',go++nb,[]⟩:=by
 subst hargs
 refine Zadu ρ fz go nb [] (λw0 X m a w τ' η' g1 _ h=>⟨os.map a.eval,?_,by simp,λj x v hx hv=>?_⟩) hd hc hok hgo hgl hw hb hr hnb
 ·simp[execOp,ho,resolve,Act.eval,Deferred.ofValue,invoke,hc.1]
 ·have hmap:os.toList.map (evA τ)=os.toList.map (evA τ'):=List.map_congr_left (λy hy=>(g1 y (by simp[ho,Op.operands,Call.operands];exact .inr (by simpa using hy))).symm)
  rw[hmap]at hx
  rw[Array.getElem?_map]at hv
  cases hj:os[j]? with
  | none=>rw[hj]at hv;cases hv
  | some q =>
   rw[hj]at hv
   simp at hv
   subst hv
   simp[hj]at hx
   subst hx
   exact h.ev q
end
theorem ACall.g {C:Cx}{f:FuncId}{args:List AV}{r:AV}(h:ACall C f args r):Zc8 C f args [] [] r []:=by
 refine⟨h.1,λw m cargs hg hM hsz hargs=>?_⟩
 have hnov:shp (fE [])=nov:=by funext i;rfl
 have hfr:∀(m:MM),∀b,Zdf nov (mO m.O) b↔Zdf (shp (fE [])) m b:=λm b=>by
  rw[hnov]
  constructor
  ·rintro(q|⟨i,q1,_⟩)
   ·exact .inl q
   ·exact absurd rfl q1
  ·rintro(q|⟨i,q1,_⟩)
   ·exact .inl q
   ·exact absurd rfl q1
 have hMono:∀(w:World) (m m':MM),m.O=m'.O->Mono w nov m w nov m':=λw m m' hO =>
  ⟨Nat.le_refl _,λ_ _ _=>rfl,λb _ hno ho=>hno (by
   rcases ho with q|⟨i,q1,_⟩
   ·exact .inl (by rw[hO];exact q)
   ·exact absurd rfl q1),λ_=>Nat.le_refl _,λi _=>⟨rfl,λhl=>absurd rfl hl⟩⟩
 refine Calls.mono (h.2 w m.O cargs hg hM.big hM.olt hsz (λj x v hx hv=>(by have:=hargs j x v hx hv;rw[hnov]at this;exact this.mono (hMono w m (mO m.O) rfl)))) ?_
 rintro e w' ⟨v,rfl,h1,h2,h3⟩
 refine⟨v,m,rfl,by rw[hnov];exact h1.mono (hMono w' (mO m.O) m rfl),?_,rfl,⟨h2.os,h2.tape,h2.output,h2.size,λb hb _=>h2.block b hb (by simp)⟩,λi b hi=>absurd rfl hi,λi hi=>(by cases hi),h3⟩
 exact⟨λi B hB=>(by cases hB),λi j b hi=>absurd rfl hi,λi b hi=>absurd rfl hi,λi b hi=>absurd rfl hi,λb hb=>⟨Nat.lt_of_lt_of_le (hM.olt b hb).1 h2.size,(hM.olt b hb).2⟩,Nat.le_trans hM.big h2.size⟩
end Go.Proofs.YtpfnmpdcneejbaaGreatDoor.Am
namespace Go.Proofs.YtpfnmpdcneejbaaGreatDoor.Am
def Zach (η:Nat->Ent):List (Nat×Ent)->Prop
 | []=>True
 | (i,e) :: r=>η i=e/\Zach η r
theorem Zv6 : ∀{us:List (Nat×Ent)}{η:Nat->Ent},Zach η us->Zb5 η us=η
 | [],_,_=>rfl
 | (i,e) :: r,η,h=>by
  have hu:Zeo η i e=η:=by
   funext k
   unfold Zeo
   split
   ·rename_i hk
    first|rw[hk,h.1]|rw[<-hk,h.1]|(have:=h.1;simp_all)
   ·rfl
  rw[Zb5,hu]
  exact Zv6 h.2
theorem Zx8 : ∀{us:List (Nat×Ent)}{η η':Nat->Ent},(∀i∈us.map (·.1),η' i=η i)->Zach η us->Zach η' us
 | [],_,_,_,_=>trivial
 | _ :: _,_,_,h,hs=>⟨(h _ (mS_ ..)).trans hs.1,Zx8 (λk hk=>h k (mC_ _ hk)) hs.2⟩
theorem Zarj {C:Cx}{n:Nat}{o:Oper}{τ:Nat->AV}{η:Nat->Ent}{r':AV}{nb:List (Nat×Ent)}(h:LF C n o τ η ⟨r',[]++nb,[]⟩)(hs:Zach η nb):LF C n o τ η ⟨r',[],nb.map (·.1)⟩:=by
 intro τ' η' h1 h2
 have h3:∀i∈nb.map (·.1),η' i=η i:=λi hi=>h2 i (.inl hi)
 have:=h τ' η' h1 (λi hi=>h3 i (by rcases hi with hi|hi;cases hi;exact hi))
 rwa [List.nil_append,Zv6 (Zx8 h3 hs)]at this
theorem Zac5 {C:Cx}{s:St}{Q:Exit->St->Prop}{α:Type}{x:Code}(J:α->St)(P:α->Prop)(h1:AWP C x (Zai1 (λs'=>∃v,P v/\leK s' (J v) True) Q) s)
  (h2:∀v,P v->Zdo (J v).tm (λtm=>Zdo (J v).hp (λhp=>True->Q .normal ⟨tm,hp⟩))):AWP C x Q s:=by
 unfold AWP at h1 ⊢
 intro w0 X m a w hr
 refine wp_mono (h1 w0 X m a w hr) ?_
 rintro e a' w' ⟨s',m',g1,g2,g3⟩
 cases e with
 | normal =>
  obtain⟨v,hp,hl⟩:=g2
  obtain⟨l1,_,l2⟩:=Zx1 (C:=C) hl
  obtain⟨m2,r2⟩:=l2 w0 X m' a' w' g3
  exact⟨J v,m2,by rw[<-g1];first|exact l1|exact l1.symm,Zcl (Zcl (h2 v hp)) trivial,r2⟩
 | _=>exact⟨s',m',g1,g2,g3⟩
theorem Zaoo {C:Cx}{n:Nat}{o:Oper}{τ:Nat->AV}{η:Nat->Ent}{xt yt e:TypeId}{x y:Operand}{ti:TI}(ho:o.op=.binOp .neq xt x y yt)(hd:InB n o.dst)(hx:evA τ x=.c (.slice none 0 0))(hy:evA τ y=.c (.slice none 0 0))(ht:TyOk C.P xt ti)(hk:ti.kind=.slice e):LF C n o τ η ⟨.c (.bool false),[],[]⟩:=by
 refine Zbq hd (λτ' η' g1 _=>?_)
 intro w0 X m a w h
 have h1:=h.ev x
 have h2:=h.ev y
 rw[g1 x (by simp[ho,Op.operands]),hx]at h1
 rw[g1 y (by simp[ho,Op.operands]),hy]at h2
 refine⟨_,?_,.c _⟩
 have he:=λw=>run_equal_slice_nil (P:=C.P) w xt e none 0 0 (ht.sliceU hk)
 simp[execOp,ho,Zjp h1,Zjp h2,eqGuard,Go.binOp,he]
theorem Zanx {α:Type}{a b:α}{l m:List α}(h:a=b)(h2:l=m):a :: l=b :: m:=by rw[h,h2]
theorem Zaw4 {α:Type}{e:AV}{k m n:Nat}{f:α->List AV}{l:List α}(h:e=AV.sl k (List.drop m (List.take n (List.map f l)))):e=AV.sl k (List.map f (List.drop m (List.take n l))):=h.trans (by rw[List.map_drop,List.map_take])
end Go.Proofs.YtpfnmpdcneejbaaGreatDoor.Am
namespace Go.Proofs
open Go.Shelf
def Tryz.lays122_ren : Go.Shelf.Ren:=⟨λ|122=>107|215=>138|n=>n,λ|3=>3|4=>4|n=>n,λ|n=>n⟩
theorem Tryz.lays122 : Go.Proofs.Lays.n122 Tryz.prog Tryz.lays122_ren:={
 mixed:=by kernel_rfl
 f122:=Tryz.func107.trans (congrArg some (by kernel_rfl))
 f215:=Tryz.func138.trans (congrArg some (by kernel_rfl))
 t3:=Tryz.underlying3
 a3:=Tryz.isAgg3
 z3:=Tryz.sizeOf3
 v3:=Tryz.zeroValue3
 t4:=Tryz.underlying4
 a4:=Tryz.isAgg4
 z4:=Tryz.sizeOf4
 v4:=Tryz.zeroValue4 }
open Go.RowKit in
theorem Tryz.cmp_Compare_int (x y:Int)(w:World) :
  Calls Tryz.prog 107 #[.int .i64 x,.int .i64 y] w λe w'=>e=.returned (.int .i64 (Lib.compareInt x y))/\w'=w:=Any.cmp_Compare_int Tryz.lays122 x y w
def Tryz.laysM171_ren : Go.Shelf.Ren:=⟨λ|171=>65|243=>89|246=>109|283=>139|284=>140|285=>141|286=>142|129=>121|317=>155|318=>156|319=>157|320=>158|337=>167|338=>168|n=>n,λ|3=>3|9=>9|2=>2|4=>4|171=>212|0=>0|53=>199|37=>132|5=>5|173=>214|212=>231|51=>197|20=>20|213=>232|46=>170|232=>241|233=>242|n=>n,λ|17=>0|18=>1|19=>2|n=>n⟩
theorem Tryz.laysM171 : Go.Proofs.LaysM.n171 Tryz.prog Tryz.laysM171_ren:={
 mixed:=by kernel_rfl
 f129:=Tryz.func121.trans (congrArg some (by kernel_rfl))
 f171:=Tryz.func65.trans (congrArg some (by kernel_rfl))
 f243:=Tryz.func89.trans (congrArg some (by kernel_rfl))
 f246:=Tryz.func109.trans (congrArg some (by kernel_rfl))
 f283:=Tryz.func139.trans (congrArg some (by kernel_rfl))
 f284:=Tryz.func140.trans (congrArg some (by kernel_rfl))
 f285:=Tryz.func141.trans (congrArg some (by kernel_rfl))
 f286:=Tryz.func142.trans (congrArg some (by kernel_rfl))
 f317:=Tryz.func155.trans (congrArg some (by kernel_rfl))
 f318:=Tryz.func156.trans (congrArg some (by kernel_rfl))
 f319:=Tryz.func157.trans (congrArg some (by kernel_rfl))
 f320:=Tryz.func158.trans (congrArg some (by kernel_rfl))
 f337:=Tryz.func167.trans (congrArg some (by kernel_rfl))
 f338:=Tryz.func168.trans (congrArg some (by kernel_rfl))
 t0:=Tryz.underlying0
 a0:=Tryz.isAgg0
 z0:=Tryz.sizeOf0
 v0:=Tryz.zeroValue0
 t2:=Tryz.underlying2
 a2:=Tryz.isAgg2
 z2:=Tryz.sizeOf2
 v2:=Tryz.zeroValue2
 t3:=Tryz.underlying3
 a3:=Tryz.isAgg3
 z3:=Tryz.sizeOf3
 v3:=Tryz.zeroValue3
 t4:=Tryz.underlying4
 a4:=Tryz.isAgg4
 z4:=Tryz.sizeOf4
 v4:=Tryz.zeroValue4
 t5:=Tryz.underlying5
 a5:=Tryz.isAgg5
 z5:=Tryz.sizeOf5
 v5:=Tryz.zeroValue5
 t9:=Tryz.underlying9
 a9:=Tryz.isAgg9
 z9:=Tryz.sizeOf9
 v9:=Tryz.zeroValue9
 t20:=Tryz.underlying20
 a20:=Tryz.isAgg20
 z20:=Tryz.sizeOf20
 v20:=Tryz.zeroValue20
 t37:=Tryz.underlying132
 a37:=Tryz.isAgg132
 z37:=Tryz.sizeOf132
 v37:=Tryz.zeroValue132
 t46:=Tryz.underlying170
 a46:=Tryz.isAgg170
 z46:=Tryz.sizeOf170
 v46:=Tryz.zeroValue170
 t51:=Tryz.underlying197
 a51:=Tryz.isAgg197
 z51:=Tryz.sizeOf197
 v51:=Tryz.zeroValue197
 t53:=Tryz.underlying199
 a53:=Tryz.isAgg199
 z53:=Tryz.sizeOf199
 v53:=Tryz.zeroValue199
 t171:=Tryz.underlying212
 a171:=Tryz.isAgg212
 z171:=Tryz.sizeOf212
 v171:=Tryz.zeroValue212
 t173:=Tryz.underlying214
 a173:=Tryz.isAgg214
 z173:=Tryz.sizeOf214
 v173:=Tryz.zeroValue214
 t212:=Tryz.underlying231
 a212:=Tryz.isAgg231
 z212:=Tryz.sizeOf231
 v212:=Tryz.zeroValue231
 t213:=Tryz.underlying232
 a213:=Tryz.isAgg232
 z213:=Tryz.sizeOf232
 t232:=Tryz.underlying241
 a232:=Tryz.isAgg241
 z232:=Tryz.sizeOf241
 v232:=Tryz.zeroValue241
 t233:=Tryz.underlying242
 a233:=Tryz.isAgg242
 z233:=Tryz.sizeOf242
 v233:=Tryz.zeroValue242
 g17:=by kernel_rfl
 g18:=by kernel_rfl
 g19:=by kernel_rfl
 i0:=by kernel_rfl
 i2:=by kernel_rfl
 i3:=by kernel_rfl
 i4:=by kernel_rfl
 i5:=by kernel_rfl
 i9:=by kernel_rfl
 i20:=by kernel_rfl
 i37:=by kernel_rfl
 i46:=by kernel_rfl
 i51:=by kernel_rfl
 i53:=by kernel_rfl
 i171:=by kernel_rfl
 i173:=by kernel_rfl
 i212:=by kernel_rfl
 i232:=by kernel_rfl
 i233:=by kernel_rfl
 m17:=by kernel_rfl
 m18:=by kernel_rfl
 m19:=by kernel_rfl }
open Go.RowKit Go.Sort Go.Lib in
theorem Tryz.strconv_Itoa (n:Int)(h0:-9223372036854775808<=n)(h1:n<=9223372036854775807)(w:World)(htab:Lib.TabIs Tryz.prog w "internal/strconv.uint64pow10" .u64 Lib.pow10Tab) :
  Calls Tryz.prog 65 #[.int .i64 n] w λe w'=>e=.returned (.string ⟨(Lib.itoa n).toArray⟩)/\∃k os,w'=grow (w.drewN k) os:=Any.strconv_Itoa Tryz.laysM171 n h0 h1 w htab
def Tryz.lays189_ren : Go.Shelf.Ren:=⟨λ|189=>71|125=>94|257=>93|128=>120|129=>121|294=>111|295=>112|296=>113|297=>114|298=>115|299=>116|216=>117|300=>118|301=>119|328=>143|329=>144|330=>145|331=>146|332=>147|215=>138|343=>159|n=>n,λ|28=>22|3=>3|46=>170|0=>0|51=>197|53=>199|4=>4|183=>191|182=>190|131=>85|5=>5|9=>9|218=>216|222=>220|228=>233|229=>234|n=>n,λ|n=>n⟩
theorem Tryz.lays189 : Go.Proofs.Lays.n189 Tryz.prog Tryz.lays189_ren:={
 mixed:=by kernel_rfl
 f125:=Tryz.func94.trans (congrArg some (by kernel_rfl))
 f128:=Tryz.func120.trans (congrArg some (by kernel_rfl))
 f129:=Tryz.func121.trans (congrArg some (by kernel_rfl))
 f189:=Tryz.func71.trans (congrArg some (by kernel_rfl))
 f215:=Tryz.func138.trans (congrArg some (by kernel_rfl))
 f216:=Tryz.func117.trans (congrArg some (by kernel_rfl))
 f257:=Tryz.func93.trans (congrArg some (by kernel_rfl))
 f294:=Tryz.func111.trans (congrArg some (by kernel_rfl))
 f295:=Tryz.func112.trans (congrArg some (by kernel_rfl))
 f296:=Tryz.func113.trans (congrArg some (by kernel_rfl))
 f297:=Tryz.func114.trans (congrArg some (by kernel_rfl))
 f298:=Tryz.func115.trans (congrArg some (by kernel_rfl))
 f299:=Tryz.func116.trans (congrArg some (by kernel_rfl))
 f300:=Tryz.func118.trans (congrArg some (by kernel_rfl))
 f301:=Tryz.func119.trans (congrArg some (by kernel_rfl))
 f328:=Tryz.func143.trans (congrArg some (by kernel_rfl))
 f329:=Tryz.func144.trans (congrArg some (by kernel_rfl))
 f330:=Tryz.func145.trans (congrArg some (by kernel_rfl))
 f331:=Tryz.func146.trans (congrArg some (by kernel_rfl))
 f332:=Tryz.func147.trans (congrArg some (by kernel_rfl))
 f343:=Tryz.func159.trans (congrArg some (by kernel_rfl))
 t0:=Tryz.underlying0
 a0:=Tryz.isAgg0
 z0:=Tryz.sizeOf0
 v0:=Tryz.zeroValue0
 t3:=Tryz.underlying3
 a3:=Tryz.isAgg3
 z3:=Tryz.sizeOf3
 v3:=Tryz.zeroValue3
 t4:=Tryz.underlying4
 a4:=Tryz.isAgg4
 z4:=Tryz.sizeOf4
 v4:=Tryz.zeroValue4
 t5:=Tryz.underlying5
 a5:=Tryz.isAgg5
 z5:=Tryz.sizeOf5
 v5:=Tryz.zeroValue5
 t9:=Tryz.underlying9
 a9:=Tryz.isAgg9
 z9:=Tryz.sizeOf9
 v9:=Tryz.zeroValue9
 t28:=Tryz.underlying22
 a28:=Tryz.isAgg22
 z28:=Tryz.sizeOf22
 v28:=Tryz.zeroValue22
 t46:=Tryz.underlying170
 a46:=Tryz.isAgg170
 z46:=Tryz.sizeOf170
 v46:=Tryz.zeroValue170
 t51:=Tryz.underlying197
 a51:=Tryz.isAgg197
 z51:=Tryz.sizeOf197
 v51:=Tryz.zeroValue197
 t53:=Tryz.underlying199
 a53:=Tryz.isAgg199
 z53:=Tryz.sizeOf199
 v53:=Tryz.zeroValue199
 t131:=Tryz.underlying85
 a131:=Tryz.isAgg85
 z131:=Tryz.sizeOf85
 v131:=Tryz.zeroValue85
 t182:=Tryz.underlying190
 a182:=Tryz.isAgg190
 z182:=Tryz.sizeOf190
 v182:=Tryz.zeroValue190
 t183:=Tryz.underlying191
 a183:=Tryz.isAgg191
 z183:=Tryz.sizeOf191
 v183:=Tryz.zeroValue191
 t218:=Tryz.underlying216
 a218:=Tryz.isAgg216
 z218:=Tryz.sizeOf216
 v218:=Tryz.zeroValue216
 t222:=Tryz.underlying220
 a222:=Tryz.isAgg220
 z222:=Tryz.sizeOf220
 v222:=Tryz.zeroValue220
 t228:=Tryz.underlying233
 a228:=Tryz.isAgg233
 z228:=Tryz.sizeOf233
 v228:=Tryz.zeroValue233
 t229:=Tryz.underlying234
 a229:=Tryz.isAgg234
 z229:=Tryz.sizeOf234
 v229:=Tryz.zeroValue234 }
open Go.Sort Go.RowKit in
theorem Tryz.slices_Sort_int (blk off cap:Nat)(zs:List Int)(w:World)(hH:Holds (Value.int .i64) w blk off zs.toArray)(hblk:blk<w.heap.size)(hsz:zs.length<4611686018427387904) :
  Calls Tryz.prog 71 #[.slice (some ⟨blk,off,none⟩) zs.length cap] w λe w' =>
   e=.returned (.tuple #[])/\∃n os,w'=grow (putRow (Value.int .i64) (Sort.ahead w n) blk off (zs.mergeSort λx y=>decide (x<=y)).toArray) os:=Any.slices_Sort_int Tryz.lays189 blk off cap zs w hH hblk hsz
def Tryz.laysNm215_ren : Go.Shelf.Ren:=⟨λ|15=>21|n=>n,λ|22=>22|3=>3|4=>4|n=>n,λ|n=>n⟩
theorem Tryz.laysNm215 : Go.Proofs.Lays2.n15 Tryz.prog Tryz.laysNm215_ren:={
 mixed:=by kernel_rfl
 f15:=Tryz.func21.trans (congrArg some (by kernel_rfl))
 t3:=Tryz.underlying3
 a3:=Tryz.isAgg3
 z3:=Tryz.sizeOf3
 v3:=Tryz.zeroValue3
 t4:=Tryz.underlying4
 a4:=Tryz.isAgg4
 z4:=Tryz.sizeOf4
 v4:=Tryz.zeroValue4
 t22:=Tryz.underlying22
 a22:=Tryz.isAgg22
 z22:=Tryz.sizeOf22
 v22:=Tryz.zeroValue22
 i3:=by kernel_rfl }
open Go.RowKit Go.Lib in
theorem Tryz.slices_Clone_int (b off n c:Nat)(zs:List Int)(w:World)(hz:n<=zs.length)(hbig:n*8<=140737488355328)(hc:∀j,j<zs.length->w.cell? ⟨b,off+j,none⟩=some (.int .i64 (zs.getD j 0))) :
  Calls Tryz.prog 21 #[.slice (some ⟨b,off,none⟩) n c] w λe w'=>∃v',e=.returned v'/\w'.ownsRow w.heap.size 3 1 v' n ((zs.take n).map (Value.int .i64))/\v'≠.slice none 0 0/\Below w.heap.size w w':=Any.slices_Clone_int Tryz.laysNm215 b off n c zs w hz hbig hc
open Go.RowKit Go.Lib in
theorem Tryz.slices_Clone_int_nil (n c:Nat)(w:World) :
  Calls Tryz.prog 21 #[.slice none n c] w λe w'=>e=.returned (.slice none 0 0)/\w'=w:=Any.slices_Clone_int_nil Tryz.laysNm215 n c w
open Go.RowKit Go.Lib in
theorem Tryz.slices_Clone_int_zero (a:Addr)(c:Nat)(w:World) :
  Calls Tryz.prog 21 #[.slice (some a) 0 c] w λe w'=>∃v',e=.returned v'/\w'.ownsRow w.heap.size 3 1 v' 0 []/\v'≠.slice none 0 0/\Below w.heap.size w w':=Any.slices_Clone_int_zero Tryz.laysNm215 a c w
open Go.RowKit Go.Sort in
theorem Tryz.slices_Sort_int_none (p:Option Addr)(cap:Nat)(w:World) :
  Calls Tryz.prog 71 #[.slice p 0 cap] w λe w'=>e=.returned (.tuple #[])/\w'=w:=Any.slices_Sort_int_none Tryz.lays189 p cap w
def Tryz.sortFact_ren : Go.Shelf.Ren:=⟨λ|6=>162|15=>94|14=>170|28=>120|29=>121|20=>173|21=>174|22=>175|23=>176|24=>177|25=>178|26=>179|27=>180|46=>181|47=>144|48=>145|49=>182|50=>183|57=>184|n=>n,λ|22=>23|24=>53|25=>184|3=>3|39=>170|0=>0|53=>197|55=>199|4=>4|46=>191|45=>190|50=>85|5=>5|9=>9|66=>216|70=>220|76=>233|77=>234|n=>n,λ|n=>n⟩
theorem Tryz.sortFact : Go.Proofs.SlLaysF0.n6 Tryz.prog Tryz.sortFact_ren:={
 mixed:=by kernel_rfl
 f6:=⟨Tryz.f162.name,by decide,Tryz.func162.trans (congrArg some (by kernel_rfl))⟩
 f14:=⟨Tryz.f170.name,by decide,Tryz.func170.trans (congrArg some (by kernel_rfl))⟩
 f15:=Tryz.func94.trans (congrArg some (by kernel_rfl))
 f20:=⟨Tryz.f173.name,by decide,Tryz.func173.trans (congrArg some (by kernel_rfl))⟩
 f21:=⟨Tryz.f174.name,by decide,Tryz.func174.trans (congrArg some (by kernel_rfl))⟩
 f22:=⟨Tryz.f175.name,by decide,Tryz.func175.trans (congrArg some (by kernel_rfl))⟩
 f23:=⟨Tryz.f176.name,by decide,Tryz.func176.trans (congrArg some (by kernel_rfl))⟩
 f24:=⟨Tryz.f177.name,by decide,Tryz.func177.trans (congrArg some (by kernel_rfl))⟩
 f25:=⟨Tryz.f178.name,by decide,Tryz.func178.trans (congrArg some (by kernel_rfl))⟩
 f26:=⟨Tryz.f179.name,by decide,Tryz.func179.trans (congrArg some (by kernel_rfl))⟩
 f27:=⟨Tryz.f180.name,by decide,Tryz.func180.trans (congrArg some (by kernel_rfl))⟩
 f28:=Tryz.func120.trans (congrArg some (by kernel_rfl))
 f29:=Tryz.func121.trans (congrArg some (by kernel_rfl))
 f46:=⟨Tryz.f181.name,by decide,Tryz.func181.trans (congrArg some (by kernel_rfl))⟩
 f47:=Tryz.func144.trans (congrArg some (by kernel_rfl))
 f48:=Tryz.func145.trans (congrArg some (by kernel_rfl))
 f49:=⟨Tryz.f182.name,by decide,Tryz.func182.trans (congrArg some (by kernel_rfl))⟩
 f50:=⟨Tryz.f183.name,by decide,Tryz.func183.trans (congrArg some (by kernel_rfl))⟩
 f57:=⟨Tryz.f184.name,by decide,Tryz.func184.trans (congrArg some (by kernel_rfl))⟩
 t0:=Tryz.underlying0
 a0:=Tryz.isAgg0
 z0:=Tryz.sizeOf0
 v0:=Tryz.zeroValue0
 t3:=Tryz.underlying3
 a3:=Tryz.isAgg3
 z3:=Tryz.sizeOf3
 v3:=Tryz.zeroValue3
 t4:=Tryz.underlying4
 a4:=Tryz.isAgg4
 z4:=Tryz.sizeOf4
 v4:=Tryz.zeroValue4
 t5:=Tryz.underlying5
 a5:=Tryz.isAgg5
 z5:=Tryz.sizeOf5
 v5:=Tryz.zeroValue5
 t9:=Tryz.underlying9
 a9:=Tryz.isAgg9
 z9:=Tryz.sizeOf9
 v9:=Tryz.zeroValue9
 t22:=Tryz.underlying23
 a22:=Tryz.isAgg23
 z22:=Tryz.sizeOf23
 v22:=Tryz.zeroValue23
 t25:=Tryz.underlying184
 a25:=Tryz.isAgg184
 z25:=Tryz.sizeOf184
 v25:=Tryz.zeroValue184
 t39:=Tryz.underlying170
 a39:=Tryz.isAgg170
 z39:=Tryz.sizeOf170
 v39:=Tryz.zeroValue170
 t45:=Tryz.underlying190
 a45:=Tryz.isAgg190
 z45:=Tryz.sizeOf190
 v45:=Tryz.zeroValue190
 t46:=Tryz.underlying191
 a46:=Tryz.isAgg191
 z46:=Tryz.sizeOf191
 v46:=Tryz.zeroValue191
 t50:=Tryz.underlying85
 a50:=Tryz.isAgg85
 z50:=Tryz.sizeOf85
 v50:=Tryz.zeroValue85
 t53:=Tryz.underlying197
 a53:=Tryz.isAgg197
 z53:=Tryz.sizeOf197
 v53:=Tryz.zeroValue197
 t55:=Tryz.underlying199
 a55:=Tryz.isAgg199
 z55:=Tryz.sizeOf199
 v55:=Tryz.zeroValue199
 t66:=Tryz.underlying216
 a66:=Tryz.isAgg216
 z66:=Tryz.sizeOf216
 v66:=Tryz.zeroValue216
 t70:=Tryz.underlying220
 a70:=Tryz.isAgg220
 z70:=Tryz.sizeOf220
 v70:=Tryz.zeroValue220
 t76:=Tryz.underlying233
 a76:=Tryz.isAgg233
 z76:=Tryz.sizeOf233
 v76:=Tryz.zeroValue233
 t77:=Tryz.underlying234
 a77:=Tryz.isAgg234
 z77:=Tryz.sizeOf234
 v77:=Tryz.zeroValue234 }
def Tryz.sortList_ren : Go.Shelf.Ren:=⟨λ|6=>85|15=>94|14=>103|28=>120|29=>121|20=>130|21=>131|22=>132|23=>133|24=>134|25=>135|26=>136|27=>137|46=>152|47=>144|48=>145|49=>153|50=>154|57=>166|n=>n,λ|22=>79|24=>23|25=>163|3=>3|39=>170|0=>0|53=>197|55=>199|4=>4|46=>191|45=>190|50=>85|5=>5|9=>9|66=>216|70=>220|76=>233|77=>234|n=>n,λ|n=>n⟩
theorem Tryz.sortList : Go.Proofs.SlLaysF.n6 Tryz.prog Tryz.sortList_ren:={
 mixed:=by kernel_rfl
 f6:=⟨Tryz.f85.name,by decide,Tryz.func85.trans (congrArg some (by kernel_rfl))⟩
 f14:=⟨Tryz.f103.name,by decide,Tryz.func103.trans (congrArg some (by kernel_rfl))⟩
 f15:=Tryz.func94.trans (congrArg some (by kernel_rfl))
 f20:=⟨Tryz.f130.name,by decide,Tryz.func130.trans (congrArg some (by kernel_rfl))⟩
 f21:=⟨Tryz.f131.name,by decide,Tryz.func131.trans (congrArg some (by kernel_rfl))⟩
 f22:=⟨Tryz.f132.name,by decide,Tryz.func132.trans (congrArg some (by kernel_rfl))⟩
 f23:=⟨Tryz.f133.name,by decide,Tryz.func133.trans (congrArg some (by kernel_rfl))⟩
 f24:=⟨Tryz.f134.name,by decide,Tryz.func134.trans (congrArg some (by kernel_rfl))⟩
 f25:=⟨Tryz.f135.name,by decide,Tryz.func135.trans (congrArg some (by kernel_rfl))⟩
 f26:=⟨Tryz.f136.name,by decide,Tryz.func136.trans (congrArg some (by kernel_rfl))⟩
 f27:=⟨Tryz.f137.name,by decide,Tryz.func137.trans (congrArg some (by kernel_rfl))⟩
 f28:=Tryz.func120.trans (congrArg some (by kernel_rfl))
 f29:=Tryz.func121.trans (congrArg some (by kernel_rfl))
 f46:=⟨Tryz.f152.name,by decide,Tryz.func152.trans (congrArg some (by kernel_rfl))⟩
 f47:=Tryz.func144.trans (congrArg some (by kernel_rfl))
 f48:=Tryz.func145.trans (congrArg some (by kernel_rfl))
 f49:=⟨Tryz.f153.name,by decide,Tryz.func153.trans (congrArg some (by kernel_rfl))⟩
 f50:=⟨Tryz.f154.name,by decide,Tryz.func154.trans (congrArg some (by kernel_rfl))⟩
 f57:=⟨Tryz.f166.name,by decide,Tryz.func166.trans (congrArg some (by kernel_rfl))⟩
 t0:=Tryz.underlying0
 a0:=Tryz.isAgg0
 z0:=Tryz.sizeOf0
 v0:=Tryz.zeroValue0
 t3:=Tryz.underlying3
 a3:=Tryz.isAgg3
 z3:=Tryz.sizeOf3
 v3:=Tryz.zeroValue3
 t4:=Tryz.underlying4
 a4:=Tryz.isAgg4
 z4:=Tryz.sizeOf4
 v4:=Tryz.zeroValue4
 t5:=Tryz.underlying5
 a5:=Tryz.isAgg5
 z5:=Tryz.sizeOf5
 v5:=Tryz.zeroValue5
 t9:=Tryz.underlying9
 a9:=Tryz.isAgg9
 z9:=Tryz.sizeOf9
 v9:=Tryz.zeroValue9
 t22:=Tryz.underlying79
 a22:=Tryz.isAgg79
 z22:=Tryz.sizeOf79
 v22:=Tryz.zeroValue79
 a24:=Tryz.isAgg23
 z24:=Tryz.sizeOf23
 t25:=Tryz.underlying163
 a25:=Tryz.isAgg163
 z25:=Tryz.sizeOf163
 v25:=Tryz.zeroValue163
 t39:=Tryz.underlying170
 a39:=Tryz.isAgg170
 z39:=Tryz.sizeOf170
 v39:=Tryz.zeroValue170
 t45:=Tryz.underlying190
 a45:=Tryz.isAgg190
 z45:=Tryz.sizeOf190
 v45:=Tryz.zeroValue190
 t46:=Tryz.underlying191
 a46:=Tryz.isAgg191
 z46:=Tryz.sizeOf191
 v46:=Tryz.zeroValue191
 t50:=Tryz.underlying85
 a50:=Tryz.isAgg85
 z50:=Tryz.sizeOf85
 v50:=Tryz.zeroValue85
 t53:=Tryz.underlying197
 a53:=Tryz.isAgg197
 z53:=Tryz.sizeOf197
 v53:=Tryz.zeroValue197
 t55:=Tryz.underlying199
 a55:=Tryz.isAgg199
 z55:=Tryz.sizeOf199
 v55:=Tryz.zeroValue199
 t66:=Tryz.underlying216
 a66:=Tryz.isAgg216
 z66:=Tryz.sizeOf216
 v66:=Tryz.zeroValue216
 t70:=Tryz.underlying220
 a70:=Tryz.isAgg220
 z70:=Tryz.sizeOf220
 v70:=Tryz.zeroValue220
 t76:=Tryz.underlying233
 a76:=Tryz.isAgg233
 z76:=Tryz.sizeOf233
 v76:=Tryz.zeroValue233
 t77:=Tryz.underlying234
 a77:=Tryz.isAgg234
 z77:=Tryz.sizeOf234
 v77:=Tryz.zeroValue234 }
end Go.Proofs
namespace Go.Proofs.YtpfnmpdcneejbaaGreatDoor
open Go.RowKit Go.Sort Go.Shelf Go.Lib
def Grw (w w':World):Prop:=∃q os,w'=grow (w.drewN q) os
theorem Grw.refl (w:World):Grw w w:=⟨0,#[],by simp;rfl⟩
theorem Grw.alloc {a w:World}(h:Grw a w)(o:Obj):Grw a (w.alloc o):=by
 obtain⟨q,os,rfl⟩:=h
 exact⟨q,os++#[o],by rw[alloc_eq_grow,grow_grow]⟩
theorem Grw.drew {a w:World}(h:Grw a w):Grw a w.drew:=by
 obtain⟨q,os,rfl⟩:=h
 exact⟨q+1,os,rfl⟩
theorem Grw.drewN {a w:World}(h:Grw a w)(n:Nat):Grw a (w.drewN n):=by
 obtain⟨q,os,rfl⟩:=h
 exact⟨q+n,os,by rw[<-World.drewN_drewN];rfl⟩
theorem Grw.below {w w':World}(h:Grw w w'):Below w.heap.size w w':=by
 obtain⟨q,os,rfl⟩:=h
 exact⟨rfl,rfl,rfl,by simp[grow],λi hi=>by
  show(w.heap++os)[i]?=w.heap[i]?
  rw[Array.getElem?_append_left hi]⟩
def Zrm (x y:Zaa):Int:=if Lib.compareInt x.1 y.1≠0 then Lib.compareInt x.1 y.1 else Lib.compareInt x.2 y.2
def ltF (x y:Zaa):Bool:=decide (x.1<y.1)||(x.1 == y.1&&decide (x.2<y.2))
theorem Zdu (a b:Int):(a<b/\Lib.compareInt a b=-1)\/(a=b/\Lib.compareInt a b=0)\/(b<a/\Lib.compareInt a b=1):=by
 unfold Lib.compareInt
 by_cases h1:a<b
 ·left;simp[h1]
 ·by_cases h2:b<a
  ·right;right;simp[h1,h2]
  ·right;left;simp[h1,h2];omega
theorem Zmp (x y:Zaa):ltOf Zrm x y=ltF x y:=by
 unfold ltOf Zrm ltF
 rw[Bool.eq_iff_iff]
 rcases Zdu x.1 y.1 with⟨h,e⟩|⟨h,e⟩|⟨h,e⟩ <;> rcases Zdu x.2 y.2 with⟨h',e'⟩|⟨h',e'⟩|⟨h',e'⟩ <;> rw[e,e'] <;> simp <;> omega
theorem swoF : SWO (ltOf Zrm) where
 irrefl x:=by rw[Zmp];simp[ltF]
 trans x y z h1 h2:=by rw[Zmp]at *;simp[ltF]at *;omega
 ntrans x y z h1 h2:=by rw[Zmp]at *;simp[ltF]at *;omega
set_option maxHeartbeats 1000000 in
theorem Zaki (g c:Nat)(a b r:Int)(hr:r=if a≠0 then a else b)(w:World)(h0:w.cell? ⟨g,0,none⟩=some (.int .i64 a))(h1:w.cell? ⟨g,1,none⟩=some (.int .i64 b)) :
  Calls Tryz.prog 106 #[.slice (some ⟨g,0,none⟩) 2 c] w λe w'=>e=.returned (.int .i64 r)/\w=w':=by
 have HR:=Lib.hid hr
 clear hr
 go_enter Tryz.func106,Tryz.ntmps106
 go_wp2
 go_loopg [8] 2 (λgg i wr=>∃k:Nat,k<=2/\gg=2-k/\i=.int .i64 k/\wr=w/\(1<=k->a=0)/\(2<=k->b=0))
 case atStart=>exact⟨0,by omega,by omega,rfl,rfl,by omega,by omega⟩
 case round =>
  obtain⟨k,hk,hg,rfl,rfl,ka,kb⟩:=hrel
  have hk3:k=0\/k=1\/k=2:=by omega
  rcases hk3 with rfl|rfl|rfl
  ·have HG:=Lib.hid hg
   have KA:=Lib.hid ka
   have KB:=Lib.hid kb
   clear hg ka kb
   by_cases ha:a=0
   ·have hab:(a != 0)=false:=by simp[ha]
    have HA:=Lib.hid ha
    clear ha
    go_wp2
    go_roundg 1
    case measure=>have:=HG.out;omega
    case rel=>exact⟨1,by omega,by omega,by go_num,rfl,λ_=>HA.out,by omega⟩
   ·have hab:(a != 0)=true:=by simp[ha]
    have hra:r=a:=by rw[HR.out,if_pos ha]
    have HA:=Lib.hid ha
    have HRA:=Lib.hid hra
    clear ha hra
    go_wp2
    go_ret
    exact⟨by rw[HRA.out];rfl,rfl⟩
  ·have ha:a=0:=ka (by omega)
   have HG:=Lib.hid hg
   have KA:=Lib.hid ka
   have KB:=Lib.hid kb
   clear hg ka kb
   by_cases hb:b=0
   ·have hab:(b != 0)=false:=by simp[hb]
    have HA:=Lib.hid ha
    have HB:=Lib.hid hb
    clear ha hb
    go_wp2
    go_roundg 0
    case measure=>have:=HG.out;omega
    case rel=>exact⟨2,by omega,by omega,by go_num,rfl,λ_=>HA.out,λ_=>HB.out⟩
   ·have hab:(b != 0)=true:=by simp[hb]
    have hra:r=b:=by rw[HR.out,if_neg (by simp[ha])]
    have HA:=Lib.hid ha
    have HB:=Lib.hid hb
    have HRA:=Lib.hid hra
    clear ha hb hra
    go_wp2
    go_ret
    exact⟨by rw[HRA.out];rfl,rfl⟩
  ·have hra:r=0:=by rw[HR.out,if_neg (by simp[ka (by omega)]),kb (by omega)]
   have HRA:=Lib.hid hra
   clear hra
   clear ka kb
   go_wp2
   go_ret
   exact⟨by rw[HRA.out];rfl,rfl⟩
set_option maxHeartbeats 1000000 in
theorem Zalo (x y:Zaa)(w:World):Calls Tryz.prog 163 #[.agg #[.int .i64 x.1,.int .i64 x.2],.agg #[.int .i64 y.1,.int .i64 y.2]] w λe w'=>e=.returned (.int .i64 (Zrm x y))/\Grw w w':=by
 obtain⟨x1,x2⟩:=x
 obtain⟨y1,y2⟩:=y
 have h1:=λ(W:World)=>Tryz.cmp_Compare_int x1 y1 W
 have h2:=λ(W:World)=>Tryz.cmp_Compare_int x2 y2 W
 have hfin:Zrm (x1,x2) (y1,y2)=if Lib.compareInt x1 y1≠0 then Lib.compareInt x1 y1 else Lib.compareInt x2 y2:=rfl
 generalize Lib.compareInt x1 y1=c1 at h1 hfin
 generalize Lib.compareInt x2 y2=c2 at h2 hfin
 generalize Zrm (x1,x2) (y1,y2)=r at hfin ⊢
 have H1:=Lib.hid h1
 have H2:=Lib.hid h2
 have HFIN:=Lib.hid hfin
 clear h1 h2 hfin
 simp only
 go_enter Tryz.func163,Tryz.ntmps163
 go_upto_region 1 with fail
 have c0:((w.alloc (.cells #[.int .i64 x1,.int .i64 x2] 53)).alloc (.cells #[.int .i64 y1,.int .i64 y2] 53)).cell? ⟨w.heap.size,0,none⟩=some (.int .i64 x1):=by simp
 have c1':((w.alloc (.cells #[.int .i64 x1,.int .i64 x2] 53)).alloc (.cells #[.int .i64 y1,.int .i64 y2] 53)).cell? ⟨w.heap.size,1,none⟩=some (.int .i64 x2):=by simp
 have c2':((w.alloc (.cells #[.int .i64 x1,.int .i64 x2] 53)).alloc (.cells #[.int .i64 y1,.int .i64 y2] 53)).cell? ⟨w.heap.size+1,0,none⟩=some (.int .i64 y1):=by simp
 have c3':((w.alloc (.cells #[.int .i64 x1,.int .i64 x2] 53)).alloc (.cells #[.int .i64 y1,.int .i64 y2] 53)).cell? ⟨w.heap.size+1,1,none⟩=some (.int .i64 y2):=by simp
 have hG:Grw w ((w.alloc (.cells #[.int .i64 x1,.int .i64 x2] 53)).alloc (.cells #[.int .i64 y1,.int .i64 y2] 53)):=((Grw.refl w).alloc _).alloc _
 have HG:=Lib.hid hG
 clear hG
 generalize (w.alloc (.cells #[.int .i64 x1,.int .i64 x2] 53)).alloc (.cells #[.int .i64 y1,.int .i64 y2] 53)=W0 at c0 c1' c2' c3' HG ⊢
 generalize w.heap.size=B0 at c0 c1' c2' c3' ⊢
 go_region_held3 (λw'=>w'.cell? ⟨B0,0,none⟩=some (.int .i64 x1)/\w'.cell? ⟨B0,1,none⟩=some (.int .i64 x2)/\w'.cell? ⟨B0+1,0,none⟩=some (.int .i64 y1)/\w'.cell? ⟨B0+1,1,none⟩=some (.int .i64 y2))
  (first|exact⟨c0,c1',c2',c3'⟩|exact⟨kept (Zgg (Below.refl _ _) _) c0,kept (Zgg (Below.refl _ _) _) c1',kept (Zgg (Below.refl _ _) _) c2',kept (Zgg (Below.refl _ _) _) c3'⟩)
  (first
   | (go_at_call_of 107 (Value.int .i64 x1);refine(H1.out _).mono ?_;rintro e wa ⟨rfl,rfl⟩)
   | (go_at_call_of 107 (Value.int .i64 x2);refine(H2.out _).mono ?_;rintro e wb ⟨rfl,rfl⟩)
   | (go_at_call 106;refine(Zaki _ _ c1 c2 r HFIN.out _ (by simp) (by simp)).mono ?_;rintro e wc ⟨rfl,rfl⟩))
 go_wp2
 go_ret
 exact⟨rfl,(HG.out.alloc _).drew⟩
theorem Zz2 (l:List Zaa):flatK encF 2 l.toArray=(Zai l).toArray:=by
 apply Array.ext
 ·simp[Zba]
 ·intro i h1 h2
  have hi:i<l.length*2:=by simpa using h1
  have hk:l[i / 2]?=some (l[i / 2]'(by omega)):=gE_ (by omega)
  obtain⟨c0,c1⟩:=Zje l (i / 2) _ hk
  have hbang:l.toArray[i / 2]! = l[i / 2]'(by omega):=by simp[show i / 2<l.length by omega]
  have hL:(flatK encF 2 l.toArray)[i]=(encF l.toArray[i / 2]!)[i % 2]!:=by simp[flatK]
  rw[hL,hbang]
  have hR:(Zai l).toArray[i]=(Zai l)[i]'(by rw[Zba];omega):=by simp
  rw[hR]
  rcases Nat.mod_two_eq_zero_or_one i with hm|hm
  ·have e:i / 2*2=i:=by omega
   rw[e]at c0
   have:=(gS_.1 c0).2
   rw[this,hm];rfl
  ·have e:i / 2*2+1=i:=by omega
   rw[e]at c1
   have:=(gS_.1 c1).2
   rw[this,hm];rfl
def Zra (l:List Zaa):List Zaa:=l.mergeSort λx y=>!ltF y x
theorem Zjm (l:List Zaa):(Zra l).length=l.length:=List.length_mergeSort _
theorem Zat2 (blk off size:Nat)(w:World):CmpLays Tryz.prog 163 #[] encF 2 Zrm blk off size w :=
 λ_ _ _ _ x y=>Zalo x y _
set_option maxHeartbeats 1000000 in
theorem Zamr (base:Nat)(v:Value)(l:List Zaa)(w:World)(h:OwnF w base v l)(hl:l.length<4611686018427387904) :
  Calls Tryz.prog 162 #[v,.func (.func 163) #[] #[]] w λe w'=>e=.returned (.tuple #[])/\OwnF w' base v (Zra l)/\w.grownBy w' v.ownBlock:=by
 rcases id h.2 with⟨rfl,h0⟩|⟨g,cap,cur,rfl,hbase,hb,hn,hm,hcs,htake⟩
 ·have hnil:l=[]:=List.length_eq_zero_iff.1 h0
  subst hnil
  refine(AnyF.slices_SortFunc_none Tryz.sortFact none 0 _ w).mono ?_
  rintro e w' ⟨rfl,rfl⟩
  exact⟨rfl,by rw[show Zra []=[]from by simp[Zra]];exact h,World.grownBy.refl _ _⟩
 ·have eg:∀args w,(callFunc 163 args).run Tryz.prog w=.ok (.enter 163 args) w:=enters_of Tryz.func163 (by kernel_rfl) rfl
  have hH:HoldsK encF 2 w g 0 l.toArray:=by
   unfold HoldsK
   rw[Zz2]
   intro j hj
   have hj':j<l.length*2:=by simpa [Zba] using hj
   refine⟨?_,World.ownsRow.frozenAt h (0+j)⟩
   rw[Nat.zero_add,World.ownsRow.cellAt h j hj']
   have:j<(Zai l).length:=by rw[Zba];exact hj'
   simp[this]
  have hblk:g<w.heap.size:=(Array.getElem?_eq_some_iff.1 hb).1
  have hcon:=AnyQ.slices_SortFunc_total Tryz.sortFact 2 Tryz.isAgg53 Tryz.sizeOf53 encF (λ_=>rfl) (λx v hv=>by simp[encF]at hv;rcases hv with rfl|rfl <;> rfl) Zrm swoF 163 #[] g 0 cap l.toArray w eg (Zat2 g 0 _ w) hH hblk (by simpa using hl)
   (λx y h1 h2=>by rw[Zmp]at h1 h2;simp[ltF]at h1 h2;exact Prod.ext (by omega) (by omega))
  have hsize:l.toArray.size=l.length:=by simp
  rw[hsize]at hcon
  refine hcon.mono ?_
  rintro e w' ⟨rfl,n,os,rfl⟩
  have hsort:(l.toArray.toList.mergeSort λx y=>!ltOf Zrm y x)=Zra l:=by simp only[Zmp];rfl
  rw[hsort]
  have hblock:(sortWorldK encF 2 w g 0 n (Zra l).toArray os).heap[g]?=some (.cells (putCells id 0 (Zai (Zra l)).toArray cur) 53 (0,0)):=by
   show(grow (putRow id (Sort.ahead w n) g 0 (flatK encF 2 (Zra l).toArray)) os).heap[g]?=_
   rw[Zz2,heap_grow_old _ _ (by simpa using hblk)]
   simp[putRow,mapBlock,Sort.ahead,Array.getElem?_modify,hb,onCells]
  refine⟨rfl,⟨by rw[Zba],.inr ⟨g,cap,_,by rw[Zjm],hbase,hblock,by rw[Zjm];exact hn,hm,by simp[putCells,hcs],?_⟩⟩,?_⟩
  ·apply List.ext_getElem?
   intro j
   have hfl:=Zba (Zra l)
   by_cases hj:j<(Zra l).length*2
   ·rw[List.getElem?_take_of_lt hj,Array.getElem?_toList]
    have hsl:=Zjm l
    simp[putCells,show j<cur.size by rw[hcs];omega,show j<(Zai (Zra l)).length by omega]
   ·rw[List.getElem?_take_eq_none (by omega),List.getElem?_eq_none (by omega)]
  ·refine⟨rfl,rfl,rfl,by simp[sortWorldK,putRowK],λk hk hne=>?_⟩
   show(grow (putRow id (Sort.ahead w n) g 0 (flatK encF 2 (Zra l).toArray)) os).heap[k]?=_
   rw[heap_grow_old _ _ (by simpa using hk)]
   have:g≠k:=λe=>hne (by rw[e];rfl)
   simp[putRow,mapBlock,Sort.ahead,Array.getElem?_modify,this]
end Go.Proofs.YtpfnmpdcneejbaaGreatDoor
namespace Go.Proofs.YtpfnmpdcneejbaaGreatDoor.Am
open Go.RowKit
theorem Zaik {w w':World}{vs vs':Shp}{m m':MM}{y:AV}{u:Value}(hy:Fr y)(h:RV w vs m y u)(hs:w.heap.size<=w'.heap.size)(hc:∀b,b<w.heap.size->¬ Zdf vs m b->w'.heap[b]?=w.heap[b]?)(hn:∀b,b<w.heap.size->¬ Zdf vs m b->¬ Zdf vs' m' b):RV w' vs' m' y u:=by
 have hO:∀b,Zdf (λi=>((vs i).1+1,none)) ⟨λ_=>none,Zdf vs' m'⟩ b↔Zdf vs' m' b:=by
  intro b
  constructor
  ·rintro(q|⟨i,q1,_⟩)
   ·exact q
   ·exact absurd rfl q1
  ·exact λq=>.inl q
 have hM:Mono w vs m w' (λi=>((vs i).1+1,none)) ⟨λ_=>none,Zdf vs' m'⟩ :=
  ⟨hs,hc,λb hb hno ho=>hn b hb hno ((hO b).1 ho),λi=>Nat.le_succ _,λi hi=>by simp at hi⟩
 exact Zxi hy (λb hb=>(hO b).2 hb) (h.mono hM)
theorem Zma {P:Program}{f:FuncId}{fn:Func}{c:Code}(hf:P.funcs[f]?=some fn)(hb:fn.body=some c)(hname:(fn.name == "runtime.NumGoroutine")=false)(vs:Array Value)(w:World):(callFunc f vs).run P w=.ok (.enter f vs) w:=by
 simp only[callFunc,Sem.run_bind,program,Sem.run,Result.andThen_ok,hf,hname,hb]
 rfl
section
variable {C : Cx} {w w' : World} {m : MM} {bs : List (Nat × Blk)}
theorem Zafq {i0 E sz n':Nat}{v v':Value}{row:Option Nat}{els':List (List AV)}{xs':List Value}(hM:Mem C.N w (fE bs) m)(hG:C.Gl w)(hv:v.ownBlock=none\/((fE bs i0).blk≠none/\m i0=v.ownBlock))(hrow:w'.ownsRow 0 E sz v' n' xs')(hgr:w.grownBy w' row)
  (hr:row=v.ownBlock\/∀b,row=some b->w.heap.size<=b) (hv':v'.ownBlock=v.ownBlock\/∀b,v'.ownBlock=some b->w.heap.size<=b) (hl:els'.length=n')
  (hfl:∀(k:Nat) (e:List AV),els'[k]?=some e->e.length=sz/\∀(j:Nat) (y:AV),e[j]?=some y->Fr y/\∃u,xs'[k*sz+j]?=some u/\u.oneCell'=true/\RV w (shp (fE bs)) m y u) :
  GR C w m bs [] (.own 0 0 0 n') [(0,⟨E,sz,false,els'⟩)] v' ⟨λk=>if k=0 then v'.ownBlock else none,m.O⟩ w':=by
 have hvb:∀b,v.ownBlock=some b->(fE bs i0).blk≠none/\m i0=some b:=λb hb=>by
  rcases hv with q|⟨q1,q2⟩
  ·rw[q]at hb;cases hb
  ·exact⟨q1,by rw[q2,hb]⟩
 have hnew:∀b,v'.ownBlock=some b->((fE bs i0).blk≠none/\m i0=some b)\/w.heap.size<=b:=λb hb=>by
  rcases hv' with q|q
  ·rw[q]at hb;exact .inl (hvb b hb)
  ·exact .inr (q b hb)
 have hrow0:∀b,b<w.heap.size->row=some b->(fE bs i0).blk≠none/\m i0=some b:=λb hb hq=>by
  rcases hr with q|q
  ·rw[q]at hq;exact hvb b hq
  ·have:=q b hq;omega
 have hcell:∀b,b<w.heap.size->¬ Zdf (shp (fE bs)) m b->w'.heap[b]?=w.heap[b]?:=λb hb hno=>hgr.block b hb (λe=>by
  obtain⟨q1,q2⟩:=hrow0 b hb e.symm
  exact hno (.inr ⟨i0,Zau.2 q1,q2⟩))
 have hown:∀b,b<w.heap.size->¬ Zdf (shp (fE bs)) m b->¬ Zdf (shp (fE [(0,⟨E,sz,false,els'⟩)])) ⟨λk=>if k=0 then v'.ownBlock else none,m.O⟩ b:=by
  rintro b hb hno (q|⟨k,q1,q2⟩)
  ·exact hno (.inl q)
  ·have q2':(if k=0 then v'.ownBlock else none)=some b:=q2
   split at q2'
   ·rcases hnew b q2' with⟨p1,p2⟩|p
    ·exact hno (.inr ⟨i0,Zau.2 p1,p2⟩)
    ·omega
   ·cases q2'
 have hfE:fE [(0,(⟨E,sz,false,els'⟩:Blk))] 0=⟨0,some ⟨E,sz,false,els'⟩⟩:=rfl
 have hblk:BlkOk w' (shp (fE [(0,⟨E,sz,false,els'⟩)])) ⟨λk=>if k=0 then v'.ownBlock else none,m.O⟩ ⟨E,sz,false,els'⟩ v'.ownBlock:=by
  rcases hrow.2 with⟨rfl,h0⟩|⟨g,cap,cur,rfl,_,hh,hnc,hmx,hcs,htake⟩
  ·exact⟨List.length_eq_zero_iff.1 (by show els'.length=0;omega),rfl⟩
  ·refine⟨cur,.cells hh rfl,?_,λk e he=>⟨(hfl k e he).1,λj y hy=>?_⟩⟩
   ·show els'.length*sz<=cur.size
    rw[hcs,hl]
    exact Nat.mul_le_mul_right _ hnc
   ·obtain⟨h1,u,u1,u2,u3⟩:=(hfl k e he).2 j y hy
    refine⟨u,?_,λ_=>u2,Zaik h1 u3 hgr.size hcell hown⟩
    rw[<-htake,List.getElem?_take]at u1
    split at u1
    ·simpa using u1
    ·cases u1
 have hliveI:∀i,(fE [(0,(⟨E,sz,false,els'⟩:Blk))] i).blk≠none->i=0:=λi hi=>by
  have:=Zgu.1 hi
  simpa [Zmb] using this
 refine⟨?_,⟨λi B hB=>?_,λi j b hi hj _ _=>?_,λi b hi hb=>?_,λi b hi hb ho=>?_,λb hb=>⟨Nat.lt_of_lt_of_le (hM.olt b hb).1 hgr.size,(hM.olt b hb).2⟩,Nat.le_trans hM.big hgr.size⟩,rfl,⟨hgr.os,hgr.tape,hgr.output,hgr.size,λb hb hx=>?_⟩,λi b hi hb=>?_,λi hi=>(by cases hi),C.keep w w' (λb hb=>hgr.block b (Nat.lt_of_lt_of_le hb hM.big) (λe=>?_)) hG⟩
 ·rcases hrow.2 with⟨rfl,h0⟩|⟨g,cap,cur,rfl,_,hh,hnc,hmx,hcs,htake⟩
  ·subst h0
   exact .ownN (sz:=sz) rfl rfl
  ·have:=RV.own (w:=w') (vs:=shp (fE [(0,⟨E,sz,false,els'⟩)])) (m:=⟨λk=>if k=0 then(Value.slice (some ⟨g,0,none⟩) n' cap).ownBlock else none,m.O⟩) (i:=0) (ver:=0) (sz:=sz) (k:=0) (b:=g) (ty:=E) (n:=cur.size) (len:=n') (cap:=cap) rfl rfl hnc hmx (by simp[World.shape?,hh]) (by rw[Nat.zero_add,hcs])
   simpa using this
 ·have hi:=hliveI i (by rw[hB];simp)
  subst hi
  rw[hfE]at hB
  injection hB with hB
  subst hB
  exact hblk
 ·rw[hliveI i hi,hliveI j hj]
 ·have:=hliveI i hi
  subst this
  rcases hnew b hb with⟨p1,p2⟩|p
  ·exact hM.low i0 b p1 p2
  ·exact Nat.le_trans hM.big p
 ·have:=hliveI i hi
  subst this
  rcases hnew b hb with⟨p1,p2⟩|p
  ·exact hM.sep i0 b p1 p2 ho
  ·have:=(hM.olt b ho).1
   omega
 ·refine hgr.block b hb (λe=>hx ?_)
  obtain⟨q1,q2⟩:=hrow0 b hb e.symm
  exact⟨i0,q1,q2⟩
 ·have:=hliveI i hi
  subst this
  rcases hnew b hb with⟨p1,p2⟩|p
  ·exact .inl ⟨i0,p1,p2⟩
  ·exact .inr (by omega)
 ·have hb':b<w.heap.size:=Nat.lt_of_lt_of_le hb hM.big
  obtain⟨q1,q2⟩:=hrow0 b hb' e.symm
  have:=hM.low i0 b q1 q2
  omega
theorem Zadj {i0 E sz n:Nat}{v r:Value}{els els':List (List AV)}{rA:AV}{xs':List Value}(hM:Mem C.N w (fE [(i0,⟨E,sz,false,els⟩)]) m)(hG:C.Gl w)(hv:m i0=v.ownBlock)(hrow:w'.ownsRow 0 E sz v n xs')(hgr:w.grownBy w' v.ownBlock)(hsh:∀b,v.ownBlock=some b->w'.shape? b=w.shape? b)(hl:els'.length=n)
  (hr:∀m',RV w' (shp (fE [(i0,⟨E,sz,false,els'⟩)])) m' rA r)
  (hfl:∀(k:Nat) (e:List AV),els'[k]?=some e->e.length=sz/\∀(j:Nat) (y:AV),e[j]?=some y->Fr y/\∃u,xs'[k*sz+j]?=some u/\u.oneCell'=true/\RV w (shp (fE [(i0,⟨E,sz,false,els⟩)])) m y u) :
  GR C w m [(i0,⟨E,sz,false,els⟩)] [i0] rA [(i0,⟨E,sz,false,els'⟩)] r m w':=by
 have hf0:∀l:List (List AV),fE [(i0,(⟨E,sz,false,l⟩:Blk))] i0=⟨0,some ⟨E,sz,false,l⟩⟩:=λl=>by simp only[fE,Znz.2 rfl]
 have hlive0:(fE [(i0,(⟨E,sz,false,els⟩:Blk))] i0).blk≠none:=by rw[hf0];simp
 have hliveI:∀(l:List (List AV)) i,(fE [(i0,(⟨E,sz,false,l⟩:Blk))] i).blk≠none->i=i0:=λl i hi=>by
  have:=Zgu.1 hi
  simpa [Zmb] using this
 have hshp:shp (fE [(i0,(⟨E,sz,false,els'⟩:Blk))])=shp (fE [(i0,⟨E,sz,false,els⟩)]):=by
  funext i
  simp only[shp,fE]
  cases Nat.beq i i0 <;> rfl
 have hcell:∀b,b<w.heap.size->¬ Zdf (shp (fE [(i0,⟨E,sz,false,els⟩)])) m b->w'.heap[b]?=w.heap[b]?:=λb hb hno=>hgr.block b hb (λe=>hno (.inr ⟨i0,Zau.2 hlive0,by rw[hv];exact e.symm⟩))
 have hblk:BlkOk w' (shp (fE [(i0,⟨E,sz,false,els'⟩)])) m ⟨E,sz,false,els'⟩ v.ownBlock:=by
  rcases hrow.2 with⟨rfl,h0⟩|⟨g,cap,cur,rfl,_,hh,hnc,hmx,hcs,htake⟩
  ·exact⟨List.length_eq_zero_iff.1 (by show els'.length=0;omega),rfl⟩
  ·refine⟨cur,.cells hh rfl,?_,λk e he=>⟨(hfl k e he).1,λj y hy=>?_⟩⟩
   ·show els'.length*sz<=cur.size
    rw[hcs,hl]
    exact Nat.mul_le_mul_right _ hnc
   ·obtain⟨h1,u,u1,u2,u3⟩:=(hfl k e he).2 j y hy
    refine⟨u,?_,λ_=>u2,Zaik h1 u3 hgr.size hcell (by rw[hshp];exact λ_ _ h=>h)⟩
    rw[<-htake,List.getElem?_take]at u1
    split at u1
    ·simpa using u1
    ·cases u1
 refine⟨hr m,⟨λi B hB=>?_,λi j b hi hj _ _=>?_,λi b hi hb=>?_,λi b hi hb=>?_,λb hb=>⟨Nat.lt_of_lt_of_le (hM.olt b hb).1 hgr.size,(hM.olt b hb).2⟩,Nat.le_trans hM.big hgr.size⟩,rfl,⟨hgr.os,hgr.tape,hgr.output,hgr.size,λb hb hx=>?_⟩,λi b hi hb=>?_,λi hi=>?_,C.keep w w' (λb hb=>hgr.block b (Nat.lt_of_lt_of_le hb hM.big) (λe=>?_)) hG⟩
 ·have hi:=hliveI els' i (by rw[hB];simp)
  subst hi
  rw[hf0]at hB
  injection hB with hB
  subst hB
  rw[hv]
  exact hblk
 ·rw[hliveI _ i hi,hliveI _ j hj]
 ·have:=hliveI _ i hi
  subst this
  exact hM.low i b hlive0 hb
 ·have:=hliveI _ i hi
  subst this
  exact hM.sep i b hlive0 hb
 ·exact hgr.block b hb (λe=>hx ⟨i0,hlive0,by rw[hv];exact e.symm⟩)
 ·have:=hliveI _ i hi
  subst this
  exact .inl ⟨i,hlive0,hb⟩
 ·simp only[mI_]at hi
  subst hi
  exact⟨rfl,λb hb=>hsh b (by rw[<-hv];exact hb)⟩
 ·have:=hM.low i0 b hlive0 (by rw[hv];exact e.symm)
  omega
end
end Go.Proofs.YtpfnmpdcneejbaaGreatDoor.Am
namespace Go.Proofs.YtpfnmpdcneejbaaGreatDoor
open Go.RowKit
def insV (xs:List Value)(i:Nat)(x:Value):List Value:=xs.take i++x :: xs.drop i
theorem Zasc {α:Type}(L:List α)(a:Nat)(h:a<=L.length):(L.take a).length=a:=by simp;omega
theorem Zacm {α:Type}(L B X:List α)(a:Nat)(h2:a+X.length+B.length<=L.length) :
  let C:=L.take (a+X.length)++B++L.drop (a+X.length+B.length)
  C.take a++X++C.drop (a+X.length)=L.take a++X++B++L.drop (a+X.length+B.length):=by
 intro C
 have hp:(L.take (a+X.length)).length=a+X.length:=Zasc L _ (by omega)
 have e1:C.take a=L.take a:=by
  show(L.take (a+X.length)++B++_).take a=_
  rw[List.append_assoc,List.take_append_of_le_length (by omega),List.take_take]
  congr 1
  omega
 have e2:C.drop (a+X.length)=B++L.drop (a+X.length+B.length):=by
  show(L.take (a+X.length)++B++_).drop _=_
  rw[List.append_assoc,List.drop_append_of_le_length (by omega),List.drop_eq_nil_of_le (by omega)]
  rfl
 rw[e1,e2]
 simp
theorem Zvu {w w1:World}{o:Obj}{row:Option Nat}(h:((w.alloc o).drew).grownBy w1 row):(w.drew.alloc o).grownBy w1 row:=⟨h.os,h.tape,h.output,h.size,h.block⟩
theorem Zaj9 : (Tryz.prog.info? 23).map (λi=>(i.zero,i.size,i.bytes))=some (some (.slice none 0 0),1,24):=by kernel_rfl
set_option maxHeartbeats 4000000 in
set_option maxRecDepth 100000 in
theorem Zafy (g cap n i vb:Nat)(cur:Array Value)(l:List Value)(x:Value)(vcur:Array Value)(vc:Nat)(w:World)(hn:l.length=n)(h1:∀u∈l,u.oneCell'=true)(hx1:x.oneCell'=true)(hvc:vcur.size=vc)(_hv1:1<=vc)(hv0:vcur.toList[0]?=some x)(hi:i<n)(hcap:n+1<=cap)(hmax:cap<=maxLen)
  (hg:w.heap[g]?=some (.cells cur 23 (0,0))) (hsz:cur.size=cap) (htake:cur.toList.take (n)=l)
  (hvb:w.heap[vb]?=some (.cells vcur 23 (0,0))) (hne:vb≠g) :
  Calls Tryz.prog 129 #[.slice (some ⟨g,0,none⟩) n cap,.int .i64 i,.slice (some ⟨vb,0,none⟩) 1 vc] w λe w' =>
   e=.returned (.slice (some ⟨g,0,none⟩) (n+1) cap)/\(∃new:Array Value,w'.heap[g]?=some (.cells new 23 (0,0))/\new.size=cap/\new.toList.take ((n+1))=insV l i x)/\w.grownBy w' (some g):=by
 unfold maxLen at hmax
 have hov:∀(W:World) lb cb,W.heap=w.heap->(callFunc 150 #[.slice (some ⟨vb,0,none⟩) 1 vc,.slice (some ⟨g,(i+1),none⟩) lb cb]).run Tryz.prog W=.ok (.value (.bool false)) W:=λW lb cb hW=>by
  rw[run_callFunc_extern Tryz.func150 (by kernel_rfl) (by kernel_rfl) (by kernel_rfl) (e:=Extern.SlicesOverlaps.overlaps #[79,79] #[4]) (by kernel_rfl),
   Lib.run_overlaps_apart W 79 4 23 Tryz.underlying79 1 (λ_=>by kernel_rfl) ⟨vb,0,none⟩ ⟨g,(i+1),none⟩ 1 vc lb cb hne 23 23 vc (cap) (by simp[World.shape?,hW,hvb,hvc]) (by simp[World.shape?,hW,hg,hsz]) (by omega) (by simp[World.frozen?,hW,hvb]) (by simp[World.frozen?,hW,hvb])]
  rfl
 have hlen:cur.toList.length=cap:=by simpa using hsz
 have hfl:(l).length=n:=hn
 have hdl:(l.drop i).length=(n-i):=by rw[List.length_drop,hn]
 have hB:(cur.toList.drop (i)).take ((n-i))=l.drop i:=by
  rw[<-htake,List.drop_take]
 obtain⟨C1,hC1⟩:∃C1:Array Value,C1=(cur.toList.take ((i+1))++l.drop i++cur.toList.drop ((i+1)+(l.drop i).length)).toArray:=⟨_,rfl⟩
 obtain⟨C2,hC2⟩:∃C2:Array Value,C2=(C1.toList.take (i)++[x]++C1.toList.drop (i+([x]).length)).toArray:=⟨_,rfl⟩
 have hC1s:C1.size=cap:=by
  rw[hC1]
  simp only[List.size_toArray,lA_,List.length_take,List.length_drop,hlen,hdl]
  omega
 have hx2:([x]).length=1:=rfl
 have htwo:=Zacm cur.toList (l.drop i) ([x]) (i) (by rw[hlen,hdl,hx2];omega)
 have hC2':C2.toList=cur.toList.take (i)++[x]++l.drop i++cur.toList.drop (i+1+(l.drop i).length):=by
  rw[hC2,List.toList_toArray,hC1,List.toList_toArray,show(i+1)=i+1 by omega]
  exact htwo
 have hti:cur.toList.take (i)=l.take i:=by
  rw[<-htake,List.take_take]
  congr 1
  omega
 have hfin:C2.size=cap/\C2.toList.take ((n+1))=insV l i x:=by
  have e:insV l i x=cur.toList.take (i)++[x]++l.drop i:=by
   rw[hti,insV,List.append_assoc];rfl
  constructor
  ·have:C2.toList.length=cap:=by
    rw[hC2']
    simp only[lA_,List.length_take,List.length_drop,hlen,hdl,hx2]
    omega
   simpa using this
  ·rw[hC2',e,List.take_append_of_le_length,tL_]
   ·simp only[lA_,List.length_take,hlen,hdl,hx2];omega
   ·simp only[lA_,List.length_take,hlen,hdl,hx2];omega
 have hsrc1:∀j u,(l.drop i)[j]?=some u->cur.toList[i+j]?=some u:=by
  intro j u hu
  rw[<-hB,List.getElem?_take]at hu
  split at hu
  ·rwa [List.getElem?_drop]at hu
  ·cases hu
 have hmin1:Nat.min (n+1-i) (n-i)=n-i:=by simp only[Nat.min_def];split <;> omega
 have hmin2:Nat.min 1 (n+1-i)=1:=by simp only[Nat.min_def];split <;> omega
 have hcut1:¬ (cap=i+1):=by omega
 have hcut2:¬ (cap=i):=by omega
 have hz2:¬ ((i:Int)=(n:Int)):=by omega
 have hz3:¬ ((cap:Int)<(n:Int)+1):=by omega
 have hw1:IntKind.i64.wrap ((i:Int)+1)=(i:Int)+1:=by rw[IntKind.wrap_i64];omega
 have hb1:(0:Int)<=(i:Int)+1:=by omega
 have htn:((i:Int)+1).toNat=i+1:=by omega
 have hin:i<=n:=by omega
 have hinI:(i:Int)<=n:=by omega
 have hb3:(i:Int)<=(n:Int)+1:=by omega
 have hc63:(cap:Int)<=9223372036854775807:=by omega
 have H1:=Lib.hid h1
 have HOV:=Lib.hid hov
 have HLEN:=Lib.hid hlen
 have HFL:=Lib.hid hfl
 have HDL:=Lib.hid hdl
 have HBB:=Lib.hid hB
 have HC1:=Lib.hid hC1
 have HC2:=Lib.hid hC2
 have HC1S:=Lib.hid hC1s
 have HX2:=Lib.hid hx2
 have HTWO:=Lib.hid htwo
 have HC2':=Lib.hid hC2'
 have HTI:=Lib.hid hti
 have HFIN:=Lib.hid hfin
 have HSRC1:=Lib.hid hsrc1
 have HMIN1:=Lib.hid hmin1
 have HMIN2:=Lib.hid hmin2
 have HG:=Lib.hid hg
 have HSZ:=Lib.hid hsz
 have HTAKE:=Lib.hid htake
 have HVB:=Lib.hid hvb
 have HN:=Lib.hid hn
 clear h1 hov hlen hfl hdl hB hC1 hC2 hC1s hx2 htwo hC2' hti hfin hsrc1 hmin1 hmin2 hg hsz htake hvb hn
 go_enter Tryz.func129,Tryz.ntmps129
 go_wp2_with (rw[HOV.out _ _ _ rfl])
 go_region_law (refine Ztj rfl (.tmp 73) (.tmp 76) 79 79 rfl 23 1 Tryz.underlying79 (by kernel_rfl) g ((i+1)) (n-i) (cap-(i+1)) ⟨g,i,none⟩ (n+1-i) (cap-i) (by simp[Act.eval,Act.put]) (by simp[Act.eval,Act.put]) cur C1 23 HG.out (l.drop i) (by rw[HMIN1.out,Nat.mul_one];exact HDL.out) (Zki (w:=w) HG.out _ _ HSRC1.out) (by rw[HDL.out,HSZ.out];omega) (λu hu=>H1.out u (List.mem_of_mem_drop hu)) (by rw[HC1.out]) ?_;intro w2 hg2 hgr2)
 all_goals
  have hvb2:w2.heap[vb]?=some (.cells vcur 23 (0,0)):=by
   rw[hgr2.out.block vb (Array.getElem?_eq_some_iff.1 HVB.out).1 (λe=>hne (by injection e))]
   exact HVB.out
  have HVB2:=Lib.hid hvb2
  clear hvb2
  go_wp2_with (refine Zou rfl (.tmp 80) (.tmp 81) 79 79 rfl 23 1 Tryz.underlying79 (by kernel_rfl) g (i) (n+1-i) (cap-i) ⟨vb,0,none⟩ 1 vc rfl rfl C1 C2 23 hg2.out ([x]) (by rw[HMIN2.out];rfl) (Zki HVB2.out 0 _ (λj u hu=>by cases j with|zero=>(simp at hu;subst hu;simpa using hv0)|succ j=>(simp at hu))) (by rw[HX2.out,HC1S.out];omega) (λu hu=>by simp at hu;subst hu;exact hx1) (by rw[HC2.out]) ?_;intro w3 hg3 hgr3)
  go_ret
  refine⟨rfl,⟨C2,hg3.out,HFIN.out.1,HFIN.out.2⟩,?_⟩
  exact World.grownBy.trans (Zkv hgr2.out) hgr3.out
set_option maxHeartbeats 4000000 in
set_option maxRecDepth 100000 in
theorem Zafx (g cap n i vb:Nat)(cur:Array Value)(l:List Value)(x:Value)(vcur:Array Value)(vc:Nat)(w:World)(hn:l.length=n)(h1:∀u∈l,u.oneCell'=true)(hx1:x.oneCell'=true)(_hvc:vcur.size=vc)(_hv1:1<=vc)(hv0:vcur.toList[0]?=some x)(hi:i<n)(hcap:cap<n+1)(hnc:n<=cap)(hroom:(n+1)*24<=140737488355328)
  (hg:w.heap[g]?=some (.cells cur 23 (0,0))) (hsz:cur.size=cap) (htake:cur.toList.take (n)=l)
  (hvb:w.heap[vb]?=some (.cells vcur 23 (0,0))) :
  Calls Tryz.prog 129 #[.slice (some ⟨g,0,none⟩) n cap,.int .i64 i,.slice (some ⟨vb,0,none⟩) 1 vc] w λe w' =>
   ∃cap2,e=.returned (.slice (some ⟨w.heap.size,0,none⟩) (n+1) cap2)/\n+1<=cap2/\cap2<=maxLen/\(∃new:Array Value,w'.heap[w.heap.size]?=some (.cells new 23 (0,0))/\new.size=cap2/\new.toList.take ((n+1))=insV l i x)/\w.grownBy w' (some w.heap.size):=by
 obtain⟨i0,hi0,hz0,hzs,hzb⟩:=info_parts Zaj9
 have hlen:cur.toList.length=cap:=by simpa using hsz
 have hdl:(l.drop i).length=(n-i):=by rw[List.length_drop,hn]
 have hti:(l.take i).length=i:=by rw[List.length_take,hn];omega
 have hx2:([x]).length=1:=rfl
 have hcur:∀(j:Nat) (u:Value),(l)[j]?=some u->cur.toList[j]?=some u:=by
  intro j u hu
  rw[<-htake,List.getElem?_take]at hu
  split at hu
  ·exact hu
  ·cases hu
 have hsrc0:∀j u,(l.take i)[j]?=some u->cur.toList[0+j]?=some u:=by
  intro j u hu
  rw[List.getElem?_take]at hu
  split at hu
  ·rw[Nat.zero_add];exact hcur j u hu
  ·cases hu
 have hsrc1:∀j u,(l.drop i)[j]?=some u->cur.toList[i+j]?=some u:=by
  intro j u hu
  rw[List.getElem?_drop]at hu
  exact hcur _ u hu
 have hold:∀W:World,W.heap=w.heap->(Builtin.firstCells i0.size i (.slice (some ⟨g,0,none⟩) i cap)).run Tryz.prog W=.ok (l.take i).toArray W:=λW hW=>by
  rw[hzs]
  exact run_firstCells_some W 1 i ⟨g,0,none⟩ i cap (l.take i) (by rw[hti];omega) (Zki (by rw[hW];exact hg) 0 _ hsrc0)
 obtain⟨G,hG⟩:∃G,G=grownCap w (n+1) cap 23:=⟨_,rfl⟩
 have hGn:n+1<=G:=by rw[hG];exact grownCap_ge w _ _ _
 have hGm:G<=maxLen:=by rw[hG];exact grownCap_le_maxLen w _ _ _ (by unfold maxLen;omega)
 obtain⟨C0,hC0⟩:∃C0:Array Value,C0=(l.take i).toArray++Builtin.zeroCells (Value.slice none 0 0).cells (n+1-i)++Builtin.zeroCells (Value.slice none 0 0).cells (G-(n+1)):=⟨_,rfl⟩
 have hzc:∀k,(Builtin.zeroCells (Value.slice none 0 0).cells k).size=k:=λk=>by
  have:(Value.slice none 0 0).cells.size=1:=by kernel_rfl
  simp[Builtin.zeroCells,this]
 have hC0s:C0.size=G:=by
  rw[hC0]
  simp only[Array.size_append,hzc,List.size_toArray,hti]
  omega
 have hrz:∀ty,(Builtin.append_ #[79,3] ty #[.slice (some ⟨g,0,none⟩) i cap,.int .i64 ((n:Int)+1-(i:Int))]).run Tryz.prog w =
   .ok (.slice (some ⟨w.heap.size,0,none⟩) (n+1) G) (w.drew.alloc (.cells C0 23)):=λty=>by
  have h:=Lib.run_append_grow_zeros w 79 3 ty 23 i0 _ .i64 .i64 Tryz.underlying79 Tryz.underlying3 hi0 hz0 (some ⟨g,0,none⟩) i cap (l.take i) (hold w.drew rfl) (n+1-i) (by omega) (by omega) (by omega) (by omega) (by rw[hzb];omega) (by rw[hzb,show i+(n+1-i)=n+1 by omega];exact growslice_fits hcap hroom)
  rw[show i+(n+1-i)=n+1 by omega,<-hG,<-hC0]at h
  rw[show(n:Int)+1-(i:Int)=((n+1-i:Nat):Int)by omega]
  exact h
 obtain⟨C1,hC1⟩:∃C1:Array Value,C1=(C0.toList.take (i)++[x]++C0.toList.drop (i+([x]).length)).toArray:=⟨_,rfl⟩
 obtain⟨C2,hC2⟩:∃C2:Array Value,C2=(C1.toList.take ((i+1))++l.drop i++C1.toList.drop ((i+1)+(l.drop i).length)).toArray:=⟨_,rfl⟩
 have hC0l:C0.toList.length=G:=by simpa using hC0s
 have hC1s:C1.size=G:=by
  rw[hC1]
  simp only[List.size_toArray,lA_,List.length_take,List.length_drop,hC0l,hx2]
  omega
 have hC1l:C1.toList.length=G:=by simpa using hC1s
 have hC2s:C2.size=G:=by
  rw[hC2]
  simp only[List.size_toArray,lA_,List.length_take,List.length_drop,hC1l,hdl]
  omega
 have hfin:C2.toList.take ((n+1))=insV l i x:=by
  have e:insV l i x=l.take i++[x]++l.drop i:=by
   rw[insV,List.append_assoc];rfl
  have e0:C0.toList.take (i)=l.take i:=by
   rw[hC0,Array.toList_append,Array.toList_append,List.toList_toArray,List.append_assoc,List.take_append_of_le_length (by omega),tL_ (by omega)]
  have e1:C1.toList.take ((i+1))=l.take i++[x]:=by
   rw[hC1,List.toList_toArray,e0,List.take_append_of_le_length (by rw[lA_,hti,hx2];omega),tL_ (by rw[lA_,hti,hx2];omega)]
  rw[hC2,List.toList_toArray,e1,e,List.take_append_of_le_length (by simp only[lA_,hti,hx2,hdl];omega),tL_ (by simp only[lA_,hti,hx2,hdl];omega)]
 have hgw:g<w.heap.size:=(Array.getElem?_eq_some_iff.1 hg).1
 have hvw:vb<w.heap.size:=(Array.getElem?_eq_some_iff.1 hvb).1
 have hmin1:Nat.min (n-i) (n-i)=n-i:=by simp only[Nat.min_def];split <;> omega
 have hmin2:Nat.min 1 (n+1-i)=1:=by simp only[Nat.min_def];split <;> omega
 have hcut0:¬ (cap=i):=by omega
 have hcut1:¬ (G=i+1):=by omega
 have hcut2:¬ (G=i):=by omega
 have hz2:¬ ((i:Int)=(n:Int)):=by omega
 have hz3:(cap:Int)<(n:Int)+1:=by omega
 have hw1:IntKind.i64.wrap ((i:Int)+1)=(i:Int)+1:=by rw[IntKind.wrap_i64];omega
 have hb1:(0:Int)<=(i:Int)+1:=by omega
 have htn:((i:Int)+1).toNat=i+1:=by omega
 have hin:i<=n:=by omega
 have hinI:(i:Int)<=n:=by omega
 have hb3:(i:Int)<=(n:Int)+1:=by omega
 have hic:i<=cap:=by omega
 have hG63:(G:Int)<=9223372036854775807:=by unfold maxLen at hGm;omega
 have hB0:Hid (w.grownBy (w.drew.alloc (.cells C0 23)) (some w.heap.size)):=Zkv (World.grownBy_alloc w.drew _ _)
 have hg0:Hid ((w.drew.alloc (.cells C0 23)).heap[w.heap.size]?=some (.cells C0 23 (0,0))):=heap_alloc_new w.drew _
 have hvbA:Hid ((w.alloc (.cells C0 23)).heap[vb]?=some (.cells vcur 23 (0,0))):=by
  show _=_
  rw[(World.grownBy_alloc w (.cells C0 23) none).block vb hvw (by simp)]
  exact hvb
 have H1:=Lib.hid h1
 have HLEN:=Lib.hid hlen
 have HDL:=Lib.hid hdl
 have HTI:=Lib.hid hti
 have HX2:=Lib.hid hx2
 have HCUR:=Lib.hid hcur
 have HSRC0:=Lib.hid hsrc0
 have HSRC1:=Lib.hid hsrc1
 have HOLD:=Lib.hid hold
 have HGG:=Lib.hid hG
 have HC0:=Lib.hid hC0
 have HZC:=Lib.hid hzc
 have HC0S:=Lib.hid hC0s
 have HRZ:=Lib.hid hrz
 have HC1:=Lib.hid hC1
 have HC2:=Lib.hid hC2
 have HC0L:=Lib.hid hC0l
 have HC1S:=Lib.hid hC1s
 have HC1L:=Lib.hid hC1l
 have HC2S:=Lib.hid hC2s
 have HFIN:=Lib.hid hfin
 have HMIN1:=Lib.hid hmin1
 have HMIN2:=Lib.hid hmin2
 have HG:=Lib.hid hg
 have HSZ:=Lib.hid hsz
 have HTAKE:=Lib.hid htake
 have HVB:=Lib.hid hvb
 have HN:=Lib.hid hn
 clear h1 hlen hdl hti hx2 hcur hsrc0 hsrc1 hold hG hC0 hzc hC0s hrz hC1 hC2 hC0l hC1s hC1l hC2s hfin hmin1 hmin2 hg hsz htake hvb hn
 clear hi0 hz0 hzs hzb
 go_enter Tryz.func129,Tryz.ntmps129
 go_wp2_with (first
  | (at_builtin;refine Lib.wpList_append_run _ rfl _ _ _ _ rfl _ _ rfl rfl _ _ (HRZ.out _) ?_)
  | (refine Zou rfl (.tmp 43) (.tmp 44) 79 79 rfl 23 1 Tryz.underlying79 (by kernel_rfl) w.heap.size (i) (n+1-i) (G-i) ⟨vb,0,none⟩ 1 vc rfl rfl C0 C1 23 hg0.out ([x]) (by rw[HMIN2.out];rfl) (Zki (w:=(w.alloc (.cells C0 23)).drew) (hvbA.out) 0 _ (λj u hu=>by cases j with|zero=>(simp at hu;subst hu;simpa using hv0)|succ j=>(simp at hu))) (by rw[HX2.out,HC0S.out];omega) (λu hu=>by simp at hu;subst hu;exact hx1) (by rw[HC1.out]) ?_;intro w2 hg2 hgr2))
 have hgr2':Hid (w.grownBy w2 (some w.heap.size)):=World.grownBy.trans hB0.out (Zvu hgr2.out)
 have hgg2:Hid (w2.heap[g]?=some (.cells cur 23 (0,0))):=by
  show _=_
  rw[hgr2'.out.block g hgw (λe=>by injection e;omega)]
  exact HG.out
 clear hgr2
 go_region_law (refine Ztj rfl (.tmp 50) (.tmp 53) 79 79 rfl 23 1 Tryz.underlying79 (by kernel_rfl) w.heap.size ((i+1)) (n-i) (G-(i+1)) ⟨g,i,none⟩ (n-i) (cap-i) (by simp[Act.eval,Act.put]) (by simp[Act.eval,Act.put]) C1 C2 23 hg2.out (l.drop i) (by rw[HMIN1.out,Nat.mul_one];exact HDL.out) (Zki hgg2.out _ _ HSRC1.out) (by rw[HDL.out,HC1S.out];omega) (λu hu=>H1.out u (List.mem_of_mem_drop hu)) (by rw[HC2.out]) ?_;intro w3 hg3 hgr3)
 all_goals
  go_wp2_with fail
  go_ret
  exact⟨G,rfl,hGn,hGm,⟨C2,hg3.out,HC2S.out,HFIN.out⟩,World.grownBy.trans hgr2'.out (Zkv hgr3.out)⟩
set_option maxHeartbeats 4000000 in
set_option maxRecDepth 100000 in
theorem Zah0 (vb vc:Nat)(v:Value)(n:Nat)(l:List Value)(x:Value)(vcur:Array Value)(w:World)(hown:w.ownsRow 0 23 1 v n l)(hroom:(n+1)*24<=140737488355328)(hx1:x.oneCell'=true)(hv0:vcur.toList[0]?=some x)
  (hvb:w.heap[vb]?=some (.cells vcur 23 (0,0))) :
  Calls Tryz.prog 129 #[v,.int .i64 n,.slice (some ⟨vb,0,none⟩) 1 vc] w λe w'=>∃v',e=.returned v'/\w'.ownsRow 0 23 1 v' (n+1) (l++[x])/\w.grownBy w' v.ownBlock/\(v'.ownBlock=v.ownBlock\/v'.ownBlock=some w.heap.size):=by
 obtain⟨i0,hi0,hz0,hz1,hz2⟩:=info_parts Zaj9
 have hr:Reads w w.heap.size 1 (some ⟨vb,0,none⟩) 1 [x]:=⟨rfl,λ_=>⟨_,rfl,(Array.getElem?_eq_some_iff.1 hvb).1,Zki hvb 0 _ (λj u hu=>by cases j with|zero=>(simp at hu;subst hu;simpa using hv0)|succ j=>(simp at hu))⟩⟩
 have hone:∀u∈[x],u.oneCell'=true:=λu hu=>by simp at hu;subst hu;exact hx1
 have hcase:(v=.slice none 0 0/\n=0)\/∃A c,v=.slice A n c/\n<=c/\c<=maxLen:=by
  rcases hown.2 with⟨rfl,h0⟩|⟨g,cap,cur,rfl,_,_,hnc,hm,_,_⟩
  ·exact .inl ⟨rfl,h0⟩
  ·exact .inr ⟨_,_,rfl,hnc,hm⟩
 rcases hcase with⟨rfl,rfl⟩|⟨A,c,rfl,hnc,hm⟩
 ·have HR:=Lib.hid hr
  have HVB:=Lib.hid hvb
  have HOWN:=Lib.hid hown
  have HONE:=Lib.hid hone
  clear hr hvb hown hone
  simp only[Int.natCast_zero]
  go_enter Tryz.func129,Tryz.ntmps129
  go_wp2_with (at_builtin;refine Ze0 _ rfl (.tmp 23) (.tmp 24) _ rfl 0 23 i0 _ 1 24 Tryz.underlying79 hi0 hz0 hz1 hz2 rfl (by omega) _ 0 l rfl HOWN.out _ _ 1 vc [x] rfl HR.out HONE.out (by simp only[maxLen];omega) (by omega) (Nat.zero_le _) ?_;intro v1 w1 hown1 hg1 hat1)
  go_ret
  exact⟨v1,rfl,hown1,hg1,hat1⟩
 ·unfold maxLen at hm
  have hnI:(n:Int)<=(c:Int):=by omega
  have HR:=Lib.hid hr
  have HVB:=Lib.hid hvb
  have HOWN:=Lib.hid hown
  have HONE:=Lib.hid hone
  clear hr hvb hown hone
  by_cases hcc:c=n
  ·subst hcc
   go_enter Tryz.func129,Tryz.ntmps129
   go_wp2_with (at_builtin;refine Ze0 _ rfl (.tmp 23) (.tmp 24) _ rfl 0 23 i0 _ 1 24 Tryz.underlying79 hi0 hz0 hz1 hz2 rfl (by omega) _ c l rfl HOWN.out _ _ 1 vc [x] rfl HR.out HONE.out (by simp only[maxLen];omega) (by omega) (Nat.zero_le _) ?_;intro v1 w1 hown1 hg1 hat1)
   go_ret
   exact⟨v1,rfl,hown1,hg1,hat1⟩
  ·go_enter Tryz.func129,Tryz.ntmps129
   go_wp2_with (at_builtin;refine Ze0 _ rfl (.tmp 23) (.tmp 24) _ rfl 0 23 i0 _ 1 24 Tryz.underlying79 hi0 hz0 hz1 hz2 rfl (by omega) _ n l rfl HOWN.out _ _ 1 vc [x] rfl HR.out HONE.out (by simp only[maxLen];omega) (by omega) (Nat.zero_le _) ?_;intro v1 w1 hown1 hg1 hat1)
   go_ret
   exact⟨v1,rfl,hown1,hg1,hat1⟩
theorem Zadr (vb vc i:Nat)(v:Value)(n:Nat)(l:List Value)(x:Value)(vcur:Array Value)(w:World)(hown:w.ownsRow 0 23 1 v n l)(hi:i<=n)(hroom:(n+1)*24<=140737488355328)(h1:∀u∈l,u.oneCell'=true)(hx1:x.oneCell'=true)(hvc:vcur.size=vc)(hv1:1<=vc)(hv0:vcur.toList[0]?=some x)
  (hvb:w.heap[vb]?=some (.cells vcur 23 (0,0))) (hne:∀g,v.ownBlock=some g->vb≠g) :
  Calls Tryz.prog 129 #[v,.int .i64 i,.slice (some ⟨vb,0,none⟩) 1 vc] w λe w'=>∃v' row,e=.returned v'/\w'.ownsRow 0 23 1 v' (n+1) (insV l i x)/\w.grownBy w' row/\(row=v.ownBlock\/row=some w.heap.size)/\(v'.ownBlock=v.ownBlock\/v'.ownBlock=some w.heap.size):=by
 have hln:l.length=n:=by have:=hown.1;omega
 by_cases hin:i=n
 ·subst hin
  refine(Zah0 vb vc v i l x vcur w hown hroom hx1 hv0 hvb).mono ?_
  rintro e w' ⟨v',rfl,q1,q2,q3⟩
  refine⟨v',_,rfl,?_,q2,.inl rfl,q3⟩
  have:insV l i x=l++[x]:=by rw[insV,tL_ (by omega),List.drop_eq_nil_of_le (by omega)]
  rw[this]
  exact q1
 ·rcases id hown.2 with⟨rfl,h0⟩|⟨g,cap,cur,rfl,hbg,hg,hnc,hm,hcs,htake⟩
  ·omega
  ·have hlen:(insV l i x).length=n+1:=by simp[insV];omega
   rw[Nat.mul_one]at htake hcs
   by_cases hc:n+1<=cap
   ·refine(Zafy g cap n i vb cur l x vcur vc w hln h1 hx1 hvc hv1 hv0 (by omega) hc hm hg hcs htake hvb (hne g rfl)).mono ?_
    rintro e w' ⟨rfl,⟨new,hn1,hn2,hn3⟩,hgr⟩
    exact⟨_,_,rfl,⟨by omega,.inr ⟨g,cap,new,rfl,hbg,hn1,hc,hm,by omega,by rw[Nat.mul_one];exact hn3⟩⟩,hgr,.inl rfl,.inl rfl⟩
   ·refine(Zafx g cap n i vb cur l x vcur vc w hln h1 hx1 hvc hv1 hv0 (by omega) (by omega) hnc hroom hg hcs htake hvb).mono ?_
    rintro e w' ⟨cap2,rfl,hc1,hc2,⟨new,hn1,hn2,hn3⟩,hgr⟩
    exact⟨_,_,rfl,⟨by omega,.inr ⟨w.heap.size,cap2,new,rfl,Nat.zero_le _,hn1,hc1,hc2,by omega,by rw[Nat.mul_one];exact hn3⟩⟩,hgr,.inr rfl,.inr rfl⟩
end Go.Proofs.YtpfnmpdcneejbaaGreatDoor
namespace Go.Proofs.YtpfnmpdcneejbaaGreatDoor
open Go.RowKit
abbrev Zaeq (w:World):Prop:=Lib.TabIs Tryz.prog w "internal/strconv.uint64pow10" .u64 Lib.pow10Tab
theorem gPow : Tryz.prog.globalNamed "internal/strconv.uint64pow10"=some 0:=by kernel_rfl
end Go.Proofs.YtpfnmpdcneejbaaGreatDoor
namespace Go.Proofs.YtpfnmpdcneejbaaGreatDoor.Am
open Go.RowKit
theorem Zap1 {w:World}(h:Zaeq w):∃cs t fr,w.heap[0]?=some (.cells cs t fr):=by
 unfold Zaeq Lib.TabIs World.var? at h
 rw[gPow]at h
 simp only[Option.bind_some]at h
 split at h
 ·exact⟨_,_,_,by assumption⟩
 ·cases h
theorem Zasb {w w':World}(hk:w'.heap[0]?=w.heap[0]?)(h:Zaeq w):Zaeq w':=by
 unfold Zaeq Lib.TabIs World.var? at h ⊢
 rw[gPow]at h ⊢
 simp only[Option.bind_some]at h ⊢
 rw[hk]
 exact h
def GlOk (w:World):Prop:=Zaeq w/\True
def glN : Nat:=0+1
theorem Zaua (w w':World)(hk:∀b,b<glN->w'.heap[b]?=w.heap[b]?)(h:GlOk w):GlOk w':=⟨Zasb (hk _ (by decide)) h.1,trivial⟩
theorem Zaub {w:World}(h:GlOk w):glN<=w.heap.size:=by
 obtain⟨cs,t,fr,h1⟩:=Zap1 h.1
 exact lt_of_block h1
noncomputable def cx : Cx:={ P:=Tryz.prog,N:=glN,Gl:=GlOk,keep:=Zaua,T:=Zavl,tyOk:=Zbz,mixed:=by kernel_rfl }
theorem Zak5 {w:World}(h:GlOk w):cx.N<=w.heap.size:=Zaub h
theorem Zaok {w w':World}(h:Below w.heap.size w w'):Kin w (λ_=>False) w':=⟨h.os,h.tape,h.output,h.size,λb hb _=>h.block b hb⟩
theorem Zanh {w w':World}(h:Kin w (λ_=>False) w'):Below w.heap.size w w':=⟨h.os,h.tape,h.output,h.size,λb hb=>h.block b hb (λh=>h)⟩
theorem Zaq5 {f:FuncId}{fn:Func}{c:Code}(hf:Tryz.prog.funcs[f]?=some fn)(hb:fn.body=some c)(hname:(fn.name == "runtime.NumGoroutine")=false)(vs:Array Value)(w:World):(callFunc f vs).run cx.P w=.ok (.enter f vs) w:=by
 have hf':cx.P.funcs[f]?=some fn:=hf
 simp only[callFunc,Sem.run_bind,program,Sem.run,Result.andThen_ok,hf',hname,hb]
 rfl
theorem Zaqm {f:FuncId}{fn:Func}{c:Code}{args:List AV}{r:AV}(hf:Tryz.prog.funcs[f]?=some fn)(hb:fn.body=some c)(hname:(fn.name == "runtime.NumGoroutine")=false)
  (h:∀(w:World) (O:Nat->Prop) (cargs:Array Value),GlOk w->(∀b,O b->b<w.heap.size)->cargs.toList.length=args.length->(∀(j:Nat) (x:AV) (v:Value),args[j]?=some x->cargs[j]?=some v->RV w nov (mO O) x v) ->
   Calls Tryz.prog f cargs w (λe w'=>∃v,e=.returned v/\RV w' nov (mO O) r v/\Below w.heap.size w w')):ACall cx f args r:=by
 refine⟨Zaq5 hf hb hname,λw O cargs hg _ hO hs hr=>?_⟩
 refine Calls.mono (h w O cargs hg (λb hb=>(hO b hb).1) (by simpa using hs) hr) ?_
 rintro e w' ⟨v,h1,h2,h3⟩
 exact⟨v,h1,h2,Zaok h3,cx.keep w w' (λb hb=>h3.block b (Nat.lt_of_lt_of_le hb (Zak5 hg))) hg⟩
theorem Zawg {f:FuncId}{args:List AV}{w:World}{cargs:Array Value}(h:ACall cx f args (.c (.bool true)))(ht:GlOk w)(hs:cargs.size=args.length)(hr:∀(j:Nat)(x:AV)(v:Value),args[j]?=some x->cargs[j]?=some v->RV w nov (mO (λ_=>False)) x v) :
  Calls Tryz.prog f cargs w λe w'=>e=.returned (.bool true)/\Below w.heap.size w w':=by
 refine Calls.mono (h.2 w (λ_=>False) cargs ht (Zak5 ht) (λb hb=>hb.elim) hs hr) ?_
 rintro e w' ⟨v,rfl,h1,h2,_⟩
 rw[Zjp h1]
 exact⟨rfl,Zanh h2⟩
theorem Zayr {cargs:Array Value}(h:cargs.toList.length=1):∃a,cargs=#[a]:=by
 obtain⟨a,ha⟩:=List.length_eq_one_iff.1 h
 exact⟨a,Array.ext' ha⟩
def Zal (x:List Zaa):List AV:=[.sl 2 (x.map cF)]
theorem Zaq6 (x:List Zaa):∀y∈Zal x,Fr y:=Zaz (.sl (Zsi _)) (Zd2)
theorem Zafo (l:List (List Zaa)):FrL (l.map Zal):=Zgt (λx _=>Zaq6 x)
instance {l:List (List Zaa)}:FrI (l.map Zal):=⟨Zafo l⟩
theorem Zaug {α β:Type}{R:α->β->Prop}{s:List α}{xs:List β}{i:Nat}{x:α}{u:β}(hl:s.length=xs.length)(h:∀(k:Nat)(y:α),s[k]?=some y->∃v,xs[k]?=some v/\R y v)(hx:R x u)(hi:i<=s.length) :
  ∀(k:Nat) (y:α),(s.take i++x :: s.drop i)[k]?=some y->∃v,(xs.take i++u :: xs.drop i)[k]?=some v/\R y v:=by
 intro k y hk
 have h1:(s.take i).length=i:=by simp;omega
 have h2:(xs.take i).length=i:=by simp;omega
 rcases Nat.lt_trichotomy k i with hlt|rfl|hgt
 ·rw[List.getElem?_append_left (by omega),List.getElem?_take,if_pos hlt]at hk
  rw[List.getElem?_append_left (by omega),List.getElem?_take,if_pos hlt]
  exact h k y hk
 ·rw[List.getElem?_append_right (by omega),h1,Nat.sub_self]at hk
  rw[List.getElem?_append_right (by omega),h2,Nat.sub_self]
  simp at hk
  subst hk
  exact⟨u,by simp,hx⟩
 ·obtain⟨q,rfl⟩:∃q,k=i+(q+1):=⟨k-i-1,by omega⟩
  rw[List.getElem?_append_right (by omega),h1,Nat.add_sub_cancel_left,List.getElem?_cons_succ,List.getElem?_drop]at hk
  rw[List.getElem?_append_right (by omega),h2,Nat.add_sub_cancel_left,List.getElem?_cons_succ,List.getElem?_drop]
  exact h _ y hk
def Zr8 (s:List (List Zaa))(i:Int)(v:List (List Zaa)):Option (List (List Zaa)):=match v with | [x]=>grd (0<=i) (grd (i<=s.length) (grd ((s.length+1)*24<=140737488355328) (some (s.take i.toNat++x :: s.drop i.toNat))))|_=>none
theorem Zam4 (s:List (List Zaa))(i:Int)(v:List (List Zaa)){r:List (List Zaa)}(h:Zr8 s i v=some r) :
  Zc8 cx 129 [.own 0 0 0 s.length,.c (.int .i64 i),.own 2 0 0 v.length] [(0,⟨23,1,false,s.map Zal⟩),(2,⟨23,1,false,v.map Zal⟩)] [] (.own 0 0 0 r.length) [(0,⟨23,1,false,r.map Zal⟩)]:=by
 unfold Zr8 at h
 split at h
 ·rename_i x
  obtain⟨h0,h⟩:=Zaf h
  obtain⟨h1,h⟩:=Zaf h
  obtain⟨h2,h⟩:=Zaf h
  have h:=sI_ h
  subst h
  obtain⟨k,rfl⟩:∃k:Nat,i=k:=⟨i.toNat,by omega⟩
  rw[Int.toNat_natCast]
  have hk:k<=s.length:=by omega
  refine⟨Zma Tryz.func129 rfl (by decide),λw m cargs hg hM hsz hargs=>?_⟩
  have hs3:cargs.size=3:=hsz
  obtain⟨v0,vi,v2,rfl⟩:∃a b c,cargs=#[a,b,c]:=by
   obtain⟨l⟩:=cargs
   match l,hs3 with
   | [a,b,c],_=>exact⟨a,b,c,rfl⟩
  have a0:=hargs 0 _ v0 rfl rfl
  have a1:=Zjp (hargs 1 _ vi rfl rfl)
  have a2:=hargs 2 _ v2 rfl rfl
  subst a1
  obtain⟨xs,hrow,hfl,hm0⟩:=Zq7 (η:=fE [(0,⟨23,1,false,s.map Zal⟩),(2,⟨23,1,false,[x].map Zal⟩)]) a0 rfl (hM.ok 0 _ rfl) (by simp)
  simp only at hrow hfl
  rcases Zor (η:=fE [(0,⟨23,1,false,s.map Zal⟩),(2,⟨23,1,false,[x].map Zal⟩)]) a2 rfl with⟨_,e,_⟩|⟨_,_,e,_⟩|⟨vb,vc,ty,nn,e1,e2,e3,e4,e5,rfl⟩
  ·simp at e
  ·simp at e
  have hok:=hM.ok 2 _ rfl
  rw[e1]at hok
  obtain⟨arr,b1,b2,b3⟩:=hok.cellsF rfl
  simp only[Nat.zero_add,Nat.mul_one,lC_,List.length_nil]at e5 e2 ⊢
  have hvc:arr.size=vc:=by
   simp only[World.shape?,b1]at e4
   injection e4 with e4
   injection e4 with _ e4
   omega
  obtain⟨u,u1,u2,u3⟩:=(b3 0 (Zal x) rfl).2 0 _ rfl
  simp only[Nat.zero_mul,Nat.add_zero]at u1
  have hxl:xs.length=s.length:=by have:=hrow.1;omega
  have hone:∀z∈xs,z.oneCell'=true:=by
   intro z hz
   obtain⟨q,hq⟩:=List.getElem?_of_mem hz
   have hlt:=(gS_.1 hq).1
   have hsq:s[q]?=some s[q]:=gE_ (by omega)
   obtain⟨z',z1,z2,_⟩:=(hfl.2 q (Zal s[q]) (by simp[hsq])).2 0 _ rfl
   simp only[Nat.mul_one,Nat.add_zero,List.getElem?_toArray]at z1
   rw[hq]at z1
   injection z1 with z1
   rw[z1];exact z2
  have hcon:=Zadr vb vc k v0 s.length xs u arr w hrow hk h2 hone u2 hvc (by omega) (by simpa using u1) b1 (λg hgv e=>by
   subst e
   have:=hM.inj 0 2 vb (by simp[Zgu,Zmb]) (by simp[Zgu,Zmb]) (by rw[hm0];exact hgv) e1
   omega)
  refine hcon.mono ?_
  rintro e w' ⟨v',row,rfl,r1,r2,r3,r4⟩
  refine⟨v',⟨λk=>if k=0 then v'.ownBlock else none,m.O⟩,rfl,?_⟩
  have hlen:(s.take k++x :: s.drop k).length=s.length+1:=by simp;omega
  rw[hlen]
  refine Zafq (i0:=0) hM hg (.inr ⟨by simp[Zgu,Zmb],hm0⟩) r1 r2 (r3.imp id (λe b hb=>by rw[e]at hb;injection hb with hb;omega)) (r4.imp id (λe b hb=>by rw[e]at hb;injection hb with hb;omega)) (by rw[lM_,hlen]) (λq e he=>?_)
  rw[List.getElem?_map]at he
  cases hq:(s.take k++x :: s.drop k)[q]? with
  | none=>rw[hq]at he;cases he
  | some y =>
   rw[hq]at he
   simp only[Option.map_some,Option.some.injEq]at he
   subst he
   obtain⟨z,z1,z2,z3⟩:=Zaug (R:=λ(y:List Zaa) (z:Value)=>z.oneCell'=true/\RV w (shp (fE [(0,⟨23,1,false,s.map Zal⟩),(2,⟨23,1,false,[x].map Zal⟩)])) m (.sl 2 (y.map cF)) z) (s:=s) (xs:=xs) (i:=k) (x:=x) (u:=u) hxl.symm (λq y hy=>by
    obtain⟨z',z1,z2,z3⟩:=(hfl.2 q (Zal y) (by simp[hy])).2 0 _ rfl
    exact⟨z',by simpa using z1,z2,z3⟩) ⟨u2,u3⟩ hk q y hq
   refine⟨rfl,λj a hj=>?_⟩
   cases j with
   | zero =>
    simp only[Zal,List.getElem?_cons_zero,Option.some.injEq]at hj
    subst hj
    exact⟨.sl (Zsi _),z,by simpa [insV] using z1,z2,z3⟩
   | succ j=>simp[Zal]at hj
 ·cases h
end Go.Proofs.YtpfnmpdcneejbaaGreatDoor.Am
