/- Proved here: lemmas that the claim's text uses. Conditions: those that each lemma states. -/
import Derived.Test.YtolabkginnkhgaaGreatDoorRows
import Derived.Lib.ValidLaws
import Derived.Lib.Strings
import Derived.Lib.Repeat
import Derived.Lib.Replace
import Derived.Lib.TrimU
import Derived.Test.YtolabkginnkhgaaGreatDoorX0
set_option maxRecDepth 100000
set_option linter.unusedVariables false
set_option linter.unusedSimpArgs false
set_option linter.defProp false
open Option renaming some->J,none->O
open Bool renaming true->Z,false->V
open Go.Proofs.Tryz
open Nat renaming beq->Aaa,blt->Aa2,mul_pos->Abq
open Go.Op renaming operands->Aab
open Go renaming execOp->Aac,TypeId->Aad,Program->Aae,Operand->Aaf,callFunc->Aag,FuncId->Aah,grownCap->Aaj,yielded->Aam,resolve->Aap,getD_set_ne->Aaq,sizeOf->Aau,typeInfo->Aaw,mem_ready->Aax,run_underlying->Aa1,wpAny_all->Aa5,results->Aa6,wpList_plain->Aa9,wpAny_take->Aba,wpAny_sound->Abb,storeCells->Abc,size_zeroCells->Abd,grownCap_ge->Abe,run_firstCells_some->Abl
open Array renaming replicate->Aai,size_push->Abz
open Go.Region renaming wanted->Aak,binds->Aal,ready->Aas,Mode->Aat
open Go.Oper renaming wp->Aan,upon_enter->Aa7,upon_skip->Abg
open Go.Call renaming operands->Aao
open Go.Proofs.Tryz renaming prog->Aar
open Go.Act renaming put->Aav,eval->Aa8
open Go.World renaming cell?->Aay,setCell->Abf
open List renaming range->Aaz,map->Aa3,getElem?_eq_getElem->Abr
open Go.Builtin renaming firstCells->Aa0,zeroCells->Aa4,len_->Abx,append_->Aby
open Go.Instr renaming sureAddr->Abh,storeAt->Abs,indexAt->Abt
open Go.Ending renaming returned->Abi
open Go.Deferred renaming ofValue->Abj
open Go.Addr renaming mk->Abk
open Go.Value.tuple renaming inj->Abm
open UInt8 renaming ofNat->Abn
open Option renaming bind_some->Abo
open Go.Operand renaming tmp->Abp
open Go.Lib renaming decodeGoB->Abu
open Go.Code renaming wp_mono->Abv,region->Abw
open Go.Value.pointer renaming injEq->Ab0
section
open Go.Lib
namespace Go.Aev
variable {Ty:Type}{den:Ty->Type}
def J7(ls:List (Leaf Ty den))(c:Nat):Prop:=∃lf∈ls,lf.has c=Z
def Q8:List (Nat×Gw)->Gw
 |[]=>[]
 |(b,us)::r=>.pointer (J ⟨b,0,O⟩)::(us++Q8 r)
def Z0(w:World)(g:Gh):Gv->List (List (Leaf Ty den))->List (Nat×Gw)->Prop
 |[],[],[]=>True
 |d::ds,c::cs,(b,us)::r=>(g.G d=.slice (J ⟨b,0,O⟩) 0 us.length/\us.length=c.length/\0<us.length/\g.Gs d=1/\
  ∀(j:Nat) u,us[j]?=J u->w.cell? ⟨b,j,O⟩=J u/\u.oneCell'=Z/\u.cells= #[u])/\Z0 w g ds cs r
 |_,_,_=>False
def I5:Nat->Gv->List (Nat×Nat)
 |_,[]=>[]
 |k,d::r=>(B2 k,d)::I5 (k+1) r
def T3(P:Aae)(U:UO Ty den)(I:Inv)(f:Aah)(ls:List (Leaf Ty den))(cs:List (List (Leaf Ty den)))(rs:List (Leaf Ty den))(ay:List (List (Leaf Ty den))):Prop:=
 ∀(w:World)(g:Gh)(vs:Gw)(cn:List (Nat×Gw)),I w g.wm->(∀b,w.heap.size<=b->g.wm b=0)->LsRep U w g ls vs->LsRep U w g (D6 0 cs) (Q8 cn)->Z0 w g (M3 0 cs.length) cs cn->
  (∀d,J7 (D6 0 cs) d->Tip w g.wm (g.G d) (g.Gs d))->(∀d e b,J7 (D6 0 cs) d->J7 (D6 0 cs) e->d≠e->spare (g.G d)=J b->spare (g.G e)≠J b)->
  (∀lf∈ls,∀d,lf.has d=Z->J7 (D6 0 cs) d)->
  Calls P f vs.toArray w λe w'=>∃g' rv dH,e=.returned (R0 rv)/\rs.length=rv.length/\
   Post U ⟨w,g.wm,λb=>∃d,J7 (D6 0 cs) d/\spare (g.G d)=J b,0,λ_=>undef⟩ g' (.tup (rs++D6 0 ay)) (.tuple (rv++Q8 dH).toArray) w'/\
   Z0 w' g' (M3 0 cs.length) ay dH/\dH.map (λp=>(p.1,p.2.length))=cn.map (λp=>(p.1,p.2.length))
structure Mm(P:Aae)(U:UO Ty den)(I:Inv)(f:Aah)(S:List (Leaf Ty den)->List (List (Leaf Ty den))->Option (List (Leaf Ty den)×List (List (Leaf Ty den)))):Prop where
 enter:∀args w,(Aag f args).run P w=.ok (.enter f args) w
 ok:∀ls cs rs ay,S ls cs=J (rs,ay)->T3 P U I f ls cs rs ay
section
variable {U:UO Ty den}{B:Bs}{g:Gh}{s:St Ty den}{a:Act}{w:World}
def OneOne(N:List (Nat×Nat)):Prop:=∀c d c' d',(c,d)∈N->(c',d')∈N->(c=c'↔d=d')
def D2D(hU:U.Ok)(hr:Rel U B g s a w){k d c:Nat}{l:Leaf Ty den}{u:Value}(hl:LRep U w g l u)(hb:∃b n,g.G d=.slice (J ⟨b,0,O⟩) 0 n):
  ∃N,Rel U B g (pk1 k d c s l).2 a w/\PackRep U w g ((B2 k,d)::N) [(pk1 k d c s l).1] [u]/\OneOne N/\(∀p∈N,p.1=c/\mem p.2 s.live=Z/\mem p.2 (pk1 k d c s l).2.live=V)/\
   (∀e,mem e (pk1 k d c s l).2.live=Z->mem e s.live=Z):=by
 have keep:∀{l':Leaf Ty den},CRep U w g.wm l' u->(∀t x c,l'≠ .sl t x (J c))->(∀c' o,l'=.ptr c' o->∃d' b n,(c',d')∈[(B2 k,d)]/\g.G d'=.slice (J ⟨b,0,O⟩) 0 n/\PtrAt U w b n o u)->pk1 k d c s l=(l',s)->
   ∃N,Rel U B g (pk1 k d c s l).2 a w/\PackRep U w g ((B2 k,d)::N) [(pk1 k d c s l).1] [u]/\OneOne N/\(∀p∈N,p.1=c/\mem p.2 s.live=Z/\mem p.2 (pk1 k d c s l).2.live=V)/\
   (∀e,mem e (pk1 k d c s l).2.live=Z->mem e s.live=Z):=λh1 h2 h3 h4=>by
  rw[h4];exact⟨[],hr,⟨⟨h1,λt x c he=>absurd he (h2 t x c),h3⟩,trivial⟩,λ_ _ _ _ h=>by(cases h),λp hp=>by(cases hp),λ_ h=>h⟩
 cases l with
 |sl t x o=>
  cases o with
  |none=>exact keep hl.1.close (λ_ _ _ he=>by(cases he)) (λ_ _ he=>by(cases he)) rfl
  |some e=>
   cases hm:mem e s.live with
   |false=>exact keep hl.1.close (λ_ _ _ he=>by(cases he)) (λ_ _ he=>by(cases he)) (by simp only[pk1,hm,GF];rfl)
   |true=>
    obtain⟨h1,h2⟩:=hl.2.1 t x e rfl;have he:pk1 k d c s (.sl t x (J e))=(.sl t x (J c),s.kill e):=by simp only[pk1,hm,GD]
    rw[he];refine⟨[(c,e)],hr.kill hU e,⟨⟨hl.1.own _,λt1 x1 c1 kE=>?_,λ_ _ kE=>by(cases kE)⟩,trivial⟩,λc1 d1 c2 d2 h3 h4=>?_,λp hp=>?_,λe' h=>(QQ.1 h).1⟩;cases kE;exact⟨e,GN,h1,h2⟩;simp only[HC,Hh,or_false,He]at h3 h4;simp[h3,h4];simp only[HC,Hh,or_false]at hp;subst hp;refine⟨rfl,hm,?_⟩;cases h5:mem e (s.kill e).live with
    |false=>rfl
    |true=>exact absurd rfl (QQ.1 h5).2
 |ptr e o=>
  cases hc:Aaa e d&&Aaa o A9 with
  |false=>exact keep (.any _) (λ_ _ _ he=>by(cases he)) (λ_ _ he=>by(cases he)) (by simp only[pk1,hc,GF])
  |true=>
   simp only[Fn]at hc;have e1:=(D5 _ _).1 hc.1;have e2:o=A9:=(D5 _ _).1 hc.2;subst e2;subst e1;obtain⟨b,n,h1,h2⟩:=hl.2.2 e _ rfl;refine keep (l':=.ptr (B2 k) A9) (.ptr _ _ _ h2.ptr) (λ_ _ _ he=>by(cases he)) (λc' o' he=>?_) (by simp only[pk1,G4,hc.2,Hy,GD]);cases he;exact⟨e,b,n,GN,h1,h2⟩
 |_=>exact keep hl.1.close (λ_ _ _ he=>by(cases he)) (λ_ _ he=>by(cases he)) rfl
def OneOne.append{N M:List (Nat×Nat)}(h1:OneOne N)(h2:OneOne M)(h:∀p∈N,∀q∈M,p.1≠q.1/\p.2≠q.2):OneOne (N++M):=by
 intro c d c' d' h3 h4;rw[Hg]at h3 h4;rcases h3 with h3|h3<;>rcases h4 with h4|h4
 exact h1 c d c' d' h3 h4;have:=h _ h3 _ h4;exact⟨λe=>absurd e this.1,λe=>absurd e this.2⟩;have:=h _ h4 _ h3;exact⟨λe=>absurd e.symm this.1,λe=>absurd e.symm this.2⟩;exact h2 c d c' d' h3 h4
def B9q(hU:U.Ok){k d:Nat}:∀(ls:List (Leaf Ty den))(us:Gw)(j:Nat)(s:St Ty den),Rel U B g s a w->LsRep U w g ls us->(∃b n,g.G d=.slice (J ⟨b,0,O⟩) 0 n)->
  ∃N,Rel U B g (pkC k d j s ls).2 a w/\PackRep U w g ((B2 k,d)::N) (pkC k d j s ls).1 us/\OneOne N/\(∀p∈N,(∃i,j<=i/\i<j+ls.length/\p.1=bo (B2 k) i)/\mem p.2 s.live=Z/\mem p.2 (pkC k d j s ls).2.live=V)/\
   (∀e,mem e (pkC k d j s ls).2.live=Z->mem e s.live=Z)/\(pkC k d j s ls).1.length=ls.length
 |[],[],j,s,hr,_,_=>⟨[],hr,trivial,λ_ _ _ _ h=>by(cases h),λp hp=>by(cases hp),λ_ h=>h,rfl⟩
 |l::ls,u::us,j,s,hr,bu,hb=>by
  obtain⟨N1,a1,a2,a3,a4,a5⟩:=D2D hU hr (k:=k) (d:=d) (c:=bo (B2 k) j) bu.1 hb;obtain⟨N2,b1,b2,b3,b4,b5,b6⟩:=B9q hU (k:=k) (d:=d) ls us (j+1) _ a1 bu.2 hb;have e1:(pkC k d j s (l::ls)).1=(pk1 k d (bo (B2 k) j) s l).1::(pkC k d (j+1) (pk1 k d (bo (B2 k) j) s l).2 ls).1:=rfl;have e2:(pkC k d j s (l::ls)).2=(pkC k d (j+1) (pk1 k d (bo (B2 k) j) s l).2 ls).2:=rfl;rw[e1,e2];refine⟨N1++N2,b1,⟨?_,b2.mono λp hp=>?_⟩,a3.append b3 λp hp q hq=>?_,λp hp=>?_,λe he=>a5 e (b5 e he),by simp[b6]⟩;obtain⟨c1,c2,c3⟩:=a2.1;exact⟨c1,λt x c he=>by(obtain⟨d',h1,h2⟩:=c2 t x c he;exact⟨d',by simp only[HC,Hg]at h1 ⊢;exact h1.imp id Or.inl,h2⟩),λc o he=>by(obtain⟨d',b,n,h1,h2⟩:=c3 c o he;exact⟨d',b,n,by simp only[HC,Hg]at h1 ⊢;exact h1.imp id Or.inl,h2⟩)⟩;simp only[HC,Hg]at hp ⊢;exact hp.imp id Or.inr;obtain⟨p1,p2,p3⟩:=a4 p hp;obtain⟨⟨i,q1,q2,q3⟩,q4,q5⟩:=b4 q hq;refine⟨λe=>?_,λe=>?_⟩;rw[p1,q3]at e;unfold bo at e;omega;rw[e]at p3;rw[p3]at q4;cases q4;rw[Hg]at hp;rcases hp with hp|hp;obtain⟨p1,p2,p3⟩:=a4 p hp;refine⟨⟨j,GU _,GN,p1⟩,p2,?_⟩;cases h5:mem p.2 (pkC k d (j+1) (pk1 k d (bo (B2 k) j) s l).2 ls).2.live with
  |false=>rfl
  |true=>have:=b5 _ h5;rw[p3]at this;cases this
  obtain⟨⟨i,q1,q2,q3⟩,q4,q5⟩:=b4 p hp;exact⟨⟨i,FK,by simp only[Fr];omega,q3⟩,a5 _ q4,q5⟩
def C1O{d:Nat}{ls:List (Leaf Ty den)}(gy:Aa2 d 1000000=Z)(h:BoxOk U w g d ls):∃(b:Nat)(us:Gw),g.G d=.slice (J ⟨b,0,O⟩) 0 us.length/\us.length=ls.length/\0<us.length/\g.Gs d=1/\
  (∀(j:Nat) u,us[j]?=J u->w.cell? ⟨b,j,O⟩=J u/\u.oneCell'=Z/\u.cells= #[u])/\LsRep U w g ls us:=by
 obtain⟨b,n,h1,⟨h2,_,hn⟩,h3,h4⟩:=h;have hn:=hn gy;subst hn;have bm:∀(ls:List (Leaf Ty den))(o:Nat),(∀(j:Nat) lf,ls[j]?=J lf->∃u,w.cell? ⟨b,o+j,O⟩=J u/\u.oneCell'=Z/\u.cells= #[u]/\LRep U w g lf u)->
   ∃us:Gw,us.length=ls.length/\(∀(j:Nat) u,us[j]?=J u->w.cell? ⟨b,o+j,O⟩=J u/\u.oneCell'=Z/\u.cells= #[u])/\LsRep U w g ls us:=by
  intro ls
  induction ls with
  |nil=>intro o _;exact⟨[],rfl,λj u h=>by simp at h,trivial⟩
  |cons l ls ih=>
   intro o hc;obtain⟨us,e1,e2,e3⟩:=ih (o+1) (λj lf hj=>by
    have:=hc (j+1) lf (by simpa using hj);rw[show o+(j+1)=o+1+j from FK]at this;exact this)
   obtain⟨u,u1,u2,u3,u4⟩:=hc 0 l rfl;refine⟨u::us,by simp[e1],λj v hj=>?_,u4,e3⟩;cases j with
   |zero=>simp at hj;subst hj;exact⟨u1,u2,u3⟩
   |succ j=>
    have:=e2 j v (by simpa using hj);rw[show o+1+j=o+(j+1)from FK]at this;exact this
 obtain⟨us,e1,e2,e3⟩:=bm ls 0 (λj lf hj=>by rw[HL];exact h4 j lf hj);exact⟨b,us,by rw[e1];exact h1,e1,FK,h3,λj u hj=>by have:=e2 j u hj;rw[HL]at this;exact this,e3⟩
def QR:∀(ds:Gv)(k:Nat)(p:Nat×Nat),p∈I5 k ds->∃i,k<=i/\i<k+ds.length/\p.1=B2 i/\ds[i - k]?=J p.2
 |[],k,p,h=>by cases h
 |d::ds,k,p,h=>by
  simp only[I5,HC]at h;rcases h with rfl|h;exact⟨k,GU _,GN,rfl,GN⟩;obtain⟨i,h1,h2,h3,h4⟩:=QR ds (k+1) p h;refine⟨i,FK,by simp only[Fr];omega,h3,?_⟩;rw[show i - k=i - (k+1)+1 from FK];simpa using h4
def B5J(hU:U.Ok):∀(ds:Gv)(k:Nat)(s:St Ty den)(cs:List (List (Leaf Ty den)))(s':St Ty den),pkB k s ds=J (cs,s')->Rel U B g s a w->
  ∃cn N,Rel U B g s' a w/\PackRep U w g (I5 k ds++N) (D6 k cs) (Q8 cn)/\Z0 w g ds cs cn/\OneOne N/\
   (∀p∈N,(∃i j,k<=i/\j<100/\p.1=bo (B2 i) j)/\mem p.2 s.live=Z/\mem p.2 s'.live=V)/\(∀e,mem e s'.live=Z->mem e s.live=Z)/\cs.length=ds.length
 |[],k,s,cs,s',h,hr=>by
  simp only[pkB,GX,He]at h;obtain⟨rfl,rfl⟩:=h;exact⟨[],[],hr,trivial,trivial,λ_ _ _ _ h=>by(cases h),λp hp=>by(cases hp),λ_ h=>h,rfl⟩
 |d::ds,k,s,cs,s',h,hr=>by
  simp only[pkB]at h;split at h;rename_i e ls hg;obtain⟨hc,h⟩:=A5 h;simp only[Fn]at hc;have e1:=(D5 _ _).1 hc.1;subst e1;have aA:ls.length<100:=by simpa [HU]using hc.2.1
  split at h;rename_i iG s1 mr;simp only[GX,He]at h;obtain⟨rfl,rfl⟩:=h;have cu:=hr.ent (bxi e);rw[hg]at cu;obtain⟨b,us,g1,g2,g3,g4,g5,g6⟩:=C1O hc.2.2 (show BoxOk U w g e ls from cu);obtain⟨N1,a1,a2,a3,a4,a5,a6⟩:=B9q hU (k:=k) (d:=e) ls us 0 s hr g6 ⟨b,_,g1⟩;obtain⟨cn,N2,b1,b2,b3,b4,b5,b6,b7⟩:=B5J hU ds (k+1) _ iG s1 mr a1;refine⟨(b,us)::cn,N1++N2,b1,?_,⟨⟨g1,g2.trans a6.symm,g3,g4,g5⟩,b3⟩,a3.append b4 λp hp q hq=>?_,λp hp=>?_,λe he=>a5 e (b6 e he),by simp[b7]⟩;have sZ:∀p∈(B2 k,e)::N1,p∈I5 k (e::ds)++(N1++N2):=λp hp=>by
   simp only[I5,HC,Hg]at hp ⊢;rcases hp with h|h;exact .inl (.inl h);exact .inr (.inl h)
  have ta:∀p∈I5 (k+1) ds++N2,p∈I5 k (e::ds)++(N1++N2):=λp hp=>by
   simp only[I5,HC,Hg]at hp ⊢;rcases hp with h|h;exact .inl (.inr h);exact .inr (.inr h)
  refine⟨⟨.pt _ _ _,λ_ _ _ he=>by(cases he),λc o he=>?_⟩,(a2.mono sZ).append (b2.mono ta)⟩;cases he;exact⟨e,b,_,by simp[I5],g1,.inl ⟨rfl,GO⟩⟩;obtain⟨⟨i,p1,p2,p3⟩,p4,p5⟩:=a4 p hp;obtain⟨⟨i',j',q1,q2,q3⟩,q4,q5⟩:=b5 q hq;refine⟨λe=>?_,λe=>?_⟩;rw[p3,q3]at e;unfold bo B2 at e;omega;rw[e]at p5;rw[p5]at q4;cases q4;rw[Hg]at hp;rcases hp with hp|hp;obtain⟨⟨i,p1,p2,p3⟩,p4,p5⟩:=a4 p hp;refine⟨⟨k,i,GU _,FK,p3⟩,p4,?_⟩;cases h5:mem p.2 s1.live with
  |false=>rfl
  |true=>have:=b6 _ h5;rw[p5]at this;cases this
  obtain⟨⟨i',j',q1,q2,q3⟩,q4,q5⟩:=b5 p hp;exact⟨⟨i',j',FK,q2,q3⟩,a5 _ q4,q5⟩;cases h;cases h
def C0Y:∀{ds:Gv},Y2 ds=Z->∀{i j x:Nat},ds[i]?=J x->ds[j]?=J x->i=j
 |[],_,i,j,x,h,_=>by simp at h
 |d::ds,hn,i,j,x,h1,h2=>by
  simp only[Y2,Fn,Hs]at hn;have eu:∀{i:Nat},ds[i]? ≠J d:=λ{i} h=>by
   have:mem d ds=Z:=by
    clear h1 h2 hn
    induction ds generalizing i with
    |nil=>simp at h
    |cons y r ih=>
     rw[mem_cons];cases i with
     |zero=>simp at h;exact .inl h
     |succ i=>exact .inr (ih (by simpa using h))
   rw[hn.1]at this;cases this
  cases i with
  |zero=>
   simp at h1;subst h1;cases j with
   |zero=>rfl
   |succ j=>exact absurd (by simpa using h2) (eu (i:=j))
  |succ i=>
   cases j with
   |zero=>simp at h2;subst h2;exact absurd (by simpa using h1) (eu (i:=i))
   |succ j=>rw[C0Y hn.2 (i:=i) (j:=j) (by simpa using h1) (by simpa using h2)]
def YH:∀{ds:Gv},Mc s ds=Z->∀{i x:Nat},ds[i]?=J x->mem x s.live=Z
 |[],_,i,x,h=>by simp at h
 |d::ds,hn,i,x,h=>by
  simp only[Mc,Fn]at hn;cases i with
  |zero=>simp at h;subst h;exact hn.1
  |succ i=>exact YH hn.2 (by simpa using h)
def C1j{ds:Gv}(hn:Y2 ds=Z)(k:Nat):OneOne (I5 k ds):=by
 intro c d c' d' h1 h2;obtain⟨i,a1,a2,a3,a4⟩:=QR ds k _ h1;obtain⟨i',b1,b2,b3,b4⟩:=QR ds k _ h2;simp only at a3 b3 a4 b4;constructor;intro e;rw[a3,b3]at e;have:i=i':=by unfold B2 at e;omega
 subst this;rw[a4]at b4;exact Hb b4;intro e;subst e;have:=C0Y hn a4 b4;rw[a3,b3];congr 1;omega
def C0J{ds:Gv}(hn:Y2 ds=Z)(aE:ds.length<100){N:List (Nat×Nat)}{s':St Ty den}(h1:OneOne N)(h2:∀p∈N,(∃i j,0<=i/\j<100/\p.1=bo (B2 i) j)/\mem p.2 s.live=Z/\mem p.2 s'.live=V)(hl:Mc s' ds=Z):
  OneOne (I5 0 ds++N):=by
 refine(C1j hn 0).append h1 λp hp q hq=>?_;obtain⟨i,a1,a2,a3,a4⟩:=QR ds 0 _ hp;obtain⟨⟨i',j',q1,q2,q3⟩,q4,q5⟩:=h2 q hq;refine⟨λe=>?_,λe=>?_⟩
 rw[a3,q3]at e;unfold bo B2 at e;omega;have:=YH hl a4;rw[e,q5]at this;cases this
end
section
variable {E:Env Ty den}{B:Bs}{g:Gh}{s:St Ty den}{a:Act}{w:World}
variable {P:Aae}{R:Type}{o:Oper}{k:Ent Ty den->St Ty den->Option R}{r:R}{next:Act->World->Prop}{Q:Exit->Act->World->Prop}
def D5x(hU:E.U.Ok){Bc:Bs}{g' g1:Gh}{ent:Ent Ty den}{v0:Value}{w':World}(hp:Post E.U Bc g' ent v0 w')(hr:Rel E.U B g1 s a w')(ba:g1.wm=g'.wm)
  (hB:∀b,Bc.w.heap.size<=b\/Bc.M b->B.w.heap.size<=b\/B.M b){kk d j:Nat}(cG:V7 Bc g' g1 ent O (λc=>c<bo (B2 kk) j) s)
  {lf:Leaf Ty den}{v:Value}(anq:LRep E.U w' g' lf v)(hc:∀c,lf.has c=Z->ent.has c=Z)(hd:mem d s.live=Z/\g1.G d=g'.G (B2 kk)):
  ∃g2,Rel E.U B g2 (N7 kk d (bo (B2 kk) j) (bo d j) s lf).2 a w'/\g2.wm=g'.wm/\LRep E.U w' g2 (N7 kk d (bo (B2 kk) j) (bo d j) s lf).1 v/\V7 Bc g' g2 ent O (λc=>c<bo (B2 kk) (j+1)) (N7 kk d (bo (B2 kk) j) (bo d j) s lf).2/\
   (∀e,mem e s.live=Z->g2.G e=g1.G e/\g2.Gs e=g1.Gs e/\mem e (N7 kk d (bo (B2 kk) j) (bo d j) s lf).2.live=Z)/\(∀e,(N7 kk d (bo (B2 kk) j) (bo d j) s lf).1.has e=Z->mem e (N7 kk d (bo (B2 kk) j) (bo d j) s lf).2.live=Z):=by
 have ez:∀c,c<bo (B2 kk) j->c<bo (B2 kk) (j+1):=λc h=>by unfold bo at*;omega
 have keep:∀{lf':Leaf Ty den},LRep E.U w' g1 lf' v->(∀e,lf'.has e=Z->mem e s.live=Z)->N7 kk d (bo (B2 kk) j) (bo d j) s lf=(lf',s)->
   ∃g2,Rel E.U B g2 (N7 kk d (bo (B2 kk) j) (bo d j) s lf).2 a w'/\g2.wm=g'.wm/\LRep E.U w' g2 (N7 kk d (bo (B2 kk) j) (bo d j) s lf).1 v/\V7 Bc g' g2 ent O (λc=>c<bo (B2 kk) (j+1)) (N7 kk d (bo (B2 kk) j) (bo d j) s lf).2/\
   (∀e,mem e s.live=Z->g2.G e=g1.G e/\g2.Gs e=g1.Gs e/\mem e (N7 kk d (bo (B2 kk) j) (bo d j) s lf).2.live=Z)/\(∀e,(N7 kk d (bo (B2 kk) j) (bo d j) s lf).1.has e=Z->mem e (N7 kk d (bo (B2 kk) j) (bo d j) s lf).2.live=Z):=by
  intro lf' hl eu he;rw[he];refine⟨g1,hr,ba,hl,λe he=>?_,λe he=>⟨rfl,rfl,he⟩,eu⟩;rcases cG e he with h1|⟨c',h1,h2,h3,h4⟩;exact .inl h1;exact .inr ⟨c',h1,ez _ h2,h3,h4⟩
 have plain:∀{lf:Leaf Ty den}{v:Value},LRep E.U w' g' lf v->(∀e,lf.has e=V)->LRep E.U w' g1 lf v:=λ{lf v} h h2=>⟨by rw[ba];exact h.1,λt l d he=>by(subst he;have:=h2 d;simp[Leaf.has,G4]at this),λd o he=>by(subst he;have:=h2 d;simp[Leaf.has,G4]at this)⟩;cases lf with
 |sl t l x=>
  cases x with
  |none=>exact keep (plain anq λ_=>rfl) (λe he=>by simp[Leaf.has]at he) rfl
  |some e=>
   by_cases cJ:e=bo (B2 kk) j;subst cJ;simp only[N7,G4,GD];exact B5d (c:=bo (B2 kk) j) hU hp hr ba hB cG ez anq (hc _ (by simp[Leaf.has])) (by unfold bo;omega) (λ_ _ _ c' h1 _=>FK) (λh=>by unfold bo at h;omega);refine keep (lf':=.sl t l O) ⟨by rw[ba];exact anq.1.own O,λ_ _ _ he=>by(simp at he),λ_ _ he=>by(cases he)⟩ (λe he=>by simp[Leaf.has]at he) ?_;simp only[N7,I2 cJ,GF]
 |ptr e o=>
  cases fF:Aaa e (B2 kk)&&Aaa o A9 with
  |false=>exact keep (lf':=.any) (LRep.any _) (λe he=>by simp[Leaf.has]at he) (by simp only[N7,fF,GF])
  |true=>
   simp only[Fn]at fF;have e1:=(D5 _ _).1 fF.1;have e2:o=A9:=(D5 _ _).1 fF.2;subst e2;subst e1;obtain⟨b,n,h1,h2⟩:=anq.2.2 _ _ rfl;refine keep (lf':=.ptr d A9) ⟨.ptr _ _ _ h2.ptr,λ_ _ _ he=>by(cases he),λd' o' he=>?_⟩ (λe he=>?_) (by simp only[N7,G4,fF.2,Hy,GD]);cases he;exact⟨b,n,hd.2.trans h1,h2⟩;simp only[Leaf.has]at he;have:=(D5 _ _).1 he;subst this;exact hd.1
 |_=>exact keep (plain anq λ_=>rfl) (λe he=>by simp[Leaf.has]at he) rfl
def LsRep.keep{g1 g2:Gh}{U:UO Ty den}(hw:g2.wm=g1.wm):∀{ls:List (Leaf Ty den)}{vs:Gw},LsRep U w g1 ls vs->(∀lf∈ls,∀e,lf.has e=Z->g2.G e=g1.G e/\g2.Gs e=g1.Gs e)->LsRep U w g2 ls vs
 |[],[],_,_=>trivial
 |_::_,_::_,h,hk=>⟨h.1.keep hw (hk _ GN),LsRep.keep hw h.2 λlf hl=>hk lf (by simp[hl])⟩
def C0A(hU:E.U.Ok){Bc:Bs}{g':Gh}{ent:Ent Ty den}{v0:Value}{w':World}(hp:Post E.U Bc g' ent v0 w')(hB:∀b,Bc.w.heap.size<=b\/Bc.M b->B.w.heap.size<=b\/B.M b){kk d:Nat}:
  ∀(ls:List (Leaf Ty den))(vs:Gw)(j:Nat)(s:St Ty den)(g1:Gh),Rel E.U B g1 s a w'->g1.wm=g'.wm->V7 Bc g' g1 ent O (λc=>c<bo (B2 kk) j) s->LsRep E.U w' g' ls vs->(∀lf∈ls,∀c,lf.has c=Z->ent.has c=Z)->
   mem d s.live=Z->g1.G d=g'.G (B2 kk)->
  ∃g2,Rel E.U B g2 (unC kk d j s ls).2 a w'/\g2.wm=g'.wm/\LsRep E.U w' g2 (unC kk d j s ls).1 vs/\V7 Bc g' g2 ent O (λc=>c<bo (B2 kk) (j+ls.length)) (unC kk d j s ls).2/\
   (∀e,mem e s.live=Z->g2.G e=g1.G e/\g2.Gs e=g1.Gs e/\mem e (unC kk d j s ls).2.live=Z)/\(unC kk d j s ls).1.length=ls.length
 |[],[],j,s,g1,hr,ba,cG,_,_,_,_=>⟨g1,hr,ba,trivial,cG,λ_ h=>⟨rfl,rfl,h⟩,rfl⟩
 |lf::ls,v::vs,j,s,g1,hr,ba,cG,anq,hc,hd,hG=>by
  obtain⟨g2,h1,h2,h3,h4,h5,h6⟩:=D5x hU hp hr ba hB cG anq.1 (hc lf GN) ⟨hd,hG⟩;obtain⟨g3,k1,k2,k3,k4,k5,k6⟩:=C0A hU hp hB ls vs (j+1) _ g2 h1 h2 h4 anq.2 (λl hl=>hc l (by simp[hl])) (h5 d hd).2.2 ((h5 d hd).1.trans hG);have e1:(unC kk d j s (lf::ls)).1=(N7 kk d (bo (B2 kk) j) (bo d j) s lf).1::(unC kk d (j+1) (N7 kk d (bo (B2 kk) j) (bo d j) s lf).2 ls).1:=rfl;have e2:(unC kk d j s (lf::ls)).2=(unC kk d (j+1) (N7 kk d (bo (B2 kk) j) (bo d j) s lf).2 ls).2:=rfl;rw[e1,e2];refine⟨g3,k1,k2,⟨h3.keep (k2.trans h2.symm) λe he=>⟨(k5 e (h6 e he)).1,(k5 e (h6 e he)).2.1⟩,k3⟩,?_,λe he=>?_,by simp[k6]⟩;rw[show j+(lf::ls).length=j+1+ls.length by simp only[Fr];omega];exact k4;obtain⟨e1,e2,e3⟩:=h5 e he;obtain⟨f1,f2,f3⟩:=k5 e e3;exact⟨f1.trans e1,f2.trans e2,f3⟩
def LsRep.split{U:UO Ty den}{g:Gh}:∀{ls cf:List (Leaf Ty den)}{vs ny:Gw},LsRep U w g (ls++cf) (vs++ny)->ls.length=vs.length->LsRep U w g ls vs/\LsRep U w g cf ny
 |[],_,[],_,h,_=>⟨trivial,h⟩
 |_::_,_,_::_,_,h,hl=>by
  obtain⟨h1,h2⟩:=LsRep.split h.2 (by simpa using hl);exact⟨⟨h.1,h1⟩,h2⟩
 |[],_,_::_,_,_,hl=>by simp at hl
 |_::_,_,[],_,_,hl=>by simp at hl
def B6A{U:UO Ty den}{g:Gh}{d b:Nat}{us:Gw}{ls:List (Leaf Ty den)}(hG:g.G d=.slice (J ⟨b,0,O⟩) 0 us.length)(hl:us.length=ls.length)(co:0<us.length)(hs:g.Gs d=1)
  (hc:∀(j:Nat) u,us[j]?=J u->w.cell? ⟨b,j,O⟩=J u/\u.oneCell'=Z/\u.cells= #[u])(hr:LsRep U w g ls us):BoxOk U w g d ls:=by
 refine BoxOk.ex b (by rw[hG,hl]) FK hs λj lf hj=>?_;obtain⟨u,h1,h2⟩:=hr.get hj;obtain⟨c1,c2,c3⟩:=hc j u h1;exact⟨u,c1,c2,c3,h2⟩
def B9E(hU:E.U.Ok){Bc:Bs}{g':Gh}{ent:Ent Ty den}{v0:Value}{w':World}(hp:Post E.U Bc g' ent v0 w')(hB:∀b,Bc.w.heap.size<=b\/Bc.M b->B.w.heap.size<=b\/B.M b):
  ∀(ds:Gv)(cs:List (List (Leaf Ty den)))(cn:List (Nat×Gw))(kk:Nat)(s:St Ty den)(g1:Gh),Rel E.U B g1 s a w'->g1.wm=g'.wm->Z0 w' g' (M3 kk ds.length) cs cn->LsRep E.U w' g' (D6 kk cs) (Q8 cn)->
   Xq cs=Z->(∀lf∈D6 kk cs,∀c,lf.has c=Z->ent.has c=Z)->V7 Bc g' g1 ent O (λc=>c<bo (B2 kk) 0) s->(∀i d,ds[i]?=J d->mem d s.live=Z/\g1.G d=g'.G (B2 (kk+i))/\g1.Gs d=1)->
  ∃g2,Rel E.U B g2 (unB kk s ds cs) a w'/\g2.wm=g'.wm/\(∀e,mem e s.live=Z->g2.G e=g1.G e/\g2.Gs e=g1.Gs e)
 |[],[],[],kk,s,g1,hr,ba,_,_,_,_,_,_=>⟨g1,hr,ba,λ_ _=>⟨rfl,rfl⟩⟩
 |d::ds,c::cs,(b,us)::cn,kk,s,g1,hr,ba,cu,anq,lH,dP,cG,jL=>by
  obtain⟨⟨b1,b2,b3,b4,b5⟩,tc⟩:=cu;simp only[Xq,Fn,HU]at lH;obtain⟨vz,iD,wF⟩:=jL 0 d rfl;obtain⟨iV,dQ⟩:=LsRep.split anq.2 b2.symm;obtain⟨g2,h1,h2,h3,h4,h5,h6⟩:=C0A hU hp hB (kk:=kk) (d:=d) c us 0 s g1 hr ba cG iV (λlf hl=>dP lf (by simp[D6,hl])) vz iD;obtain⟨f1,f2,f3⟩:=h5 d vz;have Cf:BoxOk E.U w' g2 d (unC kk d 0 s c).1:=B6A (by rw[f1,iD];exact b1) (by rw[h6,b2]) b3 (by rw[f2,wF]) b5 h3;have h7:=h1.setBx Cf f3;obtain⟨g3,k1,k2,k3⟩:=B9E hU hp hB ds cs cn (kk+1) _ g2 h7 h2 tc dQ lH.2 (λlf hl=>dP lf (by simp[D6,hl])) (λe he=>by
    rcases h4 e he with q1|⟨c',q1,q2,q3,q4⟩;exact .inl q1;refine .inr ⟨c',q1,?_,q3,q4⟩;have:=lH.1;unfold bo B2 at q2 ⊢;omega) (λi d' ek=>by
    obtain⟨e1,e2,e3⟩:=jL (i+1) d' (by simpa using ek);obtain⟨q1,q2,q3⟩:=h5 d' e1;exact⟨q3,by rw[q1,e2];congr 2;omega,by rw[q2,e3]⟩)
  refine⟨g3,k1,k2,λe he=>?_⟩;obtain⟨q1,q2,q3⟩:=h5 e he;obtain⟨r1,r2⟩:=k3 e q3;exact⟨r1.trans q1,r2.trans q2⟩
 |[],[],_::_,_,_,_,_,_,h,_,_,_,_,_=>h.elim
 |[],_::_,_,_,_,_,_,_,h,_,_,_,_,_=>by cases ‹List (Nat×Gw)› <;>exact h.elim
 |_::_,[],_,_,_,_,_,_,h,_,_,_,_,_=>by cases ‹List (Nat×Gw)› <;>exact h.elim
 |_::_,_::_,[],_,_,_,_,_,h,_,_,_,_,_=>h.elim
def B5G(hr:Rel E.U B g s a w):∀ds,Rel E.U B g (V8 s ds) a w
 |[]=>hr
 |d::ds=>(B5G hr ds).noBx d
def OH:∀ds:Gv,(V8 s ds).live=s.live
 |[]=>rfl
 |d::ds=>OH ds
def B7o{d:Nat}:∀{ds:Gv},(∃i:Nat,ds[i]?=J d)->(V8 s ds).get (bxi d)=.one .any
 |[],⟨i,h⟩=>by simp at h
 |x::ds,⟨i,h⟩=>by
  simp only[V8];rw[F2];by_cases hx:bxi x=bxi d;rw[GJ hx];rw[GI hx];cases i with
  |zero=>simp at h;subst h;exact absurd rfl hx
  |succ i=>exact B7o ⟨i,by simpa using h⟩
def B7b{ls:List (Leaf Ty den)}:∀{ps ds:Gv},Mb ls ps=J ds->ds.length=ps.length
 |[],ds,h=>by simp only[Mb,GX]at h;subst h;rfl
 |p::ps,ds,h=>by
  simp only[Mb]at h;split at h;rename_i d iH _ mr;simp only[GX]at h;subst h;simp[B7b mr];cases h
def B5D{U:UO Ty den}{NT:List (Nat×Nat)}(hN:OneOne NT){ls:List (Leaf Ty den)}{vs:Gw}(bu:LsRep U w g ls vs):∀(ps:Gv)(kk:Nat)(ds:Gv),Mb ls ps=J ds->(∀p∈I5 kk ds,p∈NT)->
  LsRep U w (K3 g NT) (Rn (D0 ls) kk ps) vs
 |[],kk,ds,h,_=>LsRep.closed_any (g:=g) (g':=K3 g NT) rfl (LsRep.close bu)
 |p::ps,kk,ds,h,dx=>by
  simp only[Mb]at h;split at h;rename_i d iH hp mr;simp only[GX]at h;subst h;refine(B5D hN bu ps (kk+1) iH mr λp hp=>dx p (by simp[I5,hp])).set p (.ptr (B2 kk) 0) λv hv=>?_;have lC:ls[p]?=J (.ptr d 0):=by
   have aA:=bu.length;have:p<ls.length:=by rw[aA];exact G7 hv
   rw[HQ,GE this]at hp;rw[GE this];simpa using hp
  obtain⟨v',e1,e2⟩:=bu.get lC;rw[hv]at e1;cases e1;obtain⟨b,n,e3,e4⟩:=e2.2.2 d 0 rfl;obtain⟨e5,_⟩:=SN (g:=g) hN (dx (B2 kk,d) (by simp[I5]));exact⟨by rw[e4.at GO];exact .pt _ _ _,λ_ _ _ he=>by(cases he),λd' o' he=>by(cases he;exact⟨b,n,e5.trans e3,e4⟩)⟩;cases h
def B8G{ls:List (Leaf Ty den)}{d:Nat}:∀(ps:Gv)(kk:Nat){lf:Leaf Ty den},lf∈Rn (D0 ls) kk ps->lf.has d=Z->∃i,kk<=i/\i<kk+ps.length/\d=B2 i
 |[],kk,lf,h,hd=>by
  obtain⟨l0,rfl⟩:=VR h;rw[SL]at hd;cases hd
 |p::ps,kk,lf,h,hd=>by
  rcases Jv h with h|rfl;obtain⟨i,h1,h2,h3⟩:=B8G ps (kk+1) h hd;exact⟨i,FK,by simp only[Fr];omega,h3⟩;simp only[Leaf.has]at hd;have:=(D5 _ _).1 hd;exact⟨kk,GU _,GN,this.symm⟩
def VU:∀(cs:List (List (Leaf Ty den)))(kk i:Nat),i<cs.length->J7 (D6 kk cs) (B2 (kk+i))
 |[],kk,i,h=>by simp at h
 |c::cs,kk,0,h=>⟨.ptr (B2 kk) 0,by simp[D6],by simp[Leaf.has,G4]⟩
 |c::cs,kk,i+1,h=>by
  obtain⟨lf,h1,h2⟩:=VU cs (kk+1) i (by simpa using h);exact⟨lf,by simp[D6,h1],by rw[show kk+(i+1)=kk+1+i from FK];exact h2⟩
def B2a{NT:List (Nat×Nat)}(hN:OneOne NT):∀(ds:Gv)(cs:List (List (Leaf Ty den)))(cn:List (Nat×Gw))(kk:Nat),Z0 w g ds cs cn->(∀p∈I5 kk ds,p∈NT)->Z0 w (K3 g NT) (M3 kk cs.length) cs cn
 |[],[],[],kk,_,_=>trivial
 |d::ds,c::cs,(b,us)::cn,kk,h,dx=>by
  obtain⟨⟨b1,b2,b3,b4,b5⟩,h'⟩:=h;obtain⟨e1,e2⟩:=SN (g:=g) hN (dx (B2 kk,d) (by simp[I5]));exact⟨⟨e1.trans b1,b2,b3,e2.trans b4,b5⟩,B2a hN ds cs cn (kk+1) h' λp hp=>dx p (by simp[I5,hp])⟩
 |[],[],_::_,_,h,_=>h.elim
 |[],_::_,cn,_,h,_=>by cases cn<;>exact h.elim
 |_::_,[],cn,_,h,_=>by cases cn<;>exact h.elim
 |_::_,_::_,[],_,h,_=>h.elim
def YI:∀{ds:Gv}{cs:List (List (Leaf Ty den))}{cn:List (Nat×Gw)},Z0 w g ds cs cn->∀{i d:Nat},ds[i]?=J d->∃(b:Nat)(us:Gw),cn[i]?=J (b,us)/\g.G d=.slice (J ⟨b,0,O⟩) 0 us.length/\g.Gs d=1
 |[],[],[],_,i,d,h=>by simp at h
 |x::ds,c::cs,(b,us)::cn,hb,0,d,h=>by simp at h;subst h;exact⟨b,us,rfl,hb.1.1,hb.1.2.2.2.1⟩
 |x::ds,c::cs,(b,us)::cn,hb,i+1,d,h=>by simpa using YI hb.2 (i:=i) (by simpa using h)
 |[],[],_::_,h,_,_,_=>h.elim
 |[],_::_,cn,h,_,_,_=>by cases cn<;>exact h.elim
 |_::_,[],cn,h,_,_,_=>by cases cn<;>exact h.elim
 |_::_,_::_,[],h,_,_,_=>h.elim
def YJ:∀(n kk i:Nat),i<n->(M3 kk n)[i]?=J (B2 (kk+i))
 |0,kk,i,h=>FK
 |n+1,kk,0,h=>by simp[M3]
 |n+1,kk,i+1,h=>by
  simp only[M3,Iu];rw[YJ n (kk+1) i FK];congr 2;omega
def C4v(hU:E.U.Ok){S:List (Leaf Ty den)->List (List (Leaf Ty den))->Option (List (Leaf Ty den)×List (List (Leaf Ty den)))}{ls:List (Leaf Ty den)}{vs:Gw}(bu:LsRep E.U w g ls vs)
  (hS:∀cf cs rs ay,S cf cs=J (rs,ay)->∀g1:Gh,g1.wm=g.wm->LsRep E.U w g1 cf vs->∃f nB kQ,(Aac a.eval o).run P w=.ok (.enter f kQ.toArray) w/\LsRep E.U w g1 nB kQ/\(∀lf∈nB,∀d,lf.has d=Z->J7 cf d)/\T3 P E.U (λw1 m1=>Ext B.w B.wm w1 m1) f nB cs rs ay)
  {ps:Gv}(h:Uv S ps ls o.dst s k=J r)
  (hr:Rel E.U B g s a w)(hd:∀i,o.dst=J i->i<a.tmps.size/\B.np<=i)(hn:G2 E B o a k r next):o.wp P a w next Q:=by
 unfold Uv at h;split at h
 case h_2=>cases h
 rename_i ds jL;obtain⟨gN,h⟩:=A5 h;simp only[Fn,HU]at gN;obtain⟨gE,aE⟩:=gN;split at h
 case h_2=>cases h
 rename_i cs s1 zB;obtain⟨ms,h⟩:=A5 h;split at h
 case h_2=>cases h
 rename_i rs ay wG;obtain⟨fF,h⟩:=A5 h;simp only[Fn,HU]at fF;obtain⟨cE,wH,lH⟩:=fF;have cE:=(D5 _ _).1 cE;obtain⟨Cg,h⟩:=A5 h;obtain⟨cn,N,r1,rp,bd,one,wI,iW,od⟩:=B5J hU ds 0 s cs s1 zB hr;have bR:=C0J (s:=s) gE aE one wI ms;generalize rP:I5 0 ds++N=NT at rp bR;have dx:∀p∈I5 0 ds,p∈NT:=λp hp=>by rw[<-rP];exact JC _ hp
 have Ch:∀c d,(c,d)∈NT->mem d s.live=Z:=λc d oZ=>by
  rw[<-rP,Hg]at oZ;rcases oZ with h1|h1;obtain⟨i,_,_,_,h4⟩:=QR ds 0 _ h1;exact iW _ (YH ms h4);exact(wI _ h1).2.1
 have dP:∀c,J7 (D6 0 cs) c->∃d,(c,d)∈NT/\mem d s.live=Z/\(K3 g NT).G c=g.G d/\(K3 g NT).Gs c=g.Gs d:=λc ⟨lf,h1,h2⟩=>by
  obtain⟨d,h3⟩:=rp.names lf h1 c h2;obtain⟨e1,e2⟩:=SN (g:=g) bR h3;exact⟨d,h3,Ch c d h3,e1,e2⟩
 have td:∀e b,mem e s1.live=Z->spare (g.G e)=J b->(∃d,J7 (D6 0 cs) d/\spare ((K3 g NT).G d)=J b)->∃i,ds[i]?=J e:=λe b he hs ⟨c,h1,h2⟩=>by
  obtain⟨d,h3,h4,h5,_⟩:=dP c h1;rw[h5]at h2;have iF:e=d:=by
   by_cases iF:e=d;exact iF;exact absurd h2 (hr.disj e d b (iW e he) h4 iF hs)
  subst iF;rw[<-rP,Hg]at h3;rcases h3 with h3|h3;obtain⟨i,_,_,_,h6⟩:=QR ds 0 _ h3;exact⟨_,h6⟩;have:=(wI _ h3).2.2;rw[he]at this;cases this
 obtain⟨f,nB,kQ,gW,wJ,wL,kK⟩:=hS _ _ _ _ wG (K3 g NT) rfl (B5D bR bu ps 0 ds jL dx);have hc:=kK w (K3 g NT) kQ cn hr.ext hr.zero wJ (rp.out bR) (B2a bR ds cs cn 0 bd dx)
  (λc jS=>by obtain⟨d,_,h2,h3,h4⟩:=dP c jS;rw[h3,h4];exact hr.tip d h2)
  (λc c' b jS qw aP hs=>by
   obtain⟨d,h1,h2,h3,h4⟩:=dP c jS;obtain⟨d',gF,eH,kR,wM⟩:=dP c' qw;rw[h3]at hs;rw[kR];exact hr.disj d d' b h2 eH (λe=>aP ((bR c d c' d' h1 gF).2 e)) hs)
  (λlf dw d qu=>by
   obtain⟨Fw,wN,wF⟩:=wL lf dw d qu;obtain⟨i,_,h2,rfl⟩:=B8G ps 0 wN wF;have:=VU cs 0 i (by rw[od,B7b jL];omega);rw[HL]at this;exact this)
 unfold Aan;rw[gW,Aa7];refine hc.mono λe w' ff=>?_;obtain⟨g',rv,dH,rfl,nA,hp,mu,jC⟩:=ff;show next (a.put o.dst (R0 rv)) w';have jl:∀i d,ds[i]?=J d->(Post.tip hp (B2 i))=(Post.tip hp (B2 i))/\g'.G (B2 i)=g.G d/\g'.Gs (B2 i)=1/\g.Gs d=1/\(Ent.tup (rs++D6 0 ay)).has (B2 i)=Z:=λi d hi=>by
  have mg:=G7 hi;obtain⟨b,us,h1,h2,h3⟩:=YI bd hi;have dM:=YJ cs.length 0 i FK;rw[HL]at dM;obtain⟨b',jo,gF,eH,kR⟩:=YI mu dM;have h4:(dH.map (λp=>(p.1,p.2.length)))[i]?=(cn.map (λp=>(p.1,p.2.length)))[i]? :=by rw[jC]
  rw[HG,HG,h1,gF]at h4;simp only[IJ,GX,He]at h4;refine⟨rfl,by rw[eH,h2,h4.1,h4.2],kR,h3,?_⟩;obtain⟨lf,q1,q2⟩:=VU ay 0 i FK;rw[HL]at q2;simp only[Ent.has,Hm];exact⟨lf,by simp[q1],q2⟩
 have gp:=B5G r1 ds;have iI:=gp.world hU (w':=w') (wm':=g'.wm) hp.os hp.tape hp.output hp.size hp.ext (λb=>∃d,J7 (D6 0 cs) d/\spare ((K3 g NT).G d)=J b)
  (λb ⟨c,h1,h2⟩=>by
   obtain⟨d,_,h4,h5,_⟩:=dP c h1;rw[h5]at h2;exact SF (hr.tip d h4) h2)
  (λe b he hs=>by
   rw[OH]at he;by_cases hM:∃d,J7 (D6 0 cs) d/\spare ((K3 g NT).G d)=J b;right;obtain⟨i,hi⟩:=td e b he hs hM;obtain⟨_,q1,q2,q3,q4⟩:=jl i e hi;have ht:=hp.tip (B2 i) q4;rw[q1,q2]at ht;refine⟨by rw[q3];exact ht,λj l hj=>?_⟩;have h9:=(gp.bxl j e l hj).2;have h8:=B7o (s:=s1) ⟨i,hi⟩;rw[show j=bxi e from h9,h8]at hj;cases hj;exact .inl hM)
  (λb ⟨c,h1,h2⟩=>by
   obtain⟨d,_,h4,h5,_⟩:=dP c h1;rw[h5]at h2;exact hr.mine d b h4 h2)
  (λb hb hM=>hp.frame b hb hM) hp.zero
 have zR:∀b,w.heap.size<=b\/(∃d,J7 (D6 0 cs) d/\spare ((K3 g NT).G d)=J b)->B.w.heap.size<=b\/B.M b:=λb hb=>by
  rcases hb with hb|⟨c,h1,h2⟩;exact .inl (HT hr.size hb);obtain⟨d,_,h4,h5,_⟩:=dP c h1;rw[h5]at h2;exact hr.mine d b h4 h2
 obtain⟨qx,qy,dt⟩:=hp.rep;have qy:rv++Q8 dH=qx:=by
  have:=Abm qy;simpa using this
 subst qy;obtain⟨iV,dQ⟩:=LsRep.split dt nA;have io:∀(l0:List (Leaf Ty den)),(∀lf∈l0,lf∈rs++D6 0 ay)->∀lf∈l0,∀c,lf.has c=Z->(Ent.tup (rs++D6 0 ay)).has c=Z:=λl0 dq lf hl c hc=>by
  simp only[Ent.has,Hm];exact⟨lf,dq lf hl,hc⟩
 have te:∀c,(∃i,i<ds.length/\c=B2 i)->900000<=c/\c<1000000:=λc ⟨i,h1,h2⟩=>by rw[h2];unfold B2;omega
 have cG:V7 ⟨w,g.wm,λb=>∃d,J7 (D6 0 cs) d/\spare ((K3 g NT).G d)=J b,0,λ_=>undef⟩ g' {g with wm:=g'.wm} (Ent.tup (rs++D6 0 ay)) O (λc=>c<=0\/∃i,i<ds.length/\c=B2 i) (V8 s1 ds):=λe he=>by
  rw[OH]at he;by_cases gW:∃i:Nat,ds[i]?=J e;obtain⟨i,hi⟩:=gW;obtain⟨_,q1,q2,q3,q4⟩:=jl i e hi;exact .inr ⟨B2 i,q4,.inr ⟨i,G7 hi,rfl⟩,q1.symm,λh0=>by unfold B2 at h0;omega⟩;left;intro b hb;refine⟨?_,λhM=>gW (td e b he hb hM)⟩;obtain⟨_,_,_,gD⟩:=SF (hr.tip e (iW e he)) hb;exact(HJ.1 gD).1
 obtain⟨g2,l1,l2,l3,l4,l5,l6⟩:=B4H (dst:=o.dst) (p:=O) (X:=λc=>∃i,i<ds.length/\c=B2 i) hU hp zR rs rv 0 (V8 s1 ds) {g with wm:=g'.wm} iI rfl
  (λc hc=>by have:=te c hc;omega) cG iV (io rs λlf hl=>by simp[hl])
 obtain⟨g3,m1,m2,m3⟩:=B9E hU hp zR ds ay dH 0 _ g2 l1 l2 (by
   have:M3 0 ds.length=M3 0 cs.length:=by rw[od]
   rw[this];exact mu) dQ lH (io _ λlf hl=>by simp[hl]) (λe he=>by
    rcases l6 e he with q1|⟨c',q1,q2,q3,q4⟩;exact .inl q1;refine .inr ⟨c',q1,?_,q3,q4⟩;have:c'<1000000:=by
     rcases q2 with q2|q2;omega;exact(te _ q2).2
    unfold bo B2;omega) (λi d hi=>by
    obtain⟨_,q1,q2,q3,q4⟩:=jl i d hi;obtain⟨e1,e2,e3⟩:=l4 d (by rw[OH];exact YH ms hi);exact⟨e3,by rw[e1,HL,q1],by rw[e2];exact q3⟩)
 have ml:LsRep E.U w' g3 (Q4 o.dst O 0 (V8 s1 ds) rs).1 rv:=l3.keep (m2.trans l2.symm) λlf hl e he=>m3 e (l5 lf hl e he);refine hn _ _ _ _ h (REL.setO m1 (e:=Ro _) ?_ ?_ _ hd)
 generalize (Q4 o.dst O 0 (V8 s1 ds) rs).1=cf at ml;have aA:=ml.length
 match cf,rv,ml,aA with
 |[],[],_,_=>exact⟨[],by simp[R0],trivial⟩
 |[l],[v],hf,_=>exact hf.1
 |l::l2::cf,v::v2::vs,hf,_=>exact⟨v::v2::vs,by simp[R0],hf⟩
 |[],_::_,_,hl=>simp at hl
 |[_],[],_,hl=>simp at hl
 |[_],_::_::_,_,hl=>simp at hl
 |_::_::_,[],_,hl=>simp at hl
 |_::_::_,[_],_,hl=>simp at hl
 generalize (Q4 o.dst O 0 (V8 s1 ds) rs).1=cf
 match cf with
 |[]=>rfl
 |[l]=>rfl
 |_::_::_=>rfl
def C55(hU:E.U.Ok)(hS:∀f ls cs rs ay,E.TB f ls cs=J (rs,ay)->(∀args w,(Aag f args).run P w=.ok (.enter f args) w)/\T3 P E.U (λw1 m1=>Ext B.w B.wm w1 m1) f ls cs rs ay)
  {c:Call}{f:Aah}{ps:Gv}(ag:o.op=.call c)(az:c.callee=.value (.func f))(h:C4m E f ps c.argTypes.toList c.args.toList o.dst s k=J r)
  (hr:Rel E.U B g s a w)(hd:∀i,o.dst=J i->i<a.tmps.size/\B.np<=i)(hn:G2 E B o a k r next):o.wp P a w next Q:=by
 refine C4v hU (SM hr c.argTypes.toList c.args.toList) (λcf cs rs ay wG g1 _ hl=>?_) h hr hd hn;obtain⟨aK,kK⟩:=hS f _ _ _ _ wG;refine⟨f,cf,_,?_,hl,λlf dw d hd=>⟨lf,dw,hd⟩,kK⟩;simp[Aac,ag,Aap,az,Aa8,Abj,invoke,aK];apply It;simp
def SO(P:Aae)(U:UO Ty den)(B:Bs)(nm:String)(ls:List (Leaf Ty den))(cs:List (List (Leaf Ty den)))(rs:List (Leaf Ty den))(ay:List (List (Leaf Ty den))):Prop:=
 ∀(w:World)(g:Gh)(vs:Gw),LsRep U w g ls vs->∃f nB kQ,(invoke (.fn (.method nm) #[]) vs.toArray).run P w=.ok (.enter f kQ.toArray) w/\LsRep U w g nB kQ/\(∀lf∈nB,∀d,lf.has d=Z->J7 ls d)/\T3 P U (λw1 m1=>Ext B.w B.wm w1 m1) f nB cs rs ay
def D4z(hU:E.U.Ok)(hS:∀nm ls cs rs ay,E.TI nm ls cs=J (rs,ay)->SO P E.U B nm ls cs rs ay)
  {c:Call}{x:Aaf}{nm:String}(ag:o.op=.call c)(az:c.callee=.invoke x nm)(h:Uv (E.TI nm) (E.bi nm) (opl E s 0 x::O2 E s c.argTypes.toList c.args.toList) o.dst s k=J r)
  (hr:Rel E.U B g s a w)(hd:∀i,o.dst=J i->i<a.tmps.size/\B.np<=i)(hn:G2 E B o a k r next):o.wp P a w next Q:=by
 refine C4v hU (ls:=opl E s 0 x::O2 E s c.argTypes.toList c.args.toList) (vs:=a.eval x::c.args.toList.map a.eval) ⟨E4 hr 0 x,SM hr c.argTypes.toList c.args.toList⟩ (λcf cs rs ay Ci g1 _ hl=>?_) h hr hd hn;obtain⟨f,nB,kQ,h1,h2,h3,h4⟩:=hS nm _ _ _ _ Ci w g1 _ hl;refine⟨f,nB,kQ,?_,h2,h3,h4⟩;have cV:(#[a.eval x]++c.args.map a.eval)=(a.eval x::c.args.toList.map a.eval).toArray:=by
  apply It;simp
 simp[Aac,ag,Aap,az,cV];simpa using h1
def YK:∀{ls:List (Leaf Ty den)},Md ls=Z->(∀lf∈ls,(∀t x c,lf≠ .sl t x (J c))/\∀d o,lf≠ .ptr d o)
 |[],_,lf,h=>by simp at h
 |l::ls,hc,lf,h=>by
  have bm:(∀t x c,l≠ .sl t x (J c))/\(∀d o,l≠ .ptr d o)/\Md ls=Z:=by
   cases l with
   |sl t x o=>
    cases o with
    |none=>exact⟨λ_ _ _ e=>(by(cases e)),λ_ _ e=>(by(cases e)),hc⟩
    |some c=>cases hc
   |ptr d o=>cases hc
   |_=>exact⟨λ_ _ _ e=>(by(cases e)),λ_ _ e=>(by(cases e)),hc⟩
  simp only[HC]at h;rcases h with rfl|h;exact⟨bm.1,bm.2.1⟩;exact YK bm.2.2 lf h
def C5d(hr:Rel E.U B g s a w):∀(ds:Gv)(kk:Nat)(cs:List (List (Leaf Ty den))),Me s ds=J cs->∃cn,Z0 w g ds cs cn/\PackRep E.U w g (I5 kk ds) (D6 kk cs) (Q8 cn)/\cs.length=ds.length/\(∀(i d:Nat),ds[i]?=J d->mem d s.live=Z)/\
   ∀(i d:Nat)(c:List (Leaf Ty den)),ds[i]?=J d->cs[i]?=J c->s.get (bxi d)=.bx d c/\Md c=Z
 |[],kk,cs,h=>by
  simp only[Me,GX]at h;subst h;exact⟨[],trivial,trivial,rfl,λi d h=>by simp at h,λi d c h=>by simp at h⟩
 |d::ds,kk,cs,h=>by
  simp only[Me]at h;split at h;rename_i ls iG bu wO;obtain⟨cE,h⟩:=A5 h;rw[Fn]at cE;obtain⟨cE,gy⟩:=cE;simp only[GX]at h;subst h;obtain⟨cu,ms,aY⟩:=Ml hr bu;obtain⟨b,us,g1,g2,g3,g4,g5,g6⟩:=C1O gy cu;obtain⟨cn,a1,a2,a3,a4,a5⟩:=C5d hr ds (kk+1) iG wO;have iW:∀p∈I5 (kk+1) ds,p∈I5 kk (d::ds):=λp hp=>by simp[I5,hp]
  have tf:∀(ls:List (Leaf Ty den))(us:Gw),(∀lf∈ls,(∀t x c,lf≠ .sl t x (J c))/\∀d o,lf≠ .ptr d o)->LsRep E.U w g ls us->PackRep E.U w g (I5 kk (d::ds)) ls us:=by
   intro ls
   induction ls with
   |nil=>intro us _ h;cases us with
    |nil=>trivial
    |cons _ _=>exact h.elim
   |cons l ls ih=>
    intro us hc h;cases us with
    |nil=>exact h.elim
    |cons u us=>
     have:=hc l GN;exact⟨⟨h.1.1,λt x c e=>absurd e (this.1 t x c),λc o e=>absurd e (this.2 c o)⟩,ih us (λlf hl=>hc lf (by simp[hl])) h.2⟩
  refine⟨(b,us)::cn,⟨⟨g1,g2,g3,g4,g5⟩,a1⟩,⟨⟨.pt _ _ _,λ_ _ _ e=>by(cases e),λc o e=>?_⟩,(tf ls us (YK cE) g6).append (a2.mono iW)⟩,by simp[a3],λi d' hi=>?_,λi d' c hi hc=>?_⟩;cases e;exact⟨d,b,_,by simp[I5],g1,.inl ⟨rfl,GO⟩⟩;cases i with
  |zero=>simp at hi;subst hi;exact ms
  |succ i=>exact a4 i d' (by simpa using hi)
  cases i with
  |zero=>simp at hi hc;subst hi hc;exact⟨aY,cE⟩
  |succ i=>exact a5 i d' c (by simpa using hi) (by simpa using hc)
  cases h
def D1q{U:UO Ty den}{g' g2:Gh}(hw:g2.wm=g'.wm){rs:List (Leaf Ty den)}{rv:Gw}(h:LsRep U w g' rs rv):ERep U w g2 (Ro (D0 rs)) (R0 rv)/\(Ro (D0 rs)).isIter=V:=by
 have hf:=LsRep.closed_any (g':=g2) hw (LsRep.close h);have aA:=hf.length;generalize D0 rs=cf at hf aA
 match cf,rv,hf,aA with
 |[],[],_,_=>exact⟨⟨[],by simp[R0],trivial⟩,rfl⟩
 |[l],[v],hf,_=>exact⟨hf.1,rfl⟩
 |l::l2::cf,v::v2::vs,hf,_=>exact⟨⟨v::v2::vs,by simp[R0],hf⟩,rfl⟩
 |[],_::_,_,hl=>simp at hl
 |[_],[],_,hl=>simp at hl
 |[_],_::_::_,_,hl=>simp at hl
 |_::_::_,[],_,hl=>simp at hl
 |_::_::_,[_],_,hl=>simp at hl
def C1m(hU:E.U.Ok)(hS:∀f ls r,E.T f ls=J (Z,r)->(∀args w,(Aag f args).run P w=.ok (.enter f args) w)/\QP P E.U (λw1 m1=>Ext B.w B.wm w1 m1) f ls r)
  (hR:∀f ls cs rs,E.TR f ls cs=J rs->(∀args w,(Aag f args).run P w=.ok (.enter f args) w)/\T3 P E.U (λw1 m1=>Ext B.w B.wm w1 m1) f ls cs rs cs)
  {c:Call}{f:Aah}{e:Ent Ty den}(ag:o.op=.call c)(az:c.callee=.value (.func f))(h:Po E f c.argTypes.toList c.args.toList s=J e)
  (hr:Rel E.U B g s a w)(hd:∀i,o.dst=J i->i<a.tmps.size/\B.np<=i)(hn:∀v w',REL E.U B (s.setO o.dst e) (a.put o.dst v) w'->next (a.put o.dst v) w'):o.wp P a w next Q:=by
 have bu:=SM hr c.argTypes.toList c.args.toList;have gW:∀(aK:∀args w,(Aag f args).run P w=.ok (.enter f args) w),(Aac a.eval o).run P w=.ok (.enter f (c.args.toList.map a.eval).toArray) w:=λaK=>by
  simp[Aac,ag,Aap,az,Aa8,Abj,invoke,aK];apply It;simp
 unfold Po at h;dsimp only at h;generalize hL:O2 E s c.argTypes.toList c.args.toList=ls at h bu;split at h;have dm:∀r,E.T f (D0 ls)=J (Z,r)->(∀v w' g1 g2,g2.wm=g1.wm->ERep E.U w' g1 r v->ERep E.U w' g2 e v/\e.isIter=V)->o.wp P a w next Q:=by
  intro r kJ cE;obtain⟨aK,kK⟩:=hS f _ _ kJ;have hc:=kK w g (c.args.toList.map a.eval) hr.ext hr.zero (LsRep.close bu) (λh1=>by rw[YE]at h1;cases h1) (λlf hl d ek=>by
   obtain⟨l0,rfl⟩:=VR hl;rw[SL]at ek;cases ek)
  rw[YE]at hc;unfold Aan;rw[gW aK,Aa7];refine hc.mono λe' w' ff=>?_;obtain⟨v,g',rfl,hp⟩:=ff;have dG:=hr.world hU (w':=w') (wm':=g'.wm) hp.os hp.tape hp.output hp.size hp.ext (λ_=>False) (λb e=>e.elim) (λ_ _ _ _=>.inl λe=>e) (λb e=>e.elim) (λb hb _=>hp.frame b hb (λe=>by cases e.1)) hp.zero;obtain⟨k1,k2⟩:=cE v w' g' {g with wm:=g'.wm} rfl hp.rep;exact hn v w' (REL.setO dG k1 k2 _ hd)
 split at h;rename_i l kJ;cases h;exact dm _ kJ λv w' g1 g2 hw he=>⟨LRep.closed (g:=g2) (by rw[hw];exact he.1),rfl⟩
 rename_i rr kJ;cases h;exact dm _ kJ λv w' g1 g2 hw he=>by
  obtain⟨vs,hv,nX⟩:=he;exact⟨⟨vs,hv,LsRep.closed_any (g':=g2) hw (LsRep.close nX)⟩,rfl⟩
 cases h
 ·rename_i ps gz;split at h
  case h_2=>cases h
  rename_i ds jL;obtain⟨gE,h⟩:=A5 h;split at h
  case h_2=>cases h
  rename_i cs cN;split at h
  case h_2=>cases h
  rename_i rs Cj;cases h;obtain⟨cn,bd,rp,od,ms,pb⟩:=C5d hr ds 0 cs cN;have bR:=C1j gE 0;generalize rP:I5 0 ds=NT at rp bR;have dx:∀p∈I5 0 ds,p∈NT:=λp hp=>by rw[<-rP];exact hp
  have dP:∀c,J7 (D6 0 cs) c->∃(i d:Nat),ds[i]?=J d/\(c,d)∈NT/\mem d s.live=Z/\(K3 g NT).G c=g.G d/\(K3 g NT).Gs c=g.Gs d:=λc ⟨lf,h1,h2⟩=>by
   obtain⟨d,h3⟩:=rp.names lf h1 c h2;obtain⟨e1,e2⟩:=SN (g:=g) bR h3;have h4:=h3;rw[<-rP]at h4;obtain⟨i,_,_,_,h5⟩:=QR ds 0 _ h4;exact⟨_,d,h5,h3,ms _ d h5,e1,e2⟩
  obtain⟨aK,kK⟩:=hR f _ _ _ Cj;have hc:=kK w (K3 g NT) (c.args.toList.map a.eval) cn hr.ext hr.zero (B5D bR bu ps 0 ds jL dx) (rp.out bR) (B2a bR ds cs cn 0 bd dx)
   (λc jS=>by obtain⟨i,d,_,_,h2,h3,h4⟩:=dP c jS;rw[h3,h4];exact hr.tip d h2)
   (λc c' b jS qw aP hs=>by
    obtain⟨i,d,_,h1,h2,h3,h4⟩:=dP c jS;obtain⟨i',d',_,gF,eH,kR,wM⟩:=dP c' qw;rw[h3]at hs;rw[kR];exact hr.disj d d' b h2 eH (λe=>aP ((bR c d c' d' h1 gF).2 e)) hs)
   (λlf dw d qu=>by
    obtain⟨i,_,h2,rfl⟩:=B8G ps 0 dw qu;have:=VU cs 0 i (by rw[od,B7b jL];omega);rw[HL]at this;exact this)
  unfold Aan;rw[gW aK,Aa7];refine hc.mono λe w' ff=>?_;obtain⟨g',rv,dH,rfl,nA,hp,mu,jC⟩:=ff;show next (a.put o.dst (R0 rv)) w';have jl:∀(i d:Nat),ds[i]?=J d->g'.G (B2 i)=g.G d/\g'.Gs (B2 i)=1/\g.Gs d=1/\(Ent.tup (rs++D6 0 cs)).has (B2 i)=Z:=λi d hi=>by
   have mg:=G7 hi;obtain⟨b,us,h1,h2,h3⟩:=YI bd hi;have dM:=YJ cs.length 0 i FK;rw[HL]at dM;obtain⟨b',jo,gF,eH,kR⟩:=YI mu dM;have h4:(dH.map (λp=>(p.1,p.2.length)))[i]?=(cn.map (λp=>(p.1,p.2.length)))[i]? :=by rw[jC]
   rw[HG,HG,h1,gF]at h4;simp only[IJ,GX,He]at h4;refine⟨by rw[eH,h2,h4.1,h4.2],kR,h3,?_⟩;obtain⟨lf,q1,q2⟩:=VU cs 0 i FK;rw[HL]at q2;simp only[Ent.has,Hm];exact⟨lf,by simp[q1],q2⟩
  have gp:=B5G hr ds;have iI:=gp.world hU (w':=w') (wm':=g'.wm) hp.os hp.tape hp.output hp.size hp.ext (λb=>∃d,J7 (D6 0 cs) d/\spare ((K3 g NT).G d)=J b)
   (λb ⟨c,h1,h2⟩=>by
    obtain⟨i,d,_,_,h4,h5,_⟩:=dP c h1;rw[h5]at h2;exact SF (hr.tip d h4) h2)
   (λe b he hs=>by
    rw[OH]at he;by_cases hM:∃d,J7 (D6 0 cs) d/\spare ((K3 g NT).G d)=J b;right;obtain⟨c,h1,h2⟩:=hM;obtain⟨i,d,hi,_,h4,h5,_⟩:=dP c h1;rw[h5]at h2;have iF:e=d:=by
     by_cases iF:e=d;exact iF;exact absurd h2 (hr.disj e d b he h4 iF hs)
    subst iF;obtain⟨q1,q2,q3,q4⟩:=jl i e hi;have ht:=hp.tip (B2 i) q4;rw[q1,q2]at ht;refine⟨by rw[q3];exact ht,λj l hj=>?_⟩;have h9:=(gp.bxl j e l hj).2;have h8:=B7o (s:=s) ⟨i,hi⟩;rw[show j=bxi e from h9,h8]at hj;cases hj;exact .inl hM)
   (λb ⟨c,h1,h2⟩=>by
    obtain⟨i,d,_,_,h4,h5,_⟩:=dP c h1;rw[h5]at h2;exact hr.mine d b h4 h2)
   (λb hb hM=>hp.frame b hb hM) hp.zero
  obtain⟨qx,qy,dt⟩:=hp.rep;have qy:rv++Q8 dH=qx:=by
   have:=Abm qy;simpa using this
  subst qy;obtain⟨iV,dQ⟩:=LsRep.split dt nA;have tg:∀(i d:Nat)(c:List (Leaf Ty den)),ds[i]?=J d->cs[i]?=J c->BoxOk E.U w' {g with wm:=g'.wm} d c:=λi d c hi zS=>by
   have bm:∀(rQ:Gv)(oe:List (List (Leaf Ty den)))(jD:List (Nat×Gw))(kk i:Nat),Z0 w' g' rQ oe jD->LsRep E.U w' g' (D6 kk oe) (Q8 jD)->∀c d0,oe[i]?=J c->rQ[i]?=J d0->∃b us,g'.G d0=.slice (J ⟨b,0,O⟩) 0 us.length/\us.length=c.length/\0<us.length/\
     (∀(j:Nat) u,us[j]?=J u->w'.cell? ⟨b,j,O⟩=J u/\u.oneCell'=Z/\u.cells= #[u])/\LsRep E.U w' g' c us:=by
    intro rQ
    induction rQ with
    |nil=>intro oe jD kk i _ _ c d0 _ h;simp at h
    |cons x rQ ih=>
     intro oe jD kk i hb hl c d0 hc wP
     match oe,jD,hb with
     |c1::oe,(b,us)::jD,⟨⟨b1,b2,b3,b4,b5⟩,bC⟩=>
      obtain⟨l1,l2⟩:=LsRep.split hl.2 b2.symm;cases i with
      |zero=>simp at hc wP;subst hc wP;exact⟨b,us,b1,b2,b3,b5,l1⟩
      |succ i=>exact ih oe jD (kk+1) i bC l2 c d0 (by simpa using hc) (by simpa using wP)
   have mg:=G7 hi;have dM:=YJ cs.length 0 i FK;rw[HL]at dM;obtain⟨b,us,k1,k2,k3,k4,k5⟩:=bm _ cs dH 0 i mu dQ c _ zS dM;obtain⟨q1,q2,q3,q4⟩:=jl i d hi;have fI:=YK (pb i d c hi zS).2;have iX:LsRep E.U w' {g with wm:=g'.wm} c us:=by
    refine LsRep.keep (g1:=g') (g2:={g with wm:=g'.wm}) rfl k5 λlf hl e he=>?_;rcases (Leaf.has_iff e lf).1 he with⟨t,x,rfl⟩|⟨o,rfl⟩
    exact absurd rfl ((fI _ hl).1 t x e);exact absurd rfl ((fI _ hl).2 e o)
   exact B6A (by rw[<-q1];exact k1) k2 k3 q3 k4 iX
  have Ck:Rel E.U B {g with wm:=g'.wm} s a w':=by
   have aY:∀i,(∃d,i=bxi d/\∃j:Nat,ds[j]?=J d)\/(V8 s ds).get i=s.get i:=by
    intro i;have:∀ds:Gv,(∃d,i=bxi d/\∃j:Nat,ds[j]?=J d)\/(V8 s ds).get i=s.get i:=by
     intro ds
     induction ds with
     |nil=>exact .inr rfl
     |cons x ds ih=>
      simp only[V8];rw[F2];by_cases hx:bxi x=i;exact .inl ⟨x,hx.symm,0,GN⟩;rw[GI hx];rcases ih with⟨d,h1,j,h2⟩|h;exact .inl ⟨d,h1,j+1,by simpa using h2⟩;exact .inr h
    exact this ds
   have lJ:∀i,(∃d,i=bxi d/\∃j:Nat,ds[j]?=J d)->∃d c,s.get i=.bx d c/\BoxOk E.U w' {g with wm:=g'.wm} d c:=λi ⟨d,h1,j,h2⟩=>by
    have bD:=G7 h2;have sR:cs[j]?=J cs[j]:=GE FK;generalize cs[j]=c at sR;exact⟨d,c,by rw[h1];exact(pb j d _ h2 sR).1,tg j d _ h2 sR⟩
   refine{iI with ent:=λi=>?_,tip:=λd hd=>iI.tip d (by rw[OH];exact hd),disj:=λd e b h1 h2=>iI.disj d e b (by rw[OH];exact h1) (by rw[OH];exact h2),mine:=λd b h1=>iI.mine d b (by rw[OH];exact h1),iter:=λi c pos hc=>?_,idis:=λi j c p c' p' cJ h1 h2=>?_,bxl:=λi d ls hc=>hr.bxl i d ls hc};rcases aY i with h|h;obtain⟨d,c,h1,h2⟩:=lJ i h;rw[h1];exact h2;rw[<-h];exact iI.ent i;rcases aY i with h|h;obtain⟨d,c,h1,h2⟩:=lJ i h;rw[h1]at hc;cases hc;rw[<-h]at hc;exact iI.iter i c pos hc;rcases aY i with h|h;obtain⟨d,c,h3,h4⟩:=lJ i h;rw[h3]at h1;cases h1;rcases aY j with h'|h';obtain⟨d,c,h3,h4⟩:=lJ j h';rw[h3]at h2;cases h2;rw[<-h]at h1;rw[<-h']at h2;exact iI.idis i j c p c' p' cJ h1 h2
  obtain⟨k1,k2⟩:=D1q (g2:={g with wm:=g'.wm}) (g':=g') rfl iV;exact hn _ _ (REL.setO Ck k1 k2 _ hd)
end
end Go.Aev
end
section
open Go.Lib
namespace Go.Aev
variable {Ty:Type}{den:Ty->Type}
def C4b{n t sz:Nat}(h:okW n t sz=Z):rN (Kv n t sz)=n:=by
 simp only[okW,Fn,HU]at h;unfold rN Kv;omega
def D1E{n t sz:Nat}(h:okW n t sz=Z):rS (Kv n t sz)=sz:=by
 simp only[okW,Fn,HU]at h;unfold rS Kv;omega
def C5X(n t sz:Nat):1000000000<=Kv n t sz:=by unfold Kv;omega
def D0V{n o:Nat}(h:n<=rN o):okW n (rT o) (rS o)=Z:=by
 simp only[okW,Fn,HU];unfold rN at h;unfold rT rS;omega
section
variable {U:UO Ty den}{B:Bs}{g:Gh}{s:St Ty den}{a:Act}{w:World}
def YL{d b N n t sz c:Nat}{g':Gh}{w':World}(ho:okW n t sz=Z)(hG:g'.G d=.slice (J ⟨b,0,O⟩) 0 N)(hn:n<=c)(hc:c*sz<=N):LRep U w' g' (.ptr d (Kv n t sz):Leaf Ty den) (.slice (J ⟨b,0,O⟩) n c):=
 ⟨.ptr _ _ _ (.inr ⟨_,_,_,rfl⟩),λ_ _ _ he=>by(cases he),λd' o' he=>by
  cases he;exact⟨b,N,hG,.inr (.inr ⟨C5X _ _ _,c,by rw[C4b ho],by rw[C4b ho];exact hn,by rw[D1E ho];exact hc⟩)⟩⟩
def B9n(hU:U.Ok){g':Gh}{w':World}{d b N:Nat}{ls:List (Leaf Ty den)}(hr:Rel U B g' (s.fresh d) a w')(hx:Ext w g.wm w' g'.wm)(ho:g.off g' d)(hG:g'.G d=.slice (J ⟨b,0,O⟩) 0 N)(dh:g'.Gs d=1)(hd:1000000<=d)(aA:0<ls.length/\ls.length<=N)
  (hc:∀(j:Nat) lf,ls[j]?=J lf->∃u,w'.cell? ⟨b,j,O⟩=J u/\u.oneCell'=Z/\u.cells= #[u]/\LRep U w g lf u):Rel U B g' (Xs d ls s) a w':=by
 refine hr.setBx ⟨b,N,hG,⟨by simpa using aA.1,by simpa using aA.2,λh=>by rw[HU]at h;omega⟩,dh,λj lf hj=>?_⟩ (by simp only[St.fresh];rw[mem_cons];exact .inl rfl);rw[HG]at hj;obtain⟨l0,dq,rfl⟩:=Hi.1 hj;obtain⟨u,u1,u2,u3,u4⟩:=hc j l0 dq;exact⟨u,u1,u2,u3,u4.step hU hx ho⟩
def B5F(hU:U.Ok)(hr:Rel U B g s a w){d N:Nat}(hd:1000000<=d){c:Array Value}{e:Aad}{ls:List (Leaf Ty den)}(w':World)(hw:w'.heap=w.heap.push (.cells c e (0,0)))(kD:w'.os=w.os)(di:w'.tape=w.tape)(eG:w'.output=w.output)
  (hN:N<=c.size)(aA:0<ls.length/\ls.length<=N)(hc:∀(j:Nat) lf,ls[j]?=J lf->∃u,c[j]?=J u/\u.oneCell'=Z/\u.cells= #[u]/\LRep U w g lf u):
  ∃g',Rel U B g' (Xs d ls s) a w'/\g'.G d=.slice (J ⟨w.heap.size,0,O⟩) 0 N:=by
 have bZ:w'.heap[w.heap.size]?=J (.cells c e (0,0)):=by rw[hw];simp
 have gZ:∀b,spare (.slice (J ⟨w.heap.size,0,O⟩) 0 N)=J b->b=w.heap.size:=λb hs=>by
  simp only[spare]at hs;split at hs;cases hs;exact(Hb hs).symm
 have h1:=hr.alloc hU (.cells c e (0,0)) 0 w' hw kD di eG;have h2:=h1.fresh hU d (.slice (J ⟨w.heap.size,0,O⟩) 0 N) 1 ⟨_,_,_,rfl,HH _,.inr ⟨w.heap.size,0,c,e,(0,0),rfl,bZ,FK,by simp[B9],HH _⟩⟩
  (λe' b he aP hs sA=>by
   cases gZ b hs;have:=C2J (hr.tip e' he) sA;omega)
  (λb hs=>by cases gZ b hs;exact .inl hr.size)
 have eb:∀b,b<w.heap.size->w'.heap[b]?=w.heap[b]? :=λb hb=>by rw[hw,Hp,GI FK]
 have hx:Ext w g.wm w' (B9 g.wm w.heap.size 0):=⟨Lo hw,λb off ho=>by
  rcases Hv b w.heap.size with h|h;exact HK (a:=⟨b,off,O⟩) (eb b h);rw[hr.zero b h]at ho;omega,λb=>by
  unfold B9;by_cases hb:b=w.heap.size;subst hb;rw[GJ rfl,hr.zero _ (GU _)];exact GU _;rw[GI hb];exact GU _⟩
 refine⟨_,B9n (g:=g) (w:=w) (b:=w.heap.size) (N:=N) hU h2 hx ⟨λe he=>by simp[Gh.put,he],λe he=>by simp[Gh.put,he]⟩ (by simp[Gh.put]) (by simp[Gh.put]) hd aA λj lf hj=>?_,by simp[Gh.put]⟩;obtain⟨u,u1,u2⟩:=hc j lf hj;refine⟨u,?_,u2⟩;unfold Aay;dsimp only;rw[bZ];simpa using u1
def LRep.ofC{lf:Leaf Ty den}{v:Value}(h:CRep U w g.wm lf v)(hc:lf.close=lf):LRep U w g lf v:=by
 have:=LRep.closed (U:=U) (w:=w) (g:=g) h;rwa [hc]at this
def C2v(hU:U.Ok){t:Ty}{l:List (den t)}{j:Nat}{lf:Leaf Ty den}(h:(flat U t l)[j]?=J lf):lf.close=lf:=by
 have hm:=HI h;unfold flat at hm;obtain⟨x,_,hx⟩:=Jk.1 hm;exact hU.closed t x lf hx
end
def VW(P:Aae)(U:UO Ty den)(I:Inv)(f:Aah)(ls cs:List (Leaf Ty den)):Prop:=
 Md cs=Z/\0<cs.length/\∀(w:World)(g:Gh)(vs:Gw),I w g.wm->(∀b,w.heap.size<=b->g.wm b=0)->LsRep U w g ls vs->(∀lf∈ls,∀d,lf.has d=V)->
  Calls P f vs.toArray w λe w'=>∃b g',e=.returned (.pointer (J ⟨b,0,O⟩))/\Post U ⟨w,g.wm,λ_=>False,0,λ_=>undef⟩ g' (.one .any) (.pointer (J ⟨b,0,O⟩)) w'/\w.heap.size<=b/\
   Tip w' g'.wm (.slice (J ⟨b,0,O⟩) 0 cs.length) 1/\∀(j:Nat) lf,cs[j]?=J lf->∃u,w'.cell? ⟨b,j,O⟩=J u/\u.oneCell'=Z/\u.cells= #[u]/\CRep U w' g'.wm lf u
section
variable {E:Env Ty den}{B:Bs}{g:Gh}{s:St Ty den}{a:Act}{w:World}
variable {P:Aae}{R:Type}{o:Oper}{k:Ent Ty den->St Ty den->Option R}{r:R}{next:Act->World->Prop}{Q:Exit->Act->World->Prop}
variable (hT:∀t,M4 P E.U t (E.tb t))(hU:E.U.Ok)
def B8J{l:Leaf Ty den}(h:isR l=Z):∃d off,l=.ptr d off/\1000000000<=off:=by
 cases l with
 |ptr d off=>exact⟨d,off,rfl,Hu h⟩
 |_=>cases h
def C96{l:Leaf Ty den}{v:Value}(h:LRep E.U w g l v):LRep E.U w g (clR l) v:=by
 unfold clR;cases isR l with
 |true=>exact h
 |false=>exact LRep.closed h.1
def B2u(hr:Rel E.U B g s a w){ty:Aad}{x:Aaf}{d off:Nat}(hx:opl E s ty x=.ptr d off)(ho:1000000000<=off):∃b n c,g.G d=.slice (J ⟨b,0,O⟩) 0 n/\a.eval x=.slice (J ⟨b,0,O⟩) (rN off) c/\rN off<=c/\c*rS off<=n:=by
 have h:=E4 hr ty x;rw[hx]at h;obtain⟨b,n,h1,h2⟩:=h.2.2 d off rfl;obtain⟨c,h3⟩:=h2.row ho;exact⟨b,n,c,h1,h3⟩
include hT hU in
def C9D{t:Aad}{n:Nat}{ps:Array (Nat×Aaf)}(ag:o.op=.buildSlice t n ps)(h:H3 E o s k=J r)(hr:Rel E.U B g s a w)(hd:∀i,o.dst=J i->i<a.tmps.size/\B.np<=i)(hn:G2 E B o a k r next):o.wp P a w next Q:=by
 simp only[H3,ag]at h;refine C0F hT hU ag h hr λu e xs c ht hl af hc aH h'=>?_;dsimp only at h';obtain⟨hk,h'⟩:=A5 h';rw[Bool.and_eq_true,Nat.blt_eq]at hk;have co:=Abq hk.1 (hU.pos u);have eK:=Ln hU u xs;subst hl;have pc:1000000<=rnO o.dst:=by unfold rnO;split<;>omega
 obtain⟨g',h1,h2⟩:=B5F (ls:=Pq E.U u xs) (N:=xs.length*E.U.size u) hU hr pc (w.alloc (.cells c e)) rfl rfl rfl rfl hc ⟨by show 0<(flat E.U u xs).length;omega,by show(flat E.U u xs).length<=_;omega⟩ λj lf hj=>by
  obtain⟨v,hv,gm⟩:=aH j lf hj;obtain⟨q1,q2⟩:=gm.one hU (B2M hU hj);exact⟨v,hv,q1,q2,LRep.ofC gm (C2v hU hj)⟩
 exact K9 af (hn _ _ _ _ h' (REL.setO h1 (e:=.one _) (YL hk.2 h2 (GU _) (GU _)) rfl _ hd))
include hT in
def C6p{t:Aad}{x i:Aaf}(ag:o.op=.indexAddr t x i)(eJ:isR (opl E s t x)=Z)(h:H3 E o s k=J r)(hr:Rel E.U B g s a w)(hd:∀i,o.dst=J i->i<a.tmps.size/\B.np<=i)(hn:G2 E B o a k r next):o.wp P a w next Q:=by
 simp only[H3,ag]at h;obtain⟨d,off,hx,ho⟩:=B8J eJ;rw[hx]at h;split at h;rename_i u e d' kM k0 n ht pd hi;cases pd;obtain⟨hc,h⟩:=A5 h;simp only[Fn,decide_eq_true_eq]at hc;obtain⟨c1,c2,c3,c4⟩:=hc;rw[HU]at c2;obtain⟨b,m,c,hG,hv,bw,hm⟩:=B2u hr hx ho;obtain⟨cO,ie,z,bO,aw,_,_,_⟩:=M9 hT ht;have ei:=S4 hr hi;have hs:=(D5 _ _).1 c3;have cS:(Abk b 0 O).add (n.toNat*E.U.size u)=⟨b,n.toNat*rS off,O⟩:=by rw[Hw,hs,HL]
 have dj:n<(rN off:Int):=FK;exact E8 (e:=.one (.ptr d (n.toNat*rS off))) (v:=.pointer (J ⟨b,n.toNat*rS off,O⟩)) hr hd hn h ⟨.pt _ _ _,λ_ _ _ he=>by(cases he),λd' o2 he=>by(cases he;exact⟨b,m,hG,.inl ⟨rfl,c4⟩⟩)⟩ rfl
  (by simp[Aac,ag,hv,ei,Abt,asIntOf,Aa1 cO,c1,dj,Aau,Aaw,bO,aw,cS])
 cases h
include hT in
def D1h{t:Aad}{x:Aaf}{lo hi mx:Option Aaf}(ag:o.op=.slice t x lo hi mx)(eJ:isR (opl E s t x)=Z)(h:H3 E o s k=J r)(hr:Rel E.U B g s a w)(hd:∀i,o.dst=J i->i<a.tmps.size/\B.np<=i)(hn:G2 E B o a k r next):o.wp P a w next Q:=by
 obtain⟨d,off,hx,ho⟩:=B8J eJ
 match lo,hi,mx,ag with
 |none,J y,O,ag=>
  simp only[H3,ag]at h;rw[hx]at h;split at h;rename_i u e d' kM k0 n ht pd hi;cases pd;obtain⟨hc,h⟩:=A5 h;simp only[Fn,decide_eq_true_eq]at hc;obtain⟨c1,c2⟩:=hc;have c2:=Hu c2;obtain⟨b,m,c,hG,hv,bw,hm⟩:=B2u hr hx ho;obtain⟨cO,_⟩:=M9 hT ht;have ei:=S4 hr hi;have e2:((n.toNat:Nat):Int)=n:=FK;have hb:=B1s P w Z (rN off) c bw O (J (.int k0 (n.toNat:Int))) O 0 n.toNat c (.inl ⟨rfl,rfl⟩) (.inr ⟨k0,rfl⟩) (.inl ⟨rfl,rfl⟩) (HH _) FK (GU _);rw[e2]at hb;have ha:∀m,(Abk b 0 O).add (0*m)=⟨b,0,O⟩:=λm=>by rw[Hw];simp
  obtain⟨ie,z,bO,aw,_⟩:=(M9 hT ht).2;exact E8 (e:=.one (.ptr d (Kv n.toNat (rT off) (rS off)))) (v:=.slice (J ⟨b,0,O⟩) n.toNat c) hr hd hn h (YL (D0V c2) hG FK hm) rfl
   (by simp[Aac,ag,hv,ei,Instr.sliceAt,Instr.slice,Aa1 cO,hb,Aau,Aaw,bO,aw];intro _;exact ha 0)
  cases h
 |some _,_,_,ag=>simp only[H3,ag]at h;cases h
 |none,O,_,ag=>simp only[H3,ag]at h;cases h
 |none,J _,J _,ag=>simp only[H3,ag]at h;cases h
include hT in
def D39{t:Aad}{x:Aaf}(ag:o.op=.load t x)(h:H3 E o s k=J r)(hr:Rel E.U B g s a w)(hd:∀i,o.dst=J i->i<a.tmps.size/\B.np<=i)(hn:G2 E B o a k r next):o.wp P a w next Q:=by
 simp only[H3,ag]at h;split at h;rename_i u pl d off ht hx;split at h;rename_i ls bu;obtain⟨hc,h⟩:=A5 h;rw[Fn]at hc;obtain⟨bv,bw⟩:=hc;have bw:=Hu bw;obtain⟨fs,ie,z,h1,_,h3,h4,_⟩:=OG hT ht;have iP:=B5c (P:=P) h1 w;have bV:=E4 hr 0 x;rw[hx]at bV;obtain⟨cu,_,_⟩:=Ml hr bu;obtain⟨b,nb,hG,hv,co,dh,aQ⟩:=SJ bv bV cu;have wb:∃cs:Nat->Value,∀j,j<E.U.size u->∃lf,ls[off+j]?=J lf/\w.cell? ⟨b,off+j,O⟩=J (cs j)/\(cs j).oneCell'=Z/\(cs j).cells= #[cs j]/\LRep E.U w g lf (cs j):=
  ⟨λj=>(w.cell? ⟨b,off+j,O⟩).getD undef,λj hj=>by
   obtain⟨uu,u1,u2,u3,u4⟩:=aQ (off+j) _ (Abr FK);refine⟨_,Abr FK,?_⟩;dsimp only;rw[u1];exact⟨rfl,u2,u3,u4⟩⟩
 obtain⟨cs,cN⟩:=wb;have dk:(loadCells ⟨b,off,O⟩ (E.U.size u)).run P w=.ok ((Aaz (E.U.size u)).map cs).toArray w:=
  run_loadCells w _ _ cs λj hj=>by rw[Hw];obtain⟨_,_,q,_⟩:=cN j hj;exact q
 refine E8 (e:=.st ((ls.drop off).take (E.U.size u))) (v:=.agg ((Aaz (E.U.size u)).map cs).toArray) hr hd hn h ⟨_,rfl,B13 GQ (λj lf v h5 h6=>?_),λv hv=>?_⟩ rfl ?_;rw[Hn,IE]at h5;split at h5;rename_i hj;obtain⟨lf',q1,_,_,_,q5⟩:=cN j hj;rw[q1]at h5;cases h5;rw[HG,Ho hj]at h6;cases h6;exact q5;cases h5;obtain⟨j,hj,rfl⟩:=Ii.1 hv;obtain⟨_,_,_,q3,q4,_⟩:=cN j (by simpa using hj);exact⟨q3,q4⟩;simp[Aac,ag,hv,Instr.loadAt,Abh,loadVar,iP,Aau,Aaw,h3,h4,dk];cases h;cases h
include hT hU in
def D5i(hZ:∀t zs,E.zr t=J zs->Ky P E.U t zs){t:Aad}{ps:Array (Nat×Aaf)}(ag:o.op=.build t ps)(h:H3 E o s k=J r)(hr:Rel E.U B g s a w)(hd:∀i,o.dst=J i->i<a.tmps.size/\B.np<=i)(hn:G2 E B o a k r next):o.wp P a w next Q:=by
 simp only[H3,ag]at h;split at h;rename_i u pl zs ht dJ;split at h;rename_i ls bu;obtain⟨fs,ie,z,h1,h2,h3,h4,h5,h6⟩:=OG hT ht;obtain⟨zH,z',e1,e2,e3,e4,e5⟩:=hZ t zs dJ;rw[h3]at e1;cases e1;rw[h5]at e3;cases e3;obtain⟨bE,p1,p2⟩:=B1X hU hr (λl v h=>C96 h) pl ps.toList _ ls z.cells bu (⟨e4,λj lf hj=>by
  obtain⟨uu,u1,u2,u3,u4,_⟩:=e5 j lf hj;exact⟨uu,u1,u2,u3,u4 w g⟩⟩:VP E.U w g zs z.cells)
 have fT:P.built t (ps.map λ(i,x)=>(i,a.eval x)).toList=J bE:=by
  unfold Program.built;rw[h3,h1];dsimp only;rw[h5,h2];dsimp only;rw[Array.toList_map];exact p1
 have aw:=p2.size;refine E8 (e:=.st ls) (v:=.agg bE) hr hd hn h ⟨bE.toList,GN,B13 (by simp[aw]) (λj lf u h1 h2=>?_),λu hu=>?_⟩ rfl (by simp[Aac,ag,run_build w t _ _ fT]);obtain⟨uu,u1,_,_,u4⟩:=p2.at_ j lf h1;rw[IA,u1]at h2;cases h2;exact u4;obtain⟨j,hj,rfl⟩:=II hu;have bD:j<ls.length:=by simp at hj;omega
 obtain⟨uu,u1,u2,u3,u4⟩:=p2.at_ j _ (GE bD);have h9:bE.toList[j]?=J uu:=by rw[IA];exact u1
 rw[GE hj]at h9;rw[Hb h9];exact⟨u2,u3⟩;cases h;cases h
include hT hU in
def D5t{c:Call}{t u:Aad}{x y:Aaf}(ag:o.op=.call c)(az:c.callee=.builtin .append)(er:c.argTypes.toList=[t,u])(aC:c.args.toList=[x,y])(h:H3 E o s k=J r)
  (hr:Rel E.U B g s a w)(hd:∀i,o.dst=J i->i<a.tmps.size/\B.np<=i)(hn:G2 E B o a k r next):o.wp P a w next Q:=by
 simp only[H3,ag,az,er,aC]at h;have af:∀{v':Value}{w':World},(Aby #[t,u] o.type #[a.eval x,a.eval y]).run P w=.ok v' w'->(Aac a.eval o).run P w=.ok (.value v') w':=λh1=>by
  simp[Aac,ag,Aap,az,W8 er,W8 aC,invoke,builtin,h1]
 split at h;rename_i t' e u' e' v m0 own ht hu hy;obtain⟨cO,i,z,hi,aw,mi,hz,dJ⟩:=M9 hT ht;have wQ:=(M9 hT hu).1;split at h;rename_i m hm;obtain⟨nq,h⟩:=A5 h;rw[HU]at nq;have pe:=(E4 hr u y).1;rw[hy]at pe;obtain⟨aR,eg⟩:=B37 (P:=P) hU (QK hm pe).1;have co:=hU.pos t';have lE:=hU.bpos t';have vw:0<m.length*E.U.size t':=Abq nq co;have gV:∀w':World,w'.heap=w.heap->(Aa0 i.size m.length (a.eval y)).run P w'=.ok aR.toArray w':=λw' ff=>by
  rw[aw];exact eg.first w' ff
 have mw:∀(j:Nat)(lf:Leaf Ty den),(flat E.U t' m)[j]?=J lf->∃v,aR[j]?=J v/\v.oneCell'=Z/\v.cells= #[v]/\LRep E.U w g lf v:=λj lf hj=>by
  obtain⟨v,v1,v2⟩:=eg.rep j lf hj;obtain⟨q1,q2⟩:=v2.one hU (B2M hU hj);exact⟨v,v1,q1,q2,LRep.ofC v2 (C2v hU hj)⟩
 have eK:=Ln hU t' m;split at h
 
 rename_i hx;obtain⟨be,h⟩:=A5 h;rw[Fn]at be;obtain⟨iJ,be⟩:=be;have be:=VQ be;have bV:=E4 hr t x;rw[hx]at bV;have qj:a.eval x=.slice O 0 0:=by
  have:=bV.1;generalize a.eval x=v at this;cases this;rfl
 have jA:m.length<=140737488355328:=HT (Ig _ lE) be;have kH:=B0N (P:=P) w t u o.type e i z cO (.inl ⟨_,wQ⟩) hi hz O 0 0 [] (λw' _=>by simp[Aa0]) (a.eval y) m.length aR eg.len gV FK FK (by rw[mi];simpa using be);rw[<-qj]at kH;simp only[HL]at kH;have aW:m.length<=Aaj w m.length 0 e:=Abe _ _ _ _;have dL:m.length*E.U.size t'<=Aaj w m.length 0 e*E.U.size t':=Hq _ aW;have pc:1000000<=rnO o.dst:=by unfold rnO;split<;>omega
 obtain⟨g',h1,h2⟩:=B5F (ls:=Pq E.U t' m) (N:=Aaj w m.length 0 e*E.U.size t') hU hr pc (c:=(#[]:Array Value)++aR.toArray++Aa4 z.cells (Aaj w m.length 0 e - m.length)) (e:=e) (w.drew.alloc (.cells ((#[]:Array Value)++aR.toArray++Aa4 z.cells (Aaj w m.length 0 e - m.length)) e)) rfl rfl rfl rfl
  (by
   simp only[JN,Ix,Abd,dJ,eg.nlen,GT,HL, <-Hz];exact Hq _ FK) ⟨by show 0<(flat E.U t' m).length;omega,by show(flat E.U t' m).length<=_;omega⟩ λj lf hj=>by
  obtain⟨v,v1,v2⟩:=mw j lf hj;have aE:=G7 v1;exact⟨v,by rw[Hf (by simpa using aE)];simpa using v1,v2⟩
 exact K9 (af kH) (hn _ _ _ _ h (REL.setO h1 (e:=.one _) (YL iJ h2 aW (GU _)) rfl _ hd))
 
 rename_i d off hx;split at h;rename_i ls bu;obtain⟨hc,h⟩:=A5 h;simp only[Fn]at hc;obtain⟨⟨pc,ho,bw⟩,vF,iJ,be⟩:=hc;have pc:=Hu pc;have ho:=Hu ho;have bw:=Hu bw;have vF:=(D5 _ _).1 vF;have be:=VQ be;rw[vF]at bw h;obtain⟨b,n,c0,hG,hv,Fx,jS⟩:=B2u hr hx ho;rw[vF]at jS;generalize rN off=n0 at*;have jA:n0+m.length<=140737488355328:=HT (Ig _ lE) be;obtain⟨cu,aD,aY⟩:=Ml hr bu;obtain⟨b',n',my,⟨dq,vB,_⟩,dh,aQ⟩:=cu;rw[hG]at my;cases my;have bc:spare (g.G d)=J b:=by rw[hG];simp only[spare];rw[GI FK]
 obtain⟨a0,len,cap,fb,_,gD⟩:=hr.tip d aD;rw[hG]at fb;cases fb;obtain⟨b',kM,c,e2,fz,ha,hb,r1,r2,r3⟩:=gD.resolve_left FK;cases ha;rw[dh]at r1 r2;have ba:g.wm b=0:=by rw[r2]
 have cq:∃dv:Gw,dv.length=n0*E.U.size t'/\(∀w':World,w'.heap=w.heap->(Aa0 i.size n0 (.slice (J ⟨b,0,O⟩) n0 c0)).run P w'=.ok dv.toArray w')/\
   ∀(j:Nat) lf,(ls.take (n0*E.U.size t'))[j]?=J lf->∃v,dv[j]?=J v/\w.cell? ⟨b,j,O⟩=J v/\v.oneCell'=Z/\v.cells= #[v]/\LRep E.U w g lf v:=by
  refine⟨(Aaz (n0*E.U.size t')).map λj=>(w.cell? ⟨b,j,O⟩).getD undef,GN,λw' ff=>?_,λj lf hj=>?_⟩;rw[aw];refine Abl w' (E.U.size t') n0 ⟨b,0,O⟩ n0 c0 _ GN (λj v hv=>?_);rw[HG]at hv;have bD:j<n0*E.U.size t':=by
   rcases Hv j (n0*E.U.size t')with h|h;exact h;rw[IF (by simpa using h)]at hv;cases hv
  rw[Ho bD]at hv;simp at hv;subst hv;obtain⟨u0,u1,_⟩:=aQ j _ (GE FK);rw[Hw,HL,u1];exact(HK (a:=⟨b,j,O⟩) (by rw[ff])).trans u1;rw[Hn]at hj;split at hj;rename_i bD;obtain⟨u0,u1,u2,u3,u4⟩:=aQ j lf hj;exact⟨u0,by rw[HG,Ho bD];simp[u1],u1,u2,u3,u4⟩;cases hj
 obtain⟨dv,o1,o2,o3⟩:=cq;have jT:(ls.take (n0*E.U.size t')).length=n0*E.U.size t':=GQ;have jU:(ls.take (n0*E.U.size t')++Pq E.U t' m).length=(n0+m.length)*E.U.size t':=by rw[Fd,jT,Hz];show _+(flat E.U t' m).length=_;omega
 by_cases iS:c0<n0+m.length;have kH:=B0N (P:=P) w t u o.type e i z cO (.inl ⟨_,wQ⟩) hi hz (J ⟨b,0,O⟩) n0 c0 dv o2 (a.eval y) m.length aR eg.len gV iS FK (by rw[mi];exact be);rw[<-hv]at kH;have aW:n0+m.length<=Aaj w (n0+m.length) c0 e:=Abe _ _ _ _;have dL:(n0+m.length)*E.U.size t'<=Aaj w (n0+m.length) c0 e*E.U.size t':=Hq _ aW;obtain⟨g',h1,h2⟩:=B5F (ls:=ls.take (n0*E.U.size t')++Pq E.U t' m) (N:=Aaj w (n0+m.length) c0 e*E.U.size t') hU hr pc (c:=dv.toArray++aR.toArray++Aa4 z.cells (Aaj w (n0+m.length) c0 e - (n0+m.length))) (e:=e) (w.drew.alloc (.cells (dv.toArray++aR.toArray++Aa4 z.cells (Aaj w (n0+m.length) c0 e - (n0+m.length))) e)) rfl rfl rfl rfl
  (by
   simp only[JN,Ix,Abd,dJ,eg.nlen,o1, <-Hz];exact Hq _ FK) ⟨by rw[jU,Hz];omega,by rw[jU];exact dL⟩ λj lf hj=>by
  by_cases bD:j<n0*E.U.size t';rw[HV FK]at hj;obtain⟨v,v1,_,v2⟩:=o3 j lf hj;have aE:=G7 v1;exact⟨v,by rw[Hf GQ,Hf (by simpa using aE)];simpa using v1,v2⟩;rw[Hk FK,jT]at hj;obtain⟨v,v1,v2⟩:=mw _ lf hj;have aE:=G7 v1;exact⟨v,by rw[Hf GQ,Jr GQ];simpa [o1]using v1,v2⟩
 exact K9 (af kH) (hn _ _ _ _ h (REL.setO h1 (e:=.one _) (YL iJ h2 aW (GU _)) rfl _ hd));have fg:n0+m.length<=c0:=FK;have dL:(n0+m.length)*E.U.size t'<=c0*E.U.size t':=Hq _ fg;rw[Hz]at dL;obtain⟨s1,⟨c',s2,s3,s4,s5⟩,s6,s7,s8,s9,jR⟩:=Px P b e2 fz aR (n0*E.U.size t') w c hb (by rw[eg.nlen];omega) (λj h1 h2=>FK) eg.one;have kH:=YB (P:=P) w t u o.type e i cO (.inl ⟨_,wQ⟩) hi (J ⟨b,0,O⟩) n0 c0 (a.eval y) m.length aR eg.len (gV w rfl) (C7 w b (n0*E.U.size t') aR)
  (λa1 jm=>by
   have:a1=⟨b,0,O⟩:=(Hb jm).symm;subst this;rw[Hw,aw,HL];exact s1 _ 0 GN (HH _)) (λh0=>by cases h0) fg
 rw[<-hv]at kH;generalize ff:C7 w b (n0*E.U.size t') aR=w' at*;have dC:Ext w g.wm w' g.wm:=⟨VJ hb s2 s7,λk2 o2 nY=>by
  by_cases hk:k2=b;subst hk;omega;exact HK (a:=⟨k2,o2,O⟩) (s7 k2 hk),λ_=>GU _⟩
 have h2:=hr.redo hU aD bc hb s2 s7 s6 s8 s9 jR dC (λ_ _=>rfl) (.slice (J ⟨b,0,O⟩) 0 n) 1 ⟨_,_,_,rfl,HH _,.inr ⟨b,0,c',e2,fz,rfl,s2,by rw[s3];exact r1,by rw[ba],r3⟩⟩ (λk2 hk=>by
  simp only[spare]at hk;split at hk;cases hk;exact(Hb hk).symm)
 have h3:=B9n (g:=g) (w:=w) (b:=b) (N:=n) (ls:=ls.take (n0*E.U.size t')++Pq E.U t' m) hU h2 dC ⟨λe he=>by simp[Gh.put,he],λe he=>by simp[Gh.put,he]⟩ (by simp[Gh.put]) (by simp[Gh.put]) pc ⟨by rw[jU,Hz];omega,by rw[jU,Hz];omega⟩ λj lf hj=>by
  by_cases bD:j<n0*E.U.size t';rw[HV FK]at hj;obtain⟨v,v1,v0,v2⟩:=o3 j lf hj;refine⟨v,?_,v2⟩;simp only[Aay,hb]at v0;simp only[Aay,s2,s4 j (.inl bD)];exact v0;rw[Hk FK,jT]at hj;obtain⟨v,v1,v2⟩:=mw _ lf hj;have:=s5 _ v v1;rw[show n0*E.U.size t'+(j - n0*E.U.size t')=j from FK]at this;exact⟨v,by simp[Aay,s2,this],v2⟩
 exact K9 (af kH) (hn _ _ _ _ h (REL.setO h3 (e:=.one _) (YL iJ (by simp[Gh.put]) fg jS) rfl _ hd));cases h;cases h;cases h;cases h
def C8o:∀{ls:List (Leaf Ty den)},Md ls=Z->∀lf∈ls,lf.close=lf:=λh lf hl=>by
 obtain⟨h1,h2⟩:=YK h lf hl;cases lf with
 |sl t x o=>
  cases o with
  |none=>rfl
  |some c=>exact absurd rfl (h1 t x c)
 |ptr d o=>exact absurd rfl (h2 d o)
 |_=>rfl
include hU in
def C9O(hS:∀f ls cs,E.TNg f ls=J (Z,cs)->(∀args w,(Aag f args).run P w=.ok (.enter f args) w)/\VW P E.U (λw1 m1=>Ext B.w B.wm w1 m1) f ls cs)
  {c:Call}{f:Aah}(ag:o.op=.call c)(az:c.callee=.value (.func f))(h:H3 E o s k=J r)
  (hr:Rel E.U B g s a w)(hd:∀i,o.dst=J i->i<a.tmps.size/\B.np<=i)(hn:G2 E B o a k r next):o.wp P a w next Q:=by
 simp only[H3,ag,az]at h;split at h;rename_i i gd ls aV hT;obtain⟨lK,h'⟩:=A5 h;rw[Fn,HU]at lK;obtain⟨rfl,Fy⟩:=lK;obtain⟨aK,cE,co,kK⟩:=hS f _ _ hT;have gW:(Aac a.eval o).run P w=.ok (.enter f (c.args.toList.map a.eval).toArray) w:=by
  simp[Aac,ag,Aap,az,Aa8,Abj,invoke,aK];apply It;simp
 have hc:=kK w g (c.args.toList.map a.eval) hr.ext hr.zero (LsRep.close (SM hr c.argTypes.toList c.args.toList)) (λlf hl d=>by
  obtain⟨l0,rfl⟩:=VR hl;exact SL l0 d)
 unfold Aan;rw[gW,Aa7];refine hc.mono ?_;rintro e w' ⟨b,g',rfl,hp,hb,cU,aQ⟩;have dG:=hr.world hU (w':=w') (wm':=g'.wm) hp.os hp.tape hp.output hp.size hp.ext (λ_=>False) (λb e=>e.elim) (λ_ _ _ _=>.inl λe=>e) (λb e=>e.elim) (λb hb _=>hp.frame b hb (λe=>e)) hp.zero;have gZ:∀k,spare (.slice (J ⟨b,0,O⟩) 0 ls.length)=J k->k=b:=λk hk=>by
  simp only[spare]at hk;split at hk;cases hk;exact(Hb hk).symm
 have h2:=dG.fresh hU (B8 (J i)) (.slice (J ⟨b,0,O⟩) 0 ls.length) 1 cU (λe k he aP hs sA=>by
  cases gZ k hs;have:=C2J (hr.tip e he) sA;omega) (λk hs=>by
  cases gZ k hs;exact .inl (HT hr.size hb))
 have h3:=h2.setBx (d:=B8 (J i)) (ls:=ls) (BoxOk.ex b (by simp[Gh.put]) co (by simp[Gh.put]) λj lf hj=>by
  obtain⟨u,u1,u2,u3,u4⟩:=aQ j lf hj;exact⟨u,u1,u2,u3,LRep.ofC u4 (C8o cE lf (HI hj))⟩) (by simp only[St.fresh];rw[mem_cons];exact .inl rfl)
 refine hn _ _ _ _ h' (REL.setO h3 (e:=.one (.ptr (B8 (J i)) 0)) ⟨.pt _ _ _,λ_ _ _ he=>by(cases he),λd' o2 he=>by(cases he;exact⟨b,ls.length,by simp[Gh.put],.inl ⟨rfl,GO⟩⟩)⟩ rfl _ hd);cases h
include hT hU in
def C9L(hZ:∀t zs,E.zr t=J zs->Ky P E.U t zs)(hS:∀f ls cs,E.TNg f ls=J (Z,cs)->(∀args w,(Aag f args).run P w=.ok (.enter f args) w)/\VW P E.U (λw1 m1=>Ext B.w B.wm w1 m1) f ls cs)
  (eJ:O3 E o s=Z)(h:H3 E o s k=J r)(hr:Rel E.U B g s a w)(hd:∀i,o.dst=J i->i<a.tmps.size/\B.np<=i)(hn:G2 E B o a k r next):o.wp P a w next Q:=by
 cases ag:o.op with
 |assign x=>
  simp only[O3,ag,Fn]at eJ;simp only[H3,ag]at h;have qj:a.eval x=.slice O 0 0:=by
   have bJ:=eJ.1;unfold X3 at bJ;split at bJ;rfl;cases bJ
  exact E8 (e:=.one .nils) (v:=.slice O 0 0) hr hd hn h ⟨.nils,λ_ _ _ he=>by(cases he),λ_ _ he=>by(cases he)⟩ rfl (by simp[Aac,ag,qj])
 |build t ps=>exact D5i hT hU hZ ag h hr hd hn
 |buildSlice t n ps=>exact C9D hT hU ag h hr hd hn
 |indexAddr t x i=>exact C6p hT ag (by simpa only[O3,ag]using eJ) h hr hd hn
 |load t x=>exact D39 hT ag h hr hd hn
 |slice t x lo hi mx=>exact D1h hT ag (by simpa only[O3,ag]using eJ) h hr hd hn
 |call c=>
  have h0:=h;simp only[H3,ag]at h;split at h;rename_i t x az er aC;split at h;rename_i u e d off ht hx;simp only[O3,ag,az,er,aC,hx,B1F,Jb]at eJ;obtain⟨d',kM,pd,ho⟩:=B8J eJ;cases pd;obtain⟨b,m,c0,hG,hv,bw,hm⟩:=B2u hr hx ho;obtain⟨cO,_⟩:=M9 hT ht;exact E8 (e:=.one (.int .i64 (rN off))) hr hd hn h (LRep.int _ _) rfl (by simp[Aac,ag,Aap,az,W8 er,W8 aC,invoke,builtin,hv,Abx,Aa1 cO,goInt]);rename_i u e ht hx;have hv:a.eval x=.slice O 0 0:=by
   have:=(E4 hr t x).1;rw[hx]at this;generalize a.eval x=v at this;cases this;rfl
  obtain⟨cO,_⟩:=M9 hT ht;exact E8 (e:=.one (.int .i64 0)) hr hd hn h (LRep.int _ _) rfl (by simp[Aac,ag,Aap,az,W8 er,W8 aC,invoke,builtin,hv,Abx,Aa1 cO,goInt]);cases h;rename_i t u x y az er aC;exact D5t hT hU ag az er aC h0 hr hd hn;rename_i f _ _ az;exact C9O hU hS ag az h0 hr hd hn;cases h
 |_=>simp only[H3,ag]at h;cases h
end
end Go.Aev
end
section
open Go.Lib
namespace Go.Aev
variable {Ty:Type}{den:Ty->Type}
structure U4(P:Aae)(E:Env Ty den)(B:Bs):Prop where
 U:E.U.Ok
 np:B.np<=E.np
 tb:∀t,M4 P E.U t (E.tb t)
 zr:∀t zs,E.zr t=J zs->Ky P E.U t zs
 T:∀f ls r,E.T f ls=J (Z,r)->(∀args w,(Aag f args).run P w=.ok (.enter f args) w)/\QP P E.U (λw1 m1=>Ext B.w B.wm w1 m1) f ls r
 TB:∀f ls cs rs ay,E.TB f ls cs=J (rs,ay)->(∀args w,(Aag f args).run P w=.ok (.enter f args) w)/\T3 P E.U (λw1 m1=>Ext B.w B.wm w1 m1) f ls cs rs ay
 TI:∀nm ls cs rs ay,E.TI nm ls cs=J (rs,ay)->SO P E.U B nm ls cs rs ay
 TR:∀f ls cs rs,E.TR f ls cs=J rs->(∀args w,(Aag f args).run P w=.ok (.enter f args) w)/\T3 P E.U (λw1 m1=>Ext B.w B.wm w1 m1) f ls cs rs cs
 TN:∀f ls cs,E.TNg f ls=J (Z,cs)->(∀args w,(Aag f args).run P w=.ok (.enter f args) w)/\VW P E.U (λw1 m1=>Ext B.w B.wm w1 m1) f ls cs
 dcx:Mk E.U
 qe:B1L P E
 mix:P.follows .mixedOrders=Z
section
variable {E:Env Ty den}{B:Bs}{g:Gh}{s:St Ty den}{a:Act}{w:World}
variable {P:Aae}{R:Type}{o:Oper}{k:Ent Ty den->St Ty den->Option R}{r:R}{next:Act->World->Prop}{Q:Exit->Act->World->Prop}
def D1b(hE:U4 P E B){x:Aaf}(ag:o.op=.assign x)(h:A6 E o s k=J r)(hr:Rel E.U B g s a w)(hd:∀i,o.dst=J i->i<a.tmps.size/\B.np<=i)(hn:G2 E B o a k r next):o.wp P a w next Q:=by
 simp only[A6,ag]at h;have af:(Aac a.eval o).run P w=.ok (.value (a.eval x)) w:=by simp[Aac,ag]
 cases bJ:X3 x with
 |false=>
  rw[bJ]at h;exact E8 hr hd hn h (Pz hr _ _) (B5z _ _ _) af
 |true=>
  rw[bJ]at h;simp only[GD]at h;have qj:a.eval x=.slice O 0 0/\∃v,x=.const v/\v=.slice O 0 0:=by
   unfold X3 at bJ;split at bJ;exact⟨rfl,_,rfl,rfl⟩;cases bJ
  obtain⟨gG,v,hx,hv⟩:=qj;have anq:=E4 hr o.type x;split at h;rename_i u l own hl;rw[hl]at anq;rw[gG]at anq af;have aA:l=[]:=by
   obtain⟨a0,cap,h1⟩:=anq.1.sl_inv;simp at h1;exact Hr h1.2.1.symm
  subst aA;have h2:=hr.fresh hE.U (B8 o.dst) (.slice O 0 0) (E.U.size u) ⟨_,_,_,rfl,GU _,.inl rfl⟩ (λ_ _ _ _ hs=>by simp[spare]at hs) (λ_ hs=>by simp[spare]at hs);refine K9 af (hn _ _ _ _ h (REL.setO h2 (e:=.one (.sl u [] (J (B8 o.dst)))) ⟨.nil _ _ _ _,λt1 l1 d1 he=>?_,λ_ _ he=>by(cases he)⟩ rfl _ hd));simp only[Leaf.sl.injEq,GX]at he;obtain⟨rfl,_,rfl⟩:=he;exact⟨by simp[Gh.put],by simp[Gh.put],TyB.nil⟩;exact E8 (e:=.one (opl E s o.type x)) hr hd hn h (show ERep _ _ _ (.one _) _ from anq) rfl af
def C5e(hE:U4 P E B)(h:A6 E o s k=J r)(hr:Rel E.U B g s a w)(hd:∀i,o.dst=J i->i<a.tmps.size/\B.np<=i)(hn:G2 E B o a k r next):o.wp P a w next Q:=by
 cases ag:o.op with
 |move x=>exact D38 ag h hr hd hn
 |assign x=>exact D1b hE ag h hr hd hn
 |makeInterface t x=>exact D4r hE.tb ag h hr hd hn
 |pick c x y=>exact D5y ag h hr hd hn
 |extract x i=>exact D0g ag h hr hd hn
 |binOp op t x y yt=>exact C6y hE.tb hE.qe ag h hr hd hn
 |unOp op t x=>exact D29 ag h hr hd hn
 |convert src dst x=>exact C7n hE.tb hE.U ag h hr hd hn
 |indexAddr t x i=>exact D42 hE.tb hE.U ag h hr hd hn
 |index t x i=>exact C67 hE.tb ag h hr hd hn
 |load t x=>exact C8r hE.tb hE.U hE.dcx ag h hr hd hn
 |build t ps=>exact D23 hE.tb hE.U hE.zr ag h hr hd hn
 |alloc t=>exact D4A hE.U hE.zr ag h hr hd hn
 |box t x=>exact D0W hE.U hE.zr ag h hr hd hn
 |store t x y=>exact B9l hE.U hE.zr ag h hr hd hn
 |nilCheck x=>exact D6t ag h hr hd hn
 |fieldAddr t x i=>exact C6h hE.tb ag h hr hd hn
 |slice t x lo hi mx=>exact C9M hE.tb hE.U ag h hr hd hn
 |buildSlice t n ps=>exact C7g hE.tb hE.U ag h hr hd hn
 |makeSlice t l c=>exact D6s hE.tb hE.U ag h hr hd hn
 |range t x=>exact D66 hE.tb hE.U ag h hr hd hn
 |next x wc=>
  cases x with
  |tmp i=>
   cases wc with
   |true=>exact D6Q ag h hr hE.U hd hn
   |false=>simp only[A6,ag]at h;cases h
  |_=>simp only[A6,ag]at h;cases h
 |call c=>
  have h0:=h;simp only[A6,ag]at h;cases az:c.callee with
  |value x=>
   cases x with
   |func f=>
    rw[az]at h;dsimp only at h;cases lE:E.bp f with
    |none=>rw[lE]at h;exact C8S hE.U hE.T ag az h hr hd hn
    |some ps=>
     rw[lE]at h;dsimp only at h;cases vG:E.ro f with
     |true=>
      rw[vG]at h;simp only[GD]at h;obtain⟨e,he,h⟩:=C1R E h;exact C1m hE.U hE.T hE.TR ag az he hr hd λv w' ci=>hn _ _ _ _ h ci
     |false=>rw[vG]at h;exact C55 hE.U hE.TB ag az (C7A E h) hr hd hn
   |_=>rw[az]at h;cases h
  |invoke x m=>rw[az]at h;exact D4z hE.U hE.TI ag az (C2f h) hr hd hn
  |builtin b=>rw[az]at h;exact C7K hE.tb hE.U ag az h hr hd hn
 |_=>simp only[A6,ag]at h;cases h
def YM(hE:U4 P E B)(h:K6 E o s k=J r)(hr:Rel E.U B g s a w)(hd:∀i,o.dst=J i->i<a.tmps.size/\B.np<=i)(hn:G2 E B o a k r next):o.wp P a w next Q:=by
 unfold K6 at h;cases hc:E.rw&&O3 E o s with
 |false=>rw[hc]at h;exact C5e hE h hr hd hn
 |true=>
  rw[hc]at h;rw[Fn]at hc;exact C9L hE.tb hE.U hE.zr hE.TN hc.2 h hr hd hn
def D3D{a b c d e:Bool}(h:(a&&(b&&(c&&(d&&e))))=Z):a=Z/\b=Z/\c=Z/\d=Z/\e=Z:=by
 cases a<;>cases b<;>cases c<;>cases d<;>cases e<;>simp at h ⊢
def D2p{d:Nat}{y:Aaf}(h:B68 d y=Z)(a:Act)(v:Value):(a.put (J d) v).eval y=a.eval y:=by
 cases y with
 |tmp t=>
  simp only[B68,Hs]at h;have aP:d≠t:=λe=>by rw[<-e,G4]at h;cases h
  show(a.tmps.setIfInBounds d v).getD t undef=a.tmps.getD t undef;rw[HE,HE,IU,GI aP]
 |const v=>rfl
 |global g=>rfl
 |func f=>rfl
def C22(hE:U4 P E B){o2:Oper}{d:Nat}{l:Leaf Ty den}(hb:B06 E o o2 s=J (d,l))(hr:Rel E.U B g s a w)(hd:∀i,o.dst=J i->i<a.tmps.size/\B.np<=i){K K2:Act->World->Prop}
  (h1:∀a1 w1,o2.wp P a1 w1 K2 Q->K a1 w1)(h2:∀a' w',REL E.U B (s.set d (.one l)) a' w'->a'.tmps.size=a.tmps.size->K2 a' w'):o.wp P a w K Q/\o2.guard=O:=by
 unfold B06 at hb;split at hb;rename_i t d0 t2 d2 y ag aV wR;obtain⟨hc,bC⟩:=A5 hb;clear hb;obtain⟨c1,c2,c3,c4,c5⟩:=D3D hc;have e1:=(D5 _ _).1 c1;have e2:=(D5 _ _).1 c2;subst e1;subst e2;have kU:o2.guard=O:=by simpa using c4
 have iD:o2.dst=O:=by simpa using c5
 refine⟨?_,kU⟩;split at bC;rename_i u pl u' x ht hy;split at bC;rename_i x' cW;simp only[GX,He]at bC;obtain⟨rfl,rfl⟩:=bC;obtain⟨rfl,ex⟩:=B2g cW;simp only at ex;subst ex;obtain⟨fs,ie,z,i1,i2,i3,i4,i5,i6⟩:=OG hE.tb ht;have pe:=E4 hr 0 y;rw[hy]at pe;obtain⟨vs,ev,pU,cs,cN,fR⟩:=SI pe.1;have cE:=hE.U.len u' x;have aE:d0<a.tmps.size:=(hd d0 aV).1;have bR:∀v∈vs,v.oneCell'=Z:=λv hv=>by
  obtain⟨j,hj,sC⟩:=II hv;have wS:j<(E.U.cells u' x).length:=FK;have h3:=cN j _ (GE wS);rw[GE hj]at h3;rw[<-sC,Hb h3];exact((fR j _ (GE wS)).one hE.U (hE.U.solid u' x _ (IG wS))).1
 have af:(Aac a.eval o).run P w=.ok (.value (.pointer (J ⟨w.heap.size,0,O⟩))) (w.alloc (.cells z.cells t)):=by
  simp[Aac,ag,Instr.alloc,zeroValue,Aaw,i3,i5,newVar,newRow]
 refine K9 af (h1 _ _ ?_);rw[aV];have og:(a.put (J d0) (.pointer (J ⟨w.heap.size,0,O⟩))).eval y=.agg vs.toArray:=by rw[D2p c3,ev]
 have oh:(a.put (J d0) (.pointer (J ⟨w.heap.size,0,O⟩))).eval (.tmp d0)=.pointer (J ⟨w.heap.size,0,O⟩):=by
  have:=B23 a d0 d0 (.pointer (J ⟨w.heap.size,0,O⟩)) aE;rw[GJ rfl]at this;exact this
 have wT:(w.alloc (.cells z.cells t)).heap[w.heap.size]?=J (.cells z.cells t (0,0)):=by
  have hp:(w.alloc (.cells z.cells t)).heap=w.heap.push (.cells z.cells t):=rfl;rw[hp];simp
 obtain⟨s1,⟨c',s2,s3,_,s5⟩,s6,s7,s8,s9,jR⟩:=Px P w.heap.size t (0,0) vs 0 (w.alloc (.cells z.cells t)) z.cells wT FK (λj _ _=>GN) bR;have dg:=s1 ⟨w.heap.size,0,O⟩ 0 rfl (GU _);have cT:c'=vs.toArray:=by
  apply Ik;intro j;by_cases hj:j<vs.length;have:=s5 j vs[j] (GE hj);rw[HL]at this;rw[this];simp[hj];rw[IQ FK,IQ GQ]
 have jV:(C7 (w.alloc (.cells z.cells t)) w.heap.size 0 vs).heap=w.heap.push (.cells vs.toArray t (0,0)):=by
  apply Ik;intro j;by_cases hj:j=w.heap.size;subst hj;rw[s2,cT];simp;rw[s7 j hj];simp only[World.alloc,Hp,GI hj]
 have ci:=hr.alloc hE.U (.cells vs.toArray t (0,0)) (E.U.size u') (C7 (w.alloc (.cells z.cells t)) w.heap.size 0 vs) jV s8 s9 jR;have hx:Ext w g.wm (C7 (w.alloc (.cells z.cells t)) w.heap.size 0 vs) (B9 g.wm w.heap.size (E.U.size u')):=by
  refine⟨Lo jV,λb off ho=>?_,λb=>?_⟩;rcases Hv b w.heap.size with h2|h2;exact HK (a:=⟨b,off,O⟩) (by rw[jV,Hp,GI (by show¬b=w.heap.size;omega)]);rw[hr.zero b h2]at ho;omega;unfold B9;by_cases hb:b=w.heap.size;subst hb;rw[GJ rfl,hr.zero _ (GU _)];exact HH _;rw[GI hb];exact GU _
 have anq:CRep E.U (C7 (w.alloc (.cells z.cells t)) w.heap.size 0 vs) (B9 g.wm w.heap.size (E.U.size u')) (.elem u' x 0) (.pointer (J ⟨w.heap.size,0+0,O⟩)):=by
  refine .elem u' x 0 w.heap.size 0 cs (by simp[B9]) (λj lf hj=>?_) (λj lf hj=>(fR j lf hj).mono hE.U hx);have h3:=cN j lf hj;have bZ:(C7 (w.alloc (.cells z.cells t)) w.heap.size 0 vs).heap[w.heap.size]?=J (.cells vs.toArray t (0,0)):=by rw[jV];simp
  have bD:=G7 h3;rw[GE bD]at h3;simp[Aay,bZ,bD,Hb h3]
 have iq:=ci.set (e:=.one (.elem u' x 0)) (v:=.pointer (J ⟨w.heap.size,0,O⟩)) ⟨anq,λ_ _ _ he=>by(cases he),λ_ _ he=>by(cases he)⟩ rfl d0 (hd d0 aV);unfold Aan;have th:(Aac (a.put (J d0) (.pointer (J ⟨w.heap.size,0,O⟩))).eval o2).run P (w.alloc (.cells z.cells t))=.ok .skip (C7 (w.alloc (.cells z.cells t)) w.heap.size 0 vs):=by
  have aw:(Aau t).run P (w.alloc (.cells z.cells t))=.ok (E.U.size u') (w.alloc (.cells z.cells t)):=by simp[Aau,Aaw,i3,i4]
  have mA:(Value.agg vs.toArray).cells=vs.toArray:=rfl;generalize w.alloc (.cells z.cells t)=w1 at aw dg ⊢;simp[Aac,wR,og,oh,Abs,Abh,storeVar,aw,mA,pU,dg]
 rw[th,Abg,iD];exact h2 _ _ ⟨_,iq⟩ (by simp[Aav]);cases bC;cases bC;cases hb
def OI{m n:Nat}{d:GA}(h:okd m n d=Z):∀i,d=J i->i<n/\m<=i:=λi hi=>by
 subst hi;simp only[okd,Fn,HU,Ih]at h;exact h
def C8T(E:Env Ty den)(ops:Array Oper)(o:Oper)(r:List Oper)(s:St Ty den)(k:St Ty den->Option R):OD E ops (o::r) s k=bif okd E.np E.nt o.dst then match o.guard with
 |none=>bif M8 o.op&& !(mbO E o.dst)then(match r with
   |o2::r2=>(match B06 E o o2 s with
    |some (d,l)=>OD E ops r2 (s.set d (.one l)) k
    |none=>O)
   |[]=>O)
  else K6 E o s λe s'=>OD E ops r (s'.setO o.dst e) k
 |some (j,aS)=>match(ops[j]?).bind (·.dst)with
  |some g=>match s.get g with
   | .one (.bool b)=>bif b==aS
    then K6 E o (s.set g (.one (.bool aS))) λe s'=>OD E ops r (s'.setO o.dst e) k
    else OD E ops r ((s.set g (.one (.bool (!aS)))).setO o.dst (.one (.val undef))) k
   | .one (.val v)=>bif Ru v then OD E ops r (s.setO o.dst (.one (.val undef))) k else O
   |_=>O
  |none=>O
 else O:=by cases r<;>rfl
def YN(hE:U4 P E B)(ops:Array Oper):∀(os:List Oper)(s:St Ty den)(a:Act)(w:World)(k:St Ty den->Option R),OD E ops os s k=J r->REL E.U B s a w->a.tmps.size=E.nt->
  (∀s' a' w',k s'=J r->REL E.U B s' a' w'->a'.tmps.size=E.nt->Q .normal a' w')->wpList P ops Q os a w
 |[],s,a,w,k,h,hr,aw,hk=>wpList_nil (hk s a w h hr aw)
 |o::os,s,a,w,k,h,⟨g,hr⟩,aw,hk=>by
  rw[C8T]at h;obtain⟨aV,h⟩:=A5 h;have hd:∀i,o.dst=J i->i<a.tmps.size/\B.np<=i:=λi hi=>by rw[aw];have:=OI aV i hi;exact⟨this.1,HT hE.np this.2⟩
  have run:∀(s1:St Ty den)(g1:Gh),Rel E.U B g1 s1 a w->K6 E o s1 (λe s'=>OD E ops os (s'.setO o.dst e) k)=J r->∀(K:Act->World->Prop),(∀a w,wpList P ops Q os a w->K a w)->o.wp P a w K Q:=by
   intro s1 g1 dG h1 K hK;refine YM hE h1 dG hd ?_;intro e s' v w' fV ci;exact hK _ _ (YN hE ops os _ _ _ k fV ci (by rw[Y4];exact aw) hk)
  cases hg:o.guard with
  |none=>
   rw[hg]at h;dsimp only at h;cases fW:M8 o.op&& !(mbO E o.dst)with
   |true=>
    rw[fW]at h;simp only[GD]at h
    match os,h with
    |[],h=>cases h
    |o2::zU,h=>
     dsimp only at h;split at h;rename_i d l lJ;refine Aa9 hg λK hK=>(C22 (K2:=λa1 w1=>wpList P ops Q zU a1 w1) hE lJ hr hd (λa1 w1 hw=>hK _ _ (Aa9 ?_ λK2 Cl=>?_)) (λa' w' ci tj=>?_)).1
     exact(C22 (K:=λ_ _=>True) (K2:=λ_ _=>True) (Q:=Q) hE lJ hr hd (λ_ _ _=>trivial) (λ_ _ _ _=>trivial)).2;exact Oper.wp_mono Cl hw;exact YN hE ops zU _ a' w' k h ci (by rw[tj];exact aw) hk;cases h
   |false=>
    rw[fW]at h;exact Aa9 hg λK hK=>run s g hr h K hK
  |some jw=>
   obtain⟨j,aS⟩:=jw;rw[hg]at h;dsimp only at h;cases hj:(ops[j]?).bind (·.dst)with
   |none=>rw[hj]at h;cases h
   |some gd=>
    rw[hj]at h;dsimp only at h;split at h;rename_i b ol;have aK:=hr.ent gd;rw[ol]at aK;have bW:a.tmps.getD gd undef=.bool b:=CRep.bool_inv aK.1;have aE:gd<a.tmps.size:=by
     rcases Hv gd a.tmps.size with h1|h1;exact h1;rw[HE,IQ h1]at bW;cases bW
    have aY:a.tmps[gd]?=J (.bool b):=by
     rw[HE,Hc aE]at bW;rw[Hc aE];simpa using bW
    have hy:Aam ops a.tmps j=J b:=by
     unfold Aam;rw[hj];simp[aY]
    have iq:∀c:Bool,b=c->Rel E.U B g (s.set gd (.one (.bool c))) a w:=by
     intro c hc;exact hr.setSame (e:=.one (.bool c)) (by rw[bW,hc];exact LRep.bool c) rfl
    refine wpList_step λK hK=>?_;simp only[Aak,hg,hy];cases jq:(b==aS)with
    |true=>
     have tk:b=aS:=by simpa using jq
     rw[jq]at h;rw[GJ (by simp[tk])];exact run _ g (iq aS tk) h K hK
    |false=>
     rw[jq]at h;have aP:b≠aS:=by simpa using jq
     have zV:b= !aS:=by cases b<;>cases aS<;>simp_all
     rw[GI (by simp[aP])];refine hK _ _ (YN hE ops os _ _ _ k h ?_ (by rw[Y4];exact aw) hk);exact REL.setO (iq _ zV) (e:=.one (.val undef)) ⟨.val _,λ_ _ _ he=>by(cases he),λ_ _ he=>by(cases he)⟩ rfl o.dst hd
    rename_i v tn;have aK:=hr.ent gd;rw[tn]at aK;have bW:a.tmps.getD gd undef=v:=by
     have h1:=aK.1;cases h1;rfl
    obtain⟨eh,h⟩:=A5 h;have hy:∀b,Aam ops a.tmps j≠J b:=by
     intro b hb;unfold Aam at hb;rw[hj]at hb;simp only[Abo]at hb;rw[HE]at bW;cases kU:a.tmps[gd]? with
     |none=>rw[kU]at hb;simp at hb
     |some u=>
      rw[kU]at hb bW;simp at bW;subst bW;cases u<;>simp[Ru]at hb eh
    refine wpList_step λK hK=>?_;simp only[Aak,hg];rw[GI (by
     intro h1;exact hy aS (by simpa using h1))]
    refine hK _ _ (YN hE ops os _ _ _ k h ?_ (by rw[Y4];exact aw) hk);exact REL.setO hr (e:=.one (.val undef)) ⟨.val _,λ_ _ _ he=>by(cases he),λ_ _ he=>by(cases he)⟩ rfl o.dst hd;cases h
end
end Go.Aev
end
section
open Go.Lib
namespace Go.Aev
variable {Ty:Type}{den:Ty->Type}
section
variable {E:Env Ty den}{B:Bs}{g:Gh}{s:St Ty den}{a:Act}{w:World}
variable {P:Aae}{R:Type}{o:Oper}{r:R}
structure Sees(o:Oper)(s s2:St Ty den):Prop where
 tmp:∀t,Abp t∈o.op.operands.toList->s2.get t=s.get t
 bx:∀d ls,J1 s d=J ls->J1 s2 d=J ls
def Sees.opd{s2:St Ty den}(h:Sees o s s2){x:Aaf}(hx:x∈o.op.operands.toList)(ty:Aad):opd E s2 ty x=opd E s ty x:=by
 cases x with
 |tmp t=>simp only[Aev.opd,h.tmp t hx]
 |_=>rfl
def Sees.opl{s2:St Ty den}(h:Sees o s s2){x:Aaf}(hx:x∈o.op.operands.toList)(ty:Aad):opl E s2 ty x=opl E s ty x:=by
 simp only[Aev.opl,h.opd hx]
def Sees.args{s2:St Ty den}{c:Call}(ag:o.op=.call c)(h:Sees o s s2):∀(dZ:List Aad)(xs:List Aaf),(∀x∈xs,x∈c.args.toList)->O2 E s2 dZ xs=O2 E s dZ xs:=by
 have dj:∀x∈c.args.toList,x∈o.op.operands.toList:=by
  intro x hx;rw[ag];simp only[Aab,Aao];cases c.callee<;>simp_all
 intro dZ xs
 induction xs generalizing dZ with
 |nil=>intro _;cases dZ<;>rfl
 |cons x xs ih=>
  intro jQ;cases dZ with
  |nil=>simp only[O2,h.opl (dj x (jQ x GN)),ih [] (λy hy=>jQ y (by simp[hy]))]
  |cons t ts=>simp only[O2,h.opl (dj x (jQ x GN)),ih ts (λy hy=>jQ y (by simp[hy]))]
def H1{a b:Nat}{x:Option R}(h:(bif Aaa a b then x else O)=J r):a=b/\x=J r:=by
 obtain⟨h1,h2⟩:=A5 h;exact⟨HZ h1,h2⟩
def C34{s2:St Ty den}{d:Int}{b:Option Aaf}(h:Sees o s s2)(hb:∀x,b=J x->x∈o.op.operands.toList):T9 E s2 d b=T9 E s d b:=by
 cases b with
 |none=>rfl
 |some x=>simp only[T9,h.opl (hb x rfl)]
def C4G{cl:Leaf Ty den->Leaf Ty den}{s2:St Ty den}(h:Sees o s s2)(pl:List (Nat×Nat)):∀(ps:List (Nat×Aaf))(ls:List (Leaf Ty den)),(∀p∈ps,p.2∈o.op.operands.toList)->Mg E cl s2 pl ps ls=Mg E cl s pl ps ls
 |[],ls,_=>rfl
 |(j,x)::ps,ls,dj=>by
  simp only[Mg];rw[show opl E s2 0 x=opl E s 0 x from h.opl (dj (j,x) GN) 0];cases pl[j]? with
  |none=>rfl
  |some q=>
   obtain⟨o1,n1⟩:=q;dsimp only;cases cellsOf E n1 (cl (opl E s 0 x))with
   |none=>rfl
   |some ys=>
    dsimp only;rw[C4G h pl ps _ (λp hp=>dj p (by simp[hp]))]
def D1L{t:Aad}{x:Aaf}(ag:o.op=.makeInterface t x){k1:Ent Ty den->Option R}(h:A6 E o s (λe s'=>bif Aaa (O7 s'.live) (O7 s.live)then k1 e else O)=J r):
  ∃e,k1 e=J r/\∀s2:St Ty den,Sees o s s2->A6 E o s2 (λe s'=>J (e,s'))=J (e,s2):=by
 simp only[A6,ag]at h;split at h;rename_i u pl u' y ht hx;split at h;rename_i y' hy;refine⟨_,(H1 h).2,λs2 h2=>?_⟩;simp only[A6,ag,h2.opl (x:=x) (by simp[ag,Aab]),ht,hx,hy];cases h;cases h
def C7f(hp:O0 E o=Z)(eh:O4 o=V)(om:∀c f,o.op=.call c->c.callee≠ .value (.func f)){k1:Ent Ty den->Option R}(h:A6 E o s (λe s'=>bif Aaa (O7 s'.live) (O7 s.live)then k1 e else O)=J r):
  ∃e,k1 e=J r/\∀s2:St Ty den,Sees o s s2->A6 E o s2 (λe s'=>J (e,s'))=J (e,s2):=by
 have aX:∀{x:Aaf},x∈o.op.operands.toList->∀s2:St Ty den,Sees o s s2->∀ty,opl E s2 ty x=opl E s ty x:=λhx s2 h2 ty=>h2.opl hx ty;cases ag:o.op with
 |move x=>
  simp only[A6,ag]at h;exact⟨_,(H1 h).2,λs2 h2=>by simp only[A6,ag,h2.opd (x:=x) (by simp[ag,Aab])]⟩
 |buildSlice t n ps=>simp only[O4,ag]at eh;cases eh
 |makeInterface t x=>exact D1L ag h
 |assign x=>
  have bJ:X3 x=V:=by simpa only[O4,ag]using eh
  simp only[A6,ag,bJ,GF]at h;exact⟨_,(H1 h).2,λs2 h2=>by simp only[A6,ag,bJ,GF,h2.opd (x:=x) (by simp[ag,Aab])]⟩
 |pick c x y=>
  have hc:=λs2 h2=>aX (x:=c) (by simp[ag,Aab]) s2 h2;have hx:=λs2 h2=>aX (x:=x) (by simp[ag,Aab]) s2 h2;have hy:=λs2 h2=>aX (x:=y) (by simp[ag,Aab]) s2 h2;simp only[A6,ag]at h;split at h
  rename_i eT;exact⟨_,(H1 h).2,λs2 h2=>by simp only[A6,ag,hc s2 h2,hx s2 h2,hy s2 h2,eT]⟩;rename_i eT;exact⟨_,(H1 h).2,λs2 h2=>by simp only[A6,ag,hc s2 h2,hx s2 h2,hy s2 h2,eT]⟩;cases h
 |extract x i=>
  simp only[A6,ag]at h;have hx:=λs2 (h2:Sees o s s2)=>h2.opd (E:=E) (x:=x) (by simp[ag,Aab]) 0;split at h
  rename_i ls eT;split at h;rename_i l hl;exact⟨_,(H1 h).2,λs2 h2=>by simp only[A6,ag,hx s2 h2,eT,hl]⟩;cases h;cases h
 |binOp op t x y yt=>
  have hx:=λs2 h2=>aX (x:=x) (by simp[ag,Aab]) s2 h2;have hy:=λs2 h2=>aX (x:=y) (by simp[ag,Aab]) s2 h2;simp only[A6,ag]at h;have bQ:∀(l:Leaf Ty den),(bif Aaa (O7 s.live) (O7 s.live)then k1 (.one l)else O)=J r->(∀s2,Sees o s s2->A6 E o s2 (λe s'=>J (e,s'))=J (.one l,s2))->∃e,k1 e=J r/\∀s2,Sees o s s2->A6 E o s2 (λe s'=>J (e,s'))=J (e,s2):=λl h1 h2=>⟨_,(H1 h1).2,h2⟩;split at h
  rename_i k0 a Fz b jr lM;split at h;obtain⟨hg,h⟩:=A5 h;exact bQ _ h λs2 h2=>by simp only[A6,ag,hx s2 h2,hy s2 h2,jr,lM,hg,GD]
  obtain⟨hg,h⟩:=A5 h;exact bQ _ h λs2 h2=>by simp only[A6,ag,hx s2 h2,hy s2 h2,jr,lM,hg,GD]
  obtain⟨hg,h⟩:=A5 h;exact bQ _ h λs2 h2=>by simp only[A6,ag,hx s2 h2,hy s2 h2,jr,lM,hg,GD]
  obtain⟨hg,h⟩:=A5 h;exact bQ _ h λs2 h2=>by simp only[A6,ag,hx s2 h2,hy s2 h2,jr,lM,hg,GD]
  rename_i n1 n2 n3 n4;obtain⟨hg,h⟩:=A5 h;split at h;rename_i l hl;refine bQ _ h λs2 h2=>?_;simp only[A6,ag,hx s2 h2,hy s2 h2,jr,lM];cases op<;>first
   |exact absurd rfl (by assumption)
   |(exfalso;first|exact n1 rfl|exact n2 rfl|exact n3 rfl|exact n4 rfl)
   |(simp only[hg,GD,hl])
  cases h;rename_i a b jr lM;split at h;obtain⟨hg,h⟩:=A5 h;exact bQ _ h λs2 h2=>by simp only[A6,ag,hx s2 h2,hy s2 h2,jr,lM,hg,GD]
  exact bQ _ h λs2 h2=>by simp only[A6,ag,hx s2 h2,hy s2 h2,jr,lM]
  exact bQ _ h λs2 h2=>by simp only[A6,ag,hx s2 h2,hy s2 h2,jr,lM]
  cases h;rename_i a b jr lM;split at h;rename_i ht;split at h;exact bQ _ h λs2 h2=>by simp only[A6,ag,hx s2 h2,hy s2 h2,jr,lM,ht]
  exact bQ _ h λs2 h2=>by simp only[A6,ag,hx s2 h2,hy s2 h2,jr,lM,ht]
  cases h;cases h;split at h;rename_i b hb;exact bQ _ h λs2 h2=>by
   simp only[A6,ag,hx s2 h2,hy s2 h2];split<;>simp_all
  cases h
 |unOp op t x=>
  have hx:=λs2 h2=>aX (x:=x) (by simp[ag,Aab]) s2 h2;simp only[A6,ag]at h;split at h
  rename_i jr;exact⟨_,(H1 h).2,λs2 h2=>by simp only[A6,ag,hx s2 h2,jr]⟩;rename_i jr;exact⟨_,(H1 h).2,λs2 h2=>by simp only[A6,ag,hx s2 h2,jr]⟩;cases h
 |convert src dst x=>
  have hx:=λs2 h2=>aX (x:=x) (by simp[ag,Aab]) s2 h2;simp only[A6,ag]at h;split at h
  rename_i h1 h2 h3;exact⟨_,(H1 h).2,λs2 h4=>by simp only[A6,ag,hx s2 h4,h1,h2,h3]⟩;rename_i h1 h2 h3;split at h;rename_i h5 h6 h7;exact⟨_,(H1 h).2,λs2 h4=>by simp only[A6,ag,hx s2 h4,h1,h2,h3,h5,h6,h7]⟩;rename_i h5 h6 h7;exact⟨_,(H1 h).2,λs2 h4=>by simp only[A6,ag,hx s2 h4,h1,h2,h3,h5,h6,h7]⟩;cases h;rename_i h1 h2 h3;simp only[O0,ag,h2]at hp;cases hp;rename_i h1 h2 h3;simp only[O0,ag,h2]at hp;cases hp;cases h
 |indexAddr t x i=>
  have hx:=λs2 h2=>aX (x:=x) (by simp[ag,Aab]) s2 h2;have hi:=λs2 h2=>aX (x:=i) (by simp[ag,Aab]) s2 h2;simp only[A6,ag]at h;split at h
  rename_i h1 h2 h3;split at h;rename_i l' hl;split at h;rename_i y hy;exact⟨_,(H1 h).2,λs2 h4=>by simp only[A6,ag,hx s2 h4,hi s2 h4,h1,h2,h3,hl,hy]⟩;cases h;cases h;cases h
 |index t x i=>
  have hx:=λs2 h2=>aX (x:=x) (by simp[ag,Aab]) s2 h2;have hi:=λs2 h2=>aX (x:=i) (by simp[ag,Aab]) s2 h2;simp only[A6,ag]at h;split at h
  rename_i h1 h2 h3;split at h;rename_i y hy;exact⟨_,(H1 h).2,λs2 h4=>by simp only[A6,ag,hx s2 h4,hi s2 h4,h1,h2,h3,hy]⟩;cases h;cases h
 |load t x=>
  have hx:=λs2 h2=>aX (x:=x) (by simp[ag,Aab]) s2 h2;simp only[A6,ag]at h;split at h
  cases h;rename_i u fH;split at h;rename_i u' y off gG;split at h;rename_i y' hy;refine⟨_,(H1 h).2,λs2 h4=>?_⟩;simp only[A6,ag,hx s2 h4,gG,fH,hy];cases h;cases h;rename_i u pl fH;split at h;rename_i u' y off gG;split at h;rename_i y' hy;refine⟨_,(H1 h).2,λs2 h4=>?_⟩;simp only[A6,ag,hx s2 h4,gG,fH,hy];rename_i eu;split at h;rename_i z hz;refine⟨_,(H1 h).2,λs2 h4=>?_⟩;simp only[A6,ag,hx s2 h4,gG,fH];revert eu;generalize (bif Aaa off 0 then M1 E.U u u' [y]else O)=Cm;intro eu;cases Cm with
  |none=>simp only[hz]
  |some l=>
   cases l with
   |nil=>simp only[hz]
   |cons y0 r=>
    cases r with
    |nil=>exact absurd rfl (eu y0)
    |cons y1 r=>simp only[hz]
  cases h;rename_i d off gG;split at h;rename_i ls bu;obtain⟨bv,h⟩:=A5 h;split at h;rename_i z hz;refine⟨_,(H1 h).2,λs2 h4=>?_⟩;simp only[A6,ag,hx s2 h4,gG,fH,h4.bx d _ bu,bv,GD,hz];rename_i hz;split at h;rename_i u' hu;obtain⟨aw,h⟩:=A5 h;split at h;rename_i z Cn;refine⟨_,(H1 h).2,λs2 h4=>?_⟩;simp only[A6,ag,hx s2 h4,gG,fH,h4.bx d _ bu,bv,GD,hz,hu,aw,Cn];cases h;cases h;cases h;cases h;rename_i fH Co toq;split at h;rename_i u y off gG;split at h;rename_i l hl;refine⟨_,(H1 h).2,λs2 h4=>?_⟩;simp only[A6,ag,hx s2 h4,gG,hl];cases h;rename_i d off gG;split at h;rename_i ls bu;obtain⟨bv,h⟩:=A5 h;split at h;rename_i l hl;refine⟨_,(H1 h).2,λs2 h4=>?_⟩;simp only[A6,ag,hx s2 h4,gG,h4.bx d _ bu,bv,GD,hl];cases h;cases h;cases h
 |nilCheck x=>
  have hx:=λs2 h2=>aX (x:=x) (by simp[ag,Aab]) s2 h2;simp only[A6,ag]at h;split at h
  rename_i u y off gG;exact⟨_,(H1 h).2,λs2 h4=>by simp only[A6,ag,hx s2 h4,gG]⟩;rename_i d off gG;obtain⟨bv,h⟩:=A5 h;exact⟨_,(H1 h).2,λs2 h4=>by simp only[A6,ag,hx s2 h4,gG,bv,GD]⟩;cases h
 |build t ps=>
  have lD:mbO E o.dst=V:=by simpa [O0,ag]using hp
  simp only[A6,ag,lD,GF]at h;split at h;rename_i u pl fH;split at h;rename_i zs dJ;split at h;rename_i ls bu;split at h;rename_i x hx;refine⟨_,(H1 h).2,λs2 h4=>?_⟩;have h3:=C4G (E:=E) (cl:=Leaf.close) h4 pl ps.toList zs (λp hp=>by rw[ag];simp only[Aab];simp;exact⟨p.1,by simpa using hp⟩);simp only[A6,ag,lD,GF,fH,dJ,h3,bu,hx];cases h;cases h;cases h;cases h
 |fieldAddr t x i=>
  have hx:=λs2 h2=>aX (x:=x) (by simp[ag,Aab]) s2 h2;simp only[A6,ag]at h;split at h
  rename_i v pl u y off fH gG;split at h;rename_i o1 n1 lC;obtain⟨hg,h⟩:=A5 h;exact⟨_,(H1 h).2,λs2 h4=>by simp only[A6,ag,hx s2 h4,fH,gG,lC,hg,GD]⟩;cases h;rename_i v pl d off fH gG;split at h;rename_i o1 n1 lC;obtain⟨hg,h⟩:=A5 h;exact⟨_,(H1 h).2,λs2 h4=>by simp only[A6,ag,hx s2 h4,fH,gG,lC,hg,GD]⟩;cases h;cases h
 |slice t x lo hi mx=>
  have hx:=λs2 h2=>aX (x:=x) (by simp[ag,Aab]) s2 h2;have gy:∀s2,Sees o s s2->∀d,T9 E s2 d lo=T9 E s d lo:=λs2 h2 d=>C34 h2 (λy hy=>by subst hy;simp[ag,Aab]);have ma:∀s2,Sees o s s2->∀d,T9 E s2 d hi=T9 E s d hi:=λs2 h2 d=>C34 h2 (λy hy=>by subst hy;simp[ag,Aab]);simp only[A6,ag]at h;split at h
  rename_i b h1 h2;split at h;rename_i h3 h4;split at h;rename_i r0 hr;exact⟨_,(H1 h).2,λs2 h6=>by simp only[A6,ag,hx s2 h6,gy s2 h6,ma s2 h6,h1,h2,h3,h4,hr]⟩;cases h;cases h;rename_i h1 h2;split at h;rename_i l' hl;split at h;rename_i h3 h4;split at h;rename_i r0 hr;exact⟨_,(H1 h).2,λs2 h6=>by simp only[A6,ag,hx s2 h6,gy s2 h6,ma s2 h6,h1,h2,hl,h3,h4,hr]⟩;cases h;rename_i m h3 h4;have hm:∀s2,Sees o s s2->∀ty,opl E s2 ty m=opl E s ty m:=λs2 h2=>aX (x:=m) (by simp[ag,Aab]) s2 h2;split at h
  rename_i h7;obtain⟨hg,h⟩:=A5 h;split at h;rename_i r0 hr;exact⟨_,(H1 h).2,λs2 h6=>by simp only[A6,ag,hx s2 h6,gy s2 h6,ma s2 h6,hm s2 h6,h1,h2,hl,h3,h4,h7,hg,GD,hr]⟩;cases h;cases h;cases h;cases h;cases h
 |call c=>
  simp only[A6,ag]at h;simp only[O0,ag]at hp;split at hp;rename_i f az;exact absurd az (om c f ag)
  ·rename_i az;rw[az]at h;dsimp only at h;generalize fy:c.argTypes.toList=dZ at h;generalize aC:c.args.toList=args at h;unfold Mf at h;split at h<;>first|cases h;done|(rename_i hb;cases hb;done)|skip
   rename_i t x hb;have hx:=λs2 h2=>aX (x:=x) (by simp[ag,Aab,Aao,az,aC]) s2 h2;split at h
   rename_i h1 h2;exact⟨_,(H1 h).2,λs2 h6=>by simp only[A6,ag,az,fy,aC,Mf,hx s2 h6,h1,h2]⟩;rename_i h1 h2;exact⟨_,(H1 h).2,λs2 h6=>by simp only[A6,ag,az,fy,aC,Mf,hx s2 h6,h1,h2]⟩;cases h
  ·rename_i az;rw[az]at h;dsimp only at h;generalize fy:c.argTypes.toList=dZ at h;generalize aC:c.args.toList=args at h;unfold Mf at h;split at h<;>first|cases h;done|(rename_i hb;cases hb;done)|skip
   rename_i x y hb;have hx:=λs2 h2=>aX (x:=x) (by simp[ag,Aab,Aao,az,aC]) s2 h2;have hy:=λs2 h2=>aX (x:=y) (by simp[ag,Aab,Aao,az,aC]) s2 h2;split at h
   rename_i h1 h2;exact⟨_,(H1 h).2,λs2 h6=>by simp only[A6,ag,az,fy,aC,Mf,hx s2 h6,hy s2 h6,h1,h2]⟩;cases h
  ·rename_i az;rw[az]at h;dsimp only at h;generalize fy:c.argTypes.toList=dZ at h;generalize aC:c.args.toList=args at h;unfold Mf at h;split at h<;>first|cases h;done|(rename_i hb;cases hb;done)|skip
   rename_i x y hb;have hx:=λs2 h2=>aX (x:=x) (by simp[ag,Aab,Aao,az,aC]) s2 h2;have hy:=λs2 h2=>aX (x:=y) (by simp[ag,Aab,Aao,az,aC]) s2 h2;split at h
   rename_i h1 h2;exact⟨_,(H1 h).2,λs2 h6=>by simp only[A6,ag,az,fy,aC,Mf,hx s2 h6,hy s2 h6,h1,h2]⟩;cases h
  cases hp
 |_=>simp only[O0,ag]at hp;cases hp
def C0u{s2:St Ty den}(h:Sees o s s2):O3 E o s2=O3 E o s:=by
 cases ag:o.op with
 |indexAddr t x i=>simp only[O3,ag,h.opl (E:=E) (x:=x) (by simp[ag,Aab])]
 |slice t x lo hi mx=>simp only[O3,ag,h.opl (E:=E) (x:=x) (by simp[ag,Aab])]
 |call c=>
  simp only[O3,ag];cases az:c.callee with
  |builtin b=>
   cases b<;>try rfl
   dsimp only;split;rename_i t x ht hx;rw[h.opl (E:=E) (x:=x) (by simp[ag,Aab,Aao,az,hx])];rfl
  |value x=>cases x<;>rfl
  |_=>rfl
 |_=>simp only[O3,ag]
def D4n(hp:O0 E o=Z)(eh:O4 o=V)(om:∀c f,o.op=.call c->c.callee≠ .value (.func f))(eJ:O3 E o s=Z){k1:Ent Ty den->Option R}(h:H3 E o s (λe s'=>bif Aaa (O7 s'.live) (O7 s.live)then k1 e else O)=J r):
  ∃e,k1 e=J r/\∀s2:St Ty den,Sees o s s2->H3 E o s2 (λe s'=>J (e,s'))=J (e,s2):=by
 have aX:∀{x:Aaf},x∈o.op.operands.toList->∀s2:St Ty den,Sees o s s2->∀ty,opl E s2 ty x=opl E s ty x:=λhx s2 h2 ty=>h2.opl hx ty;cases ag:o.op with
 |assign x=>
  simp only[O4,ag]at eh;simp only[O3,ag,Fn]at eJ;rw[eJ.1]at eh;cases eh
 |build t ps=>
  simp only[O0,ag]at hp;simp only[O3,ag]at eJ;rw[eJ]at hp;cases hp
 |buildSlice t n ps=>simp only[O4,ag]at eh;cases eh
 |indexAddr t x i=>
  simp only[H3,ag]at h;split at h;rename_i h1 h2 h3;obtain⟨hc,h⟩:=A5 h;exact⟨_,(H1 h).2,λs2 h6=>by simp only[H3,ag,aX (x:=x) (by simp[ag,Aab]) s2 h6,aX (x:=i) (by simp[ag,Aab]) s2 h6,h1,h2,h3,hc,GD]⟩;cases h
 |load t x=>
  simp only[H3,ag]at h;split at h;rename_i h1 h2;split at h;rename_i hb;obtain⟨hc,h⟩:=A5 h;exact⟨_,(H1 h).2,λs2 h6=>by simp only[H3,ag,aX (x:=x) (by simp[ag,Aab]) s2 h6,h1,h2,h6.bx _ _ hb,hc,GD]⟩;cases h;cases h
 |slice t x lo hi mx=>
  match lo,hi,mx,ag with
  |none,J y,O,ag=>
   simp only[H3,ag]at h;split at h;rename_i h1 h2 h3;obtain⟨hc,h⟩:=A5 h;exact⟨_,(H1 h).2,λs2 h6=>by simp only[H3,ag,aX (x:=x) (by simp[ag,Aab]) s2 h6,aX (x:=y) (by simp[ag,Aab]) s2 h6,h1,h2,h3,hc,GD]⟩;cases h
  |some _,_,_,ag=>simp only[H3,ag]at h;cases h
  |none,O,_,ag=>simp only[H3,ag]at h;cases h
  |none,J _,J _,ag=>simp only[H3,ag]at h;cases h
 |call c=>
  simp only[H3,ag]at h;split at h;rename_i t x az er aC;split at h;rename_i h1 h2;exact⟨_,(H1 h).2,λs2 h6=>by simp only[H3,ag,az,er,aC,aX (x:=x) (by simp[ag,Aab,Aao,az,aC]) s2 h6,h1,h2]⟩;rename_i h1 h2;exact⟨_,(H1 h).2,λs2 h6=>by simp only[H3,ag,az,er,aC,aX (x:=x) (by simp[ag,Aab,Aao,az,aC]) s2 h6,h1,h2]⟩;cases h;rename_i az _ _;simp only[O0,ag,az]at hp;cases hp;rename_i az;exact absurd az (om c _ ag);cases h
 |_=>simp only[H3,ag]at h;cases h
def D0C(hp:O0 E o=Z)(eh:O4 o=V)(om:∀c f,o.op=.call c->c.callee≠ .value (.func f)){k1:Ent Ty den->Option R}(h:K6 E o s (λe s'=>bif Aaa (O7 s'.live) (O7 s.live)then k1 e else O)=J r):
  ∃e,k1 e=J r/\∀s2:St Ty den,Sees o s s2->K6 E o s2 (λe s'=>J (e,s'))=J (e,s2):=by
 unfold K6 at h;cases hc:E.rw&&O3 E o s with
 |false=>
  rw[hc]at h;obtain⟨e,h1,h2⟩:=C7f hp eh om h;exact⟨e,h1,λs2 h3=>by unfold K6;rw[C0u h3,hc];exact h2 s2 h3⟩
 |true=>
  rw[hc]at h;obtain⟨e,h1,h2⟩:=D4n hp eh om (by rw[Fn]at hc;exact hc.2) h;exact⟨e,h1,λs2 h3=>by unfold K6;rw[C0u h3,hc];exact h2 s2 h3⟩
def C1A(E:Env Ty den)(o:Oper)(s2:St Ty den)(e:Ent Ty den):Prop:=
 K6 E o s2 (λe s'=>J (e,s'))=J (e,s2)\/
  (O4 o=Z/\∃(u:Ty)(xs:List (den u)),e=.one (.sl u xs O)/\A6 E o s2 (λe s'=>J (e,s'))=J (.one (.sl u xs (J (B8 o.dst))),s2.fresh (B8 o.dst)))\/
  ∃c f,o.op=.call c/\c.callee=.value (.func f)/\Po E f c.argTypes.toList c.args.toList s2=J e
def C29{s2:St Ty den}(h:Sees o s s2):∀(ds:Gv)(cs:List (List (Leaf Ty den))),Me s ds=J cs->Me s2 ds=J cs
 |[],cs,hc=>hc
 |d::ds,cs,hc=>by
  simp only[Me]at hc;split at hc;rename_i ls iG h1 h2;simp only[Me,h.bx d ls h1,C29 h ds iG h2];exact hc;cases hc
def D0Y{c:Call}{f:Aah}{e:Ent Ty den}(ag:o.op=.call c){s2:St Ty den}(h:Sees o s s2)(he:Po E f c.argTypes.toList c.args.toList s=J e):Po E f c.argTypes.toList c.args.toList s2=J e:=by
 have aC:O2 E s2 c.argTypes.toList c.args.toList=O2 E s c.argTypes.toList c.args.toList:=h.args ag _ _ (λx hx=>hx);unfold Po at he ⊢;dsimp only at he ⊢;rw[aC];split at he;exact he;rename_i ps lE;split at he;rename_i ds jL;obtain⟨hn,he⟩:=A5 he;rw[hn,GD];split at he;rename_i cs cN;rw[C29 h ds cs cN];exact he;cases he;cases he
def C0j{s2:St Ty den}(h:Sees o s s2)(ty:Aad):∀(ps:List (Nat×Aaf))(i:Nat),(∀p∈ps,p.2∈o.op.operands.toList)->OC E s2 ty i ps=OC E s ty i ps
 |[],i,_=>rfl
 |(j,x)::ps,i,dj=>by
  simp only[OC];rw[C0j h ty ps (i+1) (λp hp=>dj p (by simp[hp])),h.opl (dj (j,x) GN)]
def C1W{s2:St Ty den}(h:Sees o s s2)(e:Aad)(u:Ty):∀(ps:List (Nat×Aaf))(i:Nat),(∀p∈ps,p.2∈o.op.operands.toList)->Pp E e u s2 i ps=Pp E e u s i ps
 |[],i,_=>rfl
 |(j,x)::ps,i,dj=>by
  simp only[Pp,B25];rw[C1W h e u ps (i+1) (λp hp=>dj p (by simp[hp])),h.opl (dj (j,x) GN)]
def D4S(hp:O0 E o=Z){k1:Ent Ty den->Option R}(h:Pt E o s k1=J r):
  ∃e,k1 e=J r/\∀s2:St Ty den,Sees o s s2->C1A E o s2 e:=by
 by_cases hb:∃t n ps,o.op=.buildSlice t n ps;obtain⟨t,n,ps,ag⟩:=hb;have lO:O4 o=Z:=by simp only[O4,ag]
 simp only[Pt,ag,A6]at h;split at h;rename_i u e fH;split at h;rename_i u2 pW;split at h;rename_i xs jQ;obtain⟨hg,h⟩:=A5 h;refine⟨_,h,λs2 h2=>.inr (.inl ⟨lO,u,xs,rfl,?_⟩)⟩;have h3:=C1W (E:=E) h2 e u ps.toList 0 (λp hp=>by rw[ag];simp only[Aab];simp;exact⟨p.1,by simpa using hp⟩);simp only[A6,ag,fH,pW,h3,jQ,hg,GD];cases h;rename_i pW;split at h;rename_i ls bu;split at h;rename_i xs jQ;obtain⟨hg,h⟩:=A5 h;refine⟨_,h,λs2 h2=>.inr (.inl ⟨lO,u,xs,rfl,?_⟩)⟩;have h3:=C0j (E:=E) h2 e ps.toList 0 (λp hp=>by rw[ag];simp only[Aab];simp;exact⟨p.1,by simpa using hp⟩);simp only[A6,ag,fH,h3,bu,jQ,hg,GD];cases h;cases h;cases h;by_cases fc:∃x,o.op=.assign x/\X3 x=Z;obtain⟨x,ag,bJ⟩:=fc;simp only[Pt,ag,bJ,GD]at h;split at h;rename_i u l own hl;refine⟨_,h,λs2 h2=>.inr (.inl ⟨by simp only[O4,ag,bJ],u,l,rfl,?_⟩)⟩;simp only[A6,ag,bJ,GD,h2.opl (E:=E) (x:=x) (by simp[ag,Aab]),hl];cases h;by_cases zW:∃c f,o.op=.call c/\c.callee=.value (.func f);obtain⟨c,f,ag,az⟩:=zW;simp only[Pt,ag,az]at h;obtain⟨e,he,h⟩:=C1R E h;exact⟨e,h,λs2 h2=>.inr (.inr ⟨c,f,ag,az,D0Y ag h2 he⟩)⟩;have eh:O4 o=V:=by
  unfold O4;split;rename_i t n ps ag;exact absurd ⟨t,n,ps,ag⟩ hb;rename_i x ag;cases hn:X3 x with
  |false=>rfl
  |true=>exact absurd ⟨x,ag,hn⟩ fc
  rfl
 have om:∀c f,o.op=.call c->c.callee≠ .value (.func f):=λc f h1 h2=>zW ⟨c,f,h1,h2⟩;have h':K6 E o s (λe s'=>bif Aaa (O7 s'.live) (O7 s.live)then k1 e else O)=J r:=by
  unfold Pt at h;split at h;rename_i eT;simp only[O4,eT]at eh;cases eh;rename_i x eT;have:X3 x=V:=by simpa only[O4,eT]using eh
  rw[this]at h;exact h;rename_i c eT;split at h;rename_i f az;exact absurd az (om _ _ eT);exact h;exact h
 obtain⟨e,h1,h2⟩:=D0C hp eh om h';exact⟨e,h1,λs2 h3=>.inl (h2 s2 h3)⟩
def D1u(d:Nat)(e:Ent Ty den)(h:e.has d=V):e.strip d=e:=by
 have hl:∀l:Leaf Ty den,l.has d=V->l.strip d=l:=by
  intro l hl;cases l with
  |sl t x o=>
   cases o with
   |none=>rfl
   |some c=>simp only[Leaf.has]at hl;simp only[Leaf.strip,hl,GF]
  |ptr e o=>simp only[Leaf.has]at hl;simp only[Leaf.strip,hl,GF]
  |_=>rfl
 cases e with
 |one l=>simp only[Ent.strip,hl l h]
 |tup ls=>
  simp only[Ent.strip];congr 1;simp only[Ent.has,JM]at h
  conv=>rhs;rw[<-JX ls]
  exact IW λl hm=>hl l (by simpa using h l hm)
 |iter c p=>rfl
 |st ls=>
  simp only[Ent.strip];congr 1;simp only[Ent.has,JM]at h
  conv=>rhs;rw[<-JX ls]
  exact IW λl hm=>hl l (by simpa using h l hm)
 |bx d' ls=>
  simp only[Ent.has]at h;simp only[Ent.strip];cases hb:Aaa d' d with
  |true=>rw[hb]at h;cases h
  |false=>
   rw[hb]at h;simp only[GF,JM]at h ⊢;congr 1
   conv=>rhs;rw[<-JX ls]
   exact IW λl hm=>hl l (by simpa using h l hm)
def B5I(d:Nat):∀(fr:List (Nat×Ent Ty den)),Lk d fr=V->∀i,(look fr i).strip d=look fr i
 |[],_,i=>rfl
 |(j,e)::r,h,i=>by
  simp only[Lk]at h;cases he:e.has d with
  |true=>rw[he]at h;cases h
  |false=>
   rw[he]at h;simp only[look];cases Aaa j i with
   |true=>exact D1u d e he
   |false=>exact B5I d r h i
def B1T{s:St Ty den}:∀{os:List Oper},OE s os=Z->∀o∈os,O4 o=Z->∀i,(s.get i).strip (B8 o.dst)=s.get i
 |[],_,o,ho=>by cases ho
 |x::os,h,o,ho=>by
  intro lO i;simp only[OE]at h;rcases HC.1 ho with rfl|ho;rw[lO]at h;simp only[GD,Fn,Hs]at h;exact B5I _ _ h.1 i;cases hx:O4 x with
  |true=>rw[hx]at h;simp only[GD,Fn]at h;exact B1T h.2 o ho lO i
  |false=>rw[hx]at h;exact B1T h o ho lO i
def D2S(fr:List (Nat×Ent Ty den))(ds:Gv)(i:Nat):look (del fr ds) i=bif mem i ds then .one .any else look fr i:=by
 induction fr with
 |nil=>simp only[del,look];cases mem i ds<;>rfl
 |cons p fr ih=>
  obtain⟨j,x⟩:=p;simp only[del,look];cases hj:mem j ds with
  |true=>
   simp only[GD];rw[ih];cases hb:Aaa j i with
   |true=>
    have:=HZ hb;subst this;rw[hj];rfl
   |false=>rfl
  |false=>
   simp only[GF,look];cases hb:Aaa j i with
   |true=>
    have:=HZ hb;subst this;rw[hj];rfl
   |false=>simp only[GF];exact ih
def Y9(s:St Ty den)(ds:Gv)(i:Nat):(s.dels ds).get i=bif mem i ds then .one .any else s.get i:=D2S s.fr ds i
def R8(s:St Ty den)(d:GA)(e:Ent Ty den)(i:Nat):(s.setO d e).get i=if d=J i then e else s.get i:=by
 cases d with
 |none=>rfl
 |some j=>simp only[St.setO,F2,GX]
def Gd(ops:Array Oper)(s:St Ty den)(o:Oper)(w:Bool):Prop:=
 match o.guard with
 |none=>w=Z
 |some (j,aS)=>∃g,(ops[j]?).bind (·.dst)=J g/\((∃b,s.get g=.one (.bool b)/\w=(b==aS))\/(w=V/\∃v,s.get g=.one (.val v)/\Ru v=Z))
structure Ran(E:Env Ty den)(ops:Array Oper)(s:St Ty den)(o:Oper):Prop where
 dst:okd E.np E.nt o.dst=Z
 ran:(M8 o.op=V/\((Gd ops s o Z/\∃e,(∀d,o.dst=J d->s.get d=e)/\∀s2:St Ty den,Sees o s s2->C1A E o s2 e)\/
  (Gd ops s o V/\∀d,o.dst=J d->s.get d=.one (.val undef))))\/(M8 o.op=Z/\o.guard=O)
def YO(h:O0 E o=Z):M8 o.op=V:=by
 unfold O0 at h;unfold M8;split;rename_i t he;rw[he]at h;cases h;rfl
def D1:List Oper->Gv
 |[]=>[]
 |o::r=>match o.dst with
  |some d=>d::D1 r
  |none=>D1 r
def B55(ops:Array Oper):List Oper->Prop
 |[]=>True
 |o::r=>(∀t∈o.looksAt ops,mem t (D1 (o::r))=V)/\(∀d,o.dst=J d->mem d (D1 r)=V)/\B55 ops r
def D41{s:St Ty den}{d:GA}{e:Ent Ty den}{i:Nat}(h:d≠J i):(s.setO d e).get i=s.get i:=by rw[R8,GI h]
def YP{o:Oper}{r:List Oper}{d:Nat}(h:o.dst=J d):mem d (D1 (o::r))=Z:=by
 simp only[D1,h,mem,G4,GD]
def YQ{o:Oper}{r:List Oper}{d:Nat}(h:mem d (D1 r)=Z):mem d (D1 (o::r))=Z:=by
 simp only[D1];cases o.dst with
 |none=>exact h
 |some e=>simp only[mem];cases Aaa e d<;>simp[h]
def Lq(s:St Ty den)(d:GA)(e:Ent Ty den):(s.setO d e).live=s.live:=by cases d<;>rfl
def C1h{ops:Array Oper}{o:Oper}{t:Nat}(h:Abp t∈o.op.operands.toList):t∈o.looksAt ops:=
 JC _ (List.mem_filterMap.2 ⟨.tmp t,h,rfl⟩)
def C4L{ops:Array Oper}{o:Oper}{j g:Nat}{aS:Bool}(hg:o.guard=J (j,aS))(hd:(ops[j]?).bind (·.dst)=J g):g∈o.looksAt ops:=
 JT _ (by simp[hg,hd])
def B89{os:List Oper}{i:Nat}(h:mem i (D1 os)=Z):∃o∈os,o.dst=J i:=by
 induction os with
 |nil=>cases h
 |cons o os ih=>
  simp only[D1]at h;split at h;rename_i d hd;rw[mem_cons]at h;rcases h with rfl|h;exact⟨o,GN,hd⟩;obtain⟨x,hx,mB⟩:=ih h;exact⟨x,by simp[hx],mB⟩;obtain⟨x,hx,mB⟩:=ih h;exact⟨x,by simp[hx],mB⟩
def B11{s s2:St Ty den}{d:Nat}(h:s2.get (bxi d)=s.get (bxi d)):J1 s2 d=J1 s d:=by unfold J1;rw[h]
def B8f(ops:Array Oper){eM:List Oper}(iY:eM=ops.toList.take (L7 E ops.toList))(mC:∀o∈eM,Ll E o=Z)(bv:∀o∈eM,∀d,o.dst=J d->d<1000000):∀(os:List Oper)(s:St Ty den)(k:St Ty den->Option R),(∀o∈os,o∈eM)->B55 ops os->X0 E ops os s k=J r->
  ∃sF:St Ty den,(k sF=J r/\OE sF eM=Z)/\sF.live=s.live/\(∀i,mem i (D1 os)=V->sF.get i=s.get i)/\∀o∈os,Ran E ops sF o
 |[],s,k,_,_,h=>by
  simp only[X0]at h;obtain⟨hn,h⟩:=A5 h;exact⟨s,⟨h,by rw[iY];exact hn⟩,rfl,λ_ _=>rfl,λ_ ho=>by(cases ho)⟩
 |o::os,s,k,dj,⟨jm,jW,oo⟩,h=>by
  simp only[X0]at h;obtain⟨hd,h⟩:=A5 h;have mD:=λ(s1:St Ty den)(h1:X0 E ops os s1 k=J r)=>B8f ops iY mC bv os s1 k (λx hx=>dj x (by simp[hx])) oo h1;have qA:∀(s1 sF:St Ty den)(e:Ent Ty den),s1.live=s.live->(∀i,s1.get i=s.get i)->sF.live=(s1.setO o.dst e).live->(∀i,mem i (D1 os)=V->sF.get i=(s1.setO o.dst e).get i)->
    sF.live=s.live/\(∀i,mem i (D1 (o::os))=V->sF.get i=s.get i)/\(∀d,o.dst=J d->sF.get d=e):=by
   intro s1 sF e hl hg Cp zX;refine⟨by rw[Cp,Lq,hl],λi hi=>?_,λd ek=>?_⟩;have h1:mem i (D1 os)=V:=by
    cases h2:mem i (D1 os)with
    |false=>rfl
    |true=>rw[YQ h2]at hi;cases hi
   have h2:o.dst≠J i:=λhe=>by rw[YP he]at hi;cases hi
   rw[zX i h1,D41 h2,hg];rw[zX d (jW d ek),R8,GJ ek]
  have wU:∀{sF:St Ty den},sF.live=s.live->(∀i,mem i (D1 (o::os))=V->sF.get i=s.get i)->∀s2,Sees o sF s2->Sees o s s2:=λhl hg s2 h2=>
   ⟨λt ht=>(h2.tmp t ht).trans (hg t (jm t (C1h ht))),λd ls bu=>h2.bx d ls ((B11 (hg (bxi d) (by
    cases hm:mem (bxi d) (D1 (o::os))with
    |false=>rfl
    |true=>
     obtain⟨x,hx,mB⟩:=B89 hm;have:=bv x (dj x hx) _ mB;exact absurd this (by show¬((1000000+d:Nat)<1000000);omega)))).trans bu)⟩
  have dm:∀(s1:St Ty den),s1.live=s.live->(∀i,s1.get i=s.get i)->O0 E o=Z->Pt E o s (λe=>X0 E ops os (s1.setO o.dst e) k)=J r->(∀sF:St Ty den,sF.live=s.live->(∀i,mem i (D1 (o::os))=V->sF.get i=s.get i)->Gd ops sF o Z)->
    ∃sF:St Ty den,(k sF=J r/\OE sF eM=Z)/\sF.live=s.live/\(∀i,mem i (D1 (o::os))=V->sF.get i=s.get i)/\∀x∈o::os,Ran E ops sF x:=by
   intro s1 hl hg nC he lK;obtain⟨e,hk,fG⟩:=D4S nC (k1:=λe=>X0 E ops os (s1.setO o.dst e) k) he;obtain⟨sF,h1,h2,h3,h4⟩:=mD _ hk;obtain⟨b1,b2,b3⟩:=qA s1 sF e hl hg h2 h3;refine⟨sF,h1,b1,b2,λx hx=>?_⟩;rcases HC.1 hx with rfl|hx;exact⟨hd,.inl ⟨YO nC,.inl ⟨lK sF b1 b2,e,b3,λs2 h5=>fG s2 (wU b1 b2 s2 h5)⟩⟩⟩;exact h4 x hx
  have skip:∀(s1:St Ty den),s1.live=s.live->(∀i,s1.get i=s.get i)->O0 E o=Z->X0 E ops os (s1.setO o.dst (.one (.val undef))) k=J r->(∀sF:St Ty den,sF.live=s.live->(∀i,mem i (D1 (o::os))=V->sF.get i=s.get i)->Gd ops sF o V)->
    ∃sF:St Ty den,(k sF=J r/\OE sF eM=Z)/\sF.live=s.live/\(∀i,mem i (D1 (o::os))=V->sF.get i=s.get i)/\∀x∈o::os,Ran E ops sF x:=by
   intro s1 hl hg nC he lK;obtain⟨sF,h1,h2,h3,h4⟩:=mD _ he;obtain⟨b1,b2,b3⟩:=qA s1 sF _ hl hg h2 h3;refine⟨sF,h1,b1,b2,λx hx=>?_⟩;rcases HC.1 hx with rfl|hx;exact⟨hd,.inl ⟨YO nC,.inr ⟨lK sF b1 b2,b3⟩⟩⟩;exact h4 x hx
  cases hg:o.guard with
  |none=>
   rw[hg]at h;dsimp only at h;have eD:=mC o (dj o GN);cases fW:M8 o.op with
   |true=>
    rw[fW]at h;obtain⟨sF,h1,h2,h3,h4⟩:=mD _ h;obtain⟨b1,b2,b3⟩:=qA s sF _ rfl (λ_=>rfl) h2 h3;refine⟨sF,h1,b1,b2,λx hx=>?_⟩;rcases HC.1 hx with rfl|hx;exact⟨hd,.inr ⟨fW,hg⟩⟩;exact h4 x hx
   |false=>
    rw[fW]at h;have nC:O0 E o=Z:=by simpa [Ll,Ux,fW]using eD
    exact dm s rfl (λ_=>rfl) nC h (λsF _ _=>by simp[Gd,hg])
  |some jw=>
   obtain⟨j,aS⟩:=jw;rw[hg]at h;dsimp only at h;cases hj:(ops[j]?).bind (·.dst)with
   |none=>rw[hj]at h;cases h
   |some gd=>
    rw[hj]at h;dsimp only at h;have fX:=jm gd (C4L hg hj);have nC:O0 E o=Z:=by
     have:=mC o (dj o GN);simpa [Ll,Ux,hg]using this
    split at h;rename_i b ol;have cX:∀c:Bool,b=c->∀i,(s.set gd (.one (.bool c))).get i=s.get i:=λc hc i=>by
     rw[F2];split;rename_i he;subst he;rw[ol,hc];rfl
    cases jq:(b==aS)with
    |true=>
     rw[jq]at h;exact dm _ GR (cX aS (by simpa using jq)) nC h (λsF _ tp=>by
      simp only[Gd,hg];exact⟨gd,hj,.inl ⟨b,by rw[tp gd fX,ol],jq.symm⟩⟩)
    |false=>
     rw[jq]at h;exact skip _ GR (cX _ (by cases b<;>cases aS<;>simp_all)) nC h (λsF _ tp=>by
      simp only[Gd,hg];exact⟨gd,hj,.inl ⟨b,by rw[tp gd fX,ol],jq.symm⟩⟩)
    rename_i v tn;obtain⟨eh,h⟩:=A5 h;exact skip s rfl (λ_=>rfl) nC h (λsF _ tp=>by
      simp only[Gd,hg];exact⟨gd,hj,.inr ⟨trivial,v,by rw[tp gd fX,tn],eh⟩⟩)
    cases h
def H5(listed:Array Bool):List (Nat×Nat)->Gv
 |[]=>[]
 |(d,j)::r=>bif listed.getD j V then H5 listed r else d::H5 listed r
def Lr{listed:Array Bool}{t:Nat}:∀{ps:List (Nat×Nat)},mem t (H5 listed ps)=Z↔∃j,(t,j)∈ps/\listed.getD j V=V
 |[]=>by simp[H5,mem]
 |(d,j)::r=>by
  simp only[H5];have ih:=Lr (listed:=listed) (t:=t) (ps:=r);cases hl:listed.getD j V with
  |true=>
   simp only[GD,ih,HC,He];constructor;rintro⟨m,h1,h2⟩;exact⟨m,.inr h1,h2⟩;rintro⟨m,h1|h1,h2⟩;rw[h1.2,hl]at h2;cases h2;exact⟨m,h1,h2⟩
  |false=>
   simp only[GF,mem_cons,ih,HC,He];constructor;rintro(h1|⟨m,h1,h2⟩);exact⟨j,.inl ⟨by rw[h1],rfl⟩,hl⟩;exact⟨m,.inr h1,h2⟩;rintro⟨m,h1|h1,h2⟩;exact .inl (by rw[h1.1]);exact .inr ⟨m,h1,h2⟩
def OJ{d j:Nat}:∀{os:List Oper}{i:Nat},(d,j)∈D8 i os↔i<=j/\∃o,os[j - i]?=J o/\o.dst=J d
 |[],i=>by simp[D8]
 |o::os,i=>by
  have ih:=OJ (d:=d) (j:=j) (os:=os) (i:=i+1);have qB:(i<=j/\∃x,(o::os)[j - i]?=J x/\x.dst=J d)↔((j=i/\o.dst=J d)\/(i+1<=j/\∃x,os[j - (i+1)]?=J x/\x.dst=J d)):=by
   rcases JJ j i with h|h|h;constructor;rintro⟨h1,_⟩;omega;rintro(⟨h1,_⟩|⟨h1,_⟩)<;>omega;subst h;simp;intro h;omega;have e:j - i=(j - (i+1))+1:=FK;rw[e];simp only[Iu];constructor;rintro⟨_,h2⟩;exact .inr ⟨h,h2⟩;rintro(⟨h1,_⟩|⟨_,h2⟩);omega;exact⟨FK,h2⟩
  rw[qB];cases hd:o.dst with
  |none=>simp only[D8,hd,ih];simp
  |some e=>
   simp only[D8,hd,HC,He,ih,GX];constructor;rintro(⟨h1,h2⟩|h);exact .inl ⟨h2,h1.symm⟩;exact .inr h;rintro(⟨h1,h2⟩|h);exact .inl ⟨h2.symm,h1⟩;exact .inr h
def YR:∀(os:List Oper)(i:Nat),(D8 i os).map (·.1)=D1 os
 |[],i=>rfl
 |o::os,i=>by
  simp only[D8,D1];cases o.dst with
  |none=>exact YR os (i+1)
  |some d=>simp only[IN,YR os (i+1)]
structure YS(E:Env Ty den)(ops:Array Oper)(m:Nat)(i:Nat)(o:Oper):Prop where
 pure:Ll E o=Z
 low:∀t∈o.looksAt ops,t<1000000
 after:∀e∈o.after,e.on<i\/(gcE e=Z/\e.on<m/\∃o',ops[e.on]?=J o'/\∀e'∈o'.after,txE e'=Z)
 bound:∀t∈o.looksAt ops,∀j,(t,j)∈D8 0 (ops.toList.take m)->Rw o j=Z
def B7S{ops:Array Oper}{m:Nat}{ps:List (Nat×Nat)}(gz:ps=D8 0 (ops.toList.take m)):∀{os:List Oper}{i:Nat},VA E ops m ps i os=Z->∀j o,os[j]?=J o->YS E ops m (i+j) o
 |[],i,_,j,o,h=>by simp at h
 |x::os,i,h,0,o,ho=>by
  simp only[VA,Fn]at h;simp only[JR,GX]at ho;subst ho;have h1:=h.1;simp only[C4S,Fn,HM]at h1;obtain⟨h1,h2,h3⟩:=h1;refine⟨h1,λt ht=>by simpa [HU]using (h3 t ht).1,λe he=>?_,λt ht j hj=>?_⟩;have:=h2 e (by simpa using he);simp only[C2E,Hx,Fn,HU]at this;refine this.imp id λh5=>⟨h5.1,h5.2.1,?_⟩;have h6:=h5.2.2;split at h6
  rename_i o' iT;exact⟨o',iT,λe' nW=>HM.1 h6 e' (by simpa using nW)⟩;cases h6;have h4:=(h3 t ht).2 (t,j) (by rw[gz];exact hj);simpa [G4]using h4
 |x::os,i,h,j+1,o,ho=>by
  simp only[VA,Fn]at h;have:=B7S gz h.2 j o (by simpa using ho);rwa [If,KC 1 j]at this
def YT{o:Oper}{j:Nat}(h:Rw o j=Z)(md:Aat):∃e∈o.after,e.on=j/\Aal md e=Z:=by
 unfold Rw at h;obtain⟨e,he,h1⟩:=Hm.1 h;simp only[Fn]at h1;refine⟨e,by simpa using he,HZ h1.1,?_⟩;unfold Aal;have h2:=h1.2;split at h2<;>first|cases h2;done|skip
 split<;>first|rfl|(rename_i h3 _ _ h4;simp_all)
def SQ:∀{l:Gv},S2 l=Z->∀x r,l=x::r->mem x r=V/\S2 r=Z
 |[],_,x,r,h=>by cases h
 |y::l,h,x,r,he=>by
  cases he;simpa [S2]using h
def B4B{ops:Array Oper}{m:Nat}(iJ:∀j o,(ops.toList.take m)[j]?=J o->YS E ops m j o):∀(os:List Oper)(i:Nat),(∀j o,os[j]?=J o->(ops.toList.take m)[i+j]?=J o)->S2 (D1 os)=Z->B55 ops os
 |[],i,_,_=>trivial
 |o::os,i,dj,hn=>by
  have ho:=iJ i o (dj 0 o rfl);refine⟨λt ht=>?_,λd hd=>?_,B4B iJ os (i+1) (λj x hx=>by have:=dj (j+1) x (by simpa using hx);rwa [<-If,Nat.add_right_comm]at this) ?_⟩;cases hm:mem t (D1 (o::os))with
  |false=>rfl
  |true=>
   exfalso;have gW:∀(l:List Oper),mem t (D1 l)=Z->∃(j:Nat)(x:Oper),l[j]?=J x/\x.dst=J t:=by
    intro l
    induction l with
    |nil=>intro h;simp[D1,mem]at h
    |cons y l ih=>
     intro h;simp only[D1]at h;cases hy:y.dst with
     |none=>rw[hy]at h;obtain⟨j,x,h1,h2⟩:=ih h;exact⟨j+1,x,by simpa using h1,h2⟩
     |some d=>
      rw[hy]at h;rcases (mem_cons _ _ _).1 h with h1|h1;exact⟨0,y,rfl,by rw[hy,h1]⟩;obtain⟨j,x,h2,h3⟩:=ih h1;exact⟨j+1,x,by simpa using h2,h3⟩
   obtain⟨j,x,hx,mB⟩:=gW _ hm;have h1:=dj j x hx;have h2:=ho.bound t ht (i+j) (OJ.2 ⟨HH _,x,by(rw[JE];exact h1),mB⟩);obtain⟨e,he,iB,hb⟩:=YT h2 .any;rcases ho.after e he with h3|⟨h3,_⟩;omega;unfold gcE at h3;unfold Aal at hb;split at h3;rename_i eT;rw[eT]at hb;cases hb;cases h3
  simp only[D1,hd]at hn;exact(SQ hn _ _ rfl).1;simp only[D1]at hn;cases hd:o.dst with
  |none=>rw[hd]at hn;exact hn
  |some d=>rw[hd]at hn;exact(SQ hn _ _ rfl).2
def B36{l:List Bool}:∀{i:Nat},l[i]?=J V->(l.set i Z).count V+1=l.count V:=by
 induction l with
 |nil=>intro i h;simp at h
 |cons x l ih=>
  intro i h;cases i with
  |zero=>simp at h;subst h;simp
  |succ i=>
   have:=ih (i:=i) (by simpa using h);simp only[KX,List.count_cons];omega
def B1a{ops:Array Oper}{o:Oper}{s:St Ty den}{gh:Gh}(hr:Rel E.U B gh s a w){b:Bool}(hg:Gd ops s o b):Aak o (Aam ops a.tmps)=b:=by
 unfold Gd at hg;unfold Aak;cases ho:o.guard with
 |none=>rw[ho]at hg;exact hg.symm
 |some jw=>
  obtain⟨j,aS⟩:=jw;rw[ho]at hg;dsimp only at hg ⊢;obtain⟨gd,hj,hc⟩:=hg;have aK:=hr.ent gd;unfold Aam;rw[hj];simp only[Abo];rcases hc with⟨c,hc,rfl⟩|⟨rfl,v,hv,eh⟩;rw[hc]at aK;have bW:a.tmps.getD gd undef=.bool c:=CRep.bool_inv aK.1;rw[HE]at bW;cases kU:a.tmps[gd]? with
  |none=>rw[kU]at bW;cases bW
  |some u=>
   rw[kU]at bW;simp at bW;subst bW;cases c<;>cases aS<;>rfl
  ·rw[hv]at aK;have bW:a.tmps.getD gd undef=v:=by
    have h1:=aK.1;cases h1;rfl
   rw[HE]at bW;cases kU:a.tmps[gd]? with
   |none=>rfl
   |some u=>
    rw[kU]at bW;simp at bW;subst bW;cases u<;>first|rfl|(simp[Ru]at eh;done)|(cases aS<;>rfl)
def REL.unname{U:UO Ty den}{s:St Ty den}{d:GA}{nm:Nat}{u:Ty}{xs:List (den u)}{a:Act}{w:World}(h:REL U B ((s.fresh nm).setO d (.one (.sl u xs (J nm)))) a w)(eu:∀i,(s.get i).strip nm=s.get i):
  REL U B (s.setO d (.one (.sl u xs O))) a w:=by
 obtain⟨g,h⟩:=h;have hg:∀i,d≠J i->((s.fresh nm).setO d (.one (.sl u xs (J nm)))).get i=s.get i:=λi hi=>by
  rw[R8,GI hi,Py,eu]
 have aD:∀e,mem e (s.setO d (.one (.sl u xs O))).live=Z->mem e ((s.fresh nm).setO d (.one (.sl u xs (J nm)))).live=Z:=λe he=>by
  rw[Lq]at he ⊢;show mem e (nm::rem nm s.live)=Z;by_cases aP:nm=e;exact(mem_cons _ _ _).2 (.inl aP);exact(mem_cons _ _ _).2 (.inr ((K7 nm e s.live).2 ⟨he,λh=>aP h.symm⟩))
 refine⟨g,{h with ent:=λi=>?_,tip:=λe he=>h.tip e (aD e he),disj:=λe f b he hf=>h.disj e f b (aD e he) (aD f hf),mine:=λe b he=>h.mine e b (aD e he),iter:=λi c pos hc=>?_,idis:=λi j c p c' p' cJ h1 h2=>?_,bxl:=λi e ls hc=>?_}⟩;have h1:=h.ent i;by_cases hi:d=J i;rw[R8,GJ hi]at h1 ⊢;exact⟨h1.1.own O,λ_ _ _ e=>by(simp at e),λ_ _ e=>by(cases e)⟩;rw[hg i hi]at h1;rw[R8,GI hi];exact h1;by_cases hi:d=J i;rw[R8,GJ hi]at hc;cases hc;rw[R8,GI hi]at hc;exact h.iter i c pos (by rw[hg i hi];exact hc);by_cases hi:d=J i;rw[R8,GJ hi]at h1;cases h1;by_cases hj:d=J j;rw[R8,GJ hj]at h2;cases h2;rw[R8,GI hi]at h1;rw[R8,GI hj]at h2;exact h.idis i j c p c' p' cJ (by rw[hg i hi];exact h1) (by rw[hg j hj];exact h2);by_cases hi:d=J i;rw[R8,GJ hi]at hc;cases hc;rw[R8,GI hi]at hc;obtain⟨h1,h2⟩:=h.bxl i e ls (by rw[hg i hi];exact hc);refine⟨?_,h2⟩;rw[Lq]at h1 ⊢;rcases (mem_cons _ _ _).1 h1 with h3|h3;exfalso;have:=eu i;rw[hc, <-h3]at this;simp only[Ent.strip,G4,GD]at this;cases this;exact((K7 nm e s.live).1 h3).1
def OK{i:Nat}{zs:List (Leaf Ty den)}{s:St Ty den}(j:Nat):(S5 i zs s).get j=if i=j then .one (.ptr (B8 (J i)) 0)else if bxi (B8 (J i))=j then .bx (B8 (J i)) zs else(s.get j).strip (B8 (J i)):=by
 unfold S5;rw[F2,F2,Py]
structure D6N(P:Aae)(E:Env Ty den)(ops:Array Oper)(m:Nat)(sF:St Ty den)(ia i:Nat)(t:Aad)(zs:List (Leaf Ty den)):Prop where
 op:∃o,ops.toList[ia]?=J o/\o.op=.alloc t/\o.dst=J i/\o.guard=O
 lt:ia<m
 zr:E.zr t=J zs
 pos:0<zs.length
 oz:E.oz i=V
 closed:Md zs=Z
 no:∀j,(sF.get j).strip (B8 (J i))=sF.get j
 low:i<1000000
 one:∀j o,j<m->ops.toList[j]?=J o->M8 o.op=Z->j=ia
 look:∀j o,j<m->ops.toList[j]?=J o->mem i (o.looksAt ops)=V
def stL(al:Option (Nat×Nat×List (Leaf Ty den)))(listed:Array Bool)(X:St Ty den):St Ty den:=match al with
 |none=>X
 |some (ia,i,zs)=>bif listed.getD ia V then S5 i zs X else X
def C4d(P:Aae)(E:Env Ty den)(ops:Array Oper)(m:Nat)(sF:St Ty den)(al:Option (Nat×Nat×List (Leaf Ty den))):Prop:=match al with
 |none=>∀j o,j<m->ops.toList[j]?=J o->M8 o.op=V
 |some (ia,i,zs)=>∃t,D6N P E ops m sF ia i t zs
def D1C{e:Edge}(h:B1K e=Z)(md:Aat):Aal md e=Z:=by
 unfold B1K at h;unfold Aal;split at h<;>first|cases h;done|skip
 split<;>first|rfl|(rename_i h3 _ _ h4;simp_all)
def DC(md:Aat)(ops:Array Oper)(listed:Array Bool):Prop:=∀i o,listed.getD i V=Z->ops[i]?=J o->∀e∈o.after,Aal md e=Z->listed.getD e.on V=Z
def B5m{md:Aat}{listed:Array Bool}(cl:List Gv)(cE:∀(k:Nat) c,cl[k]?=J c->listed.getD k V=Z->∀j,mem j c=Z->listed.getD j V=Z):
  ∀(es:List Edge),(∀e∈es,Aal md e=Z->listed.getD e.on V=Z)->∀j,mem j (Rx cl es)=Z->listed.getD j V=Z
 |[],_,j,h=>by cases h
 |e::es,he,j,h=>by
  have ih:=B5m cl cE es (λe' h'=>he e' (by simp[h']));simp only[Rx]at h;cases hb:B1K e with
  |false=>rw[hb]at h;exact ih j h
  |true=>
   rw[hb]at h;simp only[GD]at h;have h1:=he e GN (D1C hb md);rcases (mem_cons _ _ _).1 h with rfl|h;exact h1;have qC:∀(x y:Gv),mem j (x++y)=Z->mem j x=Z\/mem j y=Z:=by
    intro x y
    induction x with
    |nil=>exact λh=>.inr h
    |cons z x tq=>
     intro h;rcases (mem_cons _ _ _).1 h with rfl|h;exact .inl ((mem_cons _ _ _).2 (.inl rfl));exact(tq h).imp (λh=>(mem_cons _ _ _).2 (.inr h)) id
   rcases qC _ _ h with h|h;cases hg:cl[e.on]? with
   |none=>rw[HQ,hg]at h;cases h
   |some c=>
    rw[HQ,hg]at h;exact cE e.on c hg h1 j h
   exact ih j h
def C2C{fl l:Gv}:∀{n:Nat},B3q fl n l=Z->∀j,j<n->mem j fl=V->mem j l=Z
 |0,_,j,h,_=>FK
 |n+1,h,j,hj,hf=>by
  simp only[B3q,Fn,Hx]at h;by_cases zY:j=n;subst zY;rcases h.1 with h|h;exact h;rw[hf]at h;cases h;exact C2C h.2 j FK hf
def C1X{md:Aat}{ops:Array Oper}{m:Nat}{fl:Gv}:∀(os:List Oper)(i:Nat)(cl:List Gv),cl.length=i->(∀j o,os[j]?=J o->ops.toList[i+j]?=J o)->B1P fl m i os cl=Z->
  (∀(listed:Array Bool),DC md ops listed->∀(k:Nat) c,cl[k]?=J c->listed.getD k V=Z->∀j,mem j c=Z->listed.getD j V=Z)->
  ∀(k:Nat) o,os[k]?=J o->(∀e∈o.after,e.on<i+k\/e.on<m)/\(m<=i+k->∀listed:Array Bool,DC md ops listed->(∀e∈o.after,Aal md e=Z->listed.getD e.on V=Z)->∀j,j<i+k->mem j fl=V->listed.getD j V=Z)
 |[],i,cl,_,_,_,_,k,o,h=>by simp at h
 |x::os,i,cl,hl,dj,ht,cE,k,o,h=>by
  simp only[B1P,Fn,HM]at ht;obtain⟨h1,h2,h3⟩:=ht;cases k with
  |zero=>
   simp at h;subst h;refine⟨λe he=>by have:=h1 e (by simpa using he);simp only[Hx,Fn,HU]at this;exact this.imp id (·.2),λhm listed mE fW j hj wV=>?_⟩;simp only[Iv]at hm hj;have hb:Aa2 i m=V:=by
    cases hb:Aa2 i m with
    |false=>rfl
    |true=>
     have:i<m:=by simpa [HU]using hb
     omega
   rw[hb]at h2;simp only[Jc]at h2;exact B5m cl (cE listed mE) _ (λe he=>fW e (by simpa using he)) j (C2C h2 j hj wV)
  |succ k=>
   have:=C1X os (i+1) (cl++[Rx cl x.after.toList]) (by simp[hl]) (λj o hj=>by have:=dj (j+1) o (by simpa using hj);rwa [show i+(j+1)=i+1+j from FK]at this) h3 (λlisted mE k' c hc fV j hj=>by
    rw[KK]at hc;split at hc;exact cE listed mE k' c hc fV j hj;rename_i FB;have dK:k'=i:=by
     have:=G7 hc;simp at this;omega
    subst dK;simp[hl]at hc;subst hc;have hx:=dj 0 x rfl;rw[Iv]at hx;have dC:ops[k']?=J x:=by simpa using hx
    exact B5m cl (cE listed mE) _ (λe he hb=>mE k' x fV dC e (by simpa using he) hb) j hj) k o (by simpa using h)
   rw[show i+(k+1)=i+1+k from FK];exact this
def D3x{al:Option (Nat×Nat×List (Leaf Ty den))}{listed:Array Bool}{X Y:St Ty den}(h:X.live=Y.live):(stL al listed X).live=(stL al listed Y).live:=by
 cases al with
 |none=>exact h
 |some p=>
  obtain⟨ia,i,zs⟩:=p;simp only[stL];cases listed.getD ia V with
  |false=>exact h
  |true=>simp only[GD,S5,St.set,St.fresh,h]
def C4s{U:UO Ty den}{al:Option (Nat×Nat×List (Leaf Ty den))}{listed:Array Bool}{X Y:St Ty den}(hr:REL U B (stL al listed X) a w)(hl:X.live=Y.live)(h:∀i,Y.get i=.one .any\/Y.get i=X.get i):REL U B (stL al listed Y) a w:=by
 obtain⟨g,hr⟩:=hr;have ms:=D3x (al:=al) (listed:=listed) hl;refine⟨g,hr.weaken (λj=>?_) (λd hd=>by rw[ms];exact hd) (λ_ d _ _ hd=>by rw[<-ms];exact hd)⟩;cases al with
 |none=>exact h j
 |some p=>
  obtain⟨ia,i,zs⟩:=p;simp only[stL];cases listed.getD ia V with
  |false=>exact h j
  |true=>
   simp only[GD];rw[OK,OK];split;exact .inr rfl;split;exact .inr rfl;rcases h j with h1|h1;left;rw[h1];rfl;right;rw[h1]
def C00{os:List Oper}(hn:S2 (D1 os)=Z):∀{i j d:Nat}{x y:Oper},os[i]?=J x->os[j]?=J y->x.dst=J d->y.dst=J d->i=j:=by
 induction os with
 |nil=>intro i j d x y h;simp at h
 |cons o os ih=>
  have iQ:S2 (D1 os)=Z:=by
   simp only[D1]at hn;cases hd:o.dst with
   |none=>rw[hd]at hn;exact hn
   |some d=>rw[hd]at hn;exact(SQ hn _ _ rfl).2
  have pf:∀d,o.dst=J d->∀(j:Nat) y,os[j]?=J y->y.dst≠J d:=λd hd j y hy qD=>by
   simp only[D1,hd]at hn;have h1:=(SQ hn _ _ rfl).1;have h2:∀(l:List Oper)(j:Nat),l[j]?=J y->mem d (D1 l)=Z:=by
    intro l
    induction l with
    |nil=>intro j h;simp at h
    |cons z l qE=>
     intro j h;cases j with
     |zero=>simp at h;subst h;exact YP qD
     |succ j=>exact YQ (qE j (by simpa using h))
   rw[h2 os j hy]at h1;cases h1
  intro i j d x y hx hy mB qD;cases i with
  |zero=>
   simp at hx;subst hx;cases j with
   |zero=>rfl
   |succ j=>exact absurd qD (pf d mB j y (by simpa using hy))
  |succ i=>
   cases j with
   |zero=>simp at hy;subst hy;exact absurd mB (pf d qD i x (by simpa using hx))
   |succ j=>rw[ih iQ (i:=i) (j:=j) (by simpa using hx) (by simpa using hy) mB qD]
def B9R(hE:U4 P E B){ops:Array Oper}{md:Aat}{Q:Exit->Act->World->Prop}{m:Nat}(hm:m<=ops.size){sF:St Ty den}{al:Option (Nat×Nat×List (Leaf Ty den))}
  (iJ:∀j o,(ops.toList.take m)[j]?=J o->YS E ops m j o)(oq:∀o∈ops.toList.take m,Ran E ops sF o)(eu:OE sF (ops.toList.take m)=Z)(gE:S2 (D1 ops.toList)=Z)
  (bv:∀o∈ops.toList,∀d,o.dst=J d->d<1000000)(fW:C4d P E ops m sF al)
  {fl:Gv}(jT:∀(k:Nat) o,ops.toList[k]?=J o->m<=k->∀listed:Array Bool,DC md ops listed->(∀e∈o.after,Aal md e=Z->listed.getD e.on V=Z)->∀j,j<m->mem j fl=V->listed.getD j V=Z)
  (hT:∀(fuel:Nat)(listed:Array Bool)(a:Act)(w:World),listed.size=ops.size->listed.toList.count V<=fuel->(∀j,listed.getD j V=Z↔j<m)->REL E.U B (stL al listed sF) a w->a.tmps.size=E.nt->wpAny P md ops Q fuel listed a w):
  ∀(fuel:Nat)(listed:Array Bool)(a:Act)(w:World),listed.size=ops.size->listed.toList.count V<=fuel->DC md ops listed->(∀j,listed.getD j V=Z->j<m)->(∀j,j<m->mem j fl=Z->listed.getD j V=Z)->REL E.U B (stL al listed (sF.dels (H5 listed (D8 0 (ops.toList.take m))))) a w->a.tmps.size=E.nt->
   wpAny P md ops Q fuel listed a w:=by
 have aY:∀{i:Nat}{o:Oper},ops[i]?=J o->ops.toList[i]?=J o:=λh=>by simpa using h
 have jX:∀{i:Nat}{o:Oper},i<m->ops[i]?=J o->(ops.toList.take m)[i]?=J o:=λhi h=>by rw[Hn,GJ hi];exact aY h
 have qF:∀{listed:Array Bool}{i:Nat},listed.size=ops.size->i<ops.size->listed.getD i Z=V->listed.getD i V=V/\listed.toList[i]?=J V:=λ{listed i} aw hi h=>by
  have h1:i<listed.size:=FK;rw[HE,Hc h1]at h;simp at h;refine⟨?_,by rw[IA,Hc h1,h]⟩;rw[HE,Hc h1,h];rfl
 have jY:∀{listed:Array Bool}{i:Nat},listed.size=ops.size->i<ops.size->listed.getD i V=V->listed.getD i Z=V:=λ{listed i} aw hi h=>by
  have h1:i<listed.size:=FK;rw[HE,Hc h1]at h ⊢;simpa using h
 intro fuel
 induction fuel with
 |zero=>
  intro listed a w aw fA mE aE eK hr du;refine hT 0 listed a w aw fA (λj=>⟨aE j,λhj=>?_⟩) (C4s hr rfl λi=>?_) du;cases hl:listed.getD j V with
  |true=>rfl
  |false=>
   exfalso;have h2:=(qF aw FK (jY aw FK hl)).2;have:=JF.2 (HI h2);omega
  right;rw[Y9];cases fq:mem i (H5 listed (D8 0 (ops.toList.take m)))with
  |false=>rfl
  |true=>
   obtain⟨j,hj,hl⟩:=Lr.1 fq;obtain⟨_,o,ho,hd⟩:=OJ.1 hj;have nD:j<ops.size:=by
    have:=G7 ho;simp at this;omega
   exfalso;have h2:=(qF aw nD (jY aw nD hl)).2;have:=JF.2 (HI h2);omega
 |succ fuel ih=>
  intro listed a w aw fA mE aE eK hr du;by_cases eU:∀j,j<m->listed.getD j V=Z;refine hT (fuel+1) listed a w aw fA (λj=>⟨aE j,eU j⟩) (C4s hr rfl λi=>?_) du;right;rw[Y9];cases fq:mem i (H5 listed (D8 0 (ops.toList.take m)))with
  |false=>rfl
  |true=>
   obtain⟨j,hj,hl⟩:=Lr.1 fq;obtain⟨_,o,ho,hd⟩:=OJ.1 hj;have wW:j<m:=by
    have:=G7 ho;simp at this;omega
   rw[eU j wW]at hl;cases hl
  ·
   have gW:∃j0,j0<m/\listed.getD j0 V=V:=by
    apply Classical.byContradiction;intro hc;refine eU λj hj=>?_;cases hl:listed.getD j V with
    |true=>rfl
    |false=>exact absurd ⟨j,hj,hl⟩ hc
   obtain⟨j0,pT,dq⟩:=gW;refine⟨λfY=>?_,λi hi=>?_⟩
   ·exfalso;have bm:∀n j,j<=n->j<m->listed.getD j V=Z:=by
     intro n
     induction n using Nat.strongRecOn with
     |_ n Cq=>
      intro j zY wW;cases hl:listed.getD j V with
      |true=>rfl
      |false=>
       exfalso;have nD:j<ops.size:=FK;have dR:j∈Aas md ops listed:=by
        rw[Aax];refine⟨jY aw nD hl,ops[j],Hc nD,λe he p8=>?_⟩;rcases (iJ j ops[j] (jX wW (Hc nD))).after e he with h1|⟨h1,h2,o',h3,h4⟩;exact Cq e.on FK e.on (GU _) FK
        ·cases bw:listed.getD e.on V with
         |true=>rfl
         |false=>
          exfalso;have dR:e.on∈Aas md ops listed:=by
           rw[Aax];refine⟨jY aw FK bw,o',h3,λe' nW bC=>?_⟩;exfalso;have h5:=h4 e' nW;unfold txE at h5;unfold gcE at h1;unfold Aal at p8 bC;split at h5
           ·rename_i eT;rw[eT]at bC;split at h1
            ·rename_i wX;rw[wX]at p8;cases md<;>first|(cases p8;done)|(cases bC;done)
            cases h1
           cases h5
          rw[fY]at dR;cases dR
       rw[fY]at dR;cases dR
    rw[bm j0 j0 (GU _) pT]at dq;cases dq
   ·obtain⟨iZ,o,ho,fZ⟩:=Aax.1 hi;have wY:i<ops.size:=(HJ.1 ho).1;have iK:i<m:=by
     rcases Hv i m with h|h;exact h;have kV:mem j0 fl=V:=by
      cases hf:mem j0 fl with
      |false=>rfl
      |true=>rw[eK j0 pT hf]at dq;cases dq
     have:=jT i o (aY ho) h listed mE fZ j0 pT kV;rw[this]at dq;cases dq
    have rR:o∈ops.toList.take m:=HI (jX iK ho);have hO:=iJ i o (jX iK ho);have hR:=oq o rR;obtain⟨wZ,qG⟩:=qF aw wY iZ;have tr:∀j,(listed.setIfInBounds i Z).getD j V=V↔listed.getD j V=V/\j≠i:=by
     intro j;by_cases cJ:i=j;subst cJ;have h1:i<listed.size:=FK;simp[h1];rw[Aaq V cJ];constructor;exact λh=>⟨h,λe=>cJ e.symm⟩
     exact λh=>h.1
    have dS:∀j,(listed.setIfInBounds i Z).getD j V=Z↔listed.getD j V=Z\/j=i:=by
     intro j;by_cases cJ:i=j;subst cJ;have h1:i<listed.size:=FK;simp[h1];rw[Aaq V cJ];constructor;exact λh=>.inl h
     rintro(h|h);exact h;exact absurd h.symm cJ
    have tu:DC md ops (listed.setIfInBounds i Z):=by
     intro j oj hj ja e he hb;rcases (dS j).1 hj with h|rfl;exact(dS _).2 (.inl (mE j oj h ja e he hb));rw[ho]at ja;cases ja;exact(dS _).2 (.inl (fZ e he hb))
    have qH:∀j,(listed.setIfInBounds i Z).getD j V=Z->j<m:=λj hj=>by
     rcases (dS j).1 hj with h|rfl;exact aE j h;exact iK
    have tv:∀j,j<m->mem j fl=Z->(listed.setIfInBounds i Z).getD j V=Z:=λj hj hf=>(dS j).2 (.inl (eK j hj hf));have ph:(listed.setIfInBounds i Z).toList.count V<=fuel:=by
     have:=B36 qG;rw[Io];omega
    have w9:∀t∈o.looksAt ops,mem t (H5 listed (D8 0 (ops.toList.take m)))=V:=by
     intro t ht;cases fq:mem t (H5 listed (D8 0 (ops.toList.take m)))with
     |false=>rfl
     |true=>
      exfalso;obtain⟨j,hj,hl⟩:=Lr.1 fq;obtain⟨e,he,rfl,hb⟩:=YT (hO.bound t ht j hj) md;rw[fZ e he hb]at hl;cases hl
    have hX:∀t,(sF.dels (H5 (listed.setIfInBounds i Z) (D8 0 (ops.toList.take m)))).get t=.one .any\/((o.dst=J t/\(sF.dels (H5 (listed.setIfInBounds i Z) (D8 0 (ops.toList.take m)))).get t=sF.get t)\/(o.dst≠J t/\(sF.dels (H5 (listed.setIfInBounds i Z) (D8 0 (ops.toList.take m)))).get t=(sF.dels (H5 listed (D8 0 (ops.toList.take m)))).get t)):=by
     intro t;rw[Y9,Y9];cases fq:mem t (H5 (listed.setIfInBounds i Z) (D8 0 (ops.toList.take m)))with
     |true=>left;rfl
     |false=>
      right;simp only[GF];by_cases hd:o.dst=J t;exact .inl ⟨hd,trivial⟩;right;refine⟨hd,?_⟩;cases qI:mem t (H5 listed (D8 0 (ops.toList.take m)))with
      |false=>rfl
      |true=>
       exfalso;obtain⟨j,hj,hl⟩:=Lr.1 qI;have fJ:j≠i:=by
        rintro rfl;obtain⟨_,o',iT,ek⟩:=OJ.1 hj;rw[JE,jX iK ho]at iT;cases iT;exact hd ek
       have:mem t (H5 (listed.setIfInBounds i Z) (D8 0 (ops.toList.take m)))=Z:=Lr.2 ⟨j,hj,(tr j).2 ⟨hl,fJ⟩⟩;rw[this]at fq;cases fq
    generalize vH:sF.dels (H5 listed (D8 0 (ops.toList.take m)))=X at hr hX;generalize qJ:sF.dels (H5 (listed.setIfInBounds i Z) (D8 0 (ops.toList.take m)))=X' at hX;have rU:X.live=sF.live:=by rw[<-vH];rfl
    have kW:X'.live=sF.live:=by rw[<-qJ];rfl
    have zZ:∀t,X.get t=.one .any\/X.get t=sF.get t:=λt=>by
     rw[<-vH,Y9];cases mem t (H5 listed (D8 0 (ops.toList.take m)))with
     |true=>left;rfl
     |false=>right;rfl
    have xa:∀t∈o.looksAt ops,X.get t=sF.get t:=λt ht=>by
     rw[<-vH,Y9,w9 t ht];rfl
    have tz:∀d,X.get (bxi d)=sF.get (bxi d):=λd=>by
     rw[<-vH,Y9];cases fq:mem (bxi d) (H5 listed (D8 0 (ops.toList.take m)))with
     |false=>rfl
     |true=>
      obtain⟨j,hj,_⟩:=Lr.1 fq;obtain⟨_,o',iT,ek⟩:=OJ.1 hj;have:=bv o' (IP (HI iT)) _ ek;exact absurd this (by show¬((1000000+d:Nat)<1000000);omega)
    have hd:∀d,o.dst=J d->d<a.tmps.size/\B.np<=d:=λd hd=>by rw[du];have:=OI hR.dst d hd;exact⟨this.1,HT hE.np this.2⟩
    have tA:∀d,o.dst=J d->d<1000000:=bv o (IP rR);obtain⟨g,hr⟩:=hr;have aX:o.guard=O\/True:=.inr trivial;have Aa:∀t∈o.looksAt ops,(stL al listed X).get t=sF.get t:=by
     intro t ht;cases al with
     |none=>exact xa t ht
     |some p=>
      obtain⟨ia,ii,zs⟩:=p;obtain⟨ty,hA⟩:=fW;simp only[stL];cases listed.getD ia V with
      |false=>exact xa t ht
      |true=>
       simp only[GD];have aP:ii≠t:=λe=>by
        have:=hA.look i o iK (aY ho);rw[e]at this;have h2:∀(l:Gv),t∈l->mem t l=Z:=by
         intro l
         induction l with
         |nil=>intro h;cases h
         |cons x l qE=>
          intro h;rcases HC.1 h with h|h;exact(mem_cons _ _ _).2 (.inl h.symm);exact(mem_cons _ _ _).2 (.inr (qE h))
        rw[h2 _ ht]at this;cases this
       have gy:=hO.low t ht;rw[OK,GI aP,GI (λe=>by rw[<-e]at gy;exact absurd gy (by show¬((1000000+B8 (J ii):Nat)<1000000);omega)),xa t ht,hA.no]
    have mH:Sees o sF (stL al listed X):=by
     refine⟨λt ht=>Aa t (C1h ht),λd ls bu=>?_⟩;cases al with
     |none=>rw[show stL O listed X=X from rfl,B11 (tz d)];exact bu
     |some p=>
      obtain⟨ia,ii,zs⟩:=p;obtain⟨ty,hA⟩:=fW;simp only[stL];cases listed.getD ia V with
      |false=>simp only[GF];rw[B11 (tz d)];exact bu
      |true=>
       simp only[GD];have lJ:sF.get (bxi d)=.bx d ls:=by
        unfold J1 at bu;split at bu;rename_i e cf he;obtain⟨h1,h2⟩:=A5 bu;have:=(D5 _ _).1 h1;subst this;cases h2;exact he;cases bu
       have qu:d≠B8 (J ii):=λe=>by
        have:=hA.no (bxi d);rw[lJ,e]at this;simp only[Ent.strip,G4,GD]at this;cases this
       have kU:(S5 ii zs X).get (bxi d)=.bx d ls:=by
        have Ab:=hA.low;rw[OK,GI (by unfold bxi;omega),GI (by unfold bxi;omega),tz,hA.no,lJ]
       unfold J1;rw[kU];simp[G4]
    have lK:∀b,Gd ops sF o b->Aak o (Aam ops a.tmps)=b:=by
     intro b hb;refine B1a hr ?_;unfold Gd at hb ⊢;cases tB:o.guard with
     |none=>rw[tB]at hb;exact hb
     |some jw=>
      obtain⟨j,aS⟩:=jw;rw[tB]at hb;dsimp only at hb ⊢;obtain⟨gd,hj,hc⟩:=hb;refine⟨gd,hj,?_⟩;rw[Aa gd (C4L tB hj)];exact hc
    have eW:M8 o.op=V->∀(e:Ent Ty den)(a':Act)(w':World),(∀d,o.dst=J d->sF.get d=e)->REL E.U B ((stL al listed X).setO o.dst e) a' w'->a'.tmps.size=E.nt->wpAny P md ops Q fuel (listed.setIfInBounds i Z) a' w':=by
     intro fc e a' w' xc ⟨g',bU⟩ ir;refine ih _ _ _ (by simp[aw]) ph tu qH tv ?_ ir;rw[qJ];cases al with
     |none=>
      refine⟨g',bU.weaken (λt=>?_) (λd hd=>by rw[Lq];show mem d X.live=Z;rw[rU, <-kW];exact hd) (λ_ d _ _ h=>by rw[Lq]at h;show mem d X'.live=Z;rw[kW, <-rU];exact h)⟩;rw[R8];show X'.get t=_\/X'.get t=_;rcases hX t with h|⟨h1,h2⟩|⟨h1,h2⟩;exact .inl h;right;rw[GJ h1,h2,xc t h1];right;rw[GI h1,h2];rfl
     |some p=>
      obtain⟨ia,ii,zs⟩:=p;obtain⟨ty,hA⟩:=fW;have rV:i≠ia:=λe=>by
       subst e;obtain⟨oa,q1,q2,_⟩:=hA.op;rw[aY ho]at q1;cases q1;rw[q2]at fc;cases fc
      have cX:(listed.setIfInBounds i Z).getD ia V=listed.getD ia V:=Aaq V rV;simp only[stL]at bU ⊢;rw[cX];cases pi:listed.getD ia V with
      |false=>
       rw[pi]at bU;simp only[GF]at bU ⊢;refine⟨g',bU.weaken (λt=>?_) (λd hd=>by rw[Lq,rU, <-kW];exact hd) (λ_ d _ _ h=>by rw[Lq,rU, <-kW]at h;exact h)⟩;rw[R8];rcases hX t with h|⟨h1,h2⟩|⟨h1,h2⟩;exact .inl h;right;rw[GJ h1,h2,xc t h1];right;rw[GI h1,h2]
      |true=>
       rw[pi]at bU;simp only[GD]at bU ⊢;have nr:(S5 ii zs X).live=(S5 ii zs X').live:=by simp only[S5,St.set,St.fresh,rU,kW]
       refine⟨g',bU.weaken (λt=>?_) (λd hd=>by rw[Lq,nr];exact hd) (λ_ d _ _ h=>by rw[Lq,nr]at h;exact h)⟩;have db:o.dst≠J ii:=λe=>by
        obtain⟨oa,q1,_,q3,_⟩:=hA.op;exact rV (C00 gE (aY ho) q1 e q3)
       have xd:o.dst≠J (bxi (B8 (J ii))):=λe=>by
        have:=tA _ e;exact absurd this (by show¬((1000000+B8 (J ii):Nat)<1000000);omega)
       rw[R8,OK,OK];by_cases h1:ii=t;right;rw[GJ h1,GI (by rw[<-h1];exact db),GJ h1];rw[GI h1,GI h1];by_cases h2:bxi (B8 (J ii))=t;right;rw[GJ h2,GI (by rw[<-h2];exact xd),GJ h2];rw[GI h2,GI h2];rcases hX t with h|⟨h3,h4⟩|⟨h3,h4⟩;left;rw[h];rfl;right;rw[GJ h3,h4,hA.no,xc t h3];right;rw[GI h3,h4]
    unfold wpOp;rw[ho];dsimp only;rcases hR.ran with⟨fc,⟨h1,e,h2,h3⟩|⟨h1,h2⟩⟩|⟨qK,tB⟩
    ·rw[GJ (lK Z h1)];refine .inl ?_;have h4:=h3 (stL al listed X) mH;rcases h4 with h4|⟨lO,u,xs,rfl,h4⟩|⟨c,f,ag,az,h4⟩;refine YM hE h4 hr hd ?_;intro e' s' v w' he ci;simp only[GX,He]at he;obtain⟨rfl,rfl⟩:=he;exact eW fc _ _ _ h2 ci (by rw[Y4];exact du)
     ·refine C5e hE h4 hr hd ?_;intro e' s' v w' he ci;simp only[GX,He]at he;obtain⟨rfl,rfl⟩:=he;refine eW fc _ _ _ h2 (REL.unname ci (λj=>?_)) (by rw[Y4];exact du);have Ae:∀j,(X.get j).strip (B8 o.dst)=X.get j:=λj=>by
       rcases zZ j with h|h;rw[h];rfl;rw[h];exact B1T eu o rR lO j
      cases al with
      |none=>exact Ae j
      |some p=>
       obtain⟨ia,ii,zs⟩:=p;obtain⟨ty,hA⟩:=fW;simp only[stL];cases listed.getD ia V with
       |false=>exact Ae j
       |true=>
        simp only[GD];have aP:B8 (J ii)≠B8 o.dst:=λe=>by
         cases nF:o.dst with
         |none=>rw[nF]at e;have e2:100+ii=99:=e;omega
         |some dd=>
          rw[nF]at e;have db:dd=ii:=(Nat.add_left_cancel (show 100+ii=100+dd from e)).symm;obtain⟨oa,q1,q2,q3,_⟩:=hA.op;have:=C00 gE (aY ho) q1 (by rw[nF,db]) q3;subst this;rw[aY ho]at q1;cases q1;simp only[O4,q2]at lO;cases lO
        rw[OK];split;simp only[Ent.strip,Leaf.strip,I2 aP,GF]
        ·split
         ·simp only[Ent.strip,I2 aP,GF];congr 1
          conv=>rhs;rw[<-JX zs]
          exact IW λl hl=>by
           have:=YK hA.closed l hl;cases l with
           |sl t x o=>cases o with
            |none=>rfl
            |some c=>exact absurd rfl (this.1 t x c)
           |ptr d o=>exact absurd rfl (this.2 d o)
           |_=>rfl
         rcases zZ j with h|h;rw[h];rfl;rw[h,hA.no];exact B1T eu o rR lO j
     exact C1m hE.U hE.T hE.TR ag az h4 hr hd λv w' ci=>eW fc _ _ _ h2 ci (by rw[Y4];exact du)
    rw[lK V h1];simp only[Ij,if_false];exact eW fc _ _ _ h2 (REL.setO hr (e:=.one (.val undef)) ⟨.val _,λ_ _ _ he=>by(cases he),λ_ _ he=>by(cases he)⟩ rfl o.dst hd) (by rw[Y4];exact du)
    
    have hw:Aak o (Aam ops a.tmps)=Z:=by simp[Aak,tB]
    rw[GJ hw];refine .inl ?_;cases al with
    |none=>rw[fW i o iK (aY ho)]at qK;cases qK
    |some p=>
     obtain⟨ia,ii,zs⟩:=p;obtain⟨ty,hA⟩:=fW;have Ab:i=ia:=hA.one i o iK (aY ho) qK;subst Ab;obtain⟨oa,q1,q2,q3,_⟩:=hA.op;rw[aY ho]at q1;cases q1;simp only[stL,wZ,GF]at hr;have og:K6 E o X (λe s'=>J (e,s'))=J (.one (.ptr (B8 (J ii)) 0),(X.fresh (B8 (J ii))).set (bxi (B8 (J ii))) (.bx (B8 (J ii)) zs)):=by
      simp only[K6,O3,q2,In,GF,A6,q3,hA.zr,hA.oz];rw[show Aa2 0 zs.length=Z by simpa [HU]using hA.pos];rfl
     refine YM hE og hr hd ?_;intro e' s' v w' he ci;simp only[GX,He]at he;obtain⟨rfl,rfl⟩:=he;rw[q3]at ci;refine ih _ _ _ (by simp[aw]) ph tu qH tv ?_ (by rw[Y4];exact du);rw[qJ,q3];simp only[stL];rw[show(listed.setIfInBounds i Z).getD i V=Z from(dS i).2 (.inr rfl)];simp only[GD];obtain⟨g2,ci⟩:=ci;have nr:(S5 ii zs X').live=(S5 ii zs X).live:=by simp only[S5,St.set,St.fresh,rU,kW]
     refine⟨g2,ci.weaken (s':=S5 ii zs X') (λt=>?_) (λd hd=>by rw[nr]at hd;exact hd) (λ_ d _ _ h=>by rw[nr];exact h)⟩;show(S5 ii zs X').get t=_\/(S5 ii zs X').get t=(S5 ii zs X).get t;rw[OK,OK];by_cases h1:ii=t;right;rw[GJ h1,GJ h1];rw[GI h1,GI h1];by_cases h2:bxi (B8 (J ii))=t;right;rw[GJ h2,GJ h2];rw[GI h2,GI h2];rcases hX t with h|⟨h3,h4⟩|⟨h3,h4⟩;left;rw[h];rfl;rw[q3]at h3;exact absurd (Hb h3) h1;right;rw[h4]
def B49{ops:Array Oper}{oi:Oper}{i:Nat}:∀(os:List Oper)(j0:Nat),Uz ops oi i j0 os=Z->∀(n:Nat) o,os[n]?=J o->j0+n≠i->Rw o i=Z\/oi.apart ops o=Z
 |[],j0,_,n,o,h,_=>by simp at h
 |x::os,j0,hf,n,o,h,aP=>by
  simp only[Uz,Fn,Hx]at hf;cases n with
  |zero=>
   simp at h;subst h;rcases hf.1 with h1|h1;exact absurd ((D5 _ _).1 h1) (by simpa using aP);exact h1
  |succ n=>exact B49 os (j0+1) hf.2 n o (by simpa using h) FK
def C0i{ops:Array Oper}{m:Nat}{ds:Gv}:∀(os:List Oper)(i k:Nat),mem k (flL ops m ds i os)=Z->∃o,i<=k/\os[k - i]?=J o/\(Lm ops m ds k o||tl1 ops m k o)=Z
 |[],i,k,h=>by simp[flL,mem]at h
 |x::os,i,k,h=>by
  simp only[flL]at h;have ao:mem k (flL ops m ds (i+1) os)=Z->∃o,i<=k/\(x::os)[k - i]?=J o/\(Lm ops m ds k o||tl1 ops m k o)=Z:=λh=>by
   obtain⟨o,h1,h2,h3⟩:=C0i os (i+1) k h;exact⟨o,FK,by rw[show k - i=(k - (i+1))+1 from FK];simpa using h2,h3⟩
  cases hc:(Lm ops m ds i x||tl1 ops m i x)with
  |false=>rw[hc]at h;exact ao h
  |true=>
   rw[hc]at h;simp only[GD]at h;rcases (mem_cons _ _ _).1 h with h1|h1;subst h1;exact⟨x,GU _,GN,hc⟩;exact ao h1
def C0s:∀{os:List Oper},B2N os=Z->∀o∈os,∀cs b,o.op≠ .select cs b
 |[],_,o,h=>by cases h
 |x::os,h,o,ho=>by
  simp only[B2N,Fn]at h;rcases HC.1 ho with rfl|ho;intro cs b he;have:=h.1;rw[he]at this;cases this;exact C0s h.2 o ho
def B4j(hE:U4 P E B){ops:Array Oper}{md:Aat}{Q:Exit->Act->World->Prop}{m:Nat}{k:St Ty den->Option R}
  {fl:Gv}(jT:∀(k:Nat) o,ops.toList[k]?=J o->(∀e∈o.after,e.on<k\/e.on<m)/\(m<=k->∀listed:Array Bool,DC md ops listed->(∀e∈o.after,Aal md e=Z->listed.getD e.on V=Z)->∀j,j<k->mem j fl=V->listed.getD j V=Z))
  (xe:∀(k:Nat) o,ops.toList[k]?=J o->mem k fl=Z->m<=k->(Pr o||Uy o)=Z/\Uz ops o k (k+1) (ops.toList.drop (k+1))=Z)(fC:∀(j:Nat)(o:Oper) cs b,ops[j]?=J o->o.op≠ .select cs b)
  (jb:∀c a d v w,Q (.panic c) (Aav a d v) w->Q (.panic c) a w)
  (hk:∀s' a' w',k s'=J r->REL E.U B s' a' w'->a'.tmps.size=E.nt->Q .normal a' w'):
  ∀(os:List Oper)(i:Nat)(s:St Ty den)(a:Act)(w:World)(fuel:Nat)(listed:Array Bool),ops.toList.drop i=os->listed.size=ops.size->listed.toList.count V<=fuel->(∀j,listed.getD j V=Z↔j<i)->m<=i->i<=ops.size->
   U5 E ops os s k=J r->REL E.U B s a w->a.tmps.size=E.nt->wpAny P md ops Q fuel listed a w
 |[],i,s,a,w,fuel,listed,jZ,aw,fA,hl,Af,Cr,h,hr,du=>by
  simp only[U5]at h;have hi:ops.size<=i:=by
   have:=congrArg List.length jZ;simp at this;omega
  have hQ:=hk s a w h hr du;have fY:Aas md ops listed=[]:=by
   cases Cs:Aas md ops listed with
   |nil=>rfl
   |cons j l=>
    exfalso;have hj:j∈Aas md ops listed:=by rw[Cs];simp
    obtain⟨iZ,o,ho,_⟩:=Aax.1 hj;have nD:=(HJ.1 ho).1;have:=(hl j).2 FK;have h1:j<listed.size:=FK;rw[HE,Hc h1]at iZ this;simp at iZ this;rw[iZ]at this;cases this
  cases fuel with
  |zero=>exact⟨fY,hQ⟩
  |succ fuel=>exact⟨λ_=>hQ,λj hj=>by rw[fY]at hj;cases hj⟩
 |o::os,i,s,a,w,fuel,listed,jZ,aw,fA,hl,Af,Cr,h,⟨g,hr⟩,du=>by
  have qL:ops.toList[i]?=J o:=by
   have:=congrArg (λl=>l[0]?) jZ;simpa using this
  have jc:ops[i]?=J o:=by simpa using qL
  have Ct:i<ops.size:=(HJ.1 jc).1;have tC:ops.toList.drop (i+1)=os:=by
   have h1:ops.toList.drop (i+1)=(ops.toList.drop i).drop 1:=by rw[Im]
   rw[h1,jZ];rfl
  have mE:DC md ops listed:=λj oj hj ja e he _=>by
   have h1:=(hl j).1 hj;exact(hl _).2 (by rcases (jT j oj (by simpa using ja)).1 e he with h2|h2<;>omega)
  have iZ:listed.getD i V=V:=by
   cases hc:listed.getD i V with
   |false=>rfl
   |true=>have:=(hl i).1 hc;omega
  have pj:i<listed.size:=FK;have jd:listed.getD i Z=V/\listed.toList[i]?=J V:=by
   rw[HE,Hc pj]at iZ ⊢;simp at iZ;simp[iZ,pj]
  have dR:i∈Aas md ops listed:=by
   rw[Aax];exact⟨jd.1,o,jc,λe he _=>(hl _).2 (by rcases (jT i o qL).1 e he with h2|h2<;>omega)⟩
  have tD:mem i fl=V->∀j∈Aas md ops listed,j=i:=by
   intro vI j hj;obtain⟨kX,oj,ja,xf⟩:=Aax.1 hj;have nD:=(HJ.1 ja).1;rcases JJ j i with h1|h1|h1;have:=(hl j).2 h1;have h2:j<listed.size:=FK;rw[HE,Hc h2]at kX this;simp at kX this;rw[kX]at this;cases this;exact h1;have:=(jT j oj (by simpa using ja)).2 FK listed mE xf i h1 vI;rw[this]at iZ;cases iZ
  cases fuel with
  |zero=>
   have:=JF.2 (HI jd.2);omega
  |succ fuel=>
   cases vI:mem i fl with
   |true=>
    obtain⟨vu,hH⟩:=xe i o qL vI Af;simp only[U5]at h;obtain⟨aV,h⟩:=A5 h;have hd:∀i,o.dst=J i->i<a.tmps.size/\B.np<=i:=λi hi=>by rw[du];have:=OI aV i hi;exact⟨this.1,HT hE.np this.2⟩
    have tE:o.guard=O:=by
     rcases JD.1 vu with h5|h5;simp only[Pr,Fn,JH]at h5;exact h5.1;simp only[Uy,Fn,JH]at h5;exact h5.1
    rw[tE]at h;dsimp only at h;obtain⟨v,hv⟩:∃v,∀w':World,(Aac a.eval o).run P w'=.ok (.value v) w':=by
     rcases JD.1 vu with h5|h5;simp only[Pr,Fn]at h5;obtain⟨_,h5⟩:=h5;split at h5;rename_i t ag;exact⟨_,λw'=>by simp[Aac,ag];rfl⟩;cases h5;simp only[Uy,Fn]at h5;obtain⟨_,h5⟩:=h5;split at h5;rename_i t ix ag;simp only[K6,O3,ag,In,GF,A6]at h;split at h;rename_i ls hx;split at h;rename_i l js;have he:=Pz hr 0 (.tmp t);rw[hx]at he;obtain⟨vs,Cu,nX⟩:=he;obtain⟨v,gm,anq⟩:=nX.get js;exact⟨v,λw'=>by simp[Aac,ag,Cu,Instr.extract,gm]⟩;cases h;cases h;cases h5
    have eW:∀(s':St Ty den)(a':Act)(w':World),U5 E ops os s' k=J r->REL E.U B s' a' w'->a'.tmps.size=E.nt->wpAny P md ops Q fuel (listed.setIfInBounds i Z) a' w':=by
     intro s' a' w' h' bU ir;refine B4j hE jT xe fC jb hk os (i+1) s' a' w' fuel _ tC (by simp[aw]) ?_ (λx=>?_) FK FK h' bU ir;have:=B36 jd.2;rw[Io];omega;by_cases hx:i=x;subst hx;simp[pj];rw[Aaq V hx,hl];omega
    have af:o.wp P a w (wpAny P md ops Q fuel (listed.setIfInBounds i Z)) Q:=by
     refine YM hE h hr hd ?_;intro e s' v w' fV ci;exact eW _ _ _ fV ci (by rw[Y4];exact du)
    unfold Aan at af;rw[hv w]at af;refine wpAny_first jc fC (λc a w h=>jb c a _ _ w h) fuel listed a w (λj oj hj aP ot eu=>?_) dR (.inl ⟨by simp[Aak,tE],hv⟩) af;have fJ:i<j:=by
     rcases JJ j i with h6|h6|h6;have:=(hl j).2 h6;have h7:j<listed.size:=by have:=(HJ.1 hj).1;omega
     rw[HE,Hc h7]at ot this;simp at ot this;rw[ot]at this;cases this;exact absurd h6 aP;exact h6
    rcases B49 (ops.toList.drop (i+1)) (i+1) hH (j - (i+1)) oj (by rw[IE,show i+1+(j - (i+1))=j from FK];simpa using hj) FK with h6|h6;obtain⟨e,he,iB,hb⟩:=YT h6 md;exact absurd iB (eu e he hb);exact h6
   |false=>
    refine⟨λhn=>by rw[hn]at dR;(cases dR),λj hj=>?_⟩;have fJ:=tD vI j hj;subst fJ;simp only[U5]at h;obtain⟨aV,h⟩:=A5 h;have hd:∀i,o.dst=J i->i<a.tmps.size/\B.np<=i:=λi hi=>by rw[du];have:=OI aV i hi;exact⟨this.1,HT hE.np this.2⟩
    have eW:∀(s':St Ty den)(a':Act)(w':World),U5 E ops os s' k=J r->REL E.U B s' a' w'->a'.tmps.size=E.nt->wpAny P md ops Q fuel (listed.setIfInBounds j Z) a' w':=by
     intro s' a' w' h' bU ir;refine B4j hE jT xe fC jb hk os (j+1) s' a' w' fuel _ tC (by simp[aw]) ?_ (λx=>?_) FK FK h' bU ir;have:=B36 jd.2;rw[Io];omega;by_cases hx:j=x;subst hx;simp[pj];rw[Aaq V hx,hl];omega
    have run:∀(s1:St Ty den)(g1:Gh),Rel E.U B g1 s1 a w->K6 E o s1 (λe s'=>U5 E ops os (s'.setO o.dst e) k)=J r->o.wp P a w (wpAny P md ops Q fuel (listed.setIfInBounds j Z)) Q:=by
     intro s1 g1 dG h1;refine YM hE h1 dG hd ?_;intro e s' v w' fV ci;exact eW _ _ _ fV ci (by rw[Y4];exact du)
    have skip:∀(s1:St Ty den)(g1:Gh),Rel E.U B g1 s1 a w->U5 E ops os (s1.setO o.dst (.one (.val undef))) k=J r->wpAny P md ops Q fuel (listed.setIfInBounds j Z) (a.put o.dst undef) w:=λs1 g1 dG h1=>
     eW _ _ _ h1 (REL.setO dG (e:=.one (.val undef)) ⟨.val _,λ_ _ _ he=>by(cases he),λ_ _ he=>by(cases he)⟩ rfl o.dst hd) (by rw[Y4];exact du)
    unfold wpOp;rw[jc];dsimp only;cases hg:o.guard with
   |none=>
    rw[hg]at h;rw[show Aak o (Aam ops a.tmps)=Z by simp[Aak,hg],GJ rfl];exact .inl (run s g hr h)
   |some jw=>
    obtain⟨jg,aS⟩:=jw;rw[hg]at h;dsimp only at h;cases lP:(ops[jg]?).bind (·.dst)with
    |none=>rw[lP]at h;cases h
    |some gd=>
     rw[lP]at h;dsimp only at h;split at h;rename_i b ol;have iq:∀c:Bool,b=c->Rel E.U B g (s.set gd (.one (.bool c))) a w:=λc hc=>by
      have aK:=hr.ent gd;rw[ol]at aK;exact hr.setSame (e:=.one (.bool c)) (by rw[<-hc];exact aK) rfl
     cases jq:(b==aS)with
     |true=>
      rw[jq]at h;rw[B1a hr (b:=Z) (by simp only[Gd,hg];exact⟨gd,lP,.inl ⟨b,ol,jq.symm⟩⟩),GJ rfl];exact .inl (run _ g (iq aS (by simpa using jq)) h)
     |false=>
      rw[jq]at h;rw[B1a hr (b:=V) (by simp only[Gd,hg];exact⟨gd,lP,.inl ⟨b,ol,jq.symm⟩⟩)];simp only[Ij,if_false];exact skip _ g (iq _ (by cases b<;>cases aS<;>simp_all)) h
     rename_i v tn;obtain⟨eh,h⟩:=A5 h;rw[B1a hr (b:=V) (by simp only[Gd,hg];exact⟨gd,lP,.inr ⟨trivial,v,tn,eh⟩⟩)];simp only[Ij,if_false];exact skip s g hr h;cases h
def C4C:∀(os:List Oper)(i:Nat),match Kw i os with
  |none=>∀(j:Nat) o,os[j]?=J o->M8 o.op=V\/o.dst=O
  |some (ia,d,t)=>i<=ia/\(∃o,os[ia - i]?=J o/\o.op=.alloc t/\o.dst=J d)/\∀(j:Nat) o,j<ia - i->os[j]?=J o->M8 o.op=V\/o.dst=O
 |[],i=>by simp[Kw]
 |x::os,i=>by
  have ih:=C4C os (i+1);have go:(M8 x.op=V\/x.dst=O)->Kw i (x::os)=Kw (i+1) os->(match Kw i (x::os)with
    |none=>∀(j:Nat) o,(x::os)[j]?=J o->M8 o.op=V\/o.dst=O
    |some (ia,d,t)=>i<=ia/\(∃o,(x::os)[ia - i]?=J o/\o.op=.alloc t/\o.dst=J d)/\∀(j:Nat) o,j<ia - i->(x::os)[j]?=J o->M8 o.op=V\/o.dst=O):=by
   intro hx he;rw[he];cases ha:Kw (i+1) os with
   |none=>
    rw[ha]at ih;intro j o ho;cases j with
    |zero=>simp at ho;subst ho;exact hx
    |succ j=>exact ih j o (by simpa using ho)
   |some p=>
    obtain⟨ia,d,t⟩:=p;rw[ha]at ih;obtain⟨h1,⟨o,h2,h3,h4⟩,h5⟩:=ih;refine⟨FK,⟨o,?_,h3,h4⟩,λj o hj ho=>?_⟩;rw[show ia - i=ia - (i+1)+1 from FK];simpa using h2;cases j with
    |zero=>simp at ho;subst ho;exact hx
    |succ j=>exact h5 j o FK (by simpa using ho)
  cases ag:x.op with
  |alloc t=>
   cases hd:x.dst with
   |none=>exact go (.inr hd) (by simp only[Kw,ag,hd])
   |some d=>
    simp only[Kw,ag,hd];exact⟨GU _,⟨x,GN,ag,hd⟩,λj o hj=>FK⟩
  |_=>exact go (.inl (by rw[ag];rfl)) (by simp only[Kw,ag])
def B8I:∀{os:List Oper},Xt os=Z->∀(j:Nat) o,os[j]?=J o->M8 o.op=V
 |[],_,j,o,h=>by simp at h
 |x::os,hn,j,o,h=>by
  simp only[Xt,Fn,Hs]at hn;cases j with
  |zero=>simp at h;subst h;exact hn.1
  |succ j=>exact B8I hn.2 j o (by simpa using h)
def C05{ops:Array Oper}{i:Nat}:∀{os:List Oper},B31 ops i os=Z->∀(j:Nat) o,os[j]?=J o->mem i (o.looksAt ops)=V
 |[],_,j,o,h=>by simp at h
 |x::os,hn,j,o,h=>by
  simp only[B31,Fn,Hs]at hn;cases j with
  |zero=>simp at h;subst h;exact hn.1
  |succ j=>exact C05 hn.2 j o (by simpa using h)
def B5i:∀(os:List Oper),L7 E os<=os.length/\∀o∈os.take (L7 E os),Ll E o=Z
 |[]=>⟨GU _,λo h=>by simp at h⟩
 |x::os=>by
  obtain⟨h1,h2⟩:=B5i os;simp only[L7];cases hc:Ll E x with
  |false=>simp
  |true=>
   simp only[GD,Fr,JZ,HC];refine⟨FK,λo ho=>?_⟩;rcases ho with rfl|ho;exact hc;exact h2 o ho
def C5N(hE:U4 P E B){ops:Array Oper}{md:Aat}{Q:Exit->Act->World->Prop}{m:Nat}{sF:St Ty den}
  (oq:∀o∈ops.toList.take m,Ran E ops sF o)(bv:∀o∈ops.toList,∀d,o.dst=J d->d<1000000)(gE:S2 (D1 ops.toList)=Z)(fC:∀(j:Nat)(o:Oper) cs b,ops[j]?=J o->o.op≠ .select cs b)
  (jb:∀c a d v w,Q (.panic c) (Aav a d v) w->Q (.panic c) a w){w:World}:
  ∀(eE:Gv)(fuel:Nat)(listed:Array Bool)(a:Act),listed.size=ops.size->listed.toList.count V<=fuel->(∀i∈eE,∃o,ops.toList[i]?=J o/\Lm ops m (D1 (ops.toList.take m)) i o=Z)->eE.Nodup->(∀i∈eE,listed.getD i V=V)->
   REL E.U B (sF.dels (H5 listed (D8 0 (ops.toList.take m)))) a w->a.tmps.size=E.nt->
   (∀(fuel:Nat)(dy:Array Bool)(a':Act),dy.size=ops.size->dy.toList.count V<=fuel->(∀j,dy.getD j V=Z↔(listed.getD j V=Z\/j∈eE))->REL E.U B (sF.dels (H5 dy (D8 0 (ops.toList.take m)))) a' w->a'.tmps.size=E.nt->wpAny P md ops Q fuel dy a' w)->
   wpAny P md ops Q fuel listed a w
 |[],fuel,listed,a,aw,fA,_,_,_,hr,du,hK=>hK fuel listed a aw fA (λj=>GN) hr du
 |i::eE,fuel,listed,a,aw,fA,eK,tF,iZ,hr,du,hK=>by
  obtain⟨o,qL,hp⟩:=eK i GN;simp only[Lm,Fn]at hp;obtain⟨iK,pS,bJ,hH,fX⟩:=hp;have iK:i<m:=by simpa [HU]using iK
  have jc:ops[i]?=J o:=by simpa using qL
  have pj:i<listed.size:=by have:=(HJ.1 jc).1;omega
  have xg:=iZ i GN;have jd:listed.getD i Z=V/\listed.toList[i]?=J V:=by
   rw[HE,Hc pj]at xg ⊢;simp at xg;simp[xg,pj]
  cases fuel with
  |zero=>
   have:=JF.2 (HI jd.2);omega
  |succ fuel=>
   simp only[Pr,Fn,JH]at pS;obtain⟨tE,pS⟩:=pS;split at pS;rename_i t ag;have fZ:∀e,e∉o.after:=λe he=>by
    have:e∈o.after.toList:=by simpa using he
    cases hl:o.after.toList with
    |nil=>rw[hl]at this;cases this
    |cons y l=>rw[hl]at bJ;cases bJ
   have hv:∀w':World,(Aac a.eval o).run P w'=.ok (.value (a.eval (.tmp t))) w':=λw'=>by simp[Aac,ag]
   have dR:i∈Aas md ops listed:=by
    rw[Aax];exact⟨jd.1,o,jc,λe he=>absurd he (fZ e)⟩
   refine wpAny_first jc fC (λc a w h=>jb c a _ _ w h) fuel listed a w (λj oj hj aP ot eu=>?_) dR (.inl ⟨by simp[Aak,tE],hv⟩) ?_;rcases B49 ops.toList 0 hH j oj (by simpa using hj) FK with h6|h6;obtain⟨e,he,iB,hb⟩:=YT h6 md;exact absurd iB (eu e he hb);exact h6;have dS:∀j,(listed.setIfInBounds i Z).getD j V=Z↔listed.getD j V=Z\/j=i:=by
    intro j;by_cases cJ:i=j;subst cJ;simp[pj];rw[Aaq V cJ];constructor;exact λh=>.inl h
    rintro(h|h);exact h;exact absurd h.symm cJ
   have rR:o∈ops.toList.take m:=by
    refine HI (i:=i) ?_;rw[Hn,GJ iK];exact qL
   have hR:=oq o rR;have hd:∀d,o.dst=J d->d<a.tmps.size/\B.np<=d:=λd hd=>by rw[du];have:=OI hR.dst d hd;exact⟨this.1,HT hE.np this.2⟩
   obtain⟨g,hr⟩:=hr;have Ag:=hr;generalize hX:sF.dels (H5 listed (D8 0 (ops.toList.take m)))=X at hr;have Cv:X.get t=sF.get t:=by
    rw[<-hX,Y9];cases fq:mem t (H5 listed (D8 0 (ops.toList.take m)))with
    |false=>rfl
    |true=>
     exfalso;obtain⟨j,hj,_⟩:=Lr.1 fq;obtain⟨_,o',iT,ek⟩:=OJ.1 hj;simp only[C3h,ag,Hs]at fX;have:mem t (D1 (ops.toList.take m))=Z:=by
      have dj:=HI iT;clear fX;generalize ops.toList.take m=os at dj
      induction os with
      |nil=>cases dj
      |cons x os ih=>
       rcases HC.1 dj with rfl|h3;exact YP ek;exact YQ (ih h3)
     rw[this]at fX;cases fX
   have tz:∀d,X.get (bxi d)=sF.get (bxi d):=λd=>by
    rw[<-hX,Y9];cases fq:mem (bxi d) (H5 listed (D8 0 (ops.toList.take m)))with
    |false=>rfl
    |true=>
     obtain⟨j,hj,_⟩:=Lr.1 fq;obtain⟨_,o',iT,ek⟩:=OJ.1 hj;have:=bv o' (IP (HI iT)) _ ek;exact absurd this (by show¬((1000000+d:Nat)<1000000);omega)
   have mH:Sees o sF X:=by
    refine⟨λt' cQ=>?_,λd ls bu=>by rw[B11 (tz d)];exact bu⟩;rw[ag]at cQ;simp only[Aab]at cQ;have:t'=t:=by simpa using cQ
    rw[this];exact Cv
   have aK:∀d,o.dst=J d->sF.get d=opd E X o.type (.tmp t):=λd nF=>by
    rcases hR.ran with⟨_,⟨_,e,he,pk⟩|⟨lK,_⟩⟩|⟨fW,_⟩;rw[he d nF];rcases pk X mH with h7|⟨h7,_⟩|⟨_,_,h7,_⟩;simp only[K6,O3,ag,In,GF,A6,GX,He]at h7;exact h7.1.symm;simp only[O4,ag]at h7;cases h7;rw[ag]at h7;cases h7;simp only[Gd,tE]at lK;cases lK;rw[ag]at fW;cases fW
   have qM:=REL.setO hr (Pz hr o.type (.tmp t)) (B5z _ _ _) o.dst hd;refine C5N hE oq bv gE fC jb eE fuel _ _ (by simp[aw]) ?_ (λj hj=>eK j (by simp[hj])) (Ib.1 tF).2 (λj hj=>?_) ?_ (by rw[Y4];exact du) (λtG dy a' h1 h2 h3 h4 h5=>hK tG dy a' h1 h2 (λj=>?_) h4 h5);have:=B36 jd.2;rw[Io];omega;have fJ:i≠j:=λe=>(Ib.1 tF).1 (by rw[e];exact hj);rw[Aaq V fJ];exact iZ j (by simp[hj])
   obtain⟨g',qM⟩:=qM;refine⟨g',qM.weaken (λt'=>?_) (λd iD=>by rw[Lq, <-hX];exact iD) (λ_ d _ _ h=>by rw[Lq, <-hX]at h;exact h)⟩;rw[Y9];cases fq:mem t' (H5 (listed.setIfInBounds i Z) (D8 0 (ops.toList.take m)))with
   |true=>left;rfl
   |false=>
    right;simp only[GF];rw[R8];by_cases nF:o.dst=J t';rw[GJ nF];exact aK t' nF;rw[GI nF, <-hX,Y9];cases qI:mem t' (H5 listed (D8 0 (ops.toList.take m)))with
    |false=>rfl
    |true=>
     exfalso;obtain⟨j,hj,hl⟩:=Lr.1 qI;have fJ:j≠i:=by
      rintro rfl;obtain⟨_,o',iT,ek⟩:=OJ.1 hj;rw[JE,Hn,GJ iK,qL]at iT;cases iT;exact nF ek
     have:mem t' (H5 (listed.setIfInBounds i Z) (D8 0 (ops.toList.take m)))=Z:=Lr.2 ⟨j,hj,by rw[Aaq V (IC fJ)];exact hl⟩;rw[this]at fq;cases fq
   rw[h3 j,dS j];simp only[HC];constructor;rintro((h|h)|h);exact .inl h;exact .inr (.inl h);exact .inr (.inr h);rintro(h|h|h);exact .inl (.inl h);exact .inl (.inr h);exact .inr h;cases pS
def H6(Q:Exit->Act->World->Prop):Exit->Act->World->Prop
 | .normal,a,w=>Q .normal a w
 |_,_,_=>False
def C4o{os:List Oper}(iQ:VC (D1 os)=Z):∀o∈os,∀d,o.dst=J d->d<1000000:=λo ho d hd=>by
 have bm:∀(l:Gv),VC l=Z->mem d l=Z->d<1000000:=by
  intro l
  induction l with
  |nil=>intro _ h;cases h
  |cons x l ih=>
   intro h1 h2;simp only[VC,Fn]at h1;rw[mem_cons]at h2;rcases h2 with rfl|h2;simpa [HU]using h1.1;exact ih h1.2 h2
 refine bm _ iQ ?_;clear iQ
 induction os with
 |nil=>cases ho
 |cons x os ih=>
  rcases HC.1 ho with rfl|ho;exact YP hd;exact YQ (ih ho)
def C4A{os:List Oper}{m:Nat}(iC:S2 (D1 os)=Z):S2 (D1 (os.take m))=Z:=by
 have bm:∀(os:List Oper)(m:Nat),S2 (D1 os)=Z->S2 (D1 (os.take m))=Z:=by
  intro os
  induction os with
  |nil=>intro m h;simpa using h
  |cons x os ih=>
   intro m h;cases m with
   |zero=>rfl
   |succ m=>
    simp only[JZ,D1]at h ⊢;cases hd:x.dst with
    |none=>rw[hd]at h;exact ih m h
    |some d=>
     rw[hd]at h;simp only[S2,Fn,Hs]at h ⊢;refine⟨?_,ih m h.2⟩;cases Ah:mem d (D1 (os.take m))with
     |false=>rfl
     |true=>
      obtain⟨y,hy,qD⟩:=B89 Ah;have:mem d (D1 os)=Z:=by
       have tH:=IP hy;clear ih h Ah hy
       induction os with
       |nil=>cases tH
       |cons z os Cw=>
        rcases HC.1 tH with rfl|h3;exact YP qD;exact YQ (Cw h3)
      rw[h.1]at this;cases this
 exact bm _ m iC
def C1F{listed:Array Bool}(hf:∀i,listed.getD i V=V){sF:St Ty den}{os:List Oper}(h2:sF.live=s.live)(h3:∀i,mem i (D1 os)=V->sF.get i=(s.dels (D1 os)).get i)(hr:Rel E.U B g s a w):REL E.U B (sF.dels (H5 listed (D8 0 os))) a w:=by
 refine⟨g,Rel.weaken hr (λi=>?_) (λd hd=>?_) (λi d ls _ hd=>by
  show mem d sF.live=Z;rw[h2];exact hd)⟩
 rw[Y9];have dR:mem i (H5 listed (D8 0 os))=mem i (D1 os):=by
  rw[<-YR os 0];generalize D8 0 os=ps
  induction ps with
  |nil=>rfl
  |cons p ps ih=>
   obtain⟨d,j⟩:=p;simp only[H5,hf j,GF,mem,IN,ih]
 rw[dR];cases qI:mem i (D1 os)with
 |true=>left;rfl
 |false=>
  right;simp only[GF];rw[h3 i qI,Y9,qI];rfl
 have h6:(sF.dels (H5 listed (D8 0 os))).live=sF.live:=rfl;rw[h6,h2]at hd;exact hd
def C56(hE:U4 P E B){Q:Exit->Act->World->Prop}(id:Nat)(ops:Array Oper)(s:St Ty den)(a:Act)(w:World)(k:St Ty den->Option R)
  (h:B8K E ops s k=J r)(hr:REL E.U B s a w)(aw:a.tmps.size=E.nt)
  (hk:∀s' a' w',k s'=J r->REL E.U B s' a' w'->a'.tmps.size=E.nt->Q .normal a' w'):(Abw id ops Z).wp P Q a w:=by
 refine Abv (Q:=H6 Q) (λe a w h=>by cases e<;>first|exact h|exact h.elim) ?_;have jb:∀c a d v w,H6 Q (.panic c) (Aav a d v) w->H6 Q (.panic c) a w:=λ_ _ _ _ _ h=>h.elim;have hk:∀s' a' w',k s'=J r->REL E.U B s' a' w'->a'.tmps.size=E.nt->H6 Q .normal a' w':=hk;generalize H6 Q=Q0 at jb hk ⊢;unfold B8K at h;obtain⟨iJ,h⟩:=A5 h;obtain⟨mI,eD⟩:=B5i (E:=E) ops.toList;generalize hm:L7 E ops.toList=m at h iJ mI eD;simp only[C1Z,Fn]at iJ;obtain⟨qO,je,iC,iQ,gR⟩:=iJ;have fC:∀(j:Nat)(o:Oper) cs b,ops[j]?=J o->o.op≠ .select cs b:=λj o cs b ho=>C0s gR o (HI (i:=j) (by simpa using ho)) cs b;have eU:∀j o,(ops.toList.take m)[j]?=J o->YS E ops m j o:=λj o ho=>by
  have:=B7S rfl qO j o ho;rwa [HL]at this
 rw[YR]at iC iQ h je;have rW:∀k,mem k (flL ops m (D1 (ops.toList.take m)) 0 ops.toList)=Z->∃o,ops.toList[k]?=J o/\(Lm ops m (D1 (ops.toList.take m)) k o||tl1 ops m k o)=Z:=λk hk=>by
  obtain⟨o,_,h2,h3⟩:=C0i _ _ _ hk;rw[JE]at h2;exact⟨o,h2,h3⟩
 generalize eK:flL ops m (D1 (ops.toList.take m)) 0 ops.toList=fl at je rW;have bv:=C4o iQ;have tI:=C4A (m:=m) iC;have jT:∀md,∀(k:Nat) o,ops.toList[k]?=J o->(∀e∈o.after,e.on<k\/e.on<m)/\(m<=k->∀listed:Array Bool,DC md ops listed->(∀e∈o.after,Aal md e=Z->listed.getD e.on V=Z)->∀j,j<k->mem j fl=V->listed.getD j V=Z):=λmd k o ho=>by
  have:=C1X (md:=md) (ops:=ops) (m:=m) (fl:=fl) ops.toList 0 [] rfl (λj o hj=>by rw[HL];exact hj) je (λ_ _ k c h=>by simp at h) k o ho;rw[HL]at this;exact this
 obtain⟨sF,⟨h1,eu⟩,h2,h3,h4⟩:=B8f ops (by rw[hm]) eD (λo ho=>bv o (IP ho)) (ops.toList.take m) _ _ (λ_ h=>h) (B4B (m:=m) eU (ops.toList.take m) 0 (λj o hj=>by rw[HL];exact hj) tI) h;have xh:∃al:Option (Nat×Nat×List (Leaf Ty den)),C4d P E ops m sF al/\U5 E ops (ops.toList.drop m) (match al with|O=>sF|J (_,i,zs)=>S5 i zs sF) k=J r:=by
  have gZ:=C4C (ops.toList.take m) 0;cases Ai:Kw 0 (ops.toList.take m)with
  |none=>
   rw[Ai]at h1 gZ;refine⟨O,λj o hj ho=>?_,h1⟩;have pk:(ops.toList.take m)[j]?=J o:=by rw[Hn,GJ hj];exact ho
   rcases gZ j o pk with h5|h5;exact h5;cases rV:M8 o.op with
   |false=>rfl
   |true=>
    have:=eD o (HI pk);simp only[Ll,Ux,rV,h5,mbO,In,Jb]at this;exact absurd (YO this) (by rw[rV];simp)
  |some p=>
   obtain⟨ia,i,t⟩:=p;rw[Ai]at h1 gZ;dsimp only at h1 gZ;obtain⟨_,⟨o,h5,h6,h7⟩,h8⟩:=gZ;rw[Nat.sub_zero]at h5 h8;have tJ:ia<m:=by
    have:=G7 h5;simp at this;omega
   have nY:ops.toList[ia]?=J o:=by rw[Hn,GJ tJ]at h5;exact h5
   split at h1;rename_i zs dJ;obtain⟨hc,h1⟩:=A5 h1;simp only[Fn,Hs,HU]at hc;obtain⟨c1,c2,c3,c4,c5,c6⟩:=hc;refine⟨J (ia,i,zs),⟨t,⟨o,nY,h6,h7,?_⟩,tJ,dJ,c3,c6,c4,λj=>B5I _ _ c5 j,bv o (HI nY) i h7,λj oj hj ja rX=>?_,λj oj hj ja=>?_⟩,h1⟩;have:=eD o (HI h5);have fc:O0 E o=V:=by
    cases hp:O0 E o with
    |false=>rfl
    |true=>have:=YO hp;rw[h6]at this;cases this
   simp only[Ll,fc,Jc,Ux,Fn]at this;simpa using this.2.1;have pk:(ops.toList.take m)[j]?=J oj:=by rw[Hn,GJ hj];exact ja
   rcases JJ j ia with h9|h9|h9;rcases h8 j oj h9 pk with rY|rY;rw[rY]at rX;cases rX;have:=eD oj (HI pk);simp only[Ll,Ux,rX,rY,mbO,In,Jb]at this;exact absurd (YO this) (by rw[rX];simp);exact h9;have:=B8I c1 (j - (ia+1)) oj (by rw[IE,show ia+1+(j - (ia+1))=j from FK];exact pk);rw[this]at rX;cases rX;exact C05 c2 j oj (by rw[Hn,GJ hj];exact ja);cases h1
 obtain⟨al,fW,hT⟩:=xh;obtain⟨g,hr⟩:=hr;have dG:REL E.U B (stL al (Aai ops.size V) (sF.dels (H5 (Aai ops.size V) (D8 0 (ops.toList.take m))))) a {w with drawn:=w.drawn+1}:=by
  have dg:stL al (Aai ops.size V) (sF.dels (H5 (Aai ops.size V) (D8 0 (ops.toList.take m))))=sF.dels (H5 (Aai ops.size V) (D8 0 (ops.toList.take m))):=by
   cases al with
   |none=>rfl
   |some p=>
    obtain⟨ia,i,zs⟩:=p;have:(Aai ops.size V).getD ia V=V:=by
     rw[HE,Iq];split<;>rfl
    simp only[stL,this,GF]
  rw[dg];exact C1F (s:=s) (λi=>by
   rw[HE,Iq];split<;>rfl) h2 h3 (hr.drew hE.U)
 have ov:m<=ops.size:=by simpa using mI
 have kV:∀i,(Aai ops.size V).getD i V=V:=λi=>by
  rw[HE,Iq];split<;>rfl
 have tK:∀(listed:Array Bool)(X:St Ty den),(∀j,listed.getD j V=Z->j∈(Aaz m).filter λi=>mem i fl)->stL al listed X=X:=λlisted X hl=>by
  cases al with
  |none=>rfl
  |some p=>
   obtain⟨ia,i,zs⟩:=p;obtain⟨t,hA⟩:=fW;have:listed.getD ia V=V:=by
    cases pi:listed.getD ia V with
    |false=>rfl
    |true=>
     exfalso;have h5:=hl ia pi;simp only[JS,Iy]at h5;obtain⟨o,h6,h7⟩:=rW ia h5.2;obtain⟨oa,q1,q2,_⟩:=hA.op;have Cx:oa=o:=by rw[q1]at h6;exact Hb h6
     subst Cx;have dP:Pr oa=V:=by
      unfold Pr;split;rename_i t he;rw[he]at q2;cases q2;simp
     have Cy:Uy oa=V:=by
      unfold Uy;split;rename_i t he;rw[he]at q2;cases q2;simp
     simp[Lm,tl1,dP,Cy]at h7
   simp only[stL,this,GF]
 have pm:∀i,i∈(Aaz m).filter (λi=>mem i fl)->∃o,ops.toList[i]?=J o/\Lm ops m (D1 (ops.toList.take m)) i o=Z:=λi hi=>by
  simp only[JS,Iy]at hi;obtain⟨o,h6,h7⟩:=rW i hi.2;refine⟨o,h6,?_⟩;rcases JD.1 h7 with h8|h8;exact h8;exfalso;simp only[tl1,Fn]at h8;have:=Hu h8.1;omega
 have iU:=λmd=>C5N (B:=B) (md:=md) (Q:=Q0) hE h4 bv iC fC jb ((Aaz m).filter λi=>mem i fl) ops.size (Aai ops.size V) a GN GN pm (List.nodup_range.filter _) (λi _=>kV i) (by
   have:=dG;rw[tK _ _ (λj hj=>by rw[kV]at hj;cases hj)]at this;exact this) aw (λtL ow a0 xi tM dq Ag xj=>
  B9R (B:=B) (md:=md) (Q:=Q0) (fl:=fl) hE ov eU h4 eu iC bv fW (λk o ho hk listed h1 h2 j hj=>(jT md k o ho).2 hk listed h1 h2 j FK) (λfuel listed a' w' bu fA hl bU ir=>
   B4j hE (jT md) (λk o ho Cz lO=>by
    obtain⟨o',h6,h7⟩:=rW k Cz;rw[ho]at h6;cases h6;rcases JD.1 h7 with h8|h8;exfalso;simp only[Lm,Fn,HU]at h8;omega;simp only[tl1,Fn]at h8;exact h8.2) fC jb hk (ops.toList.drop m) m (stL al listed sF) a' w' fuel listed rfl bu fA hl (GU _) ov (by
    cases al with
    |none=>exact hT
    |some p=>
     obtain⟨ia,i,zs⟩:=p;obtain⟨t,hA⟩:=fW;simp only[stL,(hl ia).2 hA.lt,GD];exact hT) bU ir) tL ow a0 _ xi tM (λi o hi ho e he _=>by
    rcases (dq i).1 hi with h5|h5;rw[kV]at h5;cases h5;obtain⟨o',h6,h7⟩:=pm i h5;have nY:ops.toList[i]?=J o:=by simpa using ho
    rw[nY]at h6;cases h6;simp only[Lm,Fn]at h7;exfalso;have h8:e∈o.after.toList:=by simpa using he
    have h9:=h7.2.2.1;cases hl:o.after.toList with
    |nil=>rw[hl]at h8;cases h8
    |cons y l=>rw[hl]at h9;cases h9) (λi hi=>by
    rcases (dq i).1 hi with h5|h5;rw[kV]at h5;cases h5;simp only[JS,Iy]at h5;exact h5.1) (λj hj wV=>(dq j).2 (.inr (by simp only[JS,Iy];exact⟨hj,wV⟩))) (by
    rw[tK _ _ (λj hj=>by
     rcases (dq j).1 hj with h5|h5;rw[kV]at h5;cases h5;exact h5)]
    exact Ag) xj)
 refine wp_region_draw λt=>?_;unfold Region.schedule;split
 exact Abb _ _ _ _ _ (iU .any);split;exact Abb _ _ _ _ _ (iU .text);exact Abb _ _ _ _ _ (iU .gc)
end
end Go.Aev
end
section
open Go.Lib
namespace Go.Aev
variable {Ty:Type}{den:Ty->Type}
section
variable {E:Env Ty den}{B:Bs}{g:Gh}{s:St Ty den}{a:Act}{w:World}
variable {P:Aae}{R:Type}{o:Oper}{k:St Ty den->Option R}{r:R}
def SS:∀{l r:Gv},Xu l r=Z->l=r
 |[],[],_=>rfl
 |[],_::_,h=>by cases h
 |_::_,[],h=>by cases h
 |a::x,b::y,h=>by
  simp only[Xu,Fn]at h;rw[HZ h.1,SS h.2]
def C7Y{w:World}{b c i j:Nat}(h:b≠c)(u v:Value):(w.setCell ⟨b,i,O⟩ u).setCell ⟨c,j,O⟩ v=(w.setCell ⟨c,j,O⟩ v).setCell ⟨b,i,O⟩ u:=by
 simp only[Abf];congr 1;apply Ik;intro k;simp only[IM];by_cases h1:b=k;subst h1;rw[GI (IC h),GJ rfl,GI (IC h),GJ rfl];by_cases h2:c=k<;>simp[h1,h2]
def B92{b c j:Nat}(h:b≠c)(v:Value):∀(us:Gw)(i:Nat)(w:World),(C7 w b i us).setCell ⟨c,j,O⟩ v=C7 (w.setCell ⟨c,j,O⟩ v) b i us
 |[],_,_=>rfl
 |u::us,i,w=>by
  rw[C7,C7,B92 h v us,C7Y h]
def C5J{b c:Nat}(h:b≠c)(us:Gw)(i:Nat):∀(vs:Gw)(j:Nat)(w:World),C7 (C7 w b i us) c j vs=C7 (C7 w c j vs) b i us
 |[],_,_=>rfl
 |v::vs,j,w=>by
  rw[C7,B92 h,C5J h us i vs, <-C7]
def B0A{a:Act}{d:Nat}{v:Value}(h:d<a.tmps.size):(a.put (J d) v).eval (.tmp d)=v:=by
 simp[Aav,Aa8,h]
def Ls{a:Act}{d j:Nat}{v:Value}(h:j≠d):(a.put (J d) v).eval (.tmp j)=a.eval (.tmp j):=
 Act.eval_put λe he hj=>by cases he;cases hj;exact h rfl
def SW{j:Nat}{l:Gv}(h:(!mem j l)=Z){d:Nat}(hd:mem d l=Z):j≠d:=λe=>by
 subst e;rw[hd]at h;cases h
def B0E{a:Act}{d:GA}{v:Value}:(a.put d v).tmps.size=a.tmps.size:=by cases d<;>simp[Aav]
def B3N{w:World}{b q:Nat}{vs:Gw}{c:Array Value}{e:Aad}{fz:Nat×Nat}(P:Aae)(hb:w.heap[b]?=J (.cells c e fz))(hq:q+vs.length<=c.size)(hf:fz.2<=q)(bR:∀v∈vs,v.oneCell'=Z):
  (Abc ⟨b,q,O⟩ vs).run P w=.ok () (C7 w b q vs)/\Wr w (C7 w b q vs) b q vs:=by
 obtain⟨s1,⟨c',s2,s3,s4,s5⟩,s6,s7,s8,s9,jR⟩:=Px P b e fz vs q w c hb hq (λj h1 h2=>FK) bR;exact⟨s1 _ 0 rfl (HH _),⟨λc1 e1 f1 h1=>by rw[hb]at h1;cases h1;exact⟨c',s2,s3,s4,s5⟩,s7,s6,s8,s9,jR⟩⟩
def B2w{o:Oper}{t:Aad}{x y:Aaf}{zs:List (Leaf Ty den)}{b q:Nat}{vs:Gw}{w':World}(hZ:∀t zs,E.zr t=J zs->Ky P E.U t zs)(ag:o.op=.store t x y)(hz:E.zr t=J zs)(hx:a.eval x=.pointer (J ⟨b,q,O⟩))(hv:(a.eval y).cells.toList=vs)(hn:vs.length=zs.length)
  (dg:(Abc ⟨b,q,O⟩ vs).run P w=.ok () w'):(Aac a.eval o).run P w=.ok .skip w':=by
 obtain⟨ie,z,e1,e2,_⟩:=hZ t zs hz;have aw:(Aau t).run P w=.ok zs.length w:=by simp[Aau,Aaw,e1,e2]
 have h1:(a.eval y).cells.size=zs.length:=by rw[<-hn, <-hv];simp
 simp[Aac,ag,hx,Abs,Abh,storeVar,aw,h1,hv,dg]
def C1b{t:Aad}{n:Nat}(h:tyN E t=J n):∃zs,E.zr t=J zs/\zs.length=n:=by
 unfold tyN at h;split at h;rename_i zs dJ;exact⟨zs,dJ,Hb h⟩;cases h
def C3i{s:St Ty den}:∀{l:Gv}{i:Nat},(Ry s l).get i=.one .any\/(Ry s l).get i=s.get i/\mem i l=V
 |[],i=>.inr ⟨rfl,rfl⟩
 |d::r,i=>by
  rcases C3i (s:=s.set d (.one .any)) (l:=r) (i:=i)with h|⟨h,h2⟩;exact .inl h;rw[F2]at h;by_cases hd:d=i;rw[GJ hd]at h;exact .inl h;rw[GI hd]at h;refine .inr ⟨h,?_⟩;cases hb:mem i (d::r)with
  |false=>rfl
  |true=>
   rcases (mem_cons _ _ _).1 hb with e|e;exact absurd e hd;rw[h2]at e;cases e
def B7T{s:St Ty den}:∀{l:Gv},(Ry s l).live=s.live
 |[]=>rfl
 |d::r=>B7T (s:=s.set d (.one .any)) (l:=r)
def C8u{s s':St Ty den}{ty:Aad}{j:Nat}(h:s'.get j=s.get j):opl E s' ty (.tmp j)=opl E s ty (.tmp j):=by
 unfold opl opd;dsimp only;rw[h]
def B5x{s:St Ty den}{ty:Aad}{j:Nat}{l:Leaf Ty den}(h:s.get j=.one l):opl E s ty (.tmp j)=l:=by
 unfold opl opd;dsimp only;rw[h]
def D3I(hE:U4 P E B){ops:Array Oper}{m:Nat}(gH:Xv ops m=Z)(bv:∀o∈ops.toList,∀d,o.dst=J d->d<1000000)(h:B4O E ops m s k=J r)(hr:Rel E.U B g s a w)(aw:a.tmps.size=E.nt){Q:Exit->Act->World->Prop}
  (jb:∀c a d v w,Q (.panic c) (Aav a d v) w->Q (.panic c) a w)(hk:∀s' a' w',k s'=J r->REL E.U B s' a' w'->a'.tmps.size=E.nt->Q .normal a' w')(f:Nat):wpAny P .any ops Q (f+6) (Mh m) a w:=by
 have hU:=hE.U;unfold B4O at h;split at h
 ·rename_i dA c xk Aj Ak dI t2 a2 jn CA CB CC t3 i3 jv Al Am An dN jp CD CE CF dF t5 n5 fi CG CH CI t6 f6 a6 xl xm xn tN;split at h
  ·rename_i t1 u1 x1 y1 az fy aC;have hb:=A5 h;clear h;obtain⟨hc,h⟩:=hb;simp only[Fn]at hc;obtain⟨gN,fF,⟨wj,rZ,Ao⟩,Ap⟩:=hc;have gN:=SS gN;simp only[Ir,and_true]at gN;obtain⟨rfl,rfl,rfl,rfl,rfl,rfl⟩:=gN;split at h
   ·rename_i t' e1 u' e2 t0 l0 d u0 m0 own v0 x0 n sv fs tO toq hx hy hv hn xo;split at h
    ·rename_i b off hp;split at h
     rotate_left
     cases h;rename_i l zz x o' n1 ls sz zC cl cz cx rW lJ xp tP;have hb:=A5 h;clear h;obtain⟨hc,h⟩:=hb;simp only[Fn,decide_eq_true_eq]at hc;obtain⟨⟨k1,k4,k5,k6,k7,k8,k9⟩,k2,k3⟩:=hc;have k4:=HZ k4;have k5:=HZ k5;subst k4 k5;rw[HU]at k6;have k7:=Hu k7;subst k2;obtain⟨ec,xq⟩:=YD cx;subst ec;have xq:x0=x:=by simpa using xq
     subst xq;obtain⟨e0,nu⟩:=YD cl;subst e0;have nu:l0=l:=nu;subst nu;simp only[Xv,Fn]at gH;obtain⟨o0,o1,o2,o3,o4,o5,o6,o7,o8,o9⟩:=gH;have o0:=HZ o0;have o2:=SS o2;have o6:=SS o6;have o7:=SS o7;have o8:=SS o8;have o9:=SS o9;simp only[tk1,Fn]at o3 o4 o5;have pn:∀(i:Nat)(o:Oper),(ops.toList.drop m)[i]?=J o->ops[m+i]?=J o:=λi o hi=>by
      rw[IE]at hi;simpa using hi
     rw[tN]at pn;have q1:=pn 0 _ rfl;have q2:=pn 1 _ rfl;have q3:=pn 2 _ rfl;have q4:=pn 3 _ rfl;have q5:=pn 4 _ rfl;have q6:=pn 5 _ rfl;have low:∀(i:Nat)(o:Oper)(j:Nat),(ops.toList.drop m)[i]?=J o->o.dst=J j->j<1000000:=λi o j hi hj=>bv o (KJ (HI hi)) j hj;rw[tN]at low;have lA:=low 0 _ dA rfl rfl;have lI:=low 1 _ dI rfl rfl;have lN:=low 3 _ dN rfl rfl;have lF:=low 4 _ dF rfl rfl;simp only[JO,List.all_nil,Jw,Fn]at Ap;obtain⟨rA,rI,rN,rF⟩:=Ap;have rA:=OI rA dA rfl;have rI:=OI rI dI rfl;have rN:=OI rN dN rfl;have rF:=OI rF dF rfl;have np:=hE.np;have vJ:mem dA [dA,dI,dN,dF]=Z:=(mem_cons _ _ _).2 (.inl rfl);have xr:mem dI [dA,dI,dN,dF]=Z:=(mem_cons _ _ _).2 (.inr ((mem_cons _ _ _).2 (.inl rfl)));have Aq:mem dN [dA,dI,dN,dF]=Z:=(mem_cons _ _ _).2 (.inr ((mem_cons _ _ _).2 (.inr ((mem_cons _ _ _).2 (.inl rfl)))));have Ar:mem dF [dA,dI,dN,dF]=Z:=(mem_cons _ _ _).2 (.inr ((mem_cons _ _ _).2 (.inr ((mem_cons _ _ _).2 (.inr ((mem_cons _ _ _).2 (.inl rfl)))))));obtain⟨xt,CJ⟩:=SQ fF dA _ rfl;obtain⟨As,CK⟩:=SQ CJ dI _ rfl;obtain⟨CL,FC⟩:=SQ CK dN _ rfl;have ne:∀{x y:Nat}{l:Gv},mem x l=V->mem y l=Z->y≠x:=λh1 h2 e=>by subst e;rw[h1]at h2;cases h2
     have tQ:dI≠dA:=ne xt ((mem_cons _ _ _).2 (.inl rfl));have tR:dN≠dA:=ne xt ((mem_cons _ _ _).2 (.inr ((mem_cons _ _ _).2 (.inl rfl))));have tS:dF≠dA:=ne xt ((mem_cons _ _ _).2 (.inr ((mem_cons _ _ _).2 (.inr ((mem_cons _ _ _).2 (.inl rfl))))));have xu:dN≠dI:=ne As ((mem_cons _ _ _).2 (.inl rfl));have xv:dF≠dI:=ne As ((mem_cons _ _ _).2 (.inr ((mem_cons _ _ _).2 (.inl rfl))));have CM:dF≠dN:=ne CL ((mem_cons _ _ _).2 (.inl rfl));have bV:=E4 hr t1 x1;rw[hx]at bV;have pe:=(E4 hr u1 y1).1;rw[hy]at pe;have dt:=E4 hr 0 (.tmp jv);rw[hv]at dt;have lQ:=S4 hr hn;obtain⟨cO,ie,z,bO,tT,xw,CN,dJ⟩:=M9 hE.tb tO;obtain⟨eo,eg⟩:=B37 (P:=P) hU (QK cz pe).1;obtain⟨v',w2,bA,gJ,cap,c2,At,fz,r1,r2,r3,r4,r5,r6,r7,_,r8⟩:=C4P (o:=⟨J dA,.call c,xk,Aj,Ak,O⟩) (ty:=xk) (l:=l0) (m:=[x0]) hU cO (.inl ⟨_,(M9 hE.tb toq).1⟩) bO tT xw CN dJ hr (λi hi=>by cases hi;exact⟨by rw[aw];exact rA.1,HT np rA.2⟩) k1 (VM hE.tb tO) bV eg rfl (Jz 0) (VQ k3);simp only[Fr,GT,HL]at r2 r6 r8;have xx:(Aac a.eval ⟨J dA,.call c,xk,Aj,Ak,O⟩).run P w=.ok (.value v') w2:=by
      have h1:c.argTypes= #[t1,u1]:=W8 fy;have h2:c.args= #[x1,y1]:=W8 aC;simp[Aac,Aap,az,h1,h2,invoke,builtin,r1]
     obtain⟨Au,CO,Av⟩:=B1S (E:=E) hU (n:=E.U.size t0) (lf:=.agg t0 x0) (ys:=E.U.cells t0 x0) (by simp[cellsOf]) dt;have vl:(a.eval (.tmp jv)).cells.toList.length=1*E.U.size t0:=by simp[Au]
     have tU:∀v∈(a.eval (.tmp jv)).cells.toList,v.oneCell'=Z:=λv dE=>by
      obtain⟨j,hj,rfl⟩:=II dE;have oO:j<(E.U.cells t0 x0).length:=by rw[CO, <-Au];simpa using hj
      obtain⟨u,xy,CP,_⟩:=Av j _ (GE oO);have:(a.eval (.tmp jv)).cells.toList[j]=u:=by
       have h5:(a.eval (.tmp jv)).cells.toList[j]?=J u:=by simpa using xy
       rw[GE hj]at h5;exact Hb h5
      rw[this];exact CP
     have dL:(l0.length+1)*E.U.size t0<=cap*E.U.size t0:=Hq _ r6;rw[Hz]at dL;obtain⟨CQ,W3⟩:=B3N (w:=w2) (q:=gJ+l0.length*E.U.size t0) (vs:=(a.eval (.tmp jv)).cells.toList) P r4 (by rw[vl];omega) r7 tU;have xz:=r8 _ _ vl (λj lf hj=>by
      have hj:(E.U.cells t0 x0)[j]?=J lf:=by simpa [flat]using hj
      obtain⟨u,xy,_,_,u4⟩:=Av j lf hj;exact⟨u,by simpa using xy,u4.1⟩) W3
     generalize nX:(a.eval (.tmp jv)).cells.toList=vs at*;generalize xA:C7 w2 bA (gJ+l0.length*E.U.size t0) vs=w3 at*;obtain⟨g3,R3⟩:=xz;have CR:=SW wj vJ;have CS:=SW rZ vJ;have CT:=SW Ao vJ;have z0:dA<a.tmps.size:=by rw[aw];exact rA.1
     have gb:∀j,j<1000000->j≠bxi b:=λj hj=>by unfold bxi;omega
     have xB:∀j,j≠dA->((s.fresh d).setO (J dA) (.one (.sl t0 (l0++[x0]) (J d)))).get j=(s.fresh d).get j:=λj hj=>by
      show((s.fresh d).set dA _).get j=_;rw[F2,GI (IC hj)]
     have tV:J1 ((s.fresh d).setO (J dA) (.one (.sl t0 (l0++[x0]) (J d)))) b=J ls:=by
      unfold J1;rw[xB _ (IC (gb dA lA))];exact lJ
     have CU:opl E ((s.fresh d).setO (J dA) (.one (.sl t0 (l0++[x0]) (J d)))) 0 (.tmp jp)=.ptr b off:=by rw[<-hp];exact C8u (xB _ CT)
     obtain⟨cu,aD,Cc⟩:=Ml R3 tV;have po:=E4 R3 0 (.tmp jp);rw[CU]at po;obtain⟨bB,nb,hG,vA,co,dh,aQ⟩:=SJ k8 po cu;have eA:(a.put (J dA) v').eval (.tmp dA)=v':=B0A z0;have Aw:=E4 R3 0 (.tmp dA);have gA:opl E ((s.fresh d).setO (J dA) (.one (.sl t0 (l0++[x0]) (J d)))) 0 (.tmp dA)=.sl t0 (l0++[x0]) (J d):=B5x (by
      show((s.fresh d).set dA _).get dA=_;rw[F2,GJ rfl])
     rw[gA,eA]at Aw;have jl:=(Aw.2.1 _ _ _ rfl).1;rw[r2]at jl;have dl:mem d ((s.fresh d).setO (J dA) (.one (.sl t0 (l0++[x0]) (J d)))).live=Z:=(mem_cons _ _ _).2 (.inl rfl);have xd:d≠b:=λe=>by
      subst e;rw[hG]at jl;simp at jl
     have tW:nb≠0:=FK;have xC:bB≠bA:=λe=>by
      subst e;refine R3.disj d b bB dl aD xd ?_ ?_;rw[<-jl];simp[spare,r3];rw[hG];simp[spare,tW]
     obtain⟨aB,lB,cB,Ax,_,gD⟩:=R3.tip b aD;rw[hG]at Ax;cases Ax;obtain⟨FD,CV,cc,eB,fB,ha,wk,CW,Ay,FE⟩:=gD.resolve_left tW;cases ha;rw[dh]at CW Ay;have CX:g3.wm bB=0:=by rw[Ay]
     have FF:fB.2=0:=FK;have tX:off+o'+1<=cc.size:=FK;have vK:v'.cells.toList=[v']:=by rw[r2];rfl
     have pp:∀v∈[v'],v.oneCell'=Z:=λv hv=>by rw[HW.1 hv,r2];rfl
     obtain⟨CY,W6⟩:=B3N (w:=w3) (q:=off+o') (vs:=[v']) P wk (by simpa using tX) FK pp;have xD:w2.heap[bB]?=J (.cells cc eB fB):=(W3.oth bB xC).symm.trans wk;obtain⟨xE,CZ⟩:=B3N (w:=w2) (q:=off+o') (vs:=[v']) P xD (by simpa using tX) FK pp;obtain⟨tY,_⟩:=B3N (w:=C7 w2 bB (off+o') [v']) (q:=gJ+l0.length*E.U.size t0) (vs:=vs) P ((CZ.oth bA (IC xC)).trans r4) (by rw[vl];omega) r7 tU;have tZ:C7 (C7 w2 bB (off+o') [v']) bA (gJ+l0.length*E.U.size t0) vs=C7 w3 bB (off+o') [v']:=by rw[<-xA,C5J xC]
     rw[tZ]at tY;generalize jm:a.put (J dA) v'=a1 at*;have z1:a1.tmps.size=a.tmps.size:=by rw[<-jm];exact B0E
     have cS:(Abk bA gJ O).add (l0.length*E.U.size t0)=⟨bA,gJ+l0.length*E.U.size t0,O⟩:=Hw _ _ _;have xF:∀w,(Aac a1.eval ⟨J dI,.indexAddr t1 (.tmp dA) (.tmp jn),CA,CB,CC,O⟩).run P w=.ok (.value (.pointer (J ⟨bA,gJ+l0.length*E.U.size t0,O⟩))) w:=λw=>by
      have ei:a1.eval (.tmp jn)=.int .i64 (l0.length:Int):=by rw[<-jm,Ls CR];exact lQ
      have h0:(0:Int)<=(l0.length:Int):=FK;have h1:(l0.length:Int)<((l0.length+1:Nat):Int):=FK;simp[Aac,eA,r2,ei,Abt,asIntOf,Aa1 cO,h0,h1,Aau,Aaw,bO,tT];omega
     have sI:dI<a1.tmps.size:=by rw[z1,aw];exact rI.1
     obtain⟨a2,jW⟩:∃a2,a2=a1.put (J dI) (.pointer (J ⟨bA,gJ+l0.length*E.U.size t0,O⟩)):=⟨_,rfl⟩;have z2:a2.tmps.size=a1.tmps.size:=by rw[jW];exact B0E
     have sN:dN<a2.tmps.size:=by rw[z2,z1,aw];exact rN.1
     have xG:∀w,(Aac a2.eval ⟨J dN,.nilCheck (.tmp jp),CD,CE,CF,O⟩).run P w=.ok (.value (.pointer (J ⟨bB,off,O⟩))) w:=λw=>by
      have:a2.eval (.tmp jp)=.pointer (J ⟨bB,off,O⟩):=by rw[jW,Ls (SW Ao xr)];exact vA
      simp[Aac,this]
     obtain⟨a3,oo⟩:∃a3,a3=a2.put (J dN) (.pointer (J ⟨bB,off,O⟩)):=⟨_,rfl⟩;have z3:a3.tmps.size=a2.tmps.size:=by rw[oo];exact B0E
     have sF:dF<a3.tmps.size:=by rw[z3,z2,z1,aw];exact rF.1
     have xH:∀w,(Aac a3.eval ⟨J dF,.fieldAddr t5 (.tmp dN) fi,CG,CH,CI,O⟩).run P w=.ok (.value (.pointer (J ⟨bB,off+o',O⟩))) w:=λw=>
      B4W hE.tb rfl xo rW k6 bB off (by rw[oo];exact B0A sN)
     obtain⟨a4,qP⟩:∃a4,a4=a3.put (J dF) (.pointer (J ⟨bB,off+o',O⟩)):=⟨_,rfl⟩;have z4:a4.tmps.size=a3.tmps.size:=by rw[qP];exact B0E
     have Az:a4.eval (.tmp dI)=.pointer (J ⟨bA,gJ+l0.length*E.U.size t0,O⟩):=by rw[qP,Ls (IC xv),oo,Ls (IC xu),jW];exact B0A sI
     have AA:(a4.eval (.tmp jv)).cells.toList=vs:=by rw[qP,Ls (SW rZ Ar),oo,Ls (SW rZ Aq),jW,Ls (SW rZ xr), <-jm,Ls CS];exact nX
     have AB:a4.eval (.tmp dF)=.pointer (J ⟨bB,off+o',O⟩):=by rw[qP];exact B0A sF
     have AC:(a4.eval (.tmp dA)).cells.toList=[v']:=by rw[qP,Ls (IC tS),oo,Ls (IC tR),jW,Ls (IC tQ),eA];exact vK
     obtain⟨FG,AD,xI⟩:=C1b xp;obtain⟨FH,AE,vL⟩:=C1b tP;have xJ:(Aac a4.eval ⟨O,.store t3 (.tmp dI) (.tmp jv),Al,Am,An,O⟩).run P w2=.ok .skip w3:=B2w hE.zr rfl AD Az AA (by rw[vl,xI,JU]) CQ;have ua:(Aac a4.eval ⟨O,.store t3 (.tmp dI) (.tmp jv),Al,Am,An,O⟩).run P (C7 w2 bB (off+o') [v'])=.ok .skip (C7 w3 bB (off+o') [v']):=B2w hE.zr rfl AD Az AA (by rw[vl,xI,JU]) tY;have ub:(Aac a4.eval ⟨O,.store t6 (.tmp dF) (.tmp dA),xl,xm,xn,O⟩).run P w3=.ok .skip (C7 w3 bB (off+o') [v']):=B2w hE.zr rfl AE AB AC (by rw[vL];rfl) CY;have uc:(Aac a4.eval ⟨O,.store t6 (.tmp dF) (.tmp dA),xl,xm,xn,O⟩).run P w2=.ok .skip (C7 w2 bB (off+o') [v']):=B2w hE.zr rfl AE AB AC (by rw[vL];rfl) xE;have bQ:Q .normal a4 (C7 w3 bB (off+o') [v']):=by
      have R4:=R3.set (e:=.one .any) (v:=.pointer (J ⟨bA,gJ+l0.length*E.U.size t0,O⟩)) (LRep.any _) rfl dI ⟨sI,HT np rI.2⟩;rw[<-jW]at R4;rw[vA]at po;have R5:=R4.set (e:=.one (.ptr b off)) po rfl dN ⟨sN,HT np rN.2⟩;rw[<-oo]at R5;have R6:=R5.set (e:=.one (.ptr b (off+o'))) (v:=.pointer (J ⟨bB,off+o',O⟩)) ⟨.pt _ _ _,λ_ _ _ he=>by(cases he),λd' o2 he=>by(cases he;exact⟨bB,nb,hG,.inl ⟨rfl,k9⟩⟩)⟩ rfl dF ⟨sF,HT np rF.2⟩;rw[<-qP]at R6;have gX:∀{e1 e2 e3:Ent Ty den}{s2:St Ty den}{j:Nat},j≠dI->j≠dN->j≠dF->(((s2.set dI e1).set dN e2).set dF e3).get j=s2.get j:=λh1 h2 h3=>by
       rw[F2,GI (IC h3),F2,GI (IC h2),F2,GI (IC h1)]
      have xK:=B9l (o:=⟨O,.store t6 (.tmp dF) (.tmp dA),xl,xm,xn,O⟩) (P:=P) (Q:=Q) (R:=St Ty den) (k:=λ_ s'=>J s') (r:=(((((s.fresh d).setO (J dA) (.one (.sl t0 (l0++[x0]) (J d)))).set dI (.one .any)).set dN (.one (.ptr b off))).set dF (.one (.ptr b (off+o')))).set (bxi b) (.bx b (P3 ls (off+o') [.sl t0 (l0++[x0]) (J d)])))
       (next:=λa' w'=>REL E.U B ((((((s.fresh d).setO (J dA) (.one (.sl t0 (l0++[x0]) (J d)))).set dI (.one .any)).set dN (.one (.ptr b off))).set dF (.one (.ptr b (off+o')))).set (bxi b) (.bx b (P3 ls (off+o') [.sl t0 (l0++[x0]) (J d)]))) a' w') hE.U hE.zr rfl (by
        have v1:opl E (((((s.fresh d).setO (J dA) (.one (.sl t0 (l0++[x0]) (J d)))).set dI (.one .any)).set dN (.one (.ptr b off))).set dF (.one (.ptr b (off+o')))) 0 (.tmp dF)=.ptr b (off+o'):=B5x (by rw[F2,GJ rfl]);have v2:(((((s.fresh d).setO (J dA) (.one (.sl t0 (l0++[x0]) (J d)))).set dI (.one .any)).set dN (.one (.ptr b off))).set dF (.one (.ptr b (off+o')))).get dA=.one (.sl t0 (l0++[x0]) (J d)):=by
         rw[gX (IC tQ) (IC tR) (IC tS)];show((s.fresh d).set dA _).get dA=_;rw[F2,GJ rfl]
        have v3:opd E (((((s.fresh d).setO (J dA) (.one (.sl t0 (l0++[x0]) (J d)))).set dI (.one .any)).set dN (.one (.ptr b off))).set dF (.one (.ptr b (off+o')))) t6 (.tmp dA)=.one (.sl t0 (l0++[x0]) (J d)):=by
         unfold opd;dsimp only;rw[v2]
        have v4:J1 (((((s.fresh d).setO (J dA) (.one (.sl t0 (l0++[x0]) (J d)))).set dI (.one .any)).set dN (.one (.ptr b off))).set dF (.one (.ptr b (off+o')))) b=J ls:=by
         rw[<-tV];unfold J1;rw[gX (IC (gb dI lI)) (IC (gb dN lN)) (IC (gb dF lF))]
        simp only[A6,v1,tP,v3,v4,B5x v2,cellsOf,Rt];have:Nat.ble (off+o'+1) ls.length=Z:=by rw[Ih];exact k7
        simp only[this,k9,Aaa,Hy,GD]) R6 (λ_ h=>by cases h) (λe s' v w' h1 h2=>by cases h1;exact h2)
      unfold Aan at xK;rw[ub,Abg]at xK;obtain⟨g7,R7⟩:=xK;refine hk _ _ _ h ⟨g7,R7.weaken (λi=>?_) (λd' ek=>?_) (λi d' cf _ ek=>?_)⟩ (by rw[z4,z3,z2,z1,aw]);by_cases hi:bxi b=i;right;rw[F2,GJ hi,F2,GJ hi];rw[F2,GI hi,F2,GI hi];rcases C3i (s:=s.fresh d) (l:=[dA,dI,dN,dF]) (i:=i)with h1|⟨h1,h2⟩;exact .inl h1;right;have nm:∀x,mem x [dA,dI,dN,dF]=Z->i≠x:=λx hx e=>by subst e;rw[h2]at hx;cases hx
      rw[h1,gX (nm _ xr) (nm _ Aq) (nm _ Ar),xB _ (nm _ vJ)];have h1:mem d' (Ry (s.fresh d) [dA,dI,dN,dF]).live=Z:=ek;rw[B7T]at h1;exact h1;show mem d' (Ry (s.fresh d) [dA,dI,dN,dF]).live=Z;rw[B7T];exact ek
     refine Aa5 o2 GN λi hi=>?_;rw[HW.1 hi];unfold wpOp;rw[show m+0=m from rfl]at q1;simp only[q1];rw[GJ (by simp[Aak])];refine .inl ?_;unfold Aan;rw[xx,Oper.upon_value];show wpAny P .any ops Q (f+5) _ (a.put (J dA) v') w2;rw[jm];refine Aba q2 o1 o3.1 o3.2 (λc a w=>jb c a _ _ w) (.inl ⟨rfl,xF⟩) ?_;show wpAny P .any ops Q (f+4) _ (a1.put (J dI) _) w2;rw[<-jW];refine Aba q4 o1 o4.1 o4.2 (λc a w=>jb c a _ _ w) (.inl ⟨rfl,xG⟩) ?_;show wpAny P .any ops Q (f+3) _ (a2.put (J dN) _) w2;rw[<-oo];refine Aba q5 o1 o5.1 o5.2 (λc a w=>jb c a _ _ w) (.inl ⟨rfl,xH⟩) ?_;show wpAny P .any ops Q (f+2) (ls4 m) (a3.put (J dF) _) w2;rw[<-qP];have one:∀(i:Nat)(o:Oper)(l:Array Bool)(w w':World)(n:Nat),ops[i]?=J o->o.guard=O->o.dst=O->(Aac a4.eval o).run P w=.ok .skip w'->wpAny P .any ops Q n (seT l i) a4 w'->wpOp P ops Q i (wpAny P .any ops Q n (l.setIfInBounds i Z)) a4 w:=λi o l w w' n h1 h2 h3 h4 h5=>by
      unfold wpOp;simp only[h1];rw[GJ (by simp[Aak,h2])];refine .inl ?_;unfold Aan;rw[h4,Abg,h3];exact h5
     refine Aa5 o6 GN λi hi=>?_;rcases HC.1 hi with rfl|hi
     refine one _ _ _ _ _ _ q3 rfl rfl xJ (Aa5 o7 GN λi hi=>?_);rcases HW.1 hi with rfl;exact one _ _ _ _ _ _ q6 rfl rfl ub (wpAny_done o9 bQ f);rcases HW.1 hi with rfl;refine one _ _ _ _ _ _ q6 rfl rfl uc (Aa5 o8 GN λi hi=>?_);rcases HW.1 hi with rfl;refine one _ _ _ _ _ _ q3 rfl rfl ua (wpAny_done ?_ bQ f);rw[show seT (seT (ls4 m) (m+5)) (m+2)=seT (seT (ls4 m) (m+2)) (m+5)from Jy _ _ FK];exact o9
    cases h
   cases h
  cases h
 cases h
def C89(hE:U4 P E B){Q:Exit->Act->World->Prop}(id:Nat)(ops:Array Oper)(s:St Ty den)(a:Act)(w:World)(k:St Ty den->Option R)
  (h:B7j E ops s k=J r)(hr:REL E.U B s a w)(aw:a.tmps.size=E.nt)
  (hk:∀s' a' w',k s'=J r->REL E.U B s' a' w'->a'.tmps.size=E.nt->Q .normal a' w'):(Abw id ops Z).wp P Q a w:=by
 unfold B7j at h;cases gH:Xv ops (L7 E ops.toList)with
 |false=>rw[gH]at h;exact C56 hE id ops s a w k h hr aw hk
 |true=>
  rw[gH]at h;obtain⟨iJ,h⟩:=A5 h;refine Abv (Q:=H6 Q) (λe a w h=>by cases e<;>first|exact h|exact h.elim) ?_;have jb:∀c a d v w,H6 Q (.panic c) (Aav a d v) w->H6 Q (.panic c) a w:=λ_ _ _ _ _ h=>h.elim;have hk:∀s' a' w',k s'=J r->REL E.U B s' a' w'->a'.tmps.size=E.nt->H6 Q .normal a' w':=hk;generalize H6 Q=Q0 at jb hk ⊢;obtain⟨mI,eD⟩:=B5i (E:=E) ops.toList;generalize hm:L7 E ops.toList=m at h gH iJ mI eD;simp only[B9D,Fn]at iJ;obtain⟨qO,je,iC,iQ,fc⟩:=iJ;have eU:∀j o,(ops.toList.take m)[j]?=J o->YS E ops m j o:=λj o ho=>by
   have:=B7S rfl qO j o ho;rwa [HL]at this
  rw[YR]at iC iQ h;have bv:=C4o iQ;obtain⟨sF,⟨h1,eu⟩,h2,h3,h4⟩:=B8f ops (by rw[hm]) eD (λo ho=>bv o (IP ho)) (ops.toList.take m) _ _ (λ_ h=>h) (B4B (m:=m) eU (ops.toList.take m) 0 (λj o hj=>by rw[HL];exact hj) (C4A iC)) h;obtain⟨g,hr⟩:=hr;have ov:m<=ops.size:=by simpa using mI
  have kV:∀i,(Aai ops.size V).getD i V=V:=λi=>by
   rw[HE,Iq];split<;>rfl
  have dG:REL E.U B (stL O (Aai ops.size V) (sF.dels (H5 (Aai ops.size V) (D8 0 (ops.toList.take m))))) a {w with drawn:=w.drawn+1}:=C1F (s:=s) kV h2 h3 (hr.drew hE.U);refine wp_region_any hE.mix (B9R (B:=B) (md:=.any) (Q:=Q0) (al:=O) (fl:=[]) hE ov eU h4 eu iC bv (λj o hj ho=>?_) (λk o ho hk listed _ h2 j hj _=>?_) (λfuel listed a' w' bu fA hl bU ir=>?_) ops.size _ a _ GN GN (λi o hi=>?_) (λi hi=>?_) (λj _ hj=>by cases hj) dG aw);exact B8I fc j o (by rw[Hn,GJ hj];exact ho);have nY:o∈ops.toList.drop m:=HI (i:=k - m) (by rw[IE,show m+(k - m)=k from FK];exact ho);have h5:=HM.1 (HM.1 je o nY) j (Iy.2 hj);obtain⟨e,he,xL,hb⟩:=YT h5 .any;have:=h2 e he hb;rw[xL]at this;exact this;have pr:=gH;simp only[Xv,Fn]at pr;have Da:=HZ pr.1;have vL:listed=Mh m:=by
   apply Ik;intro i;have h5:=hl i;rw[HE]at h5;simp only[Mh,List.getElem?_toArray,KK,Ia,List.getElem?_replicate];by_cases hi:i<listed.size;rw[Hc hi]at h5 ⊢;by_cases iK:i<m;rw[GJ iK,GJ iK];have:=h5.2 iK;simpa using this;rw[GI iK,GJ FK];cases hv:listed[i]with
   |false=>rfl
   |true=>exact absurd (h5.1 (by simp[hv])) iK
   rw[IQ FK,GI FK,GI FK]
  obtain⟨g',bU⟩:=bU;rw[vL]at fA ⊢;have FJ:6<=fuel:=by
   have:(Mh m).toList.count V=6:=by simp[Mh,List.count_append,List.count_replicate]
   omega
  rw[show fuel=(fuel - 6)+6 from FK];exact D3I hE gH bv h1 bU ir jb hk (fuel - 6);rw[kV]at hi;cases hi;rw[kV]at hi;cases hi
end
end Go.Aev
end
section
open Go.Lib
namespace Go.Aev
variable {Ty:Type}{den:Ty->Type}
section
variable {E:Env Ty den}{B:Bs}{g:Gh}{s:St Ty den}{a:Act}{w:World}
variable {P:Aae}{R:Type}{o:Oper}{k:Ent Ty den->St Ty den->Option R}{r:R}{next:Act->World->Prop}{Q:Exit->Act->World->Prop}
def B9Y:Ex->Exit
 | .normal=>.normal
 | .exit id=>.exit id
 | .ret=>.ret
def B7e(E:Env Ty den)(B:Bs)(k:Ex->St Ty den->Option R)(r:R)(Q:Exit->Act->World->Prop):Prop:=
 ∀e s a w,k e s=J r->REL E.U B s a w->a.tmps.size=E.nt->Q (B9Y e) a w
def C4y{c:Code}{body:St Ty den->(Ex->St Ty den->Option R)->Option R}
  (pw:∀(s:St Ty den)(a:Act)(w:World)(k:Ex->St Ty den->Option R)(Q:Exit->Act->World->Prop),body s k=J r->REL E.U B s a w->a.tmps.size=E.nt->B7e E B k r Q->c.wp P Q a w):
  ∀(n:Nat)(s:St Ty den)(a:Act)(w:World)(k:Ex->St Ty den->Option R)(Q:Exit->Act->World->Prop),VD body n s k=J r->REL E.U B s a w->a.tmps.size=E.nt->B7e E B k r Q->
   ∀(b:Frame)(kk:List Item)(cs:List Frame),∃e a' w',Q e a' w'/\Arrives P (lone (b.at a (.code c::.inLoop c::kk)) cs w) b kk cs e a' w'
 |0,s,a,w,k,Q,h,hr,aw,hm,b,kk,cs=>by cases h
 |n+1,s,a,w,k,Q,h,hr,aw,hm,b,kk,cs=>by
  simp only[VD]at h;have h1:=pw s a w _ (λe a' w'=>match e with
   | .normal=>∀(b:Frame)(kk:List Item)(cs:List Frame),∃e AF ue,Q e AF ue/\Arrives P (lone (b.at a' (.code c::.inLoop c::kk)) cs w') b kk cs e AF ue
   |e=>Q e a' w') h hr aw (λe s' a' w' hk bU cA=>by
    cases e with
    |normal=>exact C4y pw n s' a' w' k Q hk bU cA hm
    |exit id=>exact hm _ _ _ _ hk bU cA
    |ret=>exact hm _ _ _ _ hk bU cA)
  obtain⟨e,a₁,w₁,hq,cV⟩:=h1 b (.inLoop c::kk) cs;cases e with
  |normal=>
   obtain⟨e₂,a₂,w₂,Db,uf⟩:=hq b kk cs;exact⟨e₂,a₂,w₂,Db,.of_steps (Steps.trans cV (.one step_inLoop)) uf⟩
  |exit id=>exact⟨_,a₁,w₁,hq,.pass (x:=.inLoop c) rfl (λ_ _=>.inl GN) cV⟩
  |goto l=>exact⟨_,a₁,w₁,hq,.pass (x:=.inLoop c) rfl (λ_ _=>.inl GN) cV⟩
  |ret=>exact⟨_,a₁,w₁,hq,.pass (x:=.inLoop c) rfl (λ_ _=>.inl GN) cV⟩
  |panic ch=>exact⟨_,a₁,w₁,hq,.pass (x:=.inLoop c) rfl (λ_ _=>.inl GN) cV⟩
  |outgrown=>exact⟨_,a₁,w₁,hq,.pass (x:=.inLoop c) rfl (λ_ _=>.inl GN) cV⟩
def C38(hE:U4 P E B)(n:Nat):∀(c:Code)(s:St Ty den)(a:Act)(w:World)(k:Ex->St Ty den->Option R)(Q:Exit->Act->World->Prop),J6 E n c s k=J r->REL E.U B s a w->a.tmps.size=E.nt->B7e E B k r Q->c.wp P Q a w:=by
 intro c
 induction c with
 |skip=>intro s a w k Q h hr aw hm;exact wp_skip (hm .normal s a w h hr aw)
 |region id ops xM=>
  intro s a w k Q h hr aw hm;cases xM with
  |true=>
   simp only[J6]at h;exact C89 hE id ops s a w _ h hr aw (λs' a' w' hk ⟨g',bU⟩ cA=>hm .normal _ _ _ hk ⟨g',bU.clean _⟩ cA)
  |false=>
   simp only[J6]at h;exact wp_region_list (YN hE ops ops.toList s a w _ h hr aw (λs' a' w' hk ⟨g',bU⟩ cA=>hm .normal _ _ _ hk ⟨g',bU.clean _⟩ cA))
 |seq x y tq xN=>
  intro s a w k Q h hr aw hm;simp only[J6]at h;refine wp_seq (tq s a w _ _ h hr aw ?_);intro e s' a' w' hk bU cA;cases e with
  |normal=>exact xN s' a' w' k Q hk bU cA hm
  |exit id=>exact hm _ _ _ _ hk bU cA
  |ret=>exact hm _ _ _ _ hk bU cA
 |cond c x y tq xN=>
  intro s a w k Q h hr aw hm;obtain⟨g,hr⟩:=hr;simp only[J6]at h;split at h;rename_i t hc;have vK:=VK hr hc;cases t with
  |true=>exact wp_cond_true vK (tq s a w k Q h ⟨g,hr⟩ aw hm)
  |false=>exact wp_cond_false vK (xN s a w k Q h ⟨g,hr⟩ aw hm)
  cases h
 |block id c ih=>
  intro s a w k Q h hr aw hm;simp only[J6]at h;refine wp_block (ih s a w _ _ h hr aw ?_);intro e s' a' w' hk bU cA;cases e with
  |normal=>exact hm .normal _ _ _ hk bU cA
  |ret=>exact hm .ret _ _ _ hk bU cA
  |exit j=>
   simp only[Mi]at hk;simp only[B9Y,Exit.inBlock];cases hj:Aaa j id with
   |true=>
    rw[hj]at hk;rw[GJ ((D5 j id).1 hj)];exact hm .normal _ _ _ hk bU cA
   |false=>
    rw[hj]at hk;rw[GI (λe=>by rw[(D5 j id).2 e]at hj;cases hj)];exact hm (.exit j) _ _ _ hk bU cA
 |loop c ih=>
  intro s a w k Q h hr aw hm;simp only[J6]at h;intro b kk cs;obtain⟨g,hr⟩:=hr;obtain⟨e,a',w',hq,cV⟩:=C4y (c:=c) (λs a w k Q h hr aw hm=>ih _ a w _ Q h hr aw (λe s' a' w' hk ⟨g',bU⟩ cA=>by
   cases e with
   |normal=>exact hm .normal _ _ _ hk ⟨g',bU.clean _⟩ cA
   |exit id=>exact hm _ _ _ _ hk ⟨g',bU⟩ cA
   |ret=>exact hm _ _ _ _ hk ⟨g',bU⟩ cA)) n _ a w k Q h ⟨g,hr.clean _⟩ aw hm b kk cs
  exact⟨e,a',w',hq,.of_steps (.one step_loop) cV⟩
 |exit id=>intro s a w k Q h hr aw hm;exact wp_exit (hm (.exit id) s a w h hr aw)
 |ret=>intro s a w k Q h hr aw hm;exact wp_ret (hm .ret s a w h hr aw)
 |rangeFunc f p x y=>intro s a w k Q h;simp only[J6]at h;cases h
 |scope c=>intro s a w k Q h;simp only[J6]at h;cases h
 |label l=>intro s a w k Q h;simp only[J6]at h;cases h
 |goto l=>intro s a w k Q h;simp only[J6]at h;cases h
 |refuse wy=>intro s a w k Q h;simp only[J6]at h;cases h
end
end Go.Aev
end
section
open Go.Lib
namespace Go.Aev
variable {Ty:Type}{den:Ty->Type}
section
variable {U:UO Ty den}{B:Bs}{g:Gh}{s:St Ty den}{a:Act}{w:World}
variable {E:Env Ty den}{P:Aae}
def OL:∀(ls:List (Leaf Ty den))(k i:Nat),look (SA k ls) i=if h:k<=i/\i - k<ls.length then .one ls[i - k]else .one .any
 |[],k,i=>by simp[SA,look]
 |l::ls,k,i=>by
  simp only[SA,look];by_cases h:k=i;subst h;simp[G4];rw[I2 h];simp only[GF];rw[OL ls (k+1) i];by_cases h1:k+1<=i/\i - (k+1)<ls.length;rw[dif_pos h1,dif_pos GQ];congr 1;have:i - k=(i - (k+1))+1:=FK;simp[this];rw[dif_neg h1,dif_neg GQ]
structure EnvI(P:Aae)(E:Env Ty den)(I:Inv):Prop where
 U:E.U.Ok
 tb:∀t,M4 P E.U t (E.tb t)
 zr:∀t zs,E.zr t=J zs->Ky P E.U t zs
 T:∀f ls r,E.T f ls=J (Z,r)->(∀args w,(Aag f args).run P w=.ok (.enter f args) w)/\QP P E.U I f ls r
 TB:∀f ls cs rs ay,E.TB f ls cs=J (rs,ay)->(∀args w,(Aag f args).run P w=.ok (.enter f args) w)/\T3 P E.U I f ls cs rs ay
 TI:∀(w:World)(m:Nat->Nat),I w m->∀nm ls cs rs ay,E.TI nm ls cs=J (rs,ay)->SO P E.U ⟨w,m,λ_=>False,0,λ_=>undef⟩ nm ls cs rs ay
 TR:∀f ls cs rs,E.TR f ls cs=J rs->(∀args w,(Aag f args).run P w=.ok (.enter f args) w)/\T3 P E.U I f ls cs rs cs
 mono:∀w m w' m',I w m->Ext w m w' m'->I w' m'
 dcx:Mk E.U
 TN:∀f ls cs,E.TNg f ls=J (Z,cs)->(∀args w,(Aag f args).run P w=.ok (.enter f args) w)/\VW P E.U I f ls cs
 qe:B1L P E
 mix:P.follows .mixedOrders=Z
def EnvI.at{I:Inv}(fh:EnvI P E I){B:Bs}(hI:I B.w B.wm)(vX:B.np<=E.np):U4 P E B:=
 ⟨fh.U,vX,fh.tb,fh.zr,λf' cf r' h'=>by
  obtain⟨h1,h2⟩:=fh.T f' cf r' h';exact⟨h1,λw1 g1 j8 hx=>h2 w1 g1 j8 (fh.mono _ _ _ _ hI hx)⟩,λf' cf iG ug sP h'=>by
  obtain⟨h1,h2⟩:=fh.TB f' cf iG ug sP h';exact⟨h1,λw1 g1 j8 kY hx=>h2 w1 g1 j8 kY (fh.mono _ _ _ _ hI hx)⟩,λnm cf iG ug sP h'=>fh.TI _ _ hI nm cf iG ug sP h',λf' cf iG ug h'=>by
  obtain⟨h1,h2⟩:=fh.TR f' cf iG ug h';exact⟨h1,λw1 g1 j8 kY hx=>h2 w1 g1 j8 kY (fh.mono _ _ _ _ hI hx)⟩,λf' cf iG h'=>by
  obtain⟨h1,h2,h3,h4⟩:=fh.TN f' cf iG h';exact⟨h1,h2,h3,λw1 g1 j8 hx=>h4 w1 g1 j8 (fh.mono _ _ _ _ hI hx)⟩,fh.dcx,fh.qe,fh.mix⟩
def C3L{I:Inv}(fh:EnvI P E I){f:Aah}{fn:Func}(hf:P.funcs[f]?=J fn)(du:E.nt=fn.ntmps){w:World}{g:Gh}{ls:List (Leaf Ty den)}{vs:Gw}(hI:I w g.wm)(hz:∀b,w.heap.size<=b->g.wm b=0)(anq:LsRep E.U w g ls vs)(cU:L2 ls=Z->Tip w g.wm (g.G 0) (g.Gs 0))
  {c:Code}(hb:fn.body=J c)(bw:ls.length<=E.nt){n:Nat}{R:Type}{kk:Ex->St Ty den->Option R}{r:R}(hn:J6 E n c (Mj ls) kk=J r){Rr:Ending->World->Prop}
  (bQ:∀e s' a' w' g',kk e s'=J r->Rel E.U ⟨w,g.wm,λb=>L2 ls=Z/\spare (g.G 0)=J b,0,λ_=>undef⟩ g' s' a' w'->(e=.normal\/e=.ret)/\∃v,(Aa6 fn a'.tmps).run P w'=.ok v w'/\Rr (.returned v) w'):Calls P f vs.toArray w Rr:=by
 have hE:U4 P E ⟨w,g.wm,λb=>L2 ls=Z/\spare (g.G 0)=J b,0,λ_=>undef⟩:=fh.at hI (HH _);have aA:=anq.length;refine calls_of_wp hf hb ?_;refine C38 (B:=⟨w,g.wm,λb=>L2 ls=Z/\spare (g.G 0)=J b,0,λ_=>undef⟩) hE n c _ _ _ _ _ hn ⟨g,?_⟩ GQ ?_;refine{os:=rfl,tape:=rfl,output:=rfl,size:=GU _,frame:=λb _ _=>⟨rfl,rfl⟩,ext:=Ext.refl _ _,zero:=hz,ent:=λi=>?_,tip:=λd hd=>?_,disj:=λd e b hd he aP=>?_,mine:=λd b hd hs=>?_,iter:=λi c p h=>?_,idis:=λi j c p c' p' _ h=>?_,defers:=rfl,bxl:=λi d l h=>?_,pin:=λi hi=>absurd hi (Jo i)};simp only[Mj,St.get,OL,HH,JE,true_and];split;rename_i hi;obtain⟨v,hv,dt⟩:=anq.get (GE hi);have cL:i<vs.length:=FK;have:(vs.toArray++Aai (fn.ntmps - vs.toArray.size) undef).getD i undef=v:=by
  rw[HE,Hf (by simpa using cL)];simp[hv]
 rw[this];exact dt;exact ERep.any _ _ _;simp only[Mj]at hd;cases ho:L2 ls with
 |false=>rw[ho]at hd;cases hd
 |true=>
  rw[ho]at hd;simp only[GD,mem_cons]at hd;rcases hd with rfl|hd;exact cU ho;cases hd
 simp only[Mj]at hd he;cases ho:L2 ls with
 |false=>rw[ho]at hd;cases hd
 |true=>
  rw[ho]at hd he;simp only[GD,mem_cons]at hd he;rcases hd with rfl|hd;rcases he with rfl|he;exact absurd rfl aP;cases he;cases hd
 simp only[Mj]at hd;cases ho:L2 ls with
 |false=>rw[ho]at hd;cases hd
 |true=>
  rw[ho]at hd;simp only[GD,mem_cons]at hd;rcases hd with rfl|hd;exact .inr ⟨rfl,hs⟩;cases hd
 simp only[Mj,St.get,OL]at h;split at h<;>cases h;simp only[Mj,St.get,OL]at h;split at h<;>cases h;simp only[Mj,St.get,OL]at h;split at h<;>cases h;intro e s' a' w' hk ⟨g',bU⟩ cA;obtain⟨he,v,h1,h2⟩:=bQ e s' a' w' g' hk bU;rcases he with rfl|rfl;exact⟨bU.defers,v,h1,h2⟩;exact⟨bU.defers,v,h1,h2⟩
def B2h{I:Inv}(fh:EnvI P E I){f:Aah}{fn:Func}(hf:P.funcs[f]?=J fn)(du:E.nt=fn.ntmps)(gf:∀args w,(Aag f args).run P w=.ok (.enter f args) w)
  {S:List (Leaf Ty den)->Option (Ent Ty den)}(hS:∀ls r,S ls=J r->∃n,P4 E n fn ls=J r):Sound P E.U I f S:=by
 refine⟨gf,λls r bu w g vs hI hz anq cU dP=>?_⟩;obtain⟨n,hn⟩:=hS ls r bu;unfold P4 at hn;cases hb:fn.body with
 |none=>rw[hb]at hn;cases hn
 |some c=>
  rw[hb]at hn;obtain⟨bw,hn⟩:=A5 hn;refine C3L fh hf du hI hz anq cU hb (by simpa [Ih]using bw) hn λe s' a' w' g' hk bU=>?_;have dm:B24 E fn.results.toList s'=J r->∃v,(Aa6 fn a'.tmps).run P w'=.ok v w'/\(λe w'=>∃v g',e=Abi v/\Post E.U ⟨w,g.wm,λb=>L2 ls=Z/\spare (g.G 0)=J b,0,λ_=>undef⟩ g' r v w') (.returned v) w':=λhp=>by
   obtain⟨v,h1,g2,h2⟩:=D3A (P:=P) fh.tb fh.U fh.dcx hp bU;exact⟨v,h1,v,g2,rfl,h2⟩
  cases e with
  |normal=>exact⟨.inl rfl,dm hk⟩
  |ret=>exact⟨.inr rfl,dm hk⟩
  |exit id=>cases hk
def C6m{I:Inv}(fh:EnvI P E I){f:Aah}{fn:Func}(hf:P.funcs[f]?=J fn)(du:E.nt=fn.ntmps){n:Nat}{ls cs:List (Leaf Ty den)}(hn:B5s E n fn ls=J cs)(ho:L2 ls=V):VW P E.U I f ls cs:=by
 unfold B5s at hn;cases hb:fn.body with
 |none=>rw[hb]at hn;cases hn
 |some c=>
  rw[hb]at hn;obtain⟨bw,hn⟩:=A5 hn;split at hn;rename_i oe ik;obtain⟨ox,hn⟩:=A5 hn;cases hn;rw[Fn,HU]at ox;refine⟨ox.1,ox.2,λw g vs hI hz anq dP=>?_⟩;refine C3L fh hf du hI hz anq (λh=>by rw[ho]at h;cases h) hb (by simpa [Ih]using bw) ik λe s' a' w' g' hk bU=>?_;have dm:∀h:(match fn.results.toList with
    |[.tmp t]=>match s'.get t with
     | .one (.ptr d o)=>bif Aaa o 0&&Aa2 d 1000000 then J1 s' d else O
     |_=>O
    |_=>O)=J cs,∃v,(Aa6 fn a'.tmps).run P w'=.ok v w'/\(λe w'=>∃b g',e=Abi (.pointer (J ⟨b,0,O⟩))/\Post E.U ⟨w,g.wm,λ_=>False,0,λ_=>undef⟩ g' (.one .any) (.pointer (J ⟨b,0,O⟩)) w'/\w.heap.size<=b/\
     Tip w' g'.wm (.slice (J ⟨b,0,O⟩) 0 cs.length) 1/\∀(j:Nat) lf,cs[j]?=J lf->∃u,w'.cell? ⟨b,j,O⟩=J u/\u.oneCell'=Z/\u.cells= #[u]/\CRep E.U w' g'.wm lf u) (.returned v) w':=λh=>by
   split at h;rename_i t ht;split at h;rename_i d o hg;obtain⟨hc,h'⟩:=A5 h;rw[Fn]at hc;have:=(D5 _ _).1 hc.1;subst this;obtain⟨cu,aD,_⟩:=Ml bU h';have aK:=bU.ent t;rw[hg]at aK;obtain⟨b,n,hG,hv,⟨h0,h1,h2⟩,dh,aQ⟩:=SJ GO aK cu;cases h2 hc.2;have af:=VS P fn a' w' [.tmp t] ht (vs:=[a'.tmps.getD t undef]) (λf hf=>by simp[hf.tmp]);simp only[R0,Hl,dif_pos,List.getElem_cons_zero]at af;rw[hv]at af;have bc:spare (g'.G d)=J b:=by rw[hG];simp only[spare];rw[GI FK]
   have cU:=bU.tip d aD;rw[hG,dh]at cU;refine⟨_,af,b,g',rfl,{os:=bU.os,tape:=bU.tape,output:=bU.output,size:=bU.size,frame:=λk hk _=>bU.frame k hk (λh=>by have:=h.1;rw[ho]at this;cases this),ext:=bU.ext,zero:=bU.zero,rep:=LRep.any _,nit:=rfl,tip:=λd hd=>(by cases hd),disj:=λd _ _ hd=>(by cases hd),mine:=λd _ hd=>(by cases hd)},?_,cU,λj lf hj=>?_⟩;rcases bU.mine d b aD bc with h|h;exact h;have:=h.1;rw[ho]at this;cases this;obtain⟨u,u1,u2,u3,u4⟩:=aQ j lf hj;exact⟨u,u1,u2,u3,u4.1⟩;cases h;cases h
  cases e with
  |normal=>exact⟨.inl rfl,dm hk⟩
  |ret=>exact⟨.inr rfl,dm hk⟩
  |exit id=>cases hk
  cases hn
def YU{d:Nat}:∀{ls:List (Leaf Ty den)},mem d (Kx ls)=Z->J7 ls d
 |[],h=>by cases h
 |l::ls,h=>by
  have oy:mem d (Kx ls)=Z->J7 (l::ls) d:=λh=>by
   obtain⟨lf,h1,h2⟩:=YU h;exact⟨lf,by simp[h1],h2⟩
  cases l with
  |sl t x o=>
   cases o with
   |none=>exact oy h
   |some e=>
    simp only[Kx,mem_cons]at h;rcases h with h|h;exact⟨.sl t x (J e),GN,by simp[Leaf.has,h,G4]⟩;exact oy h
  |ptr e o=>
   simp only[Kx,mem_cons]at h;rcases h with h|h;exact⟨.ptr e o,GN,by simp[Leaf.has,h,G4]⟩;exact oy h
  |_=>exact oy h
def C5m{d:Nat}:∀{ls:List (Leaf Ty den)},J7 ls d->mem d (Kx ls)=Z
 |[],⟨lf,h,_⟩=>by simp at h
 |l::ls,⟨lf,h,hd⟩=>by
  simp only[HC]at h;rcases h with rfl|h;rcases (Leaf.has_iff d _).1 hd with⟨t,x,rfl⟩|⟨o,rfl⟩;exact(mem_cons _ _ _).2 (.inl rfl);exact(mem_cons _ _ _).2 (.inl rfl);have ih:=C5m ⟨lf,h,hd⟩;cases l with
  |sl t x o=>
   cases o with
   |none=>exact ih
   |some e=>simp only[Kx,mem_cons];exact .inr ih
  |ptr e o=>simp only[Kx,mem_cons];exact .inr ih
  |_=>exact ih
def B3Z:∀(rs:List ResultVar)(j:Nat)(s:St Ty den),(∀c d,(c,d)∈D3 j s rs->c<=j+rs.length/\mem d (I1 s rs).live=V)/\(∀e,mem e (I1 s rs).live=Z->mem e s.live=Z)
 |[],j,s=>⟨λc d h=>by simp[D3]at h,λ_ h=>h⟩
 | .cell _ _::r,j,s=>by
  obtain⟨h1,h2⟩:=B3Z r (j+1) s;simp only[D3,I1];exact⟨λc d h=>by obtain⟨k1,k2⟩:=h1 c d h;exact⟨by simp only[Fr];omega,k2⟩,h2⟩
 | .tmp t::r,j,s=>by
  have skip:∀(s':St Ty den),(∀e,mem e s'.live=Z->mem e s.live=Z)->D3 j s (.tmp t::r)=D3 (j+1) s' r->I1 s (.tmp t::r)=I1 s' r->
    (∀c d,(c,d)∈D3 j s (.tmp t::r)->c<=j+(ResultVar.tmp t::r).length/\mem d (I1 s (.tmp t::r)).live=V)/\(∀e,mem e (I1 s (.tmp t::r)).live=Z->mem e s.live=Z):=by
   intro s' hl he hS;obtain⟨h1,h2⟩:=B3Z r (j+1) s';rw[he,hS];exact⟨λc d h=>by obtain⟨k1,k2⟩:=h1 c d h;exact⟨by simp only[Fr];omega,k2⟩,λe h=>hl e (h2 e h)⟩
  cases hg:s.get t with
  |one l=>
   cases l with
   |sl t0 x o=>
    cases o with
    |none=>exact skip s (λ_ h=>h) (by simp only[D3,hg]) (by simp only[I1,hg])
    |some d=>
     cases hm:mem d s.live with
     |false=>exact skip (s.kill d) (λ_ h=>(QQ.1 h).1) (by simp only[D3,hg,hm,GF]) (by simp only[I1,hg])
     |true=>
      obtain⟨h1,h2⟩:=B3Z r (j+1) (s.kill d);have he:D3 j s (.tmp t::r)=(bif Aaa d 0 then 0 else j+1,d)::D3 (j+1) (s.kill d) r:=by simp only[D3,hg,hm,GD]
      have hS:I1 s (.tmp t::r)=I1 (s.kill d) r:=by simp only[I1,hg]
      rw[he,hS];refine⟨λc d' h=>?_,λe h=>(QQ.1 (h2 e h)).1⟩;simp only[HC,He]at h;rcases h with⟨rfl,rfl⟩|h;refine⟨?_,?_⟩;cases Aaa d' 0<;>simp only[GD,GF,Fr]<;>omega;cases h5:mem d' (I1 (s.kill d') r).live with
      |false=>rfl
      |true=>exact absurd rfl (QQ.1 (h2 _ h5)).2
      obtain⟨k1,k2⟩:=h1 c d' h;exact⟨by simp only[Fr];omega,k2⟩
   |_=>exact skip s (λ_ h=>h) (by simp only[D3,hg]) (by simp only[I1,hg])
  |tup ls=>exact skip s (λ_ h=>h) (by simp only[D3,hg]) (by simp only[I1,hg])
  |st ls=>exact skip s (λ_ h=>h) (by simp only[D3,hg]) (by simp only[I1,hg])
  |iter c p=>exact skip s (λ_ h=>h) (by simp only[D3,hg]) (by simp only[I1,hg])
  |bx d' ls=>exact skip s (λ_ h=>h) (by simp only[D3,hg]) (by simp only[I1,hg])
def C4X:∀(cs:List (List (Leaf Ty den)))(cn:List (Nat×Gw))(kk:Nat)(s:St Ty den),Rel U B g s a w->Z0 w g (M3 kk cs.length) cs cn->LsRep U w g (D6 kk cs) (Q8 cn)->(∀i,i<cs.length->mem (B2 (kk+i)) s.live=Z)->
  Rel U B g (B73 kk s cs) a w
 |[],[],kk,s,hr,_,_,_=>hr
 |c::cs,(b,us)::cn,kk,s,hr,hb,hl,hm=>by
  obtain⟨⟨b1,b2,b3,b4,b5⟩,bC⟩:=hb;obtain⟨h1,h2⟩:=LsRep.split hl.2 b2.symm;exact C4X cs cn (kk+1) _ (hr.setBx (B6A b1 b2 b3 b4 b5 h1) (hm 0 GN)) bC h2 λi hi=>by
   have:=hm (i+1) (by simpa using hi);rw[show kk+(i+1)=kk+1+i from FK]at this;exact this
 |[],_::_,_,_,_,h,_,_=>h.elim
 |_::_,[],_,_,_,h,_,_=>h.elim
def C0e:∀{ps:Gv}{kk:Nat},pinned E s kk ps=Z->∀{i p:Nat},ps[i]?=J p->s.get p=.one (.ptr (B2 (kk+i)) 0)/\p<E.np
 |[],_,_,i,p,h=>by simp at h
 |q::ps,kk,h,i,p,hp=>by
  simp only[pinned,Fn]at h;cases i with
  |zero=>
   simp at hp;subst hp;have h1:=h.1;split at h1;rename_i d hd;simp only[Fn,HU]at h1;have:=(D5 _ _).1 h1.1;subst this;exact⟨hd,h1.2⟩;cases h1
  |succ i=>
   have:=C0e h.2 (i:=i) (p:=p) (by simpa using hp);rw[show kk+(i+1)=kk+1+i from FK];exact this
def C2N{args:List (Leaf Ty den)}:∀{ps:Gv}{kk:Nat},B0X args kk ps=Z->∀{i p:Nat},ps[i]?=J p->args[p]?=J (.ptr (B2 (kk+i)) 0)
 |[],_,_,i,p,h=>by simp at h
 |q::ps,kk,h,i,p,hp=>by
  simp only[B0X,Fn]at h;cases i with
  |zero=>
   simp at hp;subst hp;have h1:=h.1;split at h1;rename_i d hd;have:=(D5 _ _).1 h1;subst this;exact hd;cases h1
  |succ i=>
   have:=C2N h.2 (i:=i) (p:=p) (by simpa using hp);rw[show kk+(i+1)=kk+1+i from FK];exact this
def B69:∀{ds:Gv}{cs:List (List (Leaf Ty den))}{cn:List (Nat×Gw)},Z0 w g ds cs cn->ds.length=cn.length/\cs.length=cn.length/\∀{i d:Nat}{c:List (Leaf Ty den)},ds[i]?=J d->cs[i]?=J c->∃(b:Nat)(us:Gw),cn[i]?=J (b,us)/\g.G d=.slice (J ⟨b,0,O⟩) 0 us.length/\us.length=c.length
 |[],[],[],_=>⟨rfl,rfl,λh=>by simp at h⟩
 |x::ds,c::cs,(b,us)::cn,hb=>by
  obtain⟨h1,h2,h3⟩:=B69 hb.2;refine⟨by simp[h1],by simp[h2],λ{i d c'} hd hc=>?_⟩;cases i with
  |zero=>simp at hd hc;subst hd hc;exact⟨b,us,rfl,hb.1.1,hb.1.2.1⟩
  |succ i=>simpa using h3 (i:=i) (by simpa using hd) (by simpa using hc)
 |[],[],_::_,h=>h.elim
 |[],_::_,cn,h=>by cases cn<;>exact h.elim
 |_::_,[],cn,h=>by cases cn<;>exact h.elim
 |_::_,_::_,[],h=>h.elim
def C5s:∀{cs ay:List (List (Leaf Ty den))},B1z cs ay=Z->cs.length=ay.length/\∀{i:Nat}{c c':List (Leaf Ty den)},cs[i]?=J c->ay[i]?=J c'->c.length=c'.length
 |[],[],_=>⟨rfl,λh=>by simp at h⟩
 |a::r,b::r',h=>by
  simp only[B1z,Fn]at h;obtain⟨h1,h2⟩:=C5s h.2;refine⟨by simp[h1],λ{i c c'} hc cT=>?_⟩;cases i with
  |zero=>simp at hc cT;subst hc cT;exact(D5 _ _).1 h.1
  |succ i=>exact h2 (i:=i) (by simpa using hc) (by simpa using cT)
 |[],_::_,h=>by cases h
 |_::_,[],h=>by cases h
def C1d:∀(n kk:Nat),Y2 (M3 kk n)=Z
 |0,_=>rfl
 |n+1,kk=>by
  simp only[M3,Y2,Fn,Hs];refine⟨?_,C1d n (kk+1)⟩;have:∀(n k2:Nat),kk<k2->mem (B2 kk) (M3 k2 n)=V:=by
   intro n
   induction n with
   |zero=>intro _ _;rfl
   |succ n ih=>
    intro k2 hk;simp only[M3,mem];rw[I2 (by unfold B2;omega)];exact ih (k2+1) FK
  exact this n (kk+1) FK
def B9P:∀(n kk:Nat),(M3 kk n).length=n
 |0,_=>rfl
 |n+1,kk=>by simp[M3,B9P n]
def YV{I:Inv}(fh:EnvI P E I){f:Aah}{fn:Func}{ps:Gv}(hf:P.funcs[f]?=J fn)(du:E.nt=fn.ntmps)(gf:∀args w,(Aag f args).run P w=.ok (.enter f args) w)
  {S:List (Leaf Ty den)->List (List (Leaf Ty den))->Option (List (Leaf Ty den)×List (List (Leaf Ty den)))}(hS:∀ls cs r,S ls cs=J r->∃n,D7 E n fn ps ls cs=J r):Mm P E.U I f S:=by
 refine⟨gf,λls cs rs ay bu w g vs cn hI hz anq uh px cU ui dP=>?_⟩;obtain⟨n,hn⟩:=hS ls cs _ bu;unfold D7 at hn;cases hb:fn.body with
 |none=>rw[hb]at hn;cases hn
 |some c=>
  rw[hb]at hn;obtain⟨ox,hn⟩:=A5 hn;simp only[Fn,Ih,HU]at ox;obtain⟨bw,Dc,lC,cE⟩:=ox;have lC:=(D5 _ _).1 lC;have aA:=anq.length;generalize hB:(⟨w,g.wm,λb=>∃d,J7 (D6 0 cs) d/\spare (g.G d)=J b,E.np,λi=>(vs.toArray++Aai (fn.ntmps - vs.toArray.size) undef).getD i undef⟩:Bs)=B0;have hE:U4 P E B0:=fh.at (by rw[<-hB];exact hI) (by rw[<-hB];exact GU _);refine calls_of_wp hf hb ?_;have ci:Rel E.U B0 g {fr:=SA 0 ls,live:=Kx (D6 0 cs)} {tmps:=vs.toArray++Aai (fn.ntmps - vs.toArray.size) undef,defers:=[]} w:=by
   subst hB;refine{os:=rfl,tape:=rfl,output:=rfl,size:=GU _,frame:=λb _ _=>⟨rfl,rfl⟩,ext:=Ext.refl _ _,zero:=hz,ent:=λi=>?_,tip:=λd hd=>cU d (YU hd),disj:=λd e b hd he aP=>ui d e b (YU hd) (YU he) aP,mine:=λd b hd hs=>.inr ⟨d,YU hd,hs⟩,iter:=λi c p h=>?_,idis:=λi j c p c' p' _ h=>?_,defers:=rfl,bxl:=λi d l h=>?_,pin:=λi hi=>rfl};simp only[St.get,OL,HH,JE,true_and];split;rename_i hi;obtain⟨v,hv,dt⟩:=anq.get (GE hi);have cL:i<vs.length:=FK;have:(vs.toArray++Aai (fn.ntmps - vs.toArray.size) undef).getD i undef=v:=by
    rw[HE,Hf (by simpa using cL)];simp[hv]
   rw[this];exact dt;exact ERep.any _ _ _;simp only[St.get,OL]at h;split at h<;>cases h;simp only[St.get,OL]at h;split at h<;>cases h;simp only[St.get,OL]at h;split at h<;>cases h
  have uj:=C4X cs cn 0 _ ci px uh (λi hi=>C5m (VU cs 0 i hi));refine C38 (B:=B0) hE n c _ _ _ _ _ hn ⟨g,uj⟩ GQ ?_;intro e s' a' w' hk ⟨g',bU⟩ cA;have bQ:VH E fn.results.toList ps cs .normal s'=J (rs,ay)->a'.defers=[]/\∃v,(Aa6 fn a'.tmps).run P w'=.ok v w'/\(λe w'=>∃g' rv dH,e=Abi (R0 rv)/\rs.length=rv.length/\
   Post E.U ⟨w,g.wm,λb=>∃d,J7 (D6 0 cs) d/\spare (g.G d)=J b,0,λ_=>undef⟩ g' (.tup (rs++D6 0 ay)) (.tuple (rv++Q8 dH).toArray) w'/\
   Z0 w' g' (M3 0 cs.length) ay dH/\dH.map (λp=>(p.1,p.2.length))=cn.map (λp=>(p.1,p.2.length))) (.returned v) w':=λhp=>by
   simp only[VH]at hp;split at hp
   case h_2=>cases hp
   rename_i AG iG s1 Dd De;obtain⟨ox,hp⟩:=A5 hp;simp only[GX,He]at hp;obtain⟨rfl,rfl⟩:=hp;simp only[Fn,HU]at ox;obtain⟨cX,xO,aD,wH⟩:=ox;obtain⟨j8,q1,q2,q3⟩:=B0D (P:=P) hE.tb hE.U fh.dcx _ 0 s' AG Dd bU;obtain⟨kY,N,p1,p2,p3,p4,p5,p6,p7⟩:=B5J hE.U _ 0 _ iG s1 De q3;obtain⟨n1,n2⟩:=YG fn.results.toList 0 s';obtain⟨n3,n4⟩:=B3Z fn.results.toList 0 s';have vY:=B9P cs.length 0;have bR:=C0J (s:=I1 s' fn.results.toList) (C1d cs.length 0) (by rw[vY];exact cE) p4 p5 aD;have mJ:∀c d,(c,d)∈I5 0 (M3 0 cs.length)++N->mem d (I1 s' fn.results.toList).live=Z/\900000<=c:=λc d oZ=>by
    rw[Hg]at oZ;rcases oZ with h1|h1;obtain⟨i,_,_,h3,h4⟩:=QR _ 0 _ h1;exact⟨p6 _ (YH aD h4),by(have kR:c=B2 i:=h3);rw[kR];unfold B2;omega⟩;obtain⟨⟨i,j,_,_,h3⟩,h4,_⟩:=p5 _ h1;exact⟨h4,by(have kR:c=bo (B2 i) j:=h3);rw[kR];unfold bo;omega⟩
   have eU:OneOne (D3 0 s' fn.results.toList++(I5 0 (M3 0 cs.length)++N)):=OneOne.append n2 bR λp hp q hq=>by
    obtain⟨h1,h2⟩:=n3 p.1 p.2 hp;obtain⟨h3,h4⟩:=mJ q.1 q.2 hq;refine⟨FK,λe=>?_⟩;rw[e,h3]at h2;cases h2
   have cI:=B7s bU eU (λc d oZ=>by
    rw[Hg]at oZ;rcases oZ with h1|h1;exact(n1 c d h1).1;exact n4 _ (mJ c d h1).1) ((q1.mono λp hp=>JC _ hp).append (p2.mono λp hp=>JT _ hp)) (r:=.tup (AG++D6 0 iG)) (v:=.tuple (j8++Q8 kY).toArray) (λc=>by simp only[Ent.has,Hm]) rfl (λFK xP=>⟨_,rfl,xP⟩)
   obtain⟨z1,z2⟩:=C5s cX;have kZ:=B2a eU _ _ _ 0 p3 (λp hp=>JT _ (JC _ hp));refine⟨bU.defers,_,VS P fn a' w' _ rfl q2,_,j8,kY,rfl,q1.length,?_,by rw[z1];exact kZ,?_⟩;subst hB;exact{os:=cI.os,tape:=cI.tape,output:=cI.output,size:=cI.size,frame:=cI.frame,ext:=cI.ext,zero:=cI.zero,rep:=cI.rep,nit:=cI.nit,tip:=cI.tip,disj:=cI.disj,mine:=cI.mine};obtain⟨x1,x2,x3⟩:=B69 px;obtain⟨y1,y2,y3⟩:=B69 p3;apply List.ext_getElem?;intro i;rw[HG,HG];rcases Hv i cs.length with hi|hi;have py:=YJ cs.length 0 i hi;rw[HL]at py;obtain⟨b,us,e1,e2,e3⟩:=x3 py (GE hi);obtain⟨b',jo,wD,At,FL⟩:=y3 py (GE (show i<iG.length from FK));have nr:=z2 (GE hi) (GE (show i<iG.length from FK));have AH:i<ps.length:=FK;obtain⟨f1,f2⟩:=C0e xO (GE AH);rw[HL]at f1;have f3:=bU.ent ps[i];rw[f1]at f3;obtain⟨b2,FM,f4,f5⟩:=f3.2.2 _ _ rfl;have f6:=bU.pin ps[i] (by subst hB;exact f2);rw[f5.at GO]at f6;have f7:=C2N Dc (GE AH);rw[HL]at f7;obtain⟨v0,f8,f9⟩:=anq.get f7;obtain⟨b3,FN,f10,f11⟩:=f9.2.2 _ _ rfl;have f12:(Value.pointer (J ⟨b2,0,O⟩))=v0:=by
    rw[f6];subst hB;have pU:=G7 f8;show(vs.toArray++Aai (fn.ntmps - vs.toArray.size) undef).getD ps[i] undef=v0;rw[HE,Hf (by simpa using pU)];simp[f8]
   rw[f11.at GO]at f12;rw[e2]at f10;rw[At]at f4;simp only[JI,GX,Jd]at f10 f4;simp only[Ab0,GX,Jd]at f12;rw[e1,wD];simp only[IJ,GX,He];exact⟨by rw[f4.1.1,f12.1, <-f10.1.1],FK⟩;rw[IF FK,IF FK]
  cases e with
  |normal=>exact bQ hk
  |ret=>exact bQ hk
  |exit id=>cases hk
end
end Go.Aev
end
section
namespace Go.Aev
structure A4 where
 line:Int
 col:Int
structure VX where
 name:rg
 index:Int
 item:Bool
structure A0 where
 kind:Int
 pos:A4
 from_:Int
 to_:Int
 text:rg
 value:rg
abbrev Gu:=List A0
structure F6 where
 name:rg
 wrap:rg
structure G5 where
 has:Bool
 block:Bool
 text:rg
structure E5 where
 name:rg
 pos:A4
structure T5 where
 kind:Int
 pos:List A4
 path:List VX
structure D4 where
 name:rg
 choices:List Gy
structure A1 where
 sym:rg
 kids:Gp
 tok:Int
abbrev Gx:=List A1
structure Lu where
 nodes:Gx
 toks:Gu
inductive LitT where
 |mk (kind:Int) (text:rg) (block:Bool) (items:List LitT) (fields:List (rg×LitT×A4)) (pos:A4)
abbrev GB:=List LitT
abbrev LfT:=rg×LitT×A4
abbrev LfT.name(x:LfT):rg:=x.1
abbrev LfT.value(x:LfT):LitT:=x.2.1
abbrev LfT.pos(x:LfT):A4:=x.2.2
namespace LitT
def kind:LitT->Int|mk a _ _ _ _ _=>a
def text:LitT->rg|mk _ a _ _ _ _=>a
def block:LitT->Bool|mk _ _ a _ _ _=>a
def items:LitT->GB|mk _ _ _ a _ _=>a
def fields:LitT->List LfT|mk _ _ _ _ a _=>a
def pos:LitT->A4|mk _ _ _ _ _ a=>a
def eta(x:LitT):LitT.mk x.kind x.text x.block x.items x.fields x.pos=x:=by cases x;rfl
end LitT
structure E0 where
 name:rg
 value:LitT
 pos:A4
structure C3 where
 name:rg
 args:List E0
 pos:A4
structure VdT where
 name:rg
 type_:F6
 hasDefault:Bool
 dflt:LitT
 dirs:List C3
 pos:A4
structure RdT where
 op:Int
 type_:rg
 pos:A4
structure P6 where
 note:G5
 name:rg
 dirs:List C3
 pos:A4
structure IvT where
 note:G5
 name:rg
 type_:F6
 hasDefault:Bool
 dflt:LitT
 dirs:List C3
 pos:A4
structure FdT where
 note:G5
 name:rg
 args:List IvT
 type_:F6
 dirs:List C3
 pos:A4
inductive SelT where
 |mk (kind:Int) (alias_ name on_:rg) (args:List E0) (dirs:List C3) (sels:List SelT) (pos:A4)
abbrev GC:=List SelT
namespace SelT
def kind:SelT->Int|mk a _ _ _ _ _ _ _=>a
def alias_:SelT->rg|mk _ a _ _ _ _ _ _=>a
def name:SelT->rg|mk _ _ a _ _ _ _ _=>a
def on_:SelT->rg|mk _ _ _ a _ _ _ _=>a
def args:SelT->List E0|mk _ _ _ _ a _ _ _=>a
def dirs:SelT->List C3|mk _ _ _ _ _ a _ _=>a
def sels:SelT->GC|mk _ _ _ _ _ _ a _=>a
def pos:SelT->A4|mk _ _ _ _ _ _ _ a=>a
def eta(x:SelT):SelT.mk x.kind x.alias_ x.name x.on_ x.args x.dirs x.sels x.pos=x:=by cases x;rfl
end SelT
structure D9 where
 kind:Int
 name:rg
 on_:rg
 short:Bool
 vars:List VdT
 dirs:List C3
 sels:GC
 pos:A4
structure I6 where
 defs:List D9
structure B5 where
 kind:Int
 extd:Bool
 note:G5
 name:rg
 ifaces:List E5
 dirs:List C3
 fields:List FdT
 inputs:List IvT
 members:List E5
 values:List P6
 roots:List RdT
 repeatable:Bool
 places:List E5
 pos:A4
structure B7r where
 toks:Gu
 at_:Int
 nest:Int
 limit:Int
 kind:Int
structure B6Q where
 toks:Gu
 at_:Int
structure B5a where
 b:Gp
structure B7t where
 buf:Gp
inductive PartT where
 |sel (x:SelT)|root (x:RdT)|field (x:FdT)|value (x:P6)|input (x:IvT)
inductive Ty6 where|i32|u8|i64|rs|str|strs|part|pos|tok|lit|lf|arg|dir|vd|sel|dfn|doc|note|named|iv|fd|vald|rd|sys|fault|step|tref|rule|node|tree|node0|lit0|dfn0|cur|rdr|out|page
 deriving DecidableEq
abbrev A2:Ty6->Type
 | .i32=>Int
 | .u8=>Int
 | .i64=>Int
 | .rs=>Gp
 | .str=>rg
 | .strs=>Gy
 | .part=>PartT
 | .pos=>A4
 | .tok=>A0
 | .lit=>LitT
 | .lf=>LfT
 | .arg=>E0
 | .dir=>C3
 | .vd=>VdT
 | .sel=>SelT
 | .dfn=>D9
 | .doc=>I6
 | .note=>G5
 | .named=>E5
 | .iv=>IvT
 | .fd=>FdT
 | .vald=>P6
 | .rd=>RdT
 | .sys=>B5
 | .fault=>T5
 | .step=>VX
 | .tref=>F6
 | .rule=>D4
 | .node=>A1
 | .tree=>Lu
 | .node0=>A1
 | .lit0=>LitT
 | .dfn0=>D9
 | .cur=>B7r
 | .rdr=>B6Q
 | .out=>B5a
 | .page=>B7t
abbrev L6:=Leaf Ty6 A2
abbrev Gt:=List L6
abbrev Gz:=List Gt
abbrev E6:=Ent Ty6 A2
abbrev Gq:=Option E6
abbrev S6:=St Ty6 A2
def Kz:(t:Ty6)->A2 t->Gt
 | .i32,(n:Int)=>[.int .i32 n]
 | .u8,(n:Int)=>[.int .u8 n]
 | .i64,(n:Int)=>[.int .i64 n]
 | .rs,(l:Gp)=>[.sl .i32 l O]
 | .str,(s:rg)=>[.str s]
 | .strs,(l:Gy)=>[.sl .str l O]
 | .part,(p:PartT)=>[match p with| .sel x=>.ifc 238 .sel x| .root x=>.ifc 254 .rd x| .field x=>.ifc 255 .fd x| .value x=>.ifc 258 .vald x| .input x=>.ifc 259 .iv x]
 | .pos,(x:A4)=>[.int .i64 x.line,.int .i64 x.col]
 | .tok,(x:A0)=>[.int .i64 x.kind,.int .i64 x.pos.line,.int .i64 x.pos.col,.int .i64 x.from_,.int .i64 x.to_,.str x.text,.str x.value]
 | .lit,(x:LitT)=>[.int .i64 x.kind,.str x.text,.bool x.block,.sl .lit x.items O,.sl .lf x.fields O,.int .i64 x.pos.line,.int .i64 x.pos.col]
 | .lf,(x:LfT)=>[.str x.name,.int .i64 x.value.kind,.str x.value.text,.bool x.value.block,.sl .lit x.value.items O,.sl .lf x.value.fields O,.int .i64 x.value.pos.line,.int .i64 x.value.pos.col,.int .i64 x.pos.line,.int .i64 x.pos.col]
 | .arg,(x:E0)=>[.str x.name,.int .i64 x.value.kind,.str x.value.text,.bool x.value.block,.sl .lit x.value.items O,.sl .lf x.value.fields O,.int .i64 x.value.pos.line,.int .i64 x.value.pos.col,.int .i64 x.pos.line,.int .i64 x.pos.col]
 | .dir,(x:C3)=>[.str x.name,.sl .arg x.args O,.int .i64 x.pos.line,.int .i64 x.pos.col]
 | .vd,(x:VdT)=>[.str x.name,.str x.type_.name,.str x.type_.wrap,.bool x.hasDefault,.int .i64 x.dflt.kind,.str x.dflt.text,.bool x.dflt.block,.sl .lit x.dflt.items O,.sl .lf x.dflt.fields O,.int .i64 x.dflt.pos.line,.int .i64 x.dflt.pos.col,.sl .dir x.dirs O,.int .i64 x.pos.line,.int .i64 x.pos.col]
 | .sel,(x:SelT)=>[.int .i64 x.kind,.str x.alias_,.str x.name,.str x.on_,.sl .arg x.args O,.sl .dir x.dirs O,.sl .sel x.sels O,.int .i64 x.pos.line,.int .i64 x.pos.col]
 | .dfn,(x:D9)=>[.int .i64 x.kind,.str x.name,.str x.on_,.bool x.short,.sl .vd x.vars O,.sl .dir x.dirs O,.sl .sel x.sels O,.int .i64 x.pos.line,.int .i64 x.pos.col]
 | .doc,(x:I6)=>[.sl .dfn x.defs O]
 | .note,(x:G5)=>[.bool x.has,.bool x.block,.str x.text]
 | .named,(x:E5)=>[.str x.name,.int .i64 x.pos.line,.int .i64 x.pos.col]
 | .iv,(x:IvT)=>[.bool x.note.has,.bool x.note.block,.str x.note.text,.str x.name,.str x.type_.name,.str x.type_.wrap,.bool x.hasDefault,.int .i64 x.dflt.kind,.str x.dflt.text,.bool x.dflt.block,.sl .lit x.dflt.items O,.sl .lf x.dflt.fields O,.int .i64 x.dflt.pos.line,.int .i64 x.dflt.pos.col,.sl .dir x.dirs O,.int .i64 x.pos.line,.int .i64 x.pos.col]
 | .fd,(x:FdT)=>[.bool x.note.has,.bool x.note.block,.str x.note.text,.str x.name,.sl .iv x.args O,.str x.type_.name,.str x.type_.wrap,.sl .dir x.dirs O,.int .i64 x.pos.line,.int .i64 x.pos.col]
 | .vald,(x:P6)=>[.bool x.note.has,.bool x.note.block,.str x.note.text,.str x.name,.sl .dir x.dirs O,.int .i64 x.pos.line,.int .i64 x.pos.col]
 | .rd,(x:RdT)=>[.int .i64 x.op,.str x.type_,.int .i64 x.pos.line,.int .i64 x.pos.col]
 | .sys,(x:B5)=>[.int .i64 x.kind,.bool x.extd,.bool x.note.has,.bool x.note.block,.str x.note.text,.str x.name,.sl .named x.ifaces O,.sl .dir x.dirs O,.sl .fd x.fields O,.sl .iv x.inputs O,.sl .named x.members O,.sl .vald x.values O,.sl .rd x.roots O,.bool x.repeatable,.sl .named x.places O,.int .i64 x.pos.line,.int .i64 x.pos.col]
 | .fault,(x:T5)=>[.int .i64 x.kind,.sl .pos x.pos O,.sl .step x.path O]
 | .step,(x:VX)=>[.str x.name,.int .i64 x.index,.bool x.item]
 | .tref,(x:F6)=>[.str x.name,.str x.wrap]
 | .rule,(x:D4)=>[.str x.name,.sl .strs x.choices O]
 | .node,(x:A1)=>[.str x.sym,.sl .i64 x.kids O,.int .i64 x.tok]
 | .tree,(x:Lu)=>[.sl .node x.nodes O,.sl .tok x.toks O]
 | .node0,(x:A1)=>[.str x.sym,.nils,.int .i64 x.tok]
 | .dfn0,(x:D9)=>[.int .i64 x.kind,.str x.name,.str x.on_,.bool x.short,.nils,.sl .dir x.dirs O,.sl .sel x.sels O,.int .i64 x.pos.line,.int .i64 x.pos.col]
 | .lit0,(x:LitT)=>[.int .i64 x.kind,.str x.text,.bool x.block,.nils,.nils,.int .i64 x.pos.line,.int .i64 x.pos.col]
 | .cur,(x:B7r)=>[.sl .tok x.toks O,.int .i64 x.at_,.int .i64 x.nest,.int .i64 x.limit,.int .i64 x.kind]
 | .rdr,(x:B6Q)=>[.sl .tok x.toks O,.int .i64 x.at_]
 | .out,(x:B5a)=>[.sl .u8 x.b O]
 | .page,(x:B7t)=>[.elem .i64 (0:Int) 0,.sl .u8 x.buf O]
def C3v:Gt->Option PartT
 |[.ifc 238 .sel x]=>J (PartT.sel x)
 |[.ifc 254 .rd x]=>J (PartT.root x)
 |[.ifc 255 .fd x]=>J (PartT.field x)
 |[.ifc 258 .vald x]=>J (PartT.value x)
 |[.ifc 259 .iv x]=>J (PartT.input x)
 |_=>O
def C0v:Gt->Option (Int)
 |[.int .i32 n]=>J n
 |_=>O
def C43:Gt->Option (Int)
 |[.int .u8 n]=>J n
 |_=>O
def C2Z:Gt->Option (Int)
 |[.int .i64 n]=>J n
 |_=>O
def C3N:Gt->Option Gp
 |[.sl .i32 n O]=>J n
 |_=>O
def C5p:Gt->Option rg
 |[.str n]=>J n
 |_=>O
def C0a:Gt->Option Gy
 |[.sl .str n O]=>J n
 |_=>O
def B9O:Gt->Option A4
 |[.int .i64 v1,.int .i64 v2]=>J (⟨v1,v2⟩:A4)
 |_=>O
def C4E:Gt->Option A0
 |[.int .i64 v1,.int .i64 v2,.int .i64 v3,.int .i64 v4,.int .i64 v5,.str v6,.str v7]=>J (⟨v1,⟨v2,v3⟩,v4,v5,v6,v7⟩:A0)
 |_=>O
def B91:Gt->Option LitT
 |[.int .i64 v1,.str v2,.bool v3,.sl .lit v4 O,.sl .lf v5 O,.int .i64 v6,.int .i64 v7]=>J (⟨v1,v2,v3,v4,v5,⟨v6,v7⟩⟩:LitT)
 |_=>O
def C1t:Gt->Option LfT
 |[.str v1,.int .i64 v2,.str v3,.bool v4,.sl .lit v5 O,.sl .lf v6 O,.int .i64 v7,.int .i64 v8,.int .i64 v9,.int .i64 mK]=>J (⟨v1,⟨v2,v3,v4,v5,v6,⟨v7,v8⟩⟩,⟨v9,mK⟩⟩:LfT)
 |_=>O
def C20:Gt->Option E0
 |[.str v1,.int .i64 v2,.str v3,.bool v4,.sl .lit v5 O,.sl .lf v6 O,.int .i64 v7,.int .i64 v8,.int .i64 v9,.int .i64 mK]=>J (⟨v1,⟨v2,v3,v4,v5,v6,⟨v7,v8⟩⟩,⟨v9,mK⟩⟩:E0)
 |_=>O
def C3k:Gt->Option C3
 |[.str v1,.sl .arg v2 O,.int .i64 v3,.int .i64 v4]=>J (⟨v1,v2,⟨v3,v4⟩⟩:C3)
 |_=>O
def C2M:Gt->Option VdT
 |[.str v1,.str v2,.str v3,.bool v4,.int .i64 v5,.str v6,.bool v7,.sl .lit v8 O,.sl .lf v9 O,.int .i64 mK,.int .i64 uk,.sl .dir ul O,.int .i64 um,.int .i64 un]=>J (⟨v1,⟨v2,v3⟩,v4,⟨v5,v6,v7,v8,v9,⟨mK,uk⟩⟩,ul,⟨um,un⟩⟩:VdT)
 |_=>O
def B9i:Gt->Option SelT
 |[.int .i64 v1,.str v2,.str v3,.str v4,.sl .arg v5 O,.sl .dir v6 O,.sl .sel v7 O,.int .i64 v8,.int .i64 v9]=>J (⟨v1,v2,v3,v4,v5,v6,v7,⟨v8,v9⟩⟩:SelT)
 |_=>O
def C4O:Gt->Option D9
 |[.int .i64 v1,.str v2,.str v3,.bool v4,.sl .vd v5 O,.sl .dir v6 O,.sl .sel v7 O,.int .i64 v8,.int .i64 v9]=>J (⟨v1,v2,v3,v4,v5,v6,v7,⟨v8,v9⟩⟩:D9)
 |_=>O
def C3s:Gt->Option I6
 |[.sl .dfn v1 O]=>J (⟨v1⟩:I6)
 |_=>O
def B88:Gt->Option G5
 |[.bool v1,.bool v2,.str v3]=>J (⟨v1,v2,v3⟩:G5)
 |_=>O
def C5H:Gt->Option E5
 |[.str v1,.int .i64 v2,.int .i64 v3]=>J (⟨v1,⟨v2,v3⟩⟩:E5)
 |_=>O
def C0W:Gt->Option IvT
 |[.bool v1,.bool v2,.str v3,.str v4,.str v5,.str v6,.bool v7,.int .i64 v8,.str v9,.bool mK,.sl .lit uk O,.sl .lf ul O,.int .i64 um,.int .i64 un,.sl .dir xQ O,.int .i64 xR,.int .i64 xS]=>J (⟨⟨v1,v2,v3⟩,v4,⟨v5,v6⟩,v7,⟨v8,v9,mK,uk,ul,⟨um,un⟩⟩,xQ,⟨xR,xS⟩⟩:IvT)
 |_=>O
def C1v:Gt->Option FdT
 |[.bool v1,.bool v2,.str v3,.str v4,.sl .iv v5 O,.str v6,.str v7,.sl .dir v8 O,.int .i64 v9,.int .i64 mK]=>J (⟨⟨v1,v2,v3⟩,v4,v5,⟨v6,v7⟩,v8,⟨v9,mK⟩⟩:FdT)
 |_=>O
def B9v:Gt->Option P6
 |[.bool v1,.bool v2,.str v3,.str v4,.sl .dir v5 O,.int .i64 v6,.int .i64 v7]=>J (⟨⟨v1,v2,v3⟩,v4,v5,⟨v6,v7⟩⟩:P6)
 |_=>O
def C3y:Gt->Option RdT
 |[.int .i64 v1,.str v2,.int .i64 v3,.int .i64 v4]=>J (⟨v1,v2,⟨v3,v4⟩⟩:RdT)
 |_=>O
def C4M:Gt->Option B5
 |[.int .i64 v1,.bool v2,.bool v3,.bool v4,.str v5,.str v6,.sl .named v7 O,.sl .dir v8 O,.sl .fd v9 O,.sl .iv mK O,.sl .named uk O,.sl .vald ul O,.sl .rd um O,.bool un,.sl .named xQ O,.int .i64 xR,.int .i64 xS]=>J (⟨v1,v2,⟨v3,v4,v5⟩,v6,v7,v8,v9,mK,uk,ul,um,un,xQ,⟨xR,xS⟩⟩:B5)
 |_=>O
def B9Q:Gt->Option T5
 |[.int .i64 v1,.sl .pos v2 O,.sl .step v3 O]=>J (⟨v1,v2,v3⟩:T5)
 |_=>O
def C3M:Gt->Option VX
 |[.str v1,.int .i64 v2,.bool v3]=>J (⟨v1,v2,v3⟩:VX)
 |_=>O
def C2K:Gt->Option F6
 |[.str v1,.str v2]=>J (⟨v1,v2⟩:F6)
 |_=>O
def C1Y:Gt->Option D4
 |[.str v1,.sl .strs v2 O]=>J (⟨v1,v2⟩:D4)
 |_=>O
def B9k:Gt->Option A1
 |[.str v1,.sl .i64 v2 O,.int .i64 v3]=>J (⟨v1,v2,v3⟩:A1)
 |_=>O
def C1n:Gt->Option A1
 |[.str v1,.nils,.int .i64 v3]=>J (⟨v1,[],v3⟩:A1)
 |_=>O
def C3n:Gt->Option D9
 |[.int .i64 v1,.str v2,.str v3,.bool v4,.nils,.sl .dir v6 O,.sl .sel v7 O,.int .i64 v8,.int .i64 v9]=>J (⟨v1,v2,v3,v4,[],v6,v7,⟨v8,v9⟩⟩:D9)
 |_=>O
def C0b:Gt->Option LitT
 |[.int .i64 v1,.str v2,.bool v3,.nils,.nils,.int .i64 v6,.int .i64 v7]=>J (⟨v1,v2,v3,[],[],⟨v6,v7⟩⟩:LitT)
 |_=>O
def B9z:Gt->Option Lu
 |[.sl .node v1 O,.sl .tok v2 O]=>J (⟨v1,v2⟩:Lu)
 |_=>O
def B7n:(t:Ty6)->Gt->Option (A2 t)
 | .part,ls=>C3v ls
 | .i32,ls=>C0v ls
 | .u8,ls=>C43 ls
 | .i64,ls=>C2Z ls
 | .rs,ls=>C3N ls
 | .str,ls=>C5p ls
 | .strs,ls=>C0a ls
 | .pos,ls=>B9O ls
 | .tok,ls=>C4E ls
 | .lit,ls=>B91 ls
 | .lf,ls=>C1t ls
 | .arg,ls=>C20 ls
 | .dir,ls=>C3k ls
 | .vd,ls=>C2M ls
 | .sel,ls=>B9i ls
 | .dfn,ls=>C4O ls
 | .doc,ls=>C3s ls
 | .note,ls=>B88 ls
 | .named,ls=>C5H ls
 | .iv,ls=>C0W ls
 | .fd,ls=>C1v ls
 | .vald,ls=>B9v ls
 | .rd,ls=>C3y ls
 | .sys,ls=>C4M ls
 | .fault,ls=>B9Q ls
 | .step,ls=>C3M ls
 | .tref,ls=>C2K ls
 | .rule,ls=>C1Y ls
 | .node,ls=>B9k ls
 | .tree,ls=>B9z ls
 | .node0,ls=>C1n ls
 | .lit0,ls=>C0b ls
 | .dfn0,ls=>C3n ls
 |_,_=>O
def D6y(t:Ty6)(ls:Gt)(x:A2 t)(h:B7n t ls=J x):Kz t x=ls:=by
 cases t<;>unfold B7n at h<;>dsimp only at h<;>first
  |(cases h;done)
  |(first|unfold C3v at h|unfold C0v at h|unfold C43 at h|unfold C2Z at h|unfold C3N at h|unfold C5p at h|unfold C0a at h|unfold B9O at h|unfold C4E at h|unfold B91 at h|unfold C1t at h|unfold C20 at h|unfold C3k at h|unfold C2M at h|unfold B9i at h|unfold C4O at h|unfold C3s at h|unfold B88 at h|unfold C5H at h|unfold C0W at h|unfold C1v at h|unfold B9v at h|unfold C3y at h|unfold C4M at h|unfold B9Q at h|unfold C3M at h|unfold C2K at h|unfold C1Y at h|unfold B9k at h|unfold C1n at h|unfold C0b at h|unfold C3n at h|unfold B9z at h)<;>split at h<;>first|(cases h;done)|(cases h;rfl)
def B8y:(t:Ty6)->Option (rg->List (A2 t))
 | .u8=>J λb=>b.map λc=>(c.toNat:Int)
 |_=>O
def B64:(t:Ty6)->Option (List (A2 t)->rg)
 | .u8=>J λ(l:Gp)=>l.map λn=>Abn n.toNat
 |_=>O
def B6d:(t:Ty6)->Option (Gp->List (A2 t))
 | .i32=>J λb=>b
 |_=>O
def B7I:(t:Ty6)->Option (List (A2 t)->Gp)
 | .i32=>J λ(l:Gp)=>l
 |_=>O
def D3n:Ty6->Nat
 | .pos=>2
 | .tok=>7
 | .lit=>7
 | .lf=>10
 | .arg=>10
 | .dir=>4
 | .vd=>14
 | .sel=>9
 | .dfn=>9
 | .doc=>1
 | .note=>3
 | .named=>3
 | .iv=>17
 | .fd=>10
 | .vald=>7
 | .rd=>4
 | .sys=>17
 | .fault=>3
 | .step=>3
 | .tref=>2
 | .rule=>2
 | .node=>3
 | .tree=>2
 | .node0=>3
 | .lit0=>7
 | .dfn0=>9
 | .cur=>5
 | .rdr=>2
 | .out=>1
 | .page=>2
 |_=>1
def C64:Ty6->Nat
 | .i32=>4| .u8=>1| .i64=>8| .rs=>24| .str=>16| .strs=>24| .part=>16
 | .pos=>16
 | .tok=>72
 | .lit=>96
 | .lf=>128
 | .arg=>128
 | .dir=>56
 | .vd=>192
 | .sel=>144
 | .dfn=>136
 | .doc=>24
 | .note=>24
 | .named=>32
 | .iv=>216
 | .fd=>136
 | .vald=>80
 | .rd=>40
 | .sys=>272
 | .fault=>56
 | .step=>32
 | .tref=>32
 | .rule=>40
 | .node=>48
 | .tree=>48
 | .node0=>48
 | .lit0=>96
 | .dfn0=>136
 | .cur=>56
 | .rdr=>32
 | .out=>24
 | .page=>32
def C62:Ty6->Option Aad
 | .u8=>J 5
 |_=>O
def slX(t:Ty6):L6->Option (List (A2 t))
 | .nils=>J []
 | .sl u l O=>(if h:u=t then J (h ▸ l)else O)
 |_=>O
def VY(x:LitT):LitT:=⟨x.kind,x.text,x.block,[],[],x.pos⟩
def B8E:L6->Option GB
 | .sl .lit0 l O=>J (Aa3 VY l)
 |l=>slX .lit l
def B8R:(t:Ty6)->Gt->Option (A2 t)
 | .node,[.str v1,k,.int .i64 v3]=>(slX .i64 k).map λv2=>(⟨v1,v2,v3⟩:A1)
 | .lit,[.int .i64 v1,.str v2,.bool v3,a,b,.int .i64 v6,.int .i64 v7]=>match B8E a,slX .lf b with
  |some v4,J v5=>J (⟨v1,v2,v3,v4,v5,⟨v6,v7⟩⟩:LitT)
  |_,_=>O
 | .dfn,[.int .i64 v1,.str v2,.str v3,.bool v4,a,.sl .dir v6 O,.sl .sel v7 O,.int .i64 v8,.int .i64 v9]=>(slX .vd a).map λv5=>(⟨v1,v2,v3,v4,v5,v6,v7,⟨v8,v9⟩⟩:D9)
 |_,_=>O
def U6:UO Ty6 A2 where
 deq:=inferInstance
 cells:=Kz
 dec:=B7n
 ofBytes:=B8y
 toBytes:=B64
 ofRunes:=B6d
 toRunes:=B7I
 size:=D3n
 bytes:=C64
 bty:=109
 ety:=C62
 dcx:=B8R
def C5Q(l:Gp):l.flatMap (λn=>[(.int .i32 n:L6)])=l.map λn=>.int .i32 n:=by
 induction l with
 |nil=>rfl
 |cons x l ih=>simp[ih]
def B0M(l:Gp):l.flatMap (λn=>[(.int .u8 n:L6)])=l.map λn=>.int .u8 n:=by
 induction l with
 |nil=>rfl
 |cons x l ih=>simp[ih]
def u6_ok:(U6).Ok where
 pos:=λt=>by cases t<;>decide
 bpos:=λt=>by cases t<;>decide
 len:=λt x=>by cases t<;>rfl
 dec:=λt ls x h=>by
  exact D6y t ls x h
 ofBytes:=λt f h=>by
  cases t<;>simp only[U6,B8y,GX,reduceCtorEq]at h;subst h;intro b;refine⟨HR ..,?_⟩;show List.flatMap (Kz .u8) _=_;have h2:=B0M (b.map λc=>(c.toNat:Int));simp only[Iz]at h2;exact h2
 ofRunes:=λt f h=>by
  cases t<;>simp only[U6,B6d,reduceCtorEq]at h;cases h;intro b;exact⟨rfl,C5Q b⟩
 toRunes:=λt f h=>by
  cases t<;>simp only[U6,B7I,reduceCtorEq]at h;cases h;intro l;exact C5Q l
 toBytes:=λt f h=>by
  cases t<;>simp only[U6,B64,GX,reduceCtorEq]at h;cases h;intro l;exact⟨l,B0M l,rfl⟩
 ofBytes1:=λt f h=>by cases t<;>first|rfl|(simp only[U6,B8y,reduceCtorEq]at h;done)
 ofRunes1:=λt f h=>by cases t<;>first|rfl|(simp only[U6,B6d,reduceCtorEq]at h;done)
 toRunes1:=λt f h=>by cases t<;>first|rfl|(simp only[U6,B7I,reduceCtorEq]at h;done)
 toBytes1:=λt f h=>by cases t<;>first|rfl|(simp only[U6,B64,reduceCtorEq]at h;done)
 solid:=λt x lf h=>by
  have bm:∀l∈Kz t x,Rt l=Z:=by
   cases t<;>first
    |(intro l hl;have js:=HW.1 hl;subst js;cases x<;>rfl)
    |(intro l hl;simp only[Kz,HC,Hh,or_false]at hl;rcases hl with rfl;rfl)
    |(intro l hl;simp only[Kz,HC,Hh,or_false]at hl;rcases hl with rfl|hl<;>first|rfl|(repeat (first|(rcases hl with rfl|hl<;>first|rfl|skip)|(subst hl;rfl))))
  exact C1p (bm lf h)
 closed:=λt x lf h=>by
  have bm:∀l∈Kz t x,l.close=l:=by
   cases t<;>first
    |(intro l hl;have js:=HW.1 hl;subst js;cases x<;>rfl)
    |(intro l hl;simp only[Kz,HC,Hh,or_false]at hl;rcases hl with rfl;rfl)
    |(intro l hl;simp only[Kz,HC,Hh,or_false]at hl;rcases hl with rfl|hl<;>first|rfl|(repeat (first|(rcases hl with rfl|hl<;>first|rfl|skip)|(subst hl;rfl))))
  exact bm lf h
def B2f{t:Ty6}{l:L6}{x:List (A2 t)}(h:slX t l=J x){w:World}{wm:Nat->Nat}{v:Value}(hc:CRep U6 w wm l v):CRep U6 w wm (.sl t x O) v:=by
 unfold slX at h;split at h;cases h;cases hc;exact .nil _ _ _ _;split at h;rename_i e;subst e;cases h;exact hc;cases h;cases h
def B63:∀(xs:GB)(j:Nat)(lf:L6),(flat U6 .lit (Aa3 VY xs))[j]?=J lf->∃oX,(flat U6 .lit0 xs)[j]?=J oX/\∀(w:World)(wm:Nat->Nat) v,CRep U6 w wm oX v->CRep U6 w wm lf v
 |[],j,lf,h=>by simp[flat]at h
 |x::xs,j,lf,h=>by
  have e1:flat U6 .lit (Aa3 VY (x::xs))=Kz .lit (VY x)++flat U6 .lit (Aa3 VY xs):=rfl;have e2:flat U6 .lit0 (x::xs)=Kz .lit0 x++flat U6 .lit0 xs:=rfl;rw[e1]at h;rw[e2]
  match j,h with
  |0,h|1,h|2,h|5,h|6,h=>cases h;exact⟨_,rfl,λ_ _ _ h=>h⟩
  |3,h|4,h=>cases h;exact⟨_,rfl,λ_ _ v h=>by cases h;exact .nil _ _ _ _⟩
  |j+7,h=>exact B63 xs j lf h
def D6U{l:L6}{x:GB}(h:B8E l=J x){w:World}{wm:Nat->Nat}{v:Value}(hc:CRep U6 w wm l v):CRep U6 w wm (.sl .lit x O) v:=by
 unfold B8E at h;split at h;rename_i l0;cases h;cases hc with
 |nil t own a cap=>exact .nil _ _ _ _
 |sl t l own b off cap cs aW ba hc hr=>
  have:=CRep.sl (U:=U6) (w:=w) (wm:=wm) .lit (Aa3 VY l0) O b off cap cs (by simpa using aW) (by rw[HR];exact ba) (λj lf hj=>by
   obtain⟨oX,h1,h2⟩:=B63 l0 j lf hj;exact hc j oX h1) (λj lf hj=>by
   obtain⟨oX,h1,h2⟩:=B63 l0 j lf hj;exact h2 _ _ _ (hr j oX h1))
  simpa using this
 exact B2f h hc
def VZ:Mk U6:=λt ls x h=>by
 change B8R t ls=J x at h;unfold B8R at h;split at h;rename_i v1 k v3;obtain⟨v2,h2,rfl⟩:=Hi.1 h;refine⟨rfl,λw wm cs hc j lf hj=>?_⟩
 match j,hj with
 |0,hj=>cases hj;exact hc 0 _ rfl
 |1,hj=>cases hj;exact B2f h2 (hc 1 _ rfl)
 |2,hj=>cases hj;exact hc 2 _ rfl
 rename_i v1 v2 v3 a b v6 v7;split at h;rename_i v4 v5 h4 h5;cases h;refine⟨rfl,λw wm cs hc j lf hj=>?_⟩
 match j,hj with
 |0,hj=>cases hj;exact hc 0 _ rfl
 |1,hj=>cases hj;exact hc 1 _ rfl
 |2,hj=>cases hj;exact hc 2 _ rfl
 |3,hj=>cases hj;exact D6U h4 (hc 3 _ rfl)
 |4,hj=>cases hj;exact B2f h5 (hc 4 _ rfl)
 |5,hj=>cases hj;exact hc 5 _ rfl
 |6,hj=>cases hj;exact hc 6 _ rfl
 cases h;rename_i v1 v2 v3 v4 a v6 v7 v8 v9;obtain⟨v5,h2,rfl⟩:=Hi.1 h;refine⟨rfl,λw wm cs hc j lf hj=>?_⟩
 match j,hj with
 |4,hj=>cases hj;exact B2f h2 (hc 4 _ rfl)
 |0,hj|1,hj|2,hj|3,hj|5,hj|6,hj|7,hj|8,hj=>cases hj;exact hc _ _ rfl
 cases h
end Go.Aev
end
namespace Go.Aev
open Go.Proofs
def B45{Ty:Type}{den:Ty->Type}{P:Aae}{U:UO Ty den}{t e:Aad}{u:Ty}(h1:P.underlying t=J (.slice e))
  (h2:(match P.info? e with
   |some i=>Aaa i.size (U.size u)&&(Aaa i.bytes (U.bytes u)&&(match i.zero with|J z=>Aaa z.cells.size (U.size u)|O=>V))
   |none=>V)=Z) (h3:(match U.ety u with|J e'=>Aaa e' e|O=>Z)=Z):M4 P U t (.slice u e):=by
 refine⟨⟨h1,?_⟩,λe' he=>by rw[he]at h3;exact HZ h3⟩;split at h2;rename_i i hi;simp only[Fn,Js]at h2;obtain⟨h3,h4,h5⟩:=h2;split at h5;rename_i z hz;exact⟨i,z,hi,h3,h4,hz,HZ h5⟩;cases h5;cases h2
def C1U(P:Aae)(t:Aad):Option (List (Nat×Nat)):=match P.underlying t with
 |some (.struct fs)=>fs.toList.mapM (λf=>(P.info? f.type).map λi=>(f.offset,i.size))
 |_=>O
def YW{Ty:Type}{den:Ty->Type}{P:Aae}{U:UO Ty den}{t:Aad}{u:Ty}{pl:List (Nat×Nat)}(h0:C1U P t=J pl)
  (h2:(match P.info? t with
   |some i=>Aaa i.size (U.size u)&&(match i.zero with|J z=>Aaa z.cells.size (U.size u)|O=>V)
   |none=>V)=Z):M4 P U t (.struct u pl):=by
 unfold C1U at h0;split at h0;rename_i fs h1;split at h2;rename_i i hi;simp only[Fn,Js]at h2;obtain⟨h3,h5⟩:=h2;split at h5;rename_i z hz;exact⟨fs,i,z,h1,h0,hi,h3,hz,HZ h5⟩;cases h5;cases h2;cases h0
def C6s{Ty:Type}{den:Ty->Type}{P:Aae}{U:UO Ty den}{t:Aad}{u:Ty}(h:(match P.underlying t with|J (.interface _)=>Z|_=>V)=Z)(hs:U.size u=1):M4 P U t (.iface u):=by
 split at h;rename_i m hm;exact⟨⟨m,hm⟩,hs⟩;cases h
def zm{Ty:Type}{den:Ty->Type}:Leaf Ty den->Value->Bool
 | .int k n,.int k' n'=>decide (k=k')&&decide (n=n')
 | .bool b,.bool b'=>b==b'
 | .str s,.string b=>s==b.data.toList
 | .sl _ [] O,.slice O 0 0=>Z
 | .nils,.slice O 0 0=>Z
 | .val (.pointer O),.pointer O=>Z
 | .val .nilIface,.nilIface=>Z
 |_,_=>V
def zms{Ty:Type}{den:Ty->Type}:List (Leaf Ty den)->Gw->Bool
 |[],[]=>Z
 |l::ls,v::vs=>zm l v&&zms ls vs
 |_,_=>V
def C8U{Ty:Type}{den:Ty->Type}{U:UO Ty den}{lf:Leaf Ty den}{u:Value}(h:zm lf u=Z):u.oneCell'=Z/\u.cells= #[u]/\(∀(w:World)(g:Gh),LRep U w g lf u)/\∀t,lf=.sl t [] O->u=.slice O 0 0:=by
 unfold zm at h;split at h;rename_i k n k' n';simp only[Fn,decide_eq_true_eq]at h;obtain⟨rfl,rfl⟩:=h;exact⟨rfl,rfl,λw g=>LRep.int _ _,λt e=>by cases e⟩;rename_i b b';simp only[beq_iff_eq]at h;subst h;exact⟨rfl,rfl,λw g=>LRep.bool _,λt e=>by cases e⟩;rename_i s b;simp only[beq_iff_eq]at h;subst h;exact⟨rfl,rfl,λw g=>by have:=LRep.str (U:=U) (w:=w) (g:=g) b.data.toList;rw[B9p]at this;exact this,λt e=>by cases e⟩;exact⟨rfl,rfl,λw g=>⟨.nil _ _ _ _,λ_ _ _ e=>by(cases e),λ_ _ e=>by(cases e)⟩,λ_ _=>rfl⟩;exact⟨rfl,rfl,λw g=>⟨.nils,λ_ _ _ e=>by(cases e),λ_ _ e=>by(cases e)⟩,λt e=>by cases e⟩;exact⟨rfl,rfl,λw g=>⟨.val _,λ_ _ _ e=>by(cases e),λ_ _ e=>by(cases e)⟩,λt e=>by cases e⟩;exact⟨rfl,rfl,λw g=>⟨.val _,λ_ _ _ e=>by(cases e),λ_ _ e=>by(cases e)⟩,λt e=>by cases e⟩;cases h
def B9H{Ty:Type}{den:Ty->Type}:∀{ls:List (Leaf Ty den)}{vs:Gw},zms ls vs=Z->ls.length=vs.length/\∀(j:Nat) lf,ls[j]?=J lf->∃u,vs[j]?=J u/\zm lf u=Z
 |[],[],_=>⟨rfl,λj lf h=>by simp at h⟩
 |l::ls,v::vs,h=>by
  simp only[zms,Fn]at h;obtain⟨h1,h2⟩:=B9H h.2;refine⟨by simp[h1],λj lf hj=>?_⟩;cases j with
  |zero=>simp at hj;subst hj;exact⟨v,rfl,h.1⟩
  |succ j=>simpa using h2 j lf (by simpa using hj)
 |[],_::_,h=>by cases h
 |_::_,[],h=>by cases h
def YX{Ty:Type}{den:Ty->Type}{P:Aae}{U:UO Ty den}{t:Aad}{zs:List (Leaf Ty den)}
  (h:(match P.info? t with
   |some i=>Aaa i.size zs.length&&(match i.zero with|J z=>zms zs z.cells.toList|O=>V)
   |none=>V)=Z):Ky P U t zs:=by
 split at h;rename_i i hi;simp only[Fn]at h;obtain⟨h1,h2⟩:=h;split at h2;rename_i z hz;obtain⟨h3,h4⟩:=B9H h2;refine⟨i,z,hi,HZ h1,hz,by rw[h3];simp,λj lf hj=>?_⟩;obtain⟨u,h5,h6⟩:=h4 j lf hj;obtain⟨a1,a2,a3,a4⟩:=C8U (U:=U) h6;exact⟨u,by rw[<-IA];exact h5,a1,a2,a3,a4⟩;cases h2;cases h
def tb6(t:Aad):TK Ty6:=
 match t with
 |3=>.int .i64
 |4=>.bool
 |5=>.int .u8
 |6=>.int .u8
 |9=>.str
 |21=>.int .i32
 |22=>.slice .u8 5
 |24=>.slice .dfn 76
 |25=>.struct .doc [(0,1)]
 |26=>.struct .doc [(0,1)]
 |27=>.int .i64
 |28=>.slice .pos 44
 |29=>.slice .step 334
 |30=>.struct .fault [(0,1),(1,1),(2,1)]
 |31=>.struct .fault [(0,1),(1,1),(2,1)]
 |36=>.slice .sys 88
 |40=>.int .i64
 |41=>.slice .lit 46
 |42=>.slice .lf 142
 |43=>.struct .pos [(0,1),(1,1)]
 |44=>.struct .pos [(0,1),(1,1)]
 |45=>.struct .lit [(0,1),(1,1),(2,1),(3,1),(4,1),(5,2)]
 |46=>.struct .lit [(0,1),(1,1),(2,1),(3,1),(4,1),(5,2)]
 |50=>.struct .tref [(0,1),(1,1)]
 |51=>.struct .tref [(0,1),(1,1)]
 |57=>.struct .arg [(0,1),(1,7),(8,2)]
 |58=>.struct .arg [(0,1),(1,7),(8,2)]
 |59=>.slice .arg 58
 |60=>.struct .dir [(0,1),(1,1),(2,2)]
 |61=>.struct .dir [(0,1),(1,1),(2,2)]
 |62=>.slice .dir 61
 |63=>.struct .note [(0,1),(1,1),(2,1)]
 |64=>.struct .note [(0,1),(1,1),(2,1)]
 |65=>.struct .iv [(0,3),(3,1),(4,2),(6,1),(7,7),(14,1),(15,2)]
 |66=>.struct .iv [(0,3),(3,1),(4,2),(6,1),(7,7),(14,1),(15,2)]
 |67=>.int .i64
 |68=>.slice .sel 70
 |69=>.struct .sel [(0,1),(1,1),(2,1),(3,1),(4,1),(5,1),(6,1),(7,2)]
 |70=>.struct .sel [(0,1),(1,1),(2,1),(3,1),(4,1),(5,1),(6,1),(7,2)]
 |71=>.int .i64
 |72=>.struct .vd [(0,1),(1,2),(3,1),(4,7),(11,1),(12,2)]
 |73=>.struct .vd [(0,1),(1,2),(3,1),(4,7),(11,1),(12,2)]
 |74=>.slice .vd 73
 |75=>.struct .dfn [(0,1),(1,1),(2,1),(3,1),(4,1),(5,1),(6,1),(7,2)]
 |76=>.struct .dfn [(0,1),(1,1),(2,1),(3,1),(4,1),(5,1),(6,1),(7,2)]
 |77=>.int .i64
 |78=>.slice .iv 66
 |79=>.struct .fd [(0,3),(3,1),(4,1),(5,2),(7,1),(8,2)]
 |80=>.struct .fd [(0,3),(3,1),(4,1),(5,2),(7,1),(8,2)]
 |81=>.slice .fd 80
 |82=>.struct .named [(0,1),(1,2)]
 |83=>.struct .named [(0,1),(1,2)]
 |84=>.slice .named 83
 |85=>.slice .vald 257
 |86=>.slice .rd 253
 |87=>.struct .sys [(0,1),(1,1),(2,3),(5,1),(6,1),(7,1),(8,1),(9,1),(10,1),(11,1),(12,1),(13,1),(14,1),(15,2)]
 |88=>.struct .sys [(0,1),(1,1),(2,3),(5,1),(6,1),(7,1),(8,1),(9,1),(10,1),(11,1),(12,1),(13,1),(14,1),(15,2)]
 |93=>.slice .tok 102
 |95=>.slice .node 153
 |96=>.struct .tree [(0,1),(1,1)]
 |97=>.struct .tree [(0,1),(1,1)]
 |100=>.int .i64
 |101=>.struct .tok [(0,1),(1,2),(3,1),(4,1),(5,1),(6,1)]
 |102=>.struct .tok [(0,1),(1,2),(3,1),(4,1),(5,1),(6,1)]
 |106=>.struct .page [(0,1),(1,1)]
 |107=>.struct .page [(0,1),(1,1)]
 |108=>.struct .page [(0,2)]
 |109=>.struct .page [(0,2)]
 |114=>.struct .out [(0,1)]
 |115=>.struct .out [(0,1)]
 |120=>.slice .rule 180
 |122=>.slice .str 9
 |125=>.struct .rdr [(0,1),(1,1)]
 |126=>.struct .rdr [(0,1),(1,1)]
 |142=>.struct .lf [(0,1),(1,7),(8,2)]
 |145=>.slice .i32 21
 |151=>.slice .i64 3
 |152=>.struct .node [(0,1),(1,1),(2,1)]
 |153=>.struct .node [(0,1),(1,1),(2,1)]
 |166=>.slice .part 236
 |178=>.slice .strs 122
 |179=>.struct .rule [(0,1),(1,1)]
 |180=>.struct .rule [(0,1),(1,1)]
 |195=>.struct .cur [(0,1),(1,1),(2,1),(3,1),(4,1)]
 |196=>.struct .cur [(0,1),(1,1),(2,1),(3,1),(4,1)]
 |203=>.int .u64
 |236=>.iface .part
 |238=>.struct .sel [(0,1),(1,1),(2,1),(3,1),(4,1),(5,1),(6,1),(7,2)]
 |252=>.struct .rd [(0,1),(1,1),(2,2)]
 |253=>.struct .rd [(0,1),(1,1),(2,2)]
 |254=>.struct .rd [(0,1),(1,1),(2,2)]
 |255=>.struct .fd [(0,3),(3,1),(4,1),(5,2),(7,1),(8,2)]
 |256=>.struct .vald [(0,3),(3,1),(4,1),(5,2)]
 |257=>.struct .vald [(0,3),(3,1),(4,1),(5,2)]
 |258=>.struct .vald [(0,3),(3,1),(4,1),(5,2)]
 |259=>.struct .iv [(0,3),(3,1),(4,2),(6,1),(7,7),(14,1),(15,2)]
 |264=>.int .u32
 |267=>.int .u64
 |285=>.slice .rs 145
 |326=>.int .u8
 |327=>.int .u8
 |329=>.int .i32
 |330=>.int .i32
 |333=>.struct .step [(0,1),(1,1),(2,1)]
 |334=>.struct .step [(0,1),(1,1),(2,1)]
 |_=>.other
def QS(t:Aad):M4 Aar U6 t (tb6 t):=by
 unfold tb6;split
 all_goals first|exact YW GM GM|exact B45 GM GM GM|exact C6s GM rfl|(show prog.underlying _=_;kernel_rfl)|trivial
def zr6(t:Aad):Option Gt:=
 match t with
 |3=>J [.int .i64 0]
 |4=>J [.bool V]
 |5=>J [.int .u8 0]
 |6=>J [.int .u8 0]
 |9=>J [.str []]
 |21=>J [.int .i32 0]
 |22=>J [.sl .u8 [] O]
 |24=>J [.sl .dfn [] O]
 |25=>J [.sl .dfn [] O]
 |26=>J [.sl .dfn [] O]
 |27=>J [.int .i64 0]
 |28=>J [.sl .pos [] O]
 |29=>J [.sl .step [] O]
 |30=>J [.int .i64 0,.sl .pos [] O,.sl .step [] O]
 |31=>J [.int .i64 0,.sl .pos [] O,.sl .step [] O]
 |36=>J [.sl .sys [] O]
 |40=>J [.int .i64 0]
 |41=>J [.sl .lit [] O]
 |42=>J [.sl .lf [] O]
 |43=>J [.int .i64 0,.int .i64 0]
 |44=>J [.int .i64 0,.int .i64 0]
 |45=>J [.int .i64 0,.str [],.bool V,.sl .lit [] O,.sl .lf [] O,.int .i64 0,.int .i64 0]
 |46=>J [.int .i64 0,.str [],.bool V,.sl .lit [] O,.sl .lf [] O,.int .i64 0,.int .i64 0]
 |50=>J [.str [],.str []]
 |51=>J [.str [],.str []]
 |57=>J [.str [],.int .i64 0,.str [],.bool V,.sl .lit [] O,.sl .lf [] O,.int .i64 0,.int .i64 0,.int .i64 0,.int .i64 0]
 |58=>J [.str [],.int .i64 0,.str [],.bool V,.sl .lit [] O,.sl .lf [] O,.int .i64 0,.int .i64 0,.int .i64 0,.int .i64 0]
 |59=>J [.sl .arg [] O]
 |60=>J [.str [],.sl .arg [] O,.int .i64 0,.int .i64 0]
 |61=>J [.str [],.sl .arg [] O,.int .i64 0,.int .i64 0]
 |62=>J [.sl .dir [] O]
 |63=>J [.bool V,.bool V,.str []]
 |64=>J [.bool V,.bool V,.str []]
 |65=>J [.bool V,.bool V,.str [],.str [],.str [],.str [],.bool V,.int .i64 0,.str [],.bool V,.sl .lit [] O,.sl .lf [] O,.int .i64 0,.int .i64 0,.sl .dir [] O,.int .i64 0,.int .i64 0]
 |66=>J [.bool V,.bool V,.str [],.str [],.str [],.str [],.bool V,.int .i64 0,.str [],.bool V,.sl .lit [] O,.sl .lf [] O,.int .i64 0,.int .i64 0,.sl .dir [] O,.int .i64 0,.int .i64 0]
 |67=>J [.int .i64 0]
 |68=>J [.sl .sel [] O]
 |69=>J [.int .i64 0,.str [],.str [],.str [],.sl .arg [] O,.sl .dir [] O,.sl .sel [] O,.int .i64 0,.int .i64 0]
 |70=>J [.int .i64 0,.str [],.str [],.str [],.sl .arg [] O,.sl .dir [] O,.sl .sel [] O,.int .i64 0,.int .i64 0]
 |71=>J [.int .i64 0]
 |72=>J [.str [],.str [],.str [],.bool V,.int .i64 0,.str [],.bool V,.sl .lit [] O,.sl .lf [] O,.int .i64 0,.int .i64 0,.sl .dir [] O,.int .i64 0,.int .i64 0]
 |73=>J [.str [],.str [],.str [],.bool V,.int .i64 0,.str [],.bool V,.sl .lit [] O,.sl .lf [] O,.int .i64 0,.int .i64 0,.sl .dir [] O,.int .i64 0,.int .i64 0]
 |74=>J [.sl .vd [] O]
 |75=>J [.int .i64 0,.str [],.str [],.bool V,.sl .vd [] O,.sl .dir [] O,.sl .sel [] O,.int .i64 0,.int .i64 0]
 |76=>J [.int .i64 0,.str [],.str [],.bool V,.sl .vd [] O,.sl .dir [] O,.sl .sel [] O,.int .i64 0,.int .i64 0]
 |77=>J [.int .i64 0]
 |78=>J [.sl .iv [] O]
 |79=>J [.bool V,.bool V,.str [],.str [],.sl .iv [] O,.str [],.str [],.sl .dir [] O,.int .i64 0,.int .i64 0]
 |80=>J [.bool V,.bool V,.str [],.str [],.sl .iv [] O,.str [],.str [],.sl .dir [] O,.int .i64 0,.int .i64 0]
 |81=>J [.sl .fd [] O]
 |82=>J [.str [],.int .i64 0,.int .i64 0]
 |83=>J [.str [],.int .i64 0,.int .i64 0]
 |84=>J [.sl .named [] O]
 |85=>J [.sl .vald [] O]
 |86=>J [.sl .rd [] O]
 |87=>J [.int .i64 0,.bool V,.bool V,.bool V,.str [],.str [],.sl .named [] O,.sl .dir [] O,.sl .fd [] O,.sl .iv [] O,.sl .named [] O,.sl .vald [] O,.sl .rd [] O,.bool V,.sl .named [] O,.int .i64 0,.int .i64 0]
 |88=>J [.int .i64 0,.bool V,.bool V,.bool V,.str [],.str [],.sl .named [] O,.sl .dir [] O,.sl .fd [] O,.sl .iv [] O,.sl .named [] O,.sl .vald [] O,.sl .rd [] O,.bool V,.sl .named [] O,.int .i64 0,.int .i64 0]
 |93=>J [.sl .tok [] O]
 |95=>J [.sl .node [] O]
 |96=>J [.sl .node [] O,.sl .tok [] O]
 |97=>J [.sl .node [] O,.sl .tok [] O]
 |100=>J [.int .i64 0]
 |101=>J [.int .i64 0,.int .i64 0,.int .i64 0,.int .i64 0,.int .i64 0,.str [],.str []]
 |102=>J [.int .i64 0,.int .i64 0,.int .i64 0,.int .i64 0,.int .i64 0,.str [],.str []]
 |106=>J [.val (.pointer O),.sl .u8 [] O]
 |107=>J [.val (.pointer O),.sl .u8 [] O]
 |108=>J [.val (.pointer O),.sl .u8 [] O]
 |109=>J [.val (.pointer O),.sl .u8 [] O]
 |114=>J [.sl .u8 [] O]
 |115=>J [.sl .u8 [] O]
 |120=>J [.sl .rule [] O]
 |122=>J [.sl .str [] O]
 |125=>J [.sl .tok [] O,.int .i64 0]
 |126=>J [.sl .tok [] O,.int .i64 0]
 |142=>J [.str [],.int .i64 0,.str [],.bool V,.sl .lit [] O,.sl .lf [] O,.int .i64 0,.int .i64 0,.int .i64 0,.int .i64 0]
 |145=>J [.sl .i32 [] O]
 |151=>J [.sl .i64 [] O]
 |152=>J [.str [],.sl .i64 [] O,.int .i64 0]
 |153=>J [.str [],.sl .i64 [] O,.int .i64 0]
 |166=>J [.sl .part [] O]
 |178=>J [.sl .strs [] O]
 |179=>J [.str [],.sl .strs [] O]
 |180=>J [.str [],.sl .strs [] O]
 |195=>J [.sl .tok [] O,.int .i64 0,.int .i64 0,.int .i64 0,.int .i64 0]
 |196=>J [.sl .tok [] O,.int .i64 0,.int .i64 0,.int .i64 0,.int .i64 0]
 |203=>J [.int .u64 0]
 |238=>J [.int .i64 0,.str [],.str [],.str [],.sl .arg [] O,.sl .dir [] O,.sl .sel [] O,.int .i64 0,.int .i64 0]
 |252=>J [.int .i64 0,.str [],.int .i64 0,.int .i64 0]
 |253=>J [.int .i64 0,.str [],.int .i64 0,.int .i64 0]
 |254=>J [.int .i64 0,.str [],.int .i64 0,.int .i64 0]
 |255=>J [.bool V,.bool V,.str [],.str [],.sl .iv [] O,.str [],.str [],.sl .dir [] O,.int .i64 0,.int .i64 0]
 |256=>J [.bool V,.bool V,.str [],.str [],.sl .dir [] O,.int .i64 0,.int .i64 0]
 |257=>J [.bool V,.bool V,.str [],.str [],.sl .dir [] O,.int .i64 0,.int .i64 0]
 |258=>J [.bool V,.bool V,.str [],.str [],.sl .dir [] O,.int .i64 0,.int .i64 0]
 |259=>J [.bool V,.bool V,.str [],.str [],.str [],.str [],.bool V,.int .i64 0,.str [],.bool V,.sl .lit [] O,.sl .lf [] O,.int .i64 0,.int .i64 0,.sl .dir [] O,.int .i64 0,.int .i64 0]
 |264=>J [.int .u32 0]
 |267=>J [.int .u64 0]
 |285=>J [.sl .rs [] O]
 |326=>J [.int .u8 0]
 |327=>J [.int .u8 0]
 |329=>J [.int .i32 0]
 |330=>J [.int .i32 0]
 |333=>J [.str [],.int .i64 0,.bool V]
 |334=>J [.str [],.int .i64 0,.bool V]
 |_=>O
def QT(t:Aad)(zs:Gt)(h:zr6 t=J zs):Ky Aar U6 t zs:=by
 unfold zr6 at h;split at h
 all_goals first|(cases h;exact YX GM)|cases h
def Va:prog.follows .mixedOrders=Z:=GM
abbrev T6:=Aah->Gt->Option (Bool×E6)
abbrev TB6:=Aah->Gt->Gz->Option (Bool×Gt×Gz)
def nav:Code->Gv->Code
 |c,[]=>c
 | .seq a b,i::p=>match i with|0=>nav a p|_=>nav b p
 | .cond _ a b,i::p=>match i with|0=>nav a p|_=>nav b p
 | .block _ c,_::p=>nav c p
 | .loop c,_::p=>nav c p
 |c,_=>c
def body(f:Func):Code:=match f.body with|J c=>c|O=>.skip
def C0(f:Func)(p:Gv):Code:=nav (body f) p
def NN:Nat:=18446744073709551616
def DD:Nat:=1000000
def lbN{R:Type}(nn:Nat)(E:Env Ty6 A2)(c:Code)(hid:Nat)(s:S6)(k:Ex->S6->Option R):Option R:=J6 E nn c s (B4E (E.drop hid) k)
section
variable {Ty:Type}{den:Ty->Type}{R:Type}
def D3K(body:St Ty den->(Ex->St Ty den->Option R)->Option R)(m:Nat)(k:Ex->St Ty den->Option R):Ex->St Ty den->Option R
 | .normal,s=>VD body m s k
 |e,s=>k e s
end
deriving instance Inhabited for A4,VX,A0,F6,G5,E5,T5,D4,A1,Lu
instance:Inhabited LitT:=⟨.mk 0 [] V [] [] default⟩
deriving instance Inhabited for E0,C3,VdT,RdT,P6,IvT,FdT
instance:Inhabited SelT:=⟨.mk 0 [] [] [] [] [] [] default⟩
deriving instance Inhabited for D9,I6,B5,B7r,B6Q,B5a,B7t,PartT
instance (t:Ty6):Inhabited (A2 t):=by
 cases t<;>unfold A2<;>infer_instance
inductive KD where
 |int (k:IntKind)|bool|str|sl (t:Ty6) (own:GA)|agg (t:Ty6)|ptr (d off:Nat)|any|slc (t:Ty6)
def lI:L6->Int
 | .int _ n=>n
 |_=>0
def lB:L6->Bool
 | .bool b=>b
 |_=>V
def lS:L6->rg
 | .str s=>s
 |_=>[]
def lL(t:Ty6):L6->List (A2 t)
 | .sl u l _=>match(inferInstance:Decidable (u=t))with
  | .isTrue h=>h ▸ l
  | .isFalse _=>[]
 |_=>[]
def lA(t:Ty6):L6->A2 t
 | .agg u x=>match(inferInstance:Decidable (u=t))with
  | .isTrue h=>h ▸ x
  | .isFalse _=>default
 |_=>default
def V5(l:L6):Gp:=lL .i32 l
def B3(l:L6):Gp:=lL .u8 l
def Mn(l:L6):Gp:=lL .i64 l
def B1r(l:L6):List Gp:=lL .rs l
def F0(l:L6):Gy:=lL .str l
def B0V(l:L6):List Gy:=lL .strs l
def SX(l:L6):List PartT:=lL .part l
def C08(l:L6):List A4:=lL .pos l
def T8(l:L6):Gu:=lL .tok l
def D1W(l:L6):GB:=lL .lit l
def D3o(l:L6):List LfT:=lL .lf l
def B8N(l:L6):List E0:=lL .arg l
def O5(l:L6):List C3:=lL .dir l
def Mo(l:L6):GC:=lL .sel l
def OM(l:L6):List E5:=lL .named l
def YY(l:L6):List IvT:=lL .iv l
def C6P(l:L6):List FdT:=lL .fd l
def D4V(l:L6):List P6:=lL .vald l
def D1H(l:L6):List RdT:=lL .rd l
def B7R(l:L6):List B5:=lL .sys l
def C1x(l:L6):List D4:=lL .rule l
def C0Q(l:L6):Gx:=lL .node l
def C5b(l:L6):A4:=lA .pos l
def G3(l:L6):A0:=lA .tok l
def G9(l:L6):LitT:=lA .lit l
def N3(l:L6):E0:=lA .arg l
def B7F(l:L6):VdT:=lA .vd l
def O8(l:L6):SelT:=lA .sel l
def R9(l:L6):D9:=lA .dfn l
def YZ(l:L6):I6:=lA .doc l
def QV(l:L6):G5:=lA .note l
def LA(l:L6):E5:=lA .named l
def B9W(l:L6):B5:=lA .sys l
def Vb(l:L6):T5:=lA .fault l
def Lv(l:L6):F6:=lA .tref l
def V3:KD->L6->L6
 | .int k,l=>.int k (lI l)
 | .bool,l=>.bool (lB l)
 | .str,l=>.str (lS l)
 | .sl t own,l=>.sl t (lL t l) own
 | .agg t,l=>.agg t (lA t l)
 | .ptr d o,_=>.ptr d o
 | .any,_=>.any
 | .slc t,l=>.sl t (lL t l) O
def okL:KD->L6->Bool
 | .int k,.int k' _=>decide (k=k')
 | .bool,.bool _=>Z
 | .str,.str _=>Z
 | .sl t O,.sl u _ O=>decide (u=t)
 | .slc t,.sl u _ _=>decide (u=t)
 | .sl t (J d),.sl u _ (J e)=>decide (u=t)&&Aaa d e
 | .agg t,.agg u _=>decide (u=t)
 | .ptr d o,.ptr e q=>Aaa d e&&Aaa o q
 | .any,.any=>Z
 |_,_=>V
def LB:List KD->Gt->Bool
 |[],[]=>Z
 |k::ks,l::ls=>okL k l&&LB ks ls
 |_,_=>V
def B2x:List (List KD)->Gz->Bool
 |[],[]=>Z
 |k::ks,l::ls=>LB k l&&B2x ks ls
 |_,_=>V
def gL:Gq->Nat->L6
 |some (.one l),0=>l
 |some (.tup ls),j=>ls.getD j .any
 |_,_=>.any
def gB:Option (Gt×Gz)->Nat->L6
 |some (ls,_),j=>ls.getD j .any
 |none,_=>.any
def gC:Option (Gt×Gz)->Nat->Nat->L6
 |some (_,cs),k,j=>(cs.getD k []).getD j .any
 |none,_,_=>.any
def okR(ks:List KD):Gq->Bool
 |some (.one l)=>match ks with
  |[k]=>okL k l
  |_=>V
 |some (.tup ls)=>LB ks ls&& !Aaa ks.length 1
 |_=>V
def Vc(F:Gq):Nat->List KD->Gt
 |_,[]=>[]
 |j,k::ks=>V3 k (gL F j)::Vc F (j+1) ks
def O9(ks:List KD)(F:Gq):E6:=
 match ks with
 |[k]=>.one (V3 k (gL F 0))
 |ks=>.tup (Vc F 0 ks)
def okB(ks:List KD)(fj:List (List KD)):Option (Gt×Gz)->Bool
 |some (ls,cs)=>LB ks ls&&B2x fj cs
 |none=>V
def B1i(F:Option (Gt×Gz)):Nat->List KD->Gt
 |_,[]=>[]
 |j,k::ks=>V3 k (gB F j)::B1i F (j+1) ks
def rsR(ks:List KD)(F:Option (Gt×Gz)):Gt:=B1i F 0 ks
def Ya(F:Option (Gt×Gz))(b:Nat):Nat->List KD->Gt
 |_,[]=>[]
 |j,k::ks=>V3 k (gC F b j)::Ya F b (j+1) ks
def Yb(F:Option (Gt×Gz)):Nat->List (List KD)->Gz
 |_,[]=>[]
 |b,k::ks=>Ya F b 0 k::Yb F (b+1) ks
def csR(fj:List (List KD))(F:Option (Gt×Gz)):Gz:=Yb F 0 fj
def B7P:Option (Bool×Gt×Gz)->Option (Bool×Gt)
 |some (b,r,_)=>J (b,r)
 |none=>O
def smS(s:rg):Bool:=decide (s.length<=67108864)
def isB(l:Gp):Bool:=l.all λn=>decide (0<=n)&&decide (n<=255)
def toB(l:Gp):rg:=l.map λn=>Abn n.toNat
def Kl(aa:Gp):Option (Gt×Gz):=bif decide (aa.length<=140737488355328)then J ([.str (toB aa)],[[.ptr 900000 A9,.sl .u8 aa (J 92000001)]])else O
def QX:Gt->Gz->Option (Bool×Gt×Gz)
 |[.ptr d0 o0],[[.ptr p0 q0,.sl .u8 aa (J aO)]]=>bif(Aaa d0 900000&&Aaa o0 0)&&(Aaa p0 900000&&Aaa q0 A9)&&(Aaa aO 92000001)then J (okB [.str] [[.ptr 900000 A9,.sl .u8 (J 92000001)]] (Kl aa),rsR [.str] (Kl aa),csR [[.ptr 900000 A9,.sl .u8 (J 92000001)]] (Kl aa))else O
 |_,_=>O
def LC(a0:rg)(a1:Int):Gq:=bif decide (a0.length<=2)&&decide (0<=a1)&&decide (a1<=10000000)then J (.one (.str (Go.Lib.repeatL a0 a1.toNat)))else O
def Vd:Gt->Option (Bool×E6)
 |[.str a0,.int .i64 a1]=>J (okR [.str] (LC a0 a1),O9 [.str] (LC a0 a1))
 |_=>O
def SY(a0:rg)(a1:rg):Gq:=bif smS a0&&(a1==[93])then J (.one (.int .i64 ((a0.count 93:Nat):Int)))else O
def S48:Gt->Option (Bool×E6)
 |[.str a0,.str a1]=>J (okR [.int .i64] (SY a0 a1),O9 [.int .i64] (SY a0 a1))
 |_=>O
def SZ(a0:rg)(a1:rg):Gq:=J (.one (.str (if Go.Lib.hasPrefix a0 a1 then a0.drop a1.length else a0)))
def Yc:Gt->Option (Bool×E6)
 |[.str a0,.str a1]=>J (okR [.str] (SZ a0 a1),O9 [.str] (SZ a0 a1))
 |_=>O
def Sa(aa:Gp):Option (Gt×Gz):=J ([],[[.ptr 900000 A9,.sl .u8 aa (J 92000001)]])
def B2d:Gt->Gz->Option (Bool×Gt×Gz)
 |[.ptr d0 o0],[[.ptr p0 q0,.sl .u8 aa (J aO)]]=>bif(Aaa d0 900000&&Aaa o0 0)&&(Aaa p0 900000&&Aaa q0 A9)&&(Aaa aO 92000001)then J (okB [] [[.ptr 900000 A9,.sl .u8 (J 92000001)]] (Sa aa),rsR [] (Sa aa),csR [[.ptr 900000 A9,.sl .u8 (J 92000001)]] (Sa aa))else O
 |_,_=>O
def Sb(a0:rg):Gq:=J (.tup [.int .i32 (Abu ⟨a0.toArray⟩).1,.int .i64 (Abu ⟨a0.toArray⟩).2])
def B35:Gt->Option (Bool×E6)
 |[.str a0]=>J (okR [.int .i32,.int .i64] (Sb a0),O9 [.int .i32,.int .i64] (Sb a0))
 |_=>O
def I3(a b:Nat):(Aaa a b=Z)=(a=b):=propext ⟨HZ,λh=>by subst h;exact Nat.beq_refl a⟩
def B7G:KD->Bool
 | .slc _=>Z
 |_=>V
def Q6:List KD->Bool
 |[]=>Z
 |k::ks=> !B7G k&&Q6 ks
def B1G(t:Ty6)(l:List (A2 t))(o:GA):lL t (.sl t l o)=l:=by
 unfold lL;dsimp only;split;rfl;rename_i h _;exact absurd rfl h
def D6r(t:Ty6)(x:A2 t):lA t (.agg t x)=x:=by
 unfold lA;dsimp only;split;rfl;rename_i h _;exact absurd rfl h
def Yd{k:KD}{l:L6}(h:okL k l=Z)(hx:B7G k=V):V3 k l=l:=by
 cases k with
 |slc t=>cases hx
 |int k0=>cases l<;>first|(cases h;done)|(simp only[okL,decide_eq_true_eq]at h;subst h;rfl)
 |bool=>cases l<;>first|(cases h;done)|rfl
 |str=>cases l<;>first|(cases h;done)|rfl
 |any=>cases l<;>first|(cases h;done)|rfl
 |ptr d o=>
  cases l<;>first|(cases h;done)|skip
  simp only[okL,Fn,I3]at h;obtain⟨rfl,rfl⟩:=h;rfl
 |agg t=>
  cases l<;>first|(cases h;done)|skip
  simp only[okL,decide_eq_true_eq]at h;subst h;simp only[V3,D6r]
 |sl t own=>
  cases l with
  |sl u x o=>
   cases own with
   |none=>
    cases o with
    |none=>
     simp only[okL,decide_eq_true_eq]at h;subst h;simp only[V3];rw[B1G]
    |some e=>cases h
   |some d=>
    cases o with
    |none=>cases h
    |some e=>
     simp only[okL,Fn,decide_eq_true_eq,I3]at h;obtain⟨rfl,rfl⟩:=h;simp only[V3];rw[B1G]
  |_=>cases own<;>cases h
def C3W{k:KD}{l:L6}(h:okL k l=Z)(hc:(V3 k l).close=V3 k l):V3 k l=l.close:=by
 cases hs:B7G k with
 |false=>rw[Yd h hs]at hc ⊢;exact hc.symm
 |true=>
  cases k with
  |slc t=>
   cases l<;>first|(cases h;done)|skip
   rename_i u x o;simp only[okL,decide_eq_true_eq]at h;subst h;simp only[V3,Leaf.close];rw[B1G]
  |_=>cases hs
def B9T(F:Gq)(all:Gt)(hF:F=J (.tup all)):∀(ks:List KD)(ls:Gt)(j:Nat),all.drop j=ls->LB ks ls=Z->Q6 ks=Z->Vc F j ks=ls
 |[],[],j,_,_,_=>rfl
 |[],_::_,j,_,h,_=>by cases h
 |k::ks,[],j,_,h,_=>by cases h
 |k::ks,l::ls,j,hd,h,hx=>by
  simp only[LB,Fn]at h;simp only[Q6,Fn,Hs]at hx;have hj:all[j]?=J l:=by
   have:=congrArg (λx=>x[0]?) hd;simpa using this
  have iD:all.drop (j+1)=ls:=by
   have h1:all.drop (j+1)=(all.drop j).drop 1:=by rw[Im]
   rw[h1,hd];rfl
  have hg:gL F j=l:=by rw[hF];cases j<;>simp[gL,HQ,hj]
  simp only[Vc,hg,Yd h.1 hx.1,B9T F all hF ks ls (j+1) iD h.2 hx.2]
def C0y{ks:List KD}{F:Gq}(h:okR ks F=Z)(hx:Q6 ks=Z):F=J (O9 ks F):=by
 unfold okR at h;split at h;rename_i l;split at h;rename_i k;simp only[Q6,Fn,Hs]at hx;simp only[O9,gL,Yd h hx.1];cases h;rename_i ls;simp only[Fn,Hs]at h;have:=B9T (J (.tup ls)) ls rfl ks ls 0 GN h.1 hx;cases ks with
 |nil=>simp only[O9,this]
 |cons k ks=>
  cases ks with
  |nil=>have:=h.2;cases this
  |cons k2 ks=>simp only[O9,this]
 cases h
def C2i(F:Option (Gt×Gz))(all:Gt)(cs:Gz)(hF:F=J (all,cs)):∀(ks:List KD)(ls:Gt)(j:Nat),all.drop j=ls->LB ks ls=Z->Q6 ks=Z->B1i F j ks=ls
 |[],[],j,_,_,_=>rfl
 |[],_::_,j,_,h,_=>by cases h
 |k::ks,[],j,_,h,_=>by cases h
 |k::ks,l::ls,j,hd,h,hx=>by
  simp only[LB,Fn]at h;simp only[Q6,Fn,Hs]at hx;have hj:all[j]?=J l:=by
   have:=congrArg (λx=>x[0]?) hd;simpa using this
  have iD:all.drop (j+1)=ls:=by
   have h1:all.drop (j+1)=(all.drop j).drop 1:=by rw[Im]
   rw[h1,hd];rfl
  have hg:gB F j=l:=by rw[hF];simp[gB,HQ,hj]
  simp only[B1i,hg,Yd h.1 hx.1,C2i F all cs hF ks ls (j+1) iD h.2 hx.2]
def C2P(F:Option (Gt×Gz))(rs:Gt)(cs:Gz)(hF:F=J (rs,cs))(b:Nat)(all:Gt)(hb:cs[b]?=J all):∀(ks:List KD)(ls:Gt)(j:Nat),all.drop j=ls->LB ks ls=Z->Q6 ks=Z->Ya F b j ks=ls
 |[],[],j,_,_,_=>rfl
 |[],_::_,j,_,h,_=>by cases h
 |k::ks,[],j,_,h,_=>by cases h
 |k::ks,l::ls,j,hd,h,hx=>by
  simp only[LB,Fn]at h;simp only[Q6,Fn,Hs]at hx;have hj:all[j]?=J l:=by
   have:=congrArg (λx=>x[0]?) hd;simpa using this
  have iD:all.drop (j+1)=ls:=by
   have h1:all.drop (j+1)=(all.drop j).drop 1:=by rw[Im]
   rw[h1,hd];rfl
  have hg:gC F b j=l:=by rw[hF];simp[gC,HQ,hb,hj]
  simp only[Ya,hg,Yd h.1 hx.1,C2P F rs cs hF b all hb ks ls (j+1) iD h.2 hx.2]
def Sc:List (List KD)->Bool
 |[]=>Z
 |k::ks=>Q6 k&&Sc ks
def C2Q(F:Option (Gt×Gz))(rs:Gt)(all:Gz)(hF:F=J (rs,all)):∀(ks:List (List KD))(cs:Gz)(b:Nat),all.drop b=cs->B2x ks cs=Z->Sc ks=Z->Yb F b ks=cs
 |[],[],b,_,_,_=>rfl
 |[],_::_,b,_,h,_=>by cases h
 |k::ks,[],b,_,h,_=>by cases h
 |k::ks,c::cs,b,hd,h,hx=>by
  simp only[B2x,Fn]at h;simp only[Sc,Fn]at hx;have hj:all[b]?=J c:=by
   have:=congrArg (λx=>x[0]?) hd;simpa using this
  have iD:all.drop (b+1)=cs:=by
   have h1:all.drop (b+1)=(all.drop b).drop 1:=by rw[Im]
   rw[h1,hd];rfl
  simp only[Yb,C2P F rs all hF b c hj k c 0 GN h.1 hx.1,C2Q F rs all hF ks cs (b+1) iD h.2 hx.2]
def C0k{ks:List KD}{fj:List (List KD)}{F:Option (Gt×Gz)}(h:okB ks fj F=Z)(hx:Q6 ks=Z)(hy:Sc fj=Z):F=J (rsR ks F,csR fj F):=by
 cases F with
 |none=>cases h
 |some p=>
  obtain⟨ls,cs⟩:=p;simp only[okB,Fn]at h;simp only[rsR,csR,C2i (J (ls,cs)) ls cs rfl ks ls 0 GN h.1 hx,C2Q (J (ls,cs)) ls cs rfl fj cs 0 GN h.2 hy]
def sG(S:Gt->Option (Bool×E6)):Gt->Gq:=λls=>G6 (S ls)
def sGB(S:Gt->Gz->Option (Bool×Gt×Gz)):Gt->Gz->Option (Gt×Gz):=λls cs=>G6 (S ls cs)
def C8J{P:Aae}{I:Inv}{f:Aah}{S:Gt->Option (Bool×E6)}(h:Sound P U6 I f (sG S)){ls:Gt}{r:E6}(hr:S ls=J (Z,r)):(∀args w,(Aag f args).run P w=.ok (.enter f args) w)/\QP P U6 I f ls r:=
 ⟨h.enter,h.ok ls r (by simp only[sG,hr,G6])⟩
def C9c{P:Aae}{I:Inv}{f:Aah}{S:Gt->Gz->Option (Bool×Gt×Gz)}(h:Mm P U6 I f (sGB S)){ls:Gt}{cs:Gz}{rs:Gt}{ay:Gz}(hr:G6 (S ls cs)=J (rs,ay)):
 (∀args w,(Aag f args).run P w=.ok (.enter f args) w)/\T3 P U6 I f ls cs rs ay:=⟨h.enter,h.ok ls cs rs ay hr⟩
def D2P{P:Aae}{I:Inv}{f:Aah}{S:Gt->Gz->Option (Bool×Gt×Gz)}(h:Mm P U6 I f (sGB S))(vG:∀ls cs rs ay,S ls cs=J (Z,rs,ay)->ay=cs){ls:Gt}{cs:Gz}{rs:Gt}(hr:G6 (B7P (S ls cs))=J rs):
  (∀args w,(Aag f args).run P w=.ok (.enter f args) w)/\T3 P U6 I f ls cs rs cs:=by
 cases hS:S ls cs with
 |none=>rw[hS]at hr;cases hr
 |some p=>
  obtain⟨b,vq,ay⟩:=p;rw[hS]at hr;cases b with
  |false=>cases hr
  |true=>
   cases hr;have:=vG _ _ _ _ hS;subst this;exact⟨h.enter,h.ok _ _ _ _ (by simp only[sGB,hS,G6])⟩
def ON{α:Type}{b:Bool}{x y:α}(h:G6 (J (b,x))=J y):b=Z/\x=y:=by
 cases b with
 |false=>cases h
 |true=>cases h;exact⟨rfl,rfl⟩
def H8{α:Type}{c:Bool}{x:Option (Bool×α)}{y:α}(h:G6 (bif c then x else O)=J y):c=Z/\G6 x=J y:=by
 cases c with
 |false=>cases h
 |true=>exact⟨rfl,h⟩
def Ve{F:Gq}{ks:List KD}{X:Gq}(og:X=F)(hx:Q6 ks=Z){r:E6}(h:G6 (J (okR ks F,O9 ks F))=J r):X=J r:=by
 obtain⟨h1,h2⟩:=ON h;rw[og,C0y h1 hx,h2]
def L3{F:Option (Gt×Gz)}{ks:List KD}{fj:List (List KD)}{X:Option (Gt×Gz)}(og:X=F)(hx:Q6 ks=Z)(hy:Sc fj=Z){r:Gt×Gz}(h:G6 (J (okB ks fj F,rsR ks F,csR fj F))=J r):X=J r:=by
 obtain⟨h1,h2⟩:=ON h;rw[og,C0k h1 hx hy,h2]
def Z4:E6->E6
 | .one l=>.one l.close
 | .tup ls=>.tup (D0 ls)
 |e=>e
def B8U(e:E6)(hi:∀d ls,e≠ .bx d ls)(hs:∀ls,e≠ .st ls)(d:Nat):(Z4 e).has d=V:=by
 cases e with
 |one l=>simp only[Z4,Ent.has];exact SL l d
 |tup ls=>
  simp only[Z4,Ent.has];clear hi hs
  induction ls with
  |nil=>rfl
  |cons l ls ih=>simp only[D0,Ja,SL,Jc];exact ih
 |iter s p=>rfl
 |bx d ls=>exact absurd rfl (hi d ls)
 |st ls=>exact absurd rfl (hs ls)
def Post.closed{B:Bs}{g':Gh}{r:E6}{v:Value}{w':World}(h:Post U6 B g' r v w')(hb:∀d ls,r≠ .bx d ls)(hs:∀ls,r≠ .st ls):Post U6 B g' (Z4 r) v w':=by
 refine{os:=h.os,tape:=h.tape,output:=h.output,size:=h.size,frame:=h.frame,ext:=h.ext,zero:=h.zero,rep:=?_,nit:=?_,tip:=λd hd=>?_,disj:=λd e b hd=>?_,mine:=λd b hd=>?_};have:=h.rep;cases r with
 |one l=>exact LRep.closed (show LRep U6 w' g' l v from this).1
 |tup ls=>
  obtain⟨vs,h1,h2⟩:=this;exact⟨vs,h1,LsRep.close h2⟩
 |iter s p=>exact this
 |bx d ls=>exact absurd rfl (hb d ls)
 |st ls=>exact absurd rfl (hs ls)
 have:=h.nit;cases r<;>first|rfl|exact this
 rw[B8U r hb hs]at hd;cases hd;rw[B8U r hb hs]at hd;cases hd;rw[B8U r hb hs]at hd;cases hd
def Sound.close{P:Aae}{I:Inv}{f:Aah}{S0 S:Gt->Gq}(h:Sound P U6 I f S0)(hS:∀ls r,S ls=J r->∃r0,S0 ls=J r0/\r=Z4 r0/\(∀d ls,r0≠ .bx d ls)/\∀ls,r0≠ .st ls):Sound P U6 I f S:=by
 refine⟨h.enter,λls r hr=>?_⟩;obtain⟨r0,h1,rfl,h2,h3⟩:=hS ls r hr;intro w g vs hI hz anq cU dP;refine(h.ok ls r0 h1 w g vs hI hz anq cU dP).mono λe w' hw=>?_;obtain⟨v,g',h4,h5⟩:=hw;exact⟨v,g',h4,h5.closed h2 h3⟩
def Vf:KD->Bool
 | .sl _ (J _)=>V
 | .ptr _ _=>V
 |_=>Z
def C1V{k:KD}{l:L6}(h:Vf k=Z):(V3 k l).close=V3 k l:=by
 cases k with
 |sl t o=>cases o<;>first|rfl|cases h
 |ptr d o=>cases h
 |_=>rfl
def C0B(F:Gq)(all:Gt)(hF:F=J (.tup all)):∀(ks:List KD)(ls:Gt)(j:Nat),all.drop j=ls->LB ks ls=Z->ks.all Vf=Z->Vc F j ks=D0 ls
 |[],[],j,_,_,_=>rfl
 |[],_::_,j,_,h,_=>by cases h
 |k::ks,[],j,_,h,_=>by cases h
 |k::ks,l::ls,j,hd,h,hx=>by
  simp only[LB,Fn]at h;simp only[JO,Fn]at hx;have hj:all[j]?=J l:=by
   have:=congrArg (λx=>x[0]?) hd;simpa using this
  have iD:all.drop (j+1)=ls:=by
   have h1:all.drop (j+1)=(all.drop j).drop 1:=by rw[Im]
   rw[h1,hd];rfl
  have hg:gL F j=l:=by rw[hF];cases j<;>simp[gL,HQ,hj]
  simp only[Vc,D0,hg,C3W h.1 (C1V hx.1),C0B F all hF ks ls (j+1) iD h.2 hx.2]
def C7S{ks:List KD}{F:Gq}(h:okR ks F=Z)(hx:ks.all Vf=Z):∃r0,F=J r0/\O9 ks F=Z4 r0/\(∀d ls,r0≠ .bx d ls)/\∀ls,r0≠ .st ls:=by
 unfold okR at h;split at h;rename_i l;split at h;rename_i k;simp only[JO,Fn]at hx;exact⟨_,rfl,by simp only[O9,gL,Z4,C3W h (C1V hx.1)],λd ls=>GN,λls=>GN⟩;cases h;rename_i ls;simp only[Fn,Hs]at h;have:=C0B (J (.tup ls)) ls rfl ks ls 0 GN h.1 hx;refine⟨_,rfl,?_,λd ls=>GN,λls=>GN⟩;cases ks with
 |nil=>simp only[O9,this,Z4]
 |cons k ks=>
  cases ks with
  |nil=>have:=h.2;cases this
  |cons k2 ks=>simp only[O9,this,Z4]
 cases h
def D0u{F:Gq}{ks:List KD}{X:Gq}(og:X=F)(hx:ks.all Vf=Z){r:E6}(h:G6 (J (okR ks F,O9 ks F))=J r):∃r0,X=J r0/\r=Z4 r0/\(∀d ls,r0≠ .bx d ls)/\∀ls,r0≠ .st ls:=by
 obtain⟨h1,h2⟩:=ON h;obtain⟨r0,h3,h4,h5⟩:=C7S h1 hx;exact⟨r0,og.trans h3,by rw[<-h2,h4],h5⟩
structure HB(I:Inv):Prop where
 mono:∀w m w' m',I w m->Ext w m w' m'->I w' m'
 s29:Mm Aar U6 I 29 (sGB QX)
 s138:Mm Aar U6 I 138 (sGB B2d)
 s47:Sound Aar U6 I 47 (sG Vd)
 s48:Sound Aar U6 I 48 (sG S48)
 s65:Sound Aar U6 I 65 (sG Yc)
 s217:Sound Aar U6 I 217 (sG B35)
end Go.Aev
section
open Go.Lib
namespace Go.Aev
variable {Ty:Type}{den:Ty->Type}
def ArrN(w:World)(sz:Nat)(v:Value)(n:Nat)(xs:Gw):Prop:=
 xs.length=n*sz/\∃a cap,v=.slice a n cap/\n<=cap/\(cap=0\/∃b c e fz,a=J ⟨b,0,O⟩/\w.heap[b]?=J (.cells c e fz)/\cap*sz<=c.size/\
  fz.2=0/\∀(j:Nat) x,xs[j]?=J x->c[j]?=J x)
def G1(v:Value):GA:=
 match v with
 | .slice (J a) _ cap=>if cap=0 then O else J a.block
 |_=>O
def X7{b off len cap:Nat}(h:cap≠0):G1 (.slice (J ⟨b,off,O⟩) len cap)=J b:=by simp[G1,h]
def B4M{a:Option Addr}{n m cap:Nat}:G1 (.slice a n cap)=G1 (.slice a m cap):=by cases a<;>rfl
structure KM(w:World)(m:Nat->Nat)(w':World)(m':Nat->Nat)(S:Nat->Prop):Prop where
 os:w'.os=w.os
 tape:w'.tape=w.tape
 output:w'.output=w.output
 size:w.heap.size<=w'.heap.size
 heap:∀b,b<w.heap.size->¬S b->w'.heap[b]?=w.heap[b]? /\m' b=m b
 ext:Ext w m w' m'
 zero:∀b,w'.heap.size<=b->m' b=0
section
variable {w w' ue:World}{v:Value}{xs:Gw}{S T:Nat->Prop}{m m' AI:Nat->Nat}{sz n:Nat}
def KM.refl(w:World)(m:Nat->Nat)(S:Nat->Prop)(hz:∀b,w.heap.size<=b->m b=0):KM w m w m S:=⟨rfl,rfl,rfl,GU _,λ_ _ _=>⟨rfl,rfl⟩,Ext.refl _ _,hz⟩
def KM.mono(k:KM w m w' m' S)(h:∀b,b<w.heap.size->S b->T b):KM w m w' m' T:=
 ⟨k.os,k.tape,k.output,k.size,λb hb hs=>k.heap b hb λe=>hs (h b hb e),k.ext,k.zero⟩
def KM.trans(k:KM w m w' m' S)(l:KM w' m' ue AI T)(h:∀b,b<w.heap.size->T b->S b):KM w m ue AI S:=
 ⟨l.os.trans k.os,l.tape.trans k.tape,l.output.trans k.output,HT k.size l.size,λb hb hs=>by
  have h1:=k.heap b hb hs;have h2:=l.heap b (t8 hb k.size) λe=>hs (h b hb e);exact⟨h2.1.trans h1.1,h2.2.trans h1.2⟩,k.ext.trans l.ext,l.zero⟩
def ArrN.frame(h:ArrN w sz v n xs)(hf:∀b,G1 v=J b->w'.heap[b]?=w.heap[b]?):ArrN w' sz v n xs:=by
 obtain⟨hl,a,cap,hv,bw,hc⟩:=h;refine⟨hl,a,cap,hv,bw,?_⟩;by_cases h0:cap=0;exact .inl h0;obtain⟨b,c,e,fz,ha,hb,h1,h2,h3⟩:=hc.resolve_left h0;exact .inr ⟨b,c,e,fz,ha,by rw[hf b (by rw[hv,ha];exact X7 h0)];exact hb,h1,h2,h3⟩
def ArrN.lt(h:ArrN w sz v n xs){b:Nat}(hs:G1 v=J b):b<w.heap.size:=by
 obtain⟨hl,a,cap,hv,bw,hc⟩:=h;by_cases h0:cap=0;rw[hv,h0]at hs;cases a<;>simp[G1]at hs;obtain⟨b',c,e,fz,ha,hb,_⟩:=hc.resolve_left h0;rw[hv,ha,X7 h0]at hs;cases hs;exact(HJ.1 hb).1
def KM.arr(k:KM w m w' m' S)(h:ArrN w sz v n xs)(hS:∀b,G1 v=J b->¬S b):ArrN w' sz v n xs:=
 h.frame λb hb=>(k.heap b (h.lt hb) (hS b hb)).1
def KM.mark(k:KM w m w' m' S){b:Nat}(hb:b<w.heap.size)(hs:¬S b):m' b=m b:=(k.heap b hb hs).2
def ArrN.len(h:ArrN w sz v n xs):∃a cap,v=.slice a n cap:=by
 obtain⟨_,a,cap,hv,_⟩:=h;exact⟨a,cap,hv⟩
def ArrN.nil:ArrN w sz (.slice O 0 0) 0 []:=⟨GN,O,0,rfl,GU _,.inl rfl⟩
def ArrN.at(h:ArrN w sz v n xs){j:Nat}{x:Value}(hj:xs[j]?=J x):∃b cap,v=.slice (J ⟨b,0,O⟩) n cap/\cap≠0/\G1 v=J b/\
  w.cell? ⟨b,j,O⟩=J x/\w.frozen? ⟨b,j,O⟩=V:=by
 have bD:=(HN.1 hj).1;obtain⟨hl,a,cap,hv,bw,hc⟩:=h;have h0:cap≠0:=by
  intro h0;have:n=0:=FK;rw[hl,this]at bD;simp at bD
 obtain⟨b,c,e,fz,ha,hb,h1,h2,h3⟩:=hc.resolve_left h0;refine⟨b,cap,by rw[hv,ha],h0,by rw[hv,ha];exact X7 h0,?_,?_⟩;simp[Aay,hb,h3 j x hj];have aE:j<cap*sz:=t8 (by rw[<-hl];exact bD) (Hq _ bw);simp only[World.frozen?,hb];simp;omega
def ArrN.blk(h:ArrN w sz v n xs)(hn:0<n):∃b cap,v=.slice (J ⟨b,0,O⟩) n cap/\cap≠0/\G1 v=J b/\n<=cap/\∀(j:Nat) x,xs[j]?=J x->w.cell? ⟨b,j,O⟩=J x/\w.frozen? ⟨b,j,O⟩=V:=by
 obtain⟨hl,a,cap,hv,bw,hc⟩:=id h;have h0:cap≠0:=FK;obtain⟨b,c,e,fz,ha,hb,h1,h2,h3⟩:=hc.resolve_left h0;refine⟨b,cap,by rw[hv,ha],h0,by rw[hv,ha];exact X7 h0,bw,λj x hj=>?_⟩;obtain⟨b',gu,dE,_,_,h4,h5⟩:=h.at hj;rw[hv,ha]at dE;cases dE;exact⟨h4,h5⟩
def ArrN.first(P:Aae)(h:ArrN w sz v n xs):∀w':World,w'.heap=w.heap->(Aa0 sz n v).run P w'=.ok xs.toArray w':=by
 intro w' ff;obtain⟨hl,a,cap,rfl,bw,hc⟩:=h;by_cases h0:cap=0;have h1:n=0:=FK;subst h1;have h2:xs=[]:=Hr (by simpa using hl);subst h2;cases a<;>simp[Aa0,loadCells,loadCellsFrom];obtain⟨b,c,e,fz,rfl,hb,h1,h2,h3⟩:=hc.resolve_left h0;refine Abl w' sz n ⟨b,0,O⟩ n cap xs hl (λj u hu=>?_);rw[Hw];simp[Aay,ff,hb,h3 j u hu]
def ArrN.set(h:ArrN w sz v n xs){j b cap:Nat}(hj:j<n*sz)(hv:v=.slice (J ⟨b,0,O⟩) n cap)(x:Value):ArrN (w.setCell ⟨b,j,O⟩ x) sz v n (xs.set j x):=by
 obtain⟨hl,a,gu,dE,bw,hc⟩:=h;rw[hv]at dE;have h4:=dE;simp only[JI]at h4;obtain⟨qQ,_,rfl⟩:=h4;have h0:cap≠0:=by
  intro h0;have:n=0:=FK;rw[this]at hj;simp at hj
 obtain⟨b',c,e,fz,ha,hb,h1,h2,h3⟩:=hc.resolve_left h0;rw[ha]at qQ;cases qQ;refine⟨by rw[IT];exact hl,_,cap,hv,bw,.inr ⟨b,_,e,fz,rfl,B1p w b j x c e fz hb,by simpa using h1,h2,λi y hi=>?_⟩⟩;rw[IU];rw[Ie]at hi;by_cases cJ:j=i;subst cJ;rw[GJ rfl,GJ FK]at hi;have aE:j<cap*sz:=t8 hj (Hq _ bw);rw[GJ rfl,GJ FK];exact hi;rw[GI cJ]at hi;rw[GI cJ];exact h3 i y hi
def C35(w:World)(m:Nat->Nat){b off:Nat}(x:Value)(hm:m b=0)(hz:∀b,w.heap.size<=b->m b=0):KM w m (w.setCell ⟨b,off,O⟩ x) m (λk=>k=b):=by
 refine⟨rfl,rfl,rfl,by simp[Abf],λk _ hk=>⟨Xz w b off k x hk,rfl⟩,⟨?_,λk o ho=>?_,λ_=>GU _⟩,λk hk=>hz k (by simpa [Abf]using hk)⟩;intro k c e fz h;by_cases hk:k=b;subst hk;exact⟨_,fz,B1p w k off x c e fz h⟩;exact⟨c,fz,by rw[Xz w b off k x hk];exact h⟩;have hk:k≠b:=λe=>by rw[e,hm]at ho;omega
 exact HK (a:=⟨k,o,O⟩) (Xz w b off k x hk)
def Y1(w:World)(m:Nat->Nat)(o:Obj)(hz:∀b,w.heap.size<=b->m b=0):KM w m (w.alloc o) m (λ_=>False):=by
 have hh:∀b,b<w.heap.size->(w.alloc o).heap[b]?=w.heap[b]? :=λb hb=>by
  show(w.heap.push o)[b]?=_;rw[Hp,GI FK]
 have aw:(w.alloc o).heap.size=w.heap.size+1:=by show(w.heap.push o).size=_;rw[Abz]
 refine⟨rfl,rfl,rfl,FK,λb hb _=>⟨hh b hb,rfl⟩,⟨Lo rfl,λk o' ho=>HK (a:=⟨k,o',O⟩) (hh k ?_),λ_=>GU _⟩,λk hk=>hz k FK⟩;rcases Hv k w.heap.size with h|h;exact h;rw[hz k h]at ho;omega
def C9Z(w:World)(m:Nat->Nat)(o:Obj)(hz:∀b,w.heap.size<=b->m b=0):KM w m (w.drew.alloc o) m (λ_=>False):=by
 have hh:∀b,b<w.heap.size->(w.drew.alloc o).heap[b]?=w.heap[b]? :=λb hb=>by
  show(w.heap.push o)[b]?=_;rw[Hp,GI FK]
 have aw:(w.drew.alloc o).heap.size=w.heap.size+1:=by show(w.heap.push o).size=_;rw[Abz]
 refine⟨rfl,rfl,rfl,FK,λb hb _=>⟨hh b hb,rfl⟩,⟨Lo rfl,λk o' ho=>HK (a:=⟨k,o',O⟩) (hh k ?_),λ_=>GU _⟩,λk hk=>hz k FK⟩;rcases Hv k w.heap.size with h|h;exact h;rw[hz k h]at ho;omega
def QY{w1:World}{c:Array Value}{e:Aad}{cap:Nat}(hl:xs.length=n*sz)(hw:w1.heap=w.heap.push (.cells c e))(bw:n<=cap)(cN:cap*sz<=c.size)(hx:∀(j:Nat) x,xs[j]?=J x->c[j]?=J x):
  ArrN w1 sz (.slice (J ⟨w.heap.size,0,O⟩) n cap) n xs:=
 ⟨hl,_,cap,rfl,bw,.inr ⟨w.heap.size,c,e,(0,0),rfl,by rw[hw];simp,cN,rfl,hx⟩⟩
def ArrN.cut{a:Option Addr}{cap:Nat}(h:ArrN w sz (.slice a n cap) n xs){k:Nat}(hk:k<=n):ArrN w sz (.slice a k cap) k (xs.take (k*sz)):=by
 obtain⟨hl,a',gu,hv,bw,hc⟩:=h;cases hv;have:k*sz<=n*sz:=Hq _ hk;refine⟨by rw[IK];omega,a,cap,rfl,FK,?_⟩;rcases hc with h0|⟨b,c,e,fz,ha,hb,h1,h2,h3⟩;exact .inl h0;refine .inr ⟨b,c,e,fz,ha,hb,h1,h2,λj x hj=>h3 j x ?_⟩;rw[Hn]at hj;split at hj;exact hj;cases hj
def B3j{P:Aae}{t u ty e:Aad}(ht:P.underlying t=J (.slice e))(hu:YA P u){i:TypeInfo}{z:Value}(hi:P.info? e=J i)(aw:i.size=sz)(hz:i.zero=J z)(dJ:z.cells.size=sz)
  {y:Value}{k:Nat}{ys:Gw}(h:ArrN w sz v n xs)(aA:(Builtin.lenOf y).run P w=.ok k w)(xT:∀w':World,w'.heap=w.heap->(Aa0 sz k y).run P w'=.ok ys.toArray w')(gw:ys.length=k*sz)
  (bR:∀x∈ys,x.oneCell'=Z)(hm:∀b,G1 v=J b->m b=0)(sa:∀b,w.heap.size<=b->m b=0)(be:(n+k)*i.bytes<=140737488355328)(lE:0<i.bytes):
  ∃v' w',(Aby #[t,u] ty #[v,y]).run P w=.ok v' w'/\ArrN w' sz v' (n+k) (xs++ys)/\KM w m w' m (λb=>G1 v=J b)/\(∀b,G1 v'=J b->G1 v=J b\/w.heap.size<=b):=by
 have Df:=h.first P;have h0:=h;obtain⟨hl,a0,cap,rfl,bw,hc⟩:=h;have jA:n+k<=140737488355328:=HT (Ig _ lE) be;have nr:(xs++ys).length=(n+k)*sz:=by rw[Fd,hl,gw,Hz]
 by_cases iS:cap<n+k;have af:=B0N (P:=P) w t u ty e i z ht hu hi hz a0 n cap xs (by rw[aw];exact Df) y k ys aA (by rw[aw];exact xT) iS FK be;have aW:n+k<=Aaj w (n+k) cap e:=Abe _ _ _ _;have hk:=C9Z w m (.cells (xs.toArray++ys.toArray++Aa4 z.cells (Aaj w (n+k) cap e - (n+k))) e) sa;refine⟨_,_,af,?_,hk.mono λ_ _ h=>h.elim,λb hb=>?_⟩;refine QY (w:=w) nr rfl aW ?_ (λj x hj=>?_);simp only[JN,Ix,Abd,dJ,hl,gw, <-Hz];exact Hq _ FK;have aE:=(HN.1 hj).1;rw[Hf (by simpa using aE)];simpa using hj;right;by_cases AJ:Aaj w (n+k) cap e=0;rw[AJ]at hb;simp[G1]at hb;rw[X7 AJ]at hb;cases hb;exact GU _;by_cases il:cap=0;have ik:n=0:=FK;have dK:k=0:=FK;subst ik;subst dK;have uo:ys=[]:=Hr (by simpa using gw);subst uo;have af:=YB (P:=P) w t u ty e i ht hu hi a0 0 cap y 0 [] aA (by rw[aw];simpa using xT w rfl) w (λa1 _=>by simp[Abc]) (λ_=>rfl) GN;refine⟨_,_,af,by rw[GY];exact h0,KM.refl _ _ _ sa,λb hb=>.inl ?_⟩;rw[il]at hb;cases a0<;>simp[G1]at hb;obtain⟨b,c,e',fz,rfl,hb,h1,h2,h3⟩:=hc.resolve_left il;have dL:(n+k)*sz<=cap*sz:=Hq _ FK;rw[Hz]at dL;obtain⟨s1,⟨c',s2,s3,s4,s5⟩,s6,s7,s8,s9,jR⟩:=Px P b e' fz ys (n*sz) w c hb FK (λj h5 h6=>FK) bR;have af:=YB (P:=P) w t u ty e i ht hu hi (J ⟨b,0,O⟩) n cap y k ys aA (by rw[aw];exact xT w rfl) (C7 w b (n*sz) ys)
  (λa1 jm=>by
   cases jm;rw[Hw,aw,HL];exact s1 ⟨b,n*sz,O⟩ 0 GN (HH _)) (λe=>by cases e) FK
 have lD:m b=0:=hm b (X7 il);refine⟨_,_,af,⟨nr,_,cap,rfl,FK,.inr ⟨b,c',e',fz,rfl,s2,by rw[s3];exact h1,h2,λj x hj=>?_⟩⟩,
  ⟨s8,s9,jR,by rw[s6];exact GU _,λk' _ hk=>⟨s7 k' (λe=>hk (by rw[e];exact X7 il)),rfl⟩,⟨VJ hb s2 s7,λk' o ho=>?_,λ_=>GU _⟩,λk' fV=>sa k' (by rw[s6]at fV;exact fV)⟩,λb' bC=>.inl ?_⟩
 by_cases bD:j<n*sz;rw[HV FK]at hj;rw[s4 j (.inl bD)];exact h3 j x hj;rw[Hk FK]at hj;have:=s5 _ x hj;rw[show n*sz+(j - xs.length)=j from FK]at this;exact this;have fV:k'≠b:=λe=>by rw[e,lD]at ho;omega
 exact HK (a:=⟨k',o,O⟩) (s7 k' fV);rw[<-bC];exact B4M
def B2b{U:UO Ty den}(hU:U.Ok){t:Ty}{l:List (den t)}(h:ArrN w (U.size t) v n xs)(hn:l.length=n)(hx:∀(j:Nat)(lf:Leaf Ty den),(flat U t l)[j]?=J lf->∃u:Value,xs[j]?=J u/\CRep U w m lf u)(hm:∀b,G1 v=J b->m b=0)(sa:∀b,w.heap.size<=b->m b=0):
  ∃m',CRep U w m' (.sl t l O) v/\KM w m w m' (λb=>G1 v=J b):=by
 subst hn;obtain⟨hl,a,cap,hv,bw,hc⟩:=id h;by_cases h0:l=[];subst h0;exact⟨m,by rw[hv];exact .nil _ _ _ _,KM.refl _ _ _ sa⟩;have hp:=KQ.2 h0;obtain⟨b,gu,dE,il,hb,_,aH⟩:=h.blk hp;have aE:=h.lt hb;have lD:=hm b hb;have dC:Ext w m w (B9 m b (l.length*U.size t)):=by
  refine⟨λ_ c _ fz h=>⟨c,fz,h⟩,λ_ _ _=>rfl,λk=>?_⟩;unfold B9;by_cases hk:k=b;rw[hk,lD];exact HH _;rw[GI hk];exact GU _
 refine⟨B9 m b (l.length*U.size t),?_,⟨rfl,rfl,rfl,GU _,λk hk aP=>⟨rfl,?_⟩,dC,λk hk=>?_⟩⟩;have fg:l.length<=gu:=by
  rw[hv]at dE;cases dE;exact bw
 rw[dE];refine .sl t l O b 0 gu (λj=>xs.getD j undef) fg (by rw[HL];simp[B9]) (λj lf hj=>?_) (λj lf hj=>?_);obtain⟨u,hu,_⟩:=hx j lf hj;rw[HQ,hu,HL];exact(aH j u hu).1;obtain⟨u,hu,hr⟩:=hx j lf hj;rw[HQ,hu];exact hr.mono hU dC;unfold B9;rw[GI λe=>aP (by rw[e];exact hb)];unfold B9;rw[GI FK];exact sa k hk
end
end Go.Aev
end
