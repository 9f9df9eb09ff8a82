/- Proved here: lemmas that the claim's text uses. Conditions: those that each lemma states. -/
import Derived.Test.YtolabkginnkhgaaGreatDoorRows
import Derived.Lib.ValidLaws
import Derived.Lib.Strings
import Derived.Lib.Repeat
import Derived.Lib.Replace
import Derived.Test.YtolabkginnkhgaaGreatDoorX0
set_option maxRecDepth 100000
set_option linter.unusedVariables false
set_option linter.unusedSimpArgs false
set_option linter.defProp false
open Bool renaming and_eq_true→Ew,not_eq_true'→Fu,and_false→Hw,or_eq_true_iff→Ij,or_eq_true→Ik,or_false→Jk,false_or→Jl,false_eq_true→Jm,and_self→Jn
open Nat renaming beq→Ey,blt_eq→Fe,zero_add→Ff,le_refl→Fg,eq_of_beq_eq_true→Fw,le_trans→Fz,zero_le→Ge,le_of_ble_eq_true→Gu,add_mul→Gv,sub_zero→Ha,mul_le_mul_right→Hg,lt_or_ge→Hh,blt→Hp,ble_eq→Hq,lt_trichotomy→Ib,one_mul→Ju,mul_pos→Jv,le_mul_of_pos_right→Jw,add_zero→Jx,add_assoc→Jy
open Go.Op renaming operands→Ez
open Go renaming execOp→Fa,TypeId→Fb,Program→Fh,Operand→Fl,callFunc→Fm,FuncId→Fq,grownCap→Gf,yielded→Gk,resolve→Gn,getD_set_ne→Gp,sizeOf→Gw,typeInfo→Gy,mem_ready→Gz,run_underlying→Hn,wpAny_all→Hx,results→Hy,wpList_plain→It,wpAny_take→Iu,wpAny_sound→Iv
open List renaming mem_cons→Fc,getElem?_eq_getElem→Fj,mem_of_getElem?→Fp,mem_append→Gc,length_cons→Gg,getElem?_take→Gi,getElem?_map→Gj,mem_singleton→Hb,getD_eq_getElem?_getD→Hc,range→Hi,not_mem_nil→Hj,mem_of_mem_take→Hk,drop_drop→Hl,mem_range→Hr,map→Hs,getElem?_drop→Ht,any_eq_true→Hu,all_eq_true→Hv,mem_filter→Ic,mem_append_left→Ie,map_id→If,map_congr_left→Ig,count_pos_iff→Ih,mem_append_right→Ja,getElem_of_mem→Jb,getElem?_range→Jc,getElem?_eq_none→Jd,any_eq_false→Je,all_cons→Jf,take_succ_cons→Jz,size_toArray→Ka,nodup_cons→Kb,map_cons→Kc,length_nil→Ke,length_map→Kf,getElem?_cons_succ→Kg,getElem?_append_right→Kh,getElem?_append_left→Ki,getElem?_append→Kj
open Option.some renaming injEq→Fi,inj→Gb
open Array renaming getD_eq_getD_getElem?→Fk,replicate→Ft,getElem?_eq_getElem→Fx,getElem?_eq_some_iff→He,getElem?_append_left→Hf,toList_setIfInBounds→Il,getElem?_toList→Im,getElem?_replicate→Io,getElem?_eq_none→Ip,ext_getElem?→Iq,ext'→Ir,getElem?_push→Jo,size_append→Kp
open Ne renaming symm→Fo
open Prod.mk renaming injEq→Fs
open Go.Proofs.Tryz renaming prog→Fv
open Go.Region renaming wanted→Fy,binds→Ga,ready→Gr,Mode→Gt
open Go.Oper renaming wp→Gl,upon_enter→Ia,upon_skip→Iz
open Go.Call renaming operands→Gm
open Go.Lib renaming decodeL→Gq
open Go.Act renaming put→Gx,eval→Is
open Go.Addr renaming add_lit→Hm,mk→Jp
open Go.World renaming cell?→Ho,cell?_of_block→Hz
open Go.Builtin renaming zeroCells→Ii,firstCells→Jj,len_→Ko
open Option renaming map_some→Iw,map_eq_some_iff→Ix,isNone_iff_eq_none→Iy,bind_some→Js
open Go.Instr renaming sureAddr→Jg,storeAt→Kk,indexAt→Kl
open Go.Ending renaming returned→Jh
open Go.Deferred renaming ofValue→Ji
open Go.Value.tuple renaming inj→Jq
open UInt8 renaming ofNat→Jr
open Go.Operand renaming tmp→Jt
open Go.Code renaming wp_mono→Km,region→Kn
open Go.Addr.mk renaming injEq→Kq
open Go.Value.slice renaming injEq→Kr
open Go.Value.pointer renaming injEq→Ks
section
open Go.Lib
namespace Go.Aev
variable {Ty:Type}{den:Ty->Type}
def M8(ls:List (Leaf Ty den))(c:Nat):Prop:=∃lf∈ls,lf.has c=true
def V8:List (Nat×Ea)->Ea
 |[]=>[]
 |(b,us)::r=>.pointer (some ⟨b,0,none⟩)::(us++V8 r)
def A0A(w:World)(g:Gh):DX->List (List (Leaf Ty den))->List (Nat×Ea)->Prop
 |[],[],[]=>True
 |d::ds,c::cs,(b,us)::r=>(g.G d=.slice (some ⟨b,0,none⟩) 0 us.length/\us.length=c.length/\0<us.length/\g.Gs d=1/\
  ∀(j:Nat) u,us[j]?=some u->w.cell? ⟨b,j,none⟩=some u/\u.oneCell'=true/\u.cells= #[u])/\A0A w g ds cs r
 |_,_,_=>False
def K9:Nat->DX->List (Nat×Nat)
 |_,[]=>[]
 |k,d::r=>(C0 k,d)::K9 (k+1) r
def X2(P:Fh)(U:UO Ty den)(I:Inv)(f:Fq)(ls:List (Leaf Ty den))(cs:List (List (Leaf Ty den)))(rs:List (Leaf Ty den))(ay:List (List (Leaf Ty den))):Prop:=
 ∀(w:World)(g:Gh)(vs:Ea)(cd:List (Nat×Ea)),I w g.wm->(∀b,w.heap.size<=b->g.wm b=0)->LsRep U w g ls vs->LsRep U w g (F4 0 cs) (V8 cd)->A0A w g (P4 0 cs.length) cs cd->
  (∀d,M8 (F4 0 cs) d->Tip w g.wm (g.G d) (g.Gs d))->(∀d e b,M8 (F4 0 cs) d->M8 (F4 0 cs) e->d≠e->spare (g.G d)=some b->spare (g.G e)≠some b)->
  (∀lf∈ls,∀d,lf.has d=true->M8 (F4 0 cs) d)->
  Calls P f vs.toArray w λe w'=>∃g' rv dw,e=.returned (V4 rv)/\rs.length=rv.length/\
   Post U ⟨w,g.wm,λb=>∃d,M8 (F4 0 cs) d/\spare (g.G d)=some b,0,λ_=>undef⟩ g' (.tup (rs++F4 0 ay)) (.tuple (rv++V8 dw).toArray) w'/\
   A0A w' g' (P4 0 cs.length) ay dw/\dw.map (λp=>(p.1,p.2.length))=cd.map (λp=>(p.1,p.2.length))
structure D7(P:Fh)(U:UO Ty den)(I:Inv)(f:Fq)(S:List (Leaf Ty den)->List (List (Leaf Ty den))->Option (List (Leaf Ty den)×List (List (Leaf Ty den)))):Prop where
 enter:∀args w,(Fm f args).run P w=.ok (.enter f args) w
 ok:∀ls cs rs ay,S ls cs=some (rs,ay)->X2 P U I f ls cs rs ay
section
variable {U:UO Ty den}{B:Bs}{g:Gh}{s:St Ty den}{a:Act}{w:World}
def OneOne(N:List (Nat×Nat)):Prop:=∀c d c' d',(c,d)∈N->(c',d')∈N->(c=c'↔d=d')
def D4F(hU:U.Ok)(hr:Rel U B g s a w){k d c:Nat}{l:Leaf Ty den}{u:Value}(hl:LRep U w g l u)(hb:∃b n,g.G d=.slice (some ⟨b,0,none⟩) 0 n):
  ∃N,Rel U B g (pk1 k d c s l).2 a w/\PackRep U w g ((C0 k,d)::N) [(pk1 k d c s l).1] [u]/\OneOne N/\(∀p∈N,p.1=c/\mem p.2 s.live=true/\mem p.2 (pk1 k d c s l).2.live=false)/\
   (∀e,mem e (pk1 k d c s l).2.live=true->mem e s.live=true):=by
 have keep:∀{l':Leaf Ty den},CRep U w g.wm l' u->(∀t x c,l'≠ .sl t x (some c))->(∀c' o,l'=.ptr c' o->∃d' b n,(c',d')∈[(C0 k,d)]/\g.G d'=.slice (some ⟨b,0,none⟩) 0 n/\PtrAt U w b n o u)->pk1 k d c s l=(l',s)->
   ∃N,Rel U B g (pk1 k d c s l).2 a w/\PackRep U w g ((C0 k,d)::N) [(pk1 k d c s l).1] [u]/\OneOne N/\(∀p∈N,p.1=c/\mem p.2 s.live=true/\mem p.2 (pk1 k d c s l).2.live=false)/\
   (∀e,mem e (pk1 k d c s l).2.live=true->mem e s.live=true):=λh1 h2 h3 h4=>by
  rw[h4];exact⟨[],hr,⟨⟨h1,λt x c he=>absurd he (h2 t x c),h3⟩,trivial⟩,λ_ _ _ _ h=>by(cases h),λp hp=>by(cases hp),λ_ h=>h⟩
 cases l with
 |sl t x o=>
  cases o with
  |none=>exact keep hl.1.close (λ_ _ _ he=>by(cases he)) (λ_ _ he=>by(cases he)) rfl
  |some e=>
   cases hm:mem e s.live with
   |false=>exact keep hl.1.close (λ_ _ _ he=>by(cases he)) (λ_ _ he=>by(cases he)) (by simp only[pk1,hm,Eh];rfl)
   |true=>
    obtain⟨h1,h2⟩:=hl.2.1 t x e rfl;have he:pk1 k d c s (.sl t x (some e))=(.sl t x (some c),s.kill e):=by simp only[pk1,hm,Eg]
    rw[he];refine⟨[(c,e)],hr.kill hU e,⟨⟨hl.1.own _,λt1 x1 c1 iN=>?_,λ_ _ iN=>by(cases iN)⟩,trivial⟩,λc1 d1 c2 d2 h3 h4=>?_,λp hp=>?_,λe' h=>(A3C.1 h).1⟩
    ·cases iN;exact⟨e,Eo,h1,h2⟩
    ·simp only[Fc,Hj,or_false,Fs]at h3 h4;simp[h3,h4]
    ·simp only[Fc,Hj,or_false]at hp;subst hp;refine⟨rfl,hm,?_⟩;cases h5:mem e (s.kill e).live with
     |false=>rfl
     |true=>exact absurd rfl (A3C.1 h5).2
 |ptr e o=>
  cases hc:Ey e d&&Ey o B4 with
  |false=>exact keep (.any _) (λ_ _ _ he=>by(cases he)) (λ_ _ he=>by(cases he)) (by simp only[pk1,hc,Eh])
  |true=>
   simp only[Ew]at hc;have e1:=(F2 _ _).1 hc.1;have e2:o=B4:=(F2 _ _).1 hc.2;subst e2;subst e1;obtain⟨b,n,h1,h2⟩:=hl.2.2 e _ rfl;refine keep (l':=.ptr (C0 k) B4) (.ptr _ _ _ h2.ptr) (λ_ _ _ he=>by(cases he)) (λc' o' he=>?_) (by simp only[pk1,H5,hc.2,Jn,Eg]);cases he;exact⟨e,b,n,Eo,h1,h2⟩
 |_=>exact keep hl.1.close (λ_ _ _ he=>by(cases he)) (λ_ _ he=>by(cases he)) rfl
def OneOne.append{N M:List (Nat×Nat)}(h1:OneOne N)(h2:OneOne M)(h:∀p∈N,∀q∈M,p.1≠q.1/\p.2≠q.2):OneOne (N++M):=by
 intro c d c' d' h3 h4;rw[Gc]at h3 h4;rcases h3 with h3|h3<;>rcases h4 with h4|h4
 ·exact h1 c d c' d' h3 h4
 ·have:=h _ h3 _ h4;exact⟨λe=>absurd e this.1,λe=>absurd e this.2⟩
 ·have:=h _ h4 _ h3;exact⟨λe=>absurd e.symm this.1,λe=>absurd e.symm this.2⟩
 ·exact h2 c d c' d' h3 h4
def C0B(hU:U.Ok){k d:Nat}:∀(ls:List (Leaf Ty den))(us:Ea)(j:Nat)(s:St Ty den),Rel U B g s a w->LsRep U w g ls us->(∃b n,g.G d=.slice (some ⟨b,0,none⟩) 0 n)->
  ∃N,Rel U B g (pkC k d j s ls).2 a w/\PackRep U w g ((C0 k,d)::N) (pkC k d j s ls).1 us/\OneOne N/\(∀p∈N,(∃i,j<=i/\i<j+ls.length/\p.1=bo (C0 k) i)/\mem p.2 s.live=true/\mem p.2 (pkC k d j s ls).2.live=false)/\
   (∀e,mem e (pkC k d j s ls).2.live=true->mem e s.live=true)/\(pkC k d j s ls).1.length=ls.length
 |[],[],j,s,hr,_,_=>⟨[],hr,trivial,λ_ _ _ _ h=>by(cases h),λp hp=>by(cases hp),λ_ h=>h,rfl⟩
 |l::ls,u::us,j,s,hr,bD,hb=>by
  obtain⟨N1,a1,a2,a3,a4,a5⟩:=D4F hU hr (k:=k) (d:=d) (c:=bo (C0 k) j) bD.1 hb;obtain⟨N2,b1,b2,b3,b4,b5,b6⟩:=C0B hU (k:=k) (d:=d) ls us (j+1) _ a1 bD.2 hb;have e1:(pkC k d j s (l::ls)).1=(pk1 k d (bo (C0 k) j) s l).1::(pkC k d (j+1) (pk1 k d (bo (C0 k) j) s l).2 ls).1:=rfl;have e2:(pkC k d j s (l::ls)).2=(pkC k d (j+1) (pk1 k d (bo (C0 k) j) s l).2 ls).2:=rfl;rw[e1,e2];refine⟨N1++N2,b1,⟨?_,b2.mono λp hp=>?_⟩,a3.append b3 λp hp q hq=>?_,λp hp=>?_,λe he=>a5 e (b5 e he),by simp[b6]⟩
  ·obtain⟨c1,c2,c3⟩:=a2.1;exact⟨c1,λt x c he=>by(obtain⟨d',h1,h2⟩:=c2 t x c he;exact⟨d',by simp only[Fc,Gc]at h1 ⊢;exact h1.imp id Or.inl,h2⟩),λc o he=>by(obtain⟨d',b,n,h1,h2⟩:=c3 c o he;exact⟨d',b,n,by simp only[Fc,Gc]at h1 ⊢;exact h1.imp id Or.inl,h2⟩)⟩
  ·simp only[Fc,Gc]at hp ⊢;exact hp.imp id Or.inr
  ·obtain⟨p1,p2,p3⟩:=a4 p hp;obtain⟨⟨i,q1,q2,q3⟩,q4,q5⟩:=b4 q hq;refine⟨λe=>?_,λe=>?_⟩
   ·rw[p1,q3]at e;unfold bo at e;omega
   ·rw[e]at p3;rw[p3]at q4;cases q4
  ·rw[Gc]at hp;rcases hp with hp|hp
   ·obtain⟨p1,p2,p3⟩:=a4 p hp;refine⟨⟨j,Fg _,Eo,p1⟩,p2,?_⟩;cases h5:mem p.2 (pkC k d (j+1) (pk1 k d (bo (C0 k) j) s l).2 ls).2.live with
    |false=>rfl
    |true=>have:=b5 _ h5;rw[p3]at this;cases this
   ·obtain⟨⟨i,q1,q2,q3⟩,q4,q5⟩:=b4 p hp;exact⟨⟨i,Du,by simp only[Gg];omega,q3⟩,a5 _ q4,q5⟩
def C5i{d:Nat}{ls:List (Leaf Ty den)}(fy:Hp d 1000000=true)(h:BoxOk U w g d ls):∃(b:Nat)(us:Ea),g.G d=.slice (some ⟨b,0,none⟩) 0 us.length/\us.length=ls.length/\0<us.length/\g.Gs d=1/\
  (∀(j:Nat) u,us[j]?=some u->w.cell? ⟨b,j,none⟩=some u/\u.oneCell'=true/\u.cells= #[u])/\LsRep U w g ls us:=by
 obtain⟨b,n,h1,⟨h2,_,hn⟩,h3,h4⟩:=h;have hn:=hn fy;subst hn;have bE:∀(ls:List (Leaf Ty den))(o:Nat),(∀(j:Nat) lf,ls[j]?=some lf->∃u,w.cell? ⟨b,o+j,none⟩=some u/\u.oneCell'=true/\u.cells= #[u]/\LRep U w g lf u)->
   ∃us:Ea,us.length=ls.length/\(∀(j:Nat) u,us[j]?=some u->w.cell? ⟨b,o+j,none⟩=some u/\u.oneCell'=true/\u.cells= #[u])/\LsRep U w g ls us:=by
  intro ls
  induction ls with
  |nil=>intro o _;exact⟨[],rfl,λj u h=>by simp at h,trivial⟩
  |cons l ls ih=>
   intro o hc;obtain⟨us,e1,e2,e3⟩:=ih (o+1) (λj lf hj=>by
    have:=hc (j+1) lf (by simpa using hj);rw[show o+(j+1)=o+1+j from Du]at this;exact this)
   obtain⟨u,u1,u2,u3,u4⟩:=hc 0 l rfl;refine⟨u::us,by simp[e1],λj v hj=>?_,u4,e3⟩;cases j with
   |zero=>simp at hj;subst hj;exact⟨u1,u2,u3⟩
   |succ j=>
    have:=e2 j v (by simpa using hj);rw[show o+1+j=o+(j+1)from Du]at this;exact this
 obtain⟨us,e1,e2,e3⟩:=bE ls 0 (λj lf hj=>by rw[Ff];exact h4 j lf hj);exact⟨b,us,by rw[e1];exact h1,e1,Du,h3,λj u hj=>by have:=e2 j u hj;rw[Ff]at this;exact this,e3⟩
def A4i:∀(ds:DX)(k:Nat)(p:Nat×Nat),p∈K9 k ds->∃i,k<=i/\i<k+ds.length/\p.1=C0 i/\ds[i - k]?=some p.2
 |[],k,p,h=>by cases h
 |d::ds,k,p,h=>by
  simp only[K9,Fc]at h;rcases h with rfl|h
  ·exact⟨k,Fg _,Eo,rfl,Eo⟩
  ·obtain⟨i,h1,h2,h3,h4⟩:=A4i ds (k+1) p h;refine⟨i,Du,by simp only[Gg];omega,h3,?_⟩;rw[show i - k=i - (k+1)+1 from Du];simpa using h4
def B2M(hU:U.Ok):∀(ds:DX)(k:Nat)(s:St Ty den)(cs:List (List (Leaf Ty den)))(s':St Ty den),pkB k s ds=some (cs,s')->Rel U B g s a w->
  ∃cd N,Rel U B g s' a w/\PackRep U w g (K9 k ds++N) (F4 k cs) (V8 cd)/\A0A w g ds cs cd/\OneOne N/\
   (∀p∈N,(∃i j,k<=i/\j<100/\p.1=bo (C0 i) j)/\mem p.2 s.live=true/\mem p.2 s'.live=false)/\(∀e,mem e s'.live=true->mem e s.live=true)/\cs.length=ds.length
 |[],k,s,cs,s',h,hr=>by
  simp only[pkB,Fi,Fs]at h;obtain⟨rfl,rfl⟩:=h;exact⟨[],[],hr,trivial,trivial,λ_ _ _ _ h=>by(cases h),λp hp=>by(cases hp),λ_ h=>h,rfl⟩
 |d::ds,k,s,cs,s',h,hr=>by
  simp only[pkB]at h;split at h
  ·rename_i e ls hg;obtain⟨hc,h⟩:=A8 h;simp only[Ew]at hc;have e1:=(F2 _ _).1 hc.1;subst e1;have av:ls.length<100:=by simpa [Fe]using hc.2.1
   split at h
   ·rename_i gZ s1 kX;simp only[Fi,Fs]at h;obtain⟨rfl,rfl⟩:=h;have cj:=hr.ent (bxi e);rw[hg]at cj;obtain⟨b,us,g1,g2,g3,g4,g5,g6⟩:=C5i hc.2.2 (show BoxOk U w g e ls from cj);obtain⟨N1,a1,a2,a3,a4,a5,a6⟩:=C0B hU (k:=k) (d:=e) ls us 0 s hr g6 ⟨b,_,g1⟩;obtain⟨cd,N2,b1,b2,b3,b4,b5,b6,b7⟩:=B2M hU ds (k+1) _ gZ s1 kX a1;refine⟨(b,us)::cd,N1++N2,b1,?_,⟨⟨g1,g2.trans a6.symm,g3,g4,g5⟩,b3⟩,a3.append b4 λp hp q hq=>?_,λp hp=>?_,λe he=>a5 e (b6 e he),by simp[b7]⟩
    ·have ri:∀p∈(C0 k,e)::N1,p∈K9 k (e::ds)++(N1++N2):=λp hp=>by
      simp only[K9,Fc,Gc]at hp ⊢;rcases hp with h|h
      ·exact .inl (.inl h)
      ·exact .inr (.inl h)
     have rj:∀p∈K9 (k+1) ds++N2,p∈K9 k (e::ds)++(N1++N2):=λp hp=>by
      simp only[K9,Fc,Gc]at hp ⊢;rcases hp with h|h
      ·exact .inl (.inr h)
      ·exact .inr (.inr h)
     refine⟨⟨.pt _ _ _,λ_ _ _ he=>by(cases he),λc o he=>?_⟩,(a2.mono ri).append (b2.mono rj)⟩;cases he;exact⟨e,b,_,by simp[K9],g1,.inl ⟨rfl,Ep⟩⟩
    ·obtain⟨⟨i,p1,p2,p3⟩,p4,p5⟩:=a4 p hp;obtain⟨⟨i',j',q1,q2,q3⟩,q4,q5⟩:=b5 q hq;refine⟨λe=>?_,λe=>?_⟩
     ·rw[p3,q3]at e;unfold bo C0 at e;omega
     ·rw[e]at p5;rw[p5]at q4;cases q4
    ·rw[Gc]at hp;rcases hp with hp|hp
     ·obtain⟨⟨i,p1,p2,p3⟩,p4,p5⟩:=a4 p hp;refine⟨⟨k,i,Fg _,Du,p3⟩,p4,?_⟩;cases h5:mem p.2 s1.live with
      |false=>rfl
      |true=>have:=b6 _ h5;rw[p5]at this;cases this
     ·obtain⟨⟨i',j',q1,q2,q3⟩,q4,q5⟩:=b5 p hp;exact⟨⟨i',j',Du,q2,q3⟩,a5 _ q4,q5⟩
   ·cases h
  ·cases h
def C3A:∀{ds:DX},A0E ds=true->∀{i j x:Nat},ds[i]?=some x->ds[j]?=some x->i=j
 |[],_,i,j,x,h,_=>by simp at h
 |d::ds,hn,i,j,x,h1,h2=>by
  simp only[A0E,Ew,Fu]at hn;have dk:∀{i:Nat},ds[i]? ≠some d:=λ{i} h=>by
   have:mem d ds=true:=by
    clear h1 h2 hn
    induction ds generalizing i with
    |nil=>simp at h
    |cons y r ih=>
     rw[mem_cons];cases i with
     |zero=>simp at h;exact .inl h
     |succ i=>exact .inr (ih (by simpa using h))
   rw[hn.1]at this;cases this
  cases i with
  |zero=>
   simp at h1;subst h1;cases j with
   |zero=>rfl
   |succ j=>exact absurd (by simpa using h2) (dk (i:=j))
  |succ i=>
   cases j with
   |zero=>simp at h2;subst h2;exact absurd (by simpa using h1) (dk (i:=i))
   |succ j=>rw[C3A hn.2 (i:=i) (j:=j) (by simpa using h1) (by simpa using h2)]
def A7Z:∀{ds:DX},A1W s ds=true->∀{i x:Nat},ds[i]?=some x->mem x s.live=true
 |[],_,i,x,h=>by simp at h
 |d::ds,hn,i,x,h=>by
  simp only[A1W,Ew]at hn;cases i with
  |zero=>simp at h;subst h;exact hn.1
  |succ i=>exact A7Z hn.2 (by simpa using h)
def C40{ds:DX}(hn:A0E ds=true)(k:Nat):OneOne (K9 k ds):=by
 intro c d c' d' h1 h2;obtain⟨i,a1,a2,a3,a4⟩:=A4i ds k _ h1;obtain⟨i',b1,b2,b3,b4⟩:=A4i ds k _ h2;simp only at a3 b3 a4 b4;constructor
 ·intro e;rw[a3,b3]at e;have:i=i':=by unfold C0 at e;omega
  subst this;rw[a4]at b4;exact Gb b4
 ·intro e;subst e;have:=C3A hn a4 b4;rw[a3,b3]
  congr 1;omega
def C3q{ds:DX}(hn:A0E ds=true)(aH:ds.length<100){N:List (Nat×Nat)}{s':St Ty den}(h1:OneOne N)(h2:∀p∈N,(∃i j,0<=i/\j<100/\p.1=bo (C0 i) j)/\mem p.2 s.live=true/\mem p.2 s'.live=false)(hl:A1W s' ds=true):
  OneOne (K9 0 ds++N):=by
 refine(C40 hn 0).append h1 λp hp q hq=>?_;obtain⟨i,a1,a2,a3,a4⟩:=A4i ds 0 _ hp;obtain⟨⟨i',j',q1,q2,q3⟩,q4,q5⟩:=h2 q hq;refine⟨λe=>?_,λe=>?_⟩
 ·rw[a3,q3]at e;unfold bo C0 at e;omega
 ·have:=A7Z hl a4;rw[e,q5]at this;cases this
end
section
variable {E:Env Ty den}{B:Bs}{g:Gh}{s:St Ty den}{a:Act}{w:World}
variable {P:Fh}{R:Type}{o:Oper}{k:Ent Ty den->St Ty den->Option R}{r:R}{next:Act->World->Prop}{Q:Exit->Act->World->Prop}
def D4D(hU:E.U.Ok){Bc:Bs}{g' g1:Gh}{ent:Ent Ty den}{v0:Value}{w':World}(hp:Post E.U Bc g' ent v0 w')(hr:Rel E.U B g1 s a w')(bj:g1.wm=g'.wm)
  (hB:∀b,Bc.w.heap.size<=b\/Bc.M b->B.w.heap.size<=b\/B.M b){kk d j:Nat}(cu:Y2 Bc g' g1 ent none (λc=>c<bo (C0 kk) j) s)
  {lf:Leaf Ty den}{v:Value}(ax:LRep E.U w' g' lf v)(hc:∀c,lf.has c=true->ent.has c=true)(hd:mem d s.live=true/\g1.G d=g'.G (C0 kk)):
  ∃g2,Rel E.U B g2 (Q8 kk d (bo (C0 kk) j) (bo d j) s lf).2 a w'/\g2.wm=g'.wm/\LRep E.U w' g2 (Q8 kk d (bo (C0 kk) j) (bo d j) s lf).1 v/\Y2 Bc g' g2 ent none (λc=>c<bo (C0 kk) (j+1)) (Q8 kk d (bo (C0 kk) j) (bo d j) s lf).2/\
   (∀e,mem e s.live=true->g2.G e=g1.G e/\g2.Gs e=g1.Gs e/\mem e (Q8 kk d (bo (C0 kk) j) (bo d j) s lf).2.live=true)/\(∀e,(Q8 kk d (bo (C0 kk) j) (bo d j) s lf).1.has e=true->mem e (Q8 kk d (bo (C0 kk) j) (bo d j) s lf).2.live=true):=by
 have bG:∀c,c<bo (C0 kk) j->c<bo (C0 kk) (j+1):=λc h=>by unfold bo at*;omega
 have keep:∀{lf':Leaf Ty den},LRep E.U w' g1 lf' v->(∀e,lf'.has e=true->mem e s.live=true)->Q8 kk d (bo (C0 kk) j) (bo d j) s lf=(lf',s)->
   ∃g2,Rel E.U B g2 (Q8 kk d (bo (C0 kk) j) (bo d j) s lf).2 a w'/\g2.wm=g'.wm/\LRep E.U w' g2 (Q8 kk d (bo (C0 kk) j) (bo d j) s lf).1 v/\Y2 Bc g' g2 ent none (λc=>c<bo (C0 kk) (j+1)) (Q8 kk d (bo (C0 kk) j) (bo d j) s lf).2/\
   (∀e,mem e s.live=true->g2.G e=g1.G e/\g2.Gs e=g1.Gs e/\mem e (Q8 kk d (bo (C0 kk) j) (bo d j) s lf).2.live=true)/\(∀e,(Q8 kk d (bo (C0 kk) j) (bo d j) s lf).1.has e=true->mem e (Q8 kk d (bo (C0 kk) j) (bo d j) s lf).2.live=true):=by
  intro lf' hl dk he;rw[he];refine⟨g1,hr,bj,hl,λe he=>?_,λe he=>⟨rfl,rfl,he⟩,dk⟩;rcases cu e he with h1|⟨c',h1,h2,h3,h4⟩
  ·exact .inl h1
  ·exact .inr ⟨c',h1,bG _ h2,h3,h4⟩
 have plain:∀{lf:Leaf Ty den}{v:Value},LRep E.U w' g' lf v->(∀e,lf.has e=false)->LRep E.U w' g1 lf v:=λ{lf v} h h2=>⟨by rw[bj];exact h.1,λt l d he=>by(subst he;have:=h2 d;simp[Leaf.has,H5]at this),λd o he=>by(subst he;have:=h2 d;simp[Leaf.has,H5]at this)⟩;cases lf with
 |sl t l x=>
  cases x with
  |none=>exact keep (plain ax λ_=>rfl) (λe he=>by simp[Leaf.has]at he) rfl
  |some e=>
   by_cases cG:e=bo (C0 kk) j
   ·subst cG;simp only[Q8,H5,Eg];exact B6q (c:=bo (C0 kk) j) hU hp hr bj hB cu bG ax (hc _ (by simp[Leaf.has])) (by unfold bo;omega) (λ_ _ _ c' h1 _=>Du) (λh=>by unfold bo at h;omega)
   ·refine keep (lf':=.sl t l none) ⟨by rw[bj];exact ax.1.own none,λ_ _ _ he=>by(simp at he),λ_ _ he=>by(cases he)⟩ (λe he=>by simp[Leaf.has]at he) ?_;simp only[Q8,K4 cG,Eh]
 |ptr e o=>
  cases eT:Ey e (C0 kk)&&Ey o B4 with
  |false=>exact keep (lf':=.any) (LRep.any _) (λe he=>by simp[Leaf.has]at he) (by simp only[Q8,eT,Eh])
  |true=>
   simp only[Ew]at eT;have e1:=(F2 _ _).1 eT.1;have e2:o=B4:=(F2 _ _).1 eT.2;subst e2;subst e1;obtain⟨b,n,h1,h2⟩:=ax.2.2 _ _ rfl;refine keep (lf':=.ptr d B4) ⟨.ptr _ _ _ h2.ptr,λ_ _ _ he=>by(cases he),λd' o' he=>?_⟩ (λe he=>?_) (by simp only[Q8,H5,eT.2,Jn,Eg])
   ·cases he;exact⟨b,n,hd.2.trans h1,h2⟩
   ·simp only[Leaf.has]at he;have:=(F2 _ _).1 he;subst this;exact hd.1
 |_=>exact keep (plain ax λ_=>rfl) (λe he=>by simp[Leaf.has]at he) rfl
def LsRep.keep{g1 g2:Gh}{U:UO Ty den}(hw:g2.wm=g1.wm):∀{ls:List (Leaf Ty den)}{vs:Ea},LsRep U w g1 ls vs->(∀lf∈ls,∀e,lf.has e=true->g2.G e=g1.G e/\g2.Gs e=g1.Gs e)->LsRep U w g2 ls vs
 |[],[],_,_=>trivial
 |_::_,_::_,h,hk=>⟨h.1.keep hw (hk _ Eo),LsRep.keep hw h.2 λlf hl=>hk lf (by simp[hl])⟩
def B9K(hU:E.U.Ok){Bc:Bs}{g':Gh}{ent:Ent Ty den}{v0:Value}{w':World}(hp:Post E.U Bc g' ent v0 w')(hB:∀b,Bc.w.heap.size<=b\/Bc.M b->B.w.heap.size<=b\/B.M b){kk d:Nat}:
  ∀(ls:List (Leaf Ty den))(vs:Ea)(j:Nat)(s:St Ty den)(g1:Gh),Rel E.U B g1 s a w'->g1.wm=g'.wm->Y2 Bc g' g1 ent none (λc=>c<bo (C0 kk) j) s->LsRep E.U w' g' ls vs->(∀lf∈ls,∀c,lf.has c=true->ent.has c=true)->
   mem d s.live=true->g1.G d=g'.G (C0 kk)->
  ∃g2,Rel E.U B g2 (unC kk d j s ls).2 a w'/\g2.wm=g'.wm/\LsRep E.U w' g2 (unC kk d j s ls).1 vs/\Y2 Bc g' g2 ent none (λc=>c<bo (C0 kk) (j+ls.length)) (unC kk d j s ls).2/\
   (∀e,mem e s.live=true->g2.G e=g1.G e/\g2.Gs e=g1.Gs e/\mem e (unC kk d j s ls).2.live=true)/\(unC kk d j s ls).1.length=ls.length
 |[],[],j,s,g1,hr,bj,cu,_,_,_,_=>⟨g1,hr,bj,trivial,cu,λ_ h=>⟨rfl,rfl,h⟩,rfl⟩
 |lf::ls,v::vs,j,s,g1,hr,bj,cu,ax,hc,hd,hG=>by
  obtain⟨g2,h1,h2,h3,h4,h5,h6⟩:=D4D hU hp hr bj hB cu ax.1 (hc lf Eo) ⟨hd,hG⟩;obtain⟨g3,k1,k2,k3,k4,k5,k6⟩:=B9K hU hp hB ls vs (j+1) _ g2 h1 h2 h4 ax.2 (λl hl=>hc l (by simp[hl])) (h5 d hd).2.2 ((h5 d hd).1.trans hG);have e1:(unC kk d j s (lf::ls)).1=(Q8 kk d (bo (C0 kk) j) (bo d j) s lf).1::(unC kk d (j+1) (Q8 kk d (bo (C0 kk) j) (bo d j) s lf).2 ls).1:=rfl;have e2:(unC kk d j s (lf::ls)).2=(unC kk d (j+1) (Q8 kk d (bo (C0 kk) j) (bo d j) s lf).2 ls).2:=rfl;rw[e1,e2];refine⟨g3,k1,k2,⟨h3.keep (k2.trans h2.symm) λe he=>⟨(k5 e (h6 e he)).1,(k5 e (h6 e he)).2.1⟩,k3⟩,?_,λe he=>?_,by simp[k6]⟩
  ·rw[show j+(lf::ls).length=j+1+ls.length by simp only[Gg];omega];exact k4
  ·obtain⟨e1,e2,e3⟩:=h5 e he;obtain⟨f1,f2,f3⟩:=k5 e e3;exact⟨f1.trans e1,f2.trans e2,f3⟩
def LsRep.split{U:UO Ty den}{g:Gh}:∀{ls bY:List (Leaf Ty den)}{vs p8:Ea},LsRep U w g (ls++bY) (vs++p8)->ls.length=vs.length->LsRep U w g ls vs/\LsRep U w g bY p8
 |[],_,[],_,h,_=>⟨trivial,h⟩
 |_::_,_,_::_,_,h,hl=>by
  obtain⟨h1,h2⟩:=LsRep.split h.2 (by simpa using hl);exact⟨⟨h.1,h1⟩,h2⟩
 |[],_,_::_,_,_,hl=>by simp at hl
 |_::_,_,[],_,_,hl=>by simp at hl
def B7a{U:UO Ty den}{g:Gh}{d b:Nat}{us:Ea}{ls:List (Leaf Ty den)}(hG:g.G d=.slice (some ⟨b,0,none⟩) 0 us.length)(hl:us.length=ls.length)(ce:0<us.length)(hs:g.Gs d=1)
  (hc:∀(j:Nat) u,us[j]?=some u->w.cell? ⟨b,j,none⟩=some u/\u.oneCell'=true/\u.cells= #[u])(hr:LsRep U w g ls us):BoxOk U w g d ls:=by
 refine BoxOk.ex b (by rw[hG,hl]) Du hs λj lf hj=>?_;obtain⟨u,h1,h2⟩:=hr.get hj;obtain⟨c1,c2,c3⟩:=hc j u h1;exact⟨u,c1,c2,c3,h2⟩
def B8z(hU:E.U.Ok){Bc:Bs}{g':Gh}{ent:Ent Ty den}{v0:Value}{w':World}(hp:Post E.U Bc g' ent v0 w')(hB:∀b,Bc.w.heap.size<=b\/Bc.M b->B.w.heap.size<=b\/B.M b):
  ∀(ds:DX)(cs:List (List (Leaf Ty den)))(cd:List (Nat×Ea))(kk:Nat)(s:St Ty den)(g1:Gh),Rel E.U B g1 s a w'->g1.wm=g'.wm->A0A w' g' (P4 kk ds.length) cs cd->LsRep E.U w' g' (F4 kk cs) (V8 cd)->
   A7P cs=true->(∀lf∈F4 kk cs,∀c,lf.has c=true->ent.has c=true)->Y2 Bc g' g1 ent none (λc=>c<bo (C0 kk) 0) s->(∀i d,ds[i]?=some d->mem d s.live=true/\g1.G d=g'.G (C0 (kk+i))/\g1.Gs d=1)->
  ∃g2,Rel E.U B g2 (unB kk s ds cs) a w'/\g2.wm=g'.wm/\(∀e,mem e s.live=true->g2.G e=g1.G e/\g2.Gs e=g1.Gs e)
 |[],[],[],kk,s,g1,hr,bj,_,_,_,_,_,_=>⟨g1,hr,bj,λ_ _=>⟨rfl,rfl⟩⟩
 |d::ds,c::cs,(b,us)::cd,kk,s,g1,hr,bj,cj,ax,iQ,dD,cu,kJ=>by
  obtain⟨⟨b1,b2,b3,b4,b5⟩,rn⟩:=cj;simp only[A7P,Ew,Fe]at iQ;obtain⟨nL,fS,uW⟩:=kJ 0 d rfl;obtain⟨itq,dE⟩:=LsRep.split ax.2 b2.symm;obtain⟨g2,h1,h2,h3,h4,h5,h6⟩:=B9K hU hp hB (kk:=kk) (d:=d) c us 0 s g1 hr bj cu itq (λlf hl=>dD lf (by simp[F4,hl])) nL fS;obtain⟨f1,f2,f3⟩:=h5 d nL;have AF:BoxOk E.U w' g2 d (unC kk d 0 s c).1:=B7a (by rw[f1,fS];exact b1) (by rw[h6,b2]) b3 (by rw[f2,uW]) b5 h3;have h7:=h1.setBx AF f3;obtain⟨g3,k1,k2,k3⟩:=B8z hU hp hB ds cs cd (kk+1) _ g2 h7 h2 rn dE iQ.2 (λlf hl=>dD lf (by simp[F4,hl])) (λe he=>by
    rcases h4 e he with q1|⟨c',q1,q2,q3,q4⟩
    ·exact .inl q1
    ·refine .inr ⟨c',q1,?_,q3,q4⟩;have:=iQ.1;unfold bo C0 at q2 ⊢;omega) (λi d' dV=>by
    obtain⟨e1,e2,e3⟩:=kJ (i+1) d' (by simpa using dV);obtain⟨q1,q2,q3⟩:=h5 d' e1;exact⟨q3,by rw[q1,e2];congr 2;omega,by rw[q2,e3]⟩)
  refine⟨g3,k1,k2,λe he=>?_⟩;obtain⟨q1,q2,q3⟩:=h5 e he;obtain⟨r1,r2⟩:=k3 e q3;exact⟨r1.trans q1,r2.trans q2⟩
 |[],[],_::_,_,_,_,_,_,h,_,_,_,_,_=>h.elim
 |[],_::_,_,_,_,_,_,_,h,_,_,_,_,_=>by cases ‹List (Nat×Ea)› <;>exact h.elim
 |_::_,[],_,_,_,_,_,_,h,_,_,_,_,_=>by cases ‹List (Nat×Ea)› <;>exact h.elim
 |_::_,_::_,[],_,_,_,_,_,h,_,_,_,_,_=>h.elim
def B6B(hr:Rel E.U B g s a w):∀ds,Rel E.U B g (Y3 s ds) a w
 |[]=>hr
 |d::ds=>(B6B hr ds).noBx d
def A2t:∀ds:DX,(Y3 s ds).live=s.live
 |[]=>rfl
 |d::ds=>A2t ds
def B7u{d:Nat}:∀{ds:DX},(∃i:Nat,ds[i]?=some d)->(Y3 s ds).get (bxi d)=.one .any
 |[],⟨i,h⟩=>by simp at h
 |x::ds,⟨i,h⟩=>by
  simp only[Y3];rw[G8];by_cases hx:bxi x=bxi d
  ·rw[El hx]
  ·rw[Ek hx];cases i with
   |zero=>simp at h;subst h;exact absurd rfl hx
   |succ i=>exact B7u ⟨i,by simpa using h⟩
def B4v{ls:List (Leaf Ty den)}:∀{ps ds:DX},A17 ls ps=some ds->ds.length=ps.length
 |[],ds,h=>by simp only[A17,Fi]at h;subst h;rfl
 |p::ps,ds,h=>by
  simp only[A17]at h;split at h
  ·rename_i d ym _ kX;simp only[Fi]at h;subst h;simp[B4v kX]
  ·cases h
def B6D{U:UO Ty den}{NT:List (Nat×Nat)}(hN:OneOne NT){ls:List (Leaf Ty den)}{vs:Ea}(bD:LsRep U w g ls vs):∀(ps:DX)(kk:Nat)(ds:DX),A17 ls ps=some ds->(∀p∈K9 kk ds,p∈NT)->
  LsRep U w (O0 g NT) (A5Z (F6 ls) kk ps) vs
 |[],kk,ds,h,_=>LsRep.closed_any (g:=g) (g':=O0 g NT) rfl (LsRep.close bD)
 |p::ps,kk,ds,h,ct=>by
  simp only[A17]at h;split at h
  ·rename_i d ym hp kX;simp only[Fi]at h;subst h;refine(B6D hN bD ps (kk+1) ym kX λp hp=>ct p (by simp[K9,hp])).set p (.ptr (C0 kk) 0) λv hv=>?_;have jy:ls[p]?=some (.ptr d 0):=by
    have av:=bD.length;have:p<ls.length:=by rw[av];exact I0 hv
    rw[Hc,Fj this]at hp;rw[Fj this];simpa using hp
   obtain⟨v',e1,e2⟩:=bD.get jy;rw[hv]at e1;cases e1;obtain⟨b,n,e3,e4⟩:=e2.2.2 d 0 rfl;obtain⟨e5,_⟩:=A4q (g:=g) hN (ct (C0 kk,d) (by simp[K9]));exact⟨by rw[e4.at Ep];exact .pt _ _ _,λ_ _ _ he=>by(cases he),λd' o' he=>by(cases he;exact⟨b,n,e5.trans e3,e4⟩)⟩
  ·cases h
def B3K{ls:List (Leaf Ty den)}{d:Nat}:∀(ps:DX)(kk:Nat){lf:Leaf Ty den},lf∈A5Z (F6 ls) kk ps->lf.has d=true->∃i,kk<=i/\i<kk+ps.length/\d=C0 i
 |[],kk,lf,h,hd=>by
  obtain⟨l0,rfl⟩:=A6f h;rw[A4p]at hd;cases hd
 |p::ps,kk,lf,h,hd=>by
  rcases List.mem_or_eq_of_mem_set h with h|rfl
  ·obtain⟨i,h1,h2,h3⟩:=B3K ps (kk+1) h hd;exact⟨i,Du,by simp only[Gg];omega,h3⟩
  ·simp only[Leaf.has]at hd;have:=(F2 _ _).1 hd;exact⟨kk,Fg _,Eo,this.symm⟩
def A6z:∀(cs:List (List (Leaf Ty den)))(kk i:Nat),i<cs.length->M8 (F4 kk cs) (C0 (kk+i))
 |[],kk,i,h=>by simp at h
 |c::cs,kk,0,h=>⟨.ptr (C0 kk) 0,by simp[F4],by simp[Leaf.has,H5]⟩
 |c::cs,kk,i+1,h=>by
  obtain⟨lf,h1,h2⟩:=A6z cs (kk+1) i (by simpa using h);exact⟨lf,by simp[F4,h1],by rw[show kk+(i+1)=kk+1+i from Du];exact h2⟩
def B1Q{NT:List (Nat×Nat)}(hN:OneOne NT):∀(ds:DX)(cs:List (List (Leaf Ty den)))(cd:List (Nat×Ea))(kk:Nat),A0A w g ds cs cd->(∀p∈K9 kk ds,p∈NT)->A0A w (O0 g NT) (P4 kk cs.length) cs cd
 |[],[],[],kk,_,_=>trivial
 |d::ds,c::cs,(b,us)::cd,kk,h,ct=>by
  obtain⟨⟨b1,b2,b3,b4,b5⟩,h'⟩:=h;obtain⟨e1,e2⟩:=A4q (g:=g) hN (ct (C0 kk,d) (by simp[K9]));exact⟨⟨e1.trans b1,b2,b3,e2.trans b4,b5⟩,B1Q hN ds cs cd (kk+1) h' λp hp=>ct p (by simp[K9,hp])⟩
 |[],[],_::_,_,h,_=>h.elim
 |[],_::_,cd,_,h,_=>by cases cd<;>exact h.elim
 |_::_,[],cd,_,h,_=>by cases cd<;>exact h.elim
 |_::_,_::_,[],_,h,_=>h.elim
def A7T:∀{ds:DX}{cs:List (List (Leaf Ty den))}{cd:List (Nat×Ea)},A0A w g ds cs cd->∀{i d:Nat},ds[i]?=some d->∃(b:Nat)(us:Ea),cd[i]?=some (b,us)/\g.G d=.slice (some ⟨b,0,none⟩) 0 us.length/\g.Gs d=1
 |[],[],[],_,i,d,h=>by simp at h
 |x::ds,c::cs,(b,us)::cd,hb,0,d,h=>by simp at h;subst h;exact⟨b,us,rfl,hb.1.1,hb.1.2.2.2.1⟩
 |x::ds,c::cs,(b,us)::cd,hb,i+1,d,h=>by simpa using A7T hb.2 (i:=i) (by simpa using h)
 |[],[],_::_,h,_,_,_=>h.elim
 |[],_::_,cd,h,_,_,_=>by cases cd<;>exact h.elim
 |_::_,[],cd,h,_,_,_=>by cases cd<;>exact h.elim
 |_::_,_::_,[],h,_,_,_=>h.elim
def A8g:∀(n kk i:Nat),i<n->(P4 kk n)[i]?=some (C0 (kk+i))
 |0,kk,i,h=>Du
 |n+1,kk,0,h=>by simp[P4]
 |n+1,kk,i+1,h=>by
  simp only[P4,Kg];rw[A8g n (kk+1) i Du]
  congr 2;omega
def C1t(hU:E.U.Ok){S:List (Leaf Ty den)->List (List (Leaf Ty den))->Option (List (Leaf Ty den)×List (List (Leaf Ty den)))}{ls:List (Leaf Ty den)}{vs:Ea}(bD:LsRep E.U w g ls vs)
  (hS:∀bY cs rs ay,S bY cs=some (rs,ay)->∀g1:Gh,g1.wm=g.wm->LsRep E.U w g1 bY vs->∃f mq jX,(Fa a.eval o).run P w=.ok (.enter f jX.toArray) w/\LsRep E.U w g1 mq jX/\(∀lf∈mq,∀d,lf.has d=true->M8 bY d)/\X2 P E.U (λw1 m1=>Ext B.w B.wm w1 m1) f mq cs rs ay)
  {ps:DX}(h:A6g S ps ls o.dst s k=some r)
  (hr:Rel E.U B g s a w)(hd:∀i,o.dst=some i->i<a.tmps.size/\B.np<=i)(hn:H6 E B o a k r next):o.wp P a w next Q:=by
 unfold A6g at h;split at h
 case h_2=>cases h
 rename_i ds kJ;obtain⟨fL,h⟩:=A8 h;simp only[Ew,Fe]at fL;obtain⟨fD,aH⟩:=fL;split at h
 case h_2=>cases h
 rename_i cs s1 xZ;obtain⟨kw,h⟩:=A8 h;split at h
 case h_2=>cases h
 rename_i rs ay uX;obtain⟨eT,h⟩:=A8 h;simp only[Ew,Fe]at eT;obtain⟨cq,uY,iQ⟩:=eT;have cq:=(F2 _ _).1 cq;obtain⟨AG,h⟩:=A8 h;obtain⟨cd,N,r1,rp,bd,one,uZ,iu,mM⟩:=B2M hU ds 0 s cs s1 xZ hr;have a8:=C3q (s:=s) fD aH one uZ kw;generalize qh:K9 0 ds++N=NT at rp a8;have ct:∀p∈K9 0 ds,p∈NT:=λp hp=>by rw[<-qh];exact Ie _ hp
 have AH:∀c d,(c,d)∈NT->mem d s.live=true:=λc d nS=>by
  rw[<-qh,Gc]at nS;rcases nS with h1|h1
  ·obtain⟨i,_,_,_,h4⟩:=A4i ds 0 _ h1;exact iu _ (A7Z kw h4)
  ·exact(uZ _ h1).2.1
 have dD:∀c,M8 (F4 0 cs) c->∃d,(c,d)∈NT/\mem d s.live=true/\(O0 g NT).G c=g.G d/\(O0 g NT).Gs c=g.Gs d:=λc ⟨lf,h1,h2⟩=>by
  obtain⟨d,h3⟩:=rp.names lf h1 c h2;obtain⟨e1,e2⟩:=A4q (g:=g) a8 h3;exact⟨d,h3,AH c d h3,e1,e2⟩
 have rq:∀e b,mem e s1.live=true->spare (g.G e)=some b->(∃d,M8 (F4 0 cs) d/\spare ((O0 g NT).G d)=some b)->∃i,ds[i]?=some e:=λe b he hs ⟨c,h1,h2⟩=>by
  obtain⟨d,h3,h4,h5,_⟩:=dD c h1;rw[h5]at h2;have gY:e=d:=by
   by_cases gY:e=d
   ·exact gY
   ·exact absurd h2 (hr.disj e d b (iu e he) h4 gY hs)
  subst gY;rw[<-qh,Gc]at h3;rcases h3 with h3|h3
  ·obtain⟨i,_,_,_,h6⟩:=A4i ds 0 _ h3;exact⟨_,h6⟩
  ·have:=(uZ _ h3).2.2;rw[he]at this;cases this
 obtain⟨f,mq,jX,fT,u7,ve,jU⟩:=hS _ _ _ _ uX (O0 g NT) rfl (B6D a8 bD ps 0 ds kJ ct);have hc:=jU w (O0 g NT) jX cd hr.ext hr.zero u7 (rp.out a8) (B1Q a8 ds cs cd 0 bd ct)
  (λc jB=>by obtain⟨d,_,h2,h3,h4⟩:=dD c jB;rw[h3,h4];exact hr.tip d h2)
  (λc c' b jB oY aC hs=>by
   obtain⟨d,h1,h2,h3,h4⟩:=dD c jB;obtain⟨d',kY,gp,kZ,ru⟩:=dD c' oY;rw[h3]at hs;rw[kZ];exact hr.disj d d' b h2 gp (λe=>aC ((a8 c d c' d' h1 kY).2 e)) hs)
  (λlf dh d oX=>by
   obtain⟨Di,vf,uW⟩:=ve lf dh d oX;obtain⟨i,_,h2,rfl⟩:=B3K ps 0 vf uW;have:=A6z cs 0 i (by rw[mM,B4v kJ];omega);rw[Ff]at this;exact this)
 unfold Gl;rw[fT,Ia];refine hc.mono λe w' ek=>?_;obtain⟨g',rv,dw,rfl,mo,hp,lc,jd⟩:=ek;show next (a.put o.dst (V4 rv)) w';have iM:∀i d,ds[i]?=some d->(Post.tip hp (C0 i))=(Post.tip hp (C0 i))/\g'.G (C0 i)=g.G d/\g'.Gs (C0 i)=1/\g.Gs d=1/\(Ent.tup (rs++F4 0 ay)).has (C0 i)=true:=λi d hi=>by
  have jz:=I0 hi;obtain⟨b,us,h1,h2,h3⟩:=A7T bd hi;have cJ:=A8g cs.length 0 i Du;rw[Ff]at cJ;obtain⟨b',iR,kY,gp,kZ⟩:=A7T lc cJ;have h4:(dw.map (λp=>(p.1,p.2.length)))[i]?=(cd.map (λp=>(p.1,p.2.length)))[i]? :=by rw[jd]
  rw[Gj,Gj,h1,kY]at h4;simp only[Iw,Fi,Fs]at h4;refine⟨rfl,by rw[gp,h2,h4.1,h4.2],kZ,h3,?_⟩;obtain⟨lf,q1,q2⟩:=A6z ay 0 i Du;rw[Ff]at q2;simp only[Ent.has,Hu];exact⟨lf,by simp[q1],q2⟩
 have eH:=B6B r1 ds;have fU:=eH.world hU (w':=w') (wm':=g'.wm) hp.os hp.tape hp.output hp.size hp.ext (λb=>∃d,M8 (F4 0 cs) d/\spare ((O0 g NT).G d)=some b)
  (λb ⟨c,h1,h2⟩=>by
   obtain⟨d,_,h4,h5,_⟩:=dD c h1;rw[h5]at h2;exact A4r (hr.tip d h4) h2)
  (λe b he hs=>by
   rw[A2t]at he;by_cases hM:∃d,M8 (F4 0 cs) d/\spare ((O0 g NT).G d)=some b
   ·right
    obtain⟨i,hi⟩:=rq e b he hs hM;obtain⟨_,q1,q2,q3,q4⟩:=iM i e hi;have ht:=hp.tip (C0 i) q4;rw[q1,q2]at ht;refine⟨by rw[q3];exact ht,λj l hj=>?_⟩;have h9:=(eH.bxl j e l hj).2;have h8:=B7u (s:=s1) ⟨i,hi⟩;rw[show j=bxi e from h9,h8]at hj;cases hj
   ·exact .inl hM)
  (λb ⟨c,h1,h2⟩=>by
   obtain⟨d,_,h4,h5,_⟩:=dD c h1;rw[h5]at h2;exact hr.mine d b h4 h2)
  (λb hb hM=>hp.frame b hb hM) hp.zero
 have yn:∀b,w.heap.size<=b\/(∃d,M8 (F4 0 cs) d/\spare ((O0 g NT).G d)=some b)->B.w.heap.size<=b\/B.M b:=λb hb=>by
  rcases hb with hb|⟨c,h1,h2⟩
  ·exact .inl (Fz hr.size hb)
  ·obtain⟨d,_,h4,h5,_⟩:=dD c h1;rw[h5]at h2;exact hr.mine d b h4 h2
 obtain⟨oZ,pb,db⟩:=hp.rep;have pb:rv++V8 dw=oZ:=by
  have:=Jq pb;simpa using this
 subst pb;obtain⟨itq,dE⟩:=LsRep.split db mo;have gq:∀(l0:List (Leaf Ty den)),(∀lf∈l0,lf∈rs++F4 0 ay)->∀lf∈l0,∀c,lf.has c=true->(Ent.tup (rs++F4 0 ay)).has c=true:=λl0 cV lf hl c hc=>by
  simp only[Ent.has,Hu];exact⟨lf,cV lf hl,hc⟩
 have ry:∀c,(∃i,i<ds.length/\c=C0 i)->900000<=c/\c<1000000:=λc ⟨i,h1,h2⟩=>by rw[h2];unfold C0;omega
 have cu:Y2 ⟨w,g.wm,λb=>∃d,M8 (F4 0 cs) d/\spare ((O0 g NT).G d)=some b,0,λ_=>undef⟩ g' {g with wm:=g'.wm} (Ent.tup (rs++F4 0 ay)) none (λc=>c<=0\/∃i,i<ds.length/\c=C0 i) (Y3 s1 ds):=λe he=>by
  rw[A2t]at he;by_cases fT:∃i:Nat,ds[i]?=some e
  ·obtain⟨i,hi⟩:=fT;obtain⟨_,q1,q2,q3,q4⟩:=iM i e hi;exact .inr ⟨C0 i,q4,.inr ⟨i,I0 hi,rfl⟩,q1.symm,λh0=>by unfold C0 at h0;omega⟩
  ·left
   intro b hb;refine⟨?_,λhM=>fT (rq e b he hb hM)⟩;obtain⟨_,_,_,fC⟩:=A4r (hr.tip e (iu e he)) hb;exact(He.1 fC).1
 obtain⟨g2,l1,l2,l3,l4,l5,l6⟩:=B4r (dst:=o.dst) (p:=none) (X:=λc=>∃i,i<ds.length/\c=C0 i) hU hp yn rs rv 0 (Y3 s1 ds) {g with wm:=g'.wm} fU rfl
  (λc hc=>by have:=ry c hc;omega) cu itq (gq rs λlf hl=>by simp[hl])
 obtain⟨g3,m1,m2,m3⟩:=B8z hU hp yn ds ay dw 0 _ g2 l1 l2 (by
   have:P4 0 ds.length=P4 0 cs.length:=by rw[mM]
   rw[this];exact lc) dE iQ (gq _ λlf hl=>by simp[hl]) (λe he=>by
    rcases l6 e he with q1|⟨c',q1,q2,q3,q4⟩
    ·exact .inl q1
    ·refine .inr ⟨c',q1,?_,q3,q4⟩;have:c'<1000000:=by
      rcases q2 with q2|q2
      ·omega
      ·exact(ry _ q2).2
     unfold bo C0;omega) (λi d hi=>by
    obtain⟨_,q1,q2,q3,q4⟩:=iM i d hi;obtain⟨e1,e2,e3⟩:=l4 d (by rw[A2t];exact A7Z kw hi);exact⟨e3,by rw[e1,Ff,q1],by rw[e2];exact q3⟩)
 have eG:LsRep E.U w' g3 (U2 o.dst none 0 (Y3 s1 ds) rs).1 rv:=l3.keep (m2.trans l2.symm) λlf hl e he=>m3 e (l5 lf hl e he);refine hn _ _ _ _ h (REL.setO m1 (e:=A4x _) ?_ ?_ _ hd)
 ·generalize (U2 o.dst none 0 (Y3 s1 ds) rs).1=bY at eG;have av:=eG.length
  match bY,rv,eG,av with
  |[],[],_,_=>exact⟨[],by simp[V4],trivial⟩
  |[l],[v],hf,_=>exact hf.1
  |l::l2::bY,v::v2::vs,hf,_=>exact⟨v::v2::vs,by simp[V4],hf⟩
  |[],_::_,_,hl=>simp at hl
  |[_],[],_,hl=>simp at hl
  |[_],_::_::_,_,hl=>simp at hl
  |_::_::_,[],_,hl=>simp at hl
  |_::_::_,[_],_,hl=>simp at hl
 ·generalize (U2 o.dst none 0 (Y3 s1 ds) rs).1=bY
  match bY with
  |[]=>rfl
  |[l]=>rfl
  |_::_::_=>rfl
def D00(hU:E.U.Ok)(hS:∀f ls cs rs ay,E.TB f ls cs=some (rs,ay)->(∀args w,(Fm f args).run P w=.ok (.enter f args) w)/\X2 P E.U (λw1 m1=>Ext B.w B.wm w1 m1) f ls cs rs ay)
  {c:Call}{f:Fq}{ps:DX}(ai:o.op=.call c)(aA:c.callee=.value (.func f))(h:C4J E f ps c.argTypes.toList c.args.toList o.dst s k=some r)
  (hr:Rel E.U B g s a w)(hd:∀i,o.dst=some i->i<a.tmps.size/\B.np<=i)(hn:H6 E B o a k r next):o.wp P a w next Q:=by
 refine C1t hU (A42 hr c.argTypes.toList c.args.toList) (λbY cs rs ay uX g1 _ hl=>?_) h hr hd hn;obtain⟨aN,jU⟩:=hS f _ _ _ _ uX;refine⟨f,bY,_,?_,hl,λlf dh d hd=>⟨lf,dh,hd⟩,jU⟩;simp[Fa,ai,Gn,aA,Is,Ji,invoke,aN];apply Ir;simp
def A5k(P:Fh)(U:UO Ty den)(B:Bs)(nm:String)(ls:List (Leaf Ty den))(cs:List (List (Leaf Ty den)))(rs:List (Leaf Ty den))(ay:List (List (Leaf Ty den))):Prop:=
 ∀(w:World)(g:Gh)(vs:Ea),LsRep U w g ls vs->∃f mq jX,(invoke (.fn (.method nm) #[]) vs.toArray).run P w=.ok (.enter f jX.toArray) w/\LsRep U w g mq jX/\(∀lf∈mq,∀d,lf.has d=true->M8 ls d)/\X2 P U (λw1 m1=>Ext B.w B.wm w1 m1) f mq cs rs ay
def C6m(hU:E.U.Ok)(hS:∀nm ls cs rs ay,E.TI nm ls cs=some (rs,ay)->A5k P E.U B nm ls cs rs ay)
  {c:Call}{x:Fl}{nm:String}(ai:o.op=.call c)(aA:c.callee=.invoke x nm)(h:A6g (E.TI nm) (E.bi nm) (opl E s 0 x::S1 E s c.argTypes.toList c.args.toList) o.dst s k=some r)
  (hr:Rel E.U B g s a w)(hd:∀i,o.dst=some i->i<a.tmps.size/\B.np<=i)(hn:H6 E B o a k r next):o.wp P a w next Q:=by
 refine C1t hU (ls:=opl E s 0 x::S1 E s c.argTypes.toList c.args.toList) (vs:=a.eval x::c.args.toList.map a.eval) ⟨G2 hr 0 x,A42 hr c.argTypes.toList c.args.toList⟩ (λbY cs rs ay AI g1 _ hl=>?_) h hr hd hn;obtain⟨f,mq,jX,h1,h2,h3,h4⟩:=hS nm _ _ _ _ AI w g1 _ hl;refine⟨f,mq,jX,?_,h2,h3,h4⟩;have cN:(#[a.eval x]++c.args.map a.eval)=(a.eval x::c.args.toList.map a.eval).toArray:=by
  apply Ir;simp
 simp[Fa,ai,Gn,aA,cN];simpa using h1
def A8F:∀{ls:List (Leaf Ty den)},A2c ls=true->(∀lf∈ls,(∀t x c,lf≠ .sl t x (some c))/\∀d o,lf≠ .ptr d o)
 |[],_,lf,h=>by simp at h
 |l::ls,hc,lf,h=>by
  have bE:(∀t x c,l≠ .sl t x (some c))/\(∀d o,l≠ .ptr d o)/\A2c ls=true:=by
   cases l with
   |sl t x o=>
    cases o with
    |none=>exact⟨λ_ _ _ e=>(by(cases e)),λ_ _ e=>(by(cases e)),hc⟩
    |some c=>cases hc
   |ptr d o=>cases hc
   |_=>exact⟨λ_ _ _ e=>(by(cases e)),λ_ _ e=>(by(cases e)),hc⟩
  simp only[Fc]at h;rcases h with rfl|h
  ·exact⟨bE.1,bE.2.1⟩
  ·exact A8F bE.2.2 lf h
def C36(hr:Rel E.U B g s a w):∀(ds:DX)(kk:Nat)(cs:List (List (Leaf Ty den))),A1V s ds=some cs->∃cd,A0A w g ds cs cd/\PackRep E.U w g (K9 kk ds) (F4 kk cs) (V8 cd)/\cs.length=ds.length/\(∀(i d:Nat),ds[i]?=some d->mem d s.live=true)/\
   ∀(i d:Nat)(c:List (Leaf Ty den)),ds[i]?=some d->cs[i]?=some c->s.get (bxi d)=.bx d c/\A2c c=true
 |[],kk,cs,h=>by
  simp only[A1V,Fi]at h;subst h;exact⟨[],trivial,trivial,rfl,λi d h=>by simp at h,λi d c h=>by simp at h⟩
 |d::ds,kk,cs,h=>by
  simp only[A1V]at h;split at h
  ·rename_i ls gZ bD vg;obtain⟨cq,h⟩:=A8 h;rw[Ew]at cq;obtain⟨cq,fy⟩:=cq;simp only[Fi]at h;subst h;obtain⟨cj,kw,aO⟩:=A1T hr bD;obtain⟨b,us,g1,g2,g3,g4,g5,g6⟩:=C5i fy cj;obtain⟨cd,a1,a2,a3,a4,a5⟩:=C36 hr ds (kk+1) gZ vg;have iu:∀p∈K9 (kk+1) ds,p∈K9 kk (d::ds):=λp hp=>by simp[K9,hp]
   have rz:∀(ls:List (Leaf Ty den))(us:Ea),(∀lf∈ls,(∀t x c,lf≠ .sl t x (some c))/\∀d o,lf≠ .ptr d o)->LsRep E.U w g ls us->PackRep E.U w g (K9 kk (d::ds)) ls us:=by
    intro ls
    induction ls with
    |nil=>intro us _ h;cases us with
     |nil=>trivial
     |cons _ _=>exact h.elim
    |cons l ls ih=>
     intro us hc h;cases us with
     |nil=>exact h.elim
     |cons u us=>
      have:=hc l Eo;exact⟨⟨h.1.1,λt x c e=>absurd e (this.1 t x c),λc o e=>absurd e (this.2 c o)⟩,ih us (λlf hl=>hc lf (by simp[hl])) h.2⟩
   refine⟨(b,us)::cd,⟨⟨g1,g2,g3,g4,g5⟩,a1⟩,⟨⟨.pt _ _ _,λ_ _ _ e=>by(cases e),λc o e=>?_⟩,(rz ls us (A8F cq) g6).append (a2.mono iu)⟩,by simp[a3],λi d' hi=>?_,λi d' c hi hc=>?_⟩
   ·cases e;exact⟨d,b,_,by simp[K9],g1,.inl ⟨rfl,Ep⟩⟩
   ·cases i with
    |zero=>simp at hi;subst hi;exact kw
    |succ i=>exact a4 i d' (by simpa using hi)
   ·cases i with
    |zero=>simp at hi hc;subst hi hc;exact⟨aO,cq⟩
    |succ i=>exact a5 i d' c (by simpa using hi) (by simpa using hc)
  ·cases h
def C98{U:UO Ty den}{g' g2:Gh}(hw:g2.wm=g'.wm){rs:List (Leaf Ty den)}{rv:Ea}(h:LsRep U w g' rs rv):ERep U w g2 (A4x (F6 rs)) (V4 rv)/\(A4x (F6 rs)).isIter=false:=by
 have hf:=LsRep.closed_any (g':=g2) hw (LsRep.close h);have av:=hf.length;generalize F6 rs=bY at hf av
 match bY,rv,hf,av with
 |[],[],_,_=>exact⟨⟨[],by simp[V4],trivial⟩,rfl⟩
 |[l],[v],hf,_=>exact⟨hf.1,rfl⟩
 |l::l2::bY,v::v2::vs,hf,_=>exact⟨⟨v::v2::vs,by simp[V4],hf⟩,rfl⟩
 |[],_::_,_,hl=>simp at hl
 |[_],[],_,hl=>simp at hl
 |[_],_::_::_,_,hl=>simp at hl
 |_::_::_,[],_,hl=>simp at hl
 |_::_::_,[_],_,hl=>simp at hl
def B9L(hU:E.U.Ok)(hS:∀f ls r,E.T f ls=some (true,r)->(∀args w,(Fm f args).run P w=.ok (.enter f args) w)/\A1U P E.U (λw1 m1=>Ext B.w B.wm w1 m1) f ls r)
  (hR:∀f ls cs rs,E.TR f ls cs=some rs->(∀args w,(Fm f args).run P w=.ok (.enter f args) w)/\X2 P E.U (λw1 m1=>Ext B.w B.wm w1 m1) f ls cs rs cs)
  {c:Call}{f:Fq}{e:Ent Ty den}(ai:o.op=.call c)(aA:c.callee=.value (.func f))(h:A3F E f c.argTypes.toList c.args.toList s=some e)
  (hr:Rel E.U B g s a w)(hd:∀i,o.dst=some i->i<a.tmps.size/\B.np<=i)(hn:∀v w',REL E.U B (s.setO o.dst e) (a.put o.dst v) w'->next (a.put o.dst v) w'):o.wp P a w next Q:=by
 have bD:=A42 hr c.argTypes.toList c.args.toList;have fT:∀(aN:∀args w,(Fm f args).run P w=.ok (.enter f args) w),(Fa a.eval o).run P w=.ok (.enter f (c.args.toList.map a.eval).toArray) w:=λaN=>by
  simp[Fa,ai,Gn,aA,Is,Ji,invoke,aN];apply Ir;simp
 unfold A3F at h;dsimp only at h;generalize hL:S1 E s c.argTypes.toList c.args.toList=ls at h bD;split at h
 ·have da:∀r,E.T f (F6 ls)=some (true,r)->(∀v w' g1 g2,g2.wm=g1.wm->ERep E.U w' g1 r v->ERep E.U w' g2 e v/\e.isIter=false)->o.wp P a w next Q:=by
   intro r jT cq;obtain⟨aN,jU⟩:=hS f _ _ jT;have hc:=jU w g (c.args.toList.map a.eval) hr.ext hr.zero (LsRep.close bD) (λh1=>by rw[A8H]at h1;cases h1) (λlf hl d dV=>by
    obtain⟨l0,rfl⟩:=A6f hl;rw[A4p]at dV;cases dV)
   rw[A8H]at hc;unfold Gl;rw[fT aN,Ia];refine hc.mono λe' w' ek=>?_;obtain⟨v,g',rfl,hp⟩:=ek;have dC:=hr.world hU (w':=w') (wm':=g'.wm) hp.os hp.tape hp.output hp.size hp.ext (λ_=>False) (λb e=>e.elim) (λ_ _ _ _=>.inl λe=>e) (λb e=>e.elim) (λb hb _=>hp.frame b hb (λe=>by cases e.1)) hp.zero;obtain⟨k1,k2⟩:=cq v w' g' {g with wm:=g'.wm} rfl hp.rep;exact hn v w' (REL.setO dC k1 k2 _ hd)
  split at h
  ·rename_i l jT;cases h;exact da _ jT λv w' g1 g2 hw he=>⟨LRep.closed (g:=g2) (by rw[hw];exact he.1),rfl⟩
  ·rename_i rr jT;cases h;exact da _ jT λv w' g1 g2 hw he=>by
    obtain⟨vs,hv,mH⟩:=he;exact⟨⟨vs,hv,LsRep.closed_any (g':=g2) hw (LsRep.close mH)⟩,rfl⟩
  ·cases h
 ·rename_i ps fA;split at h
  case h_2=>cases h
  rename_i ds kJ;obtain⟨fD,h⟩:=A8 h;split at h
  case h_2=>cases h
  rename_i cs cE;split at h
  case h_2=>cases h
  rename_i rs AJ;cases h;obtain⟨cd,bd,rp,mM,kw,nT⟩:=C36 hr ds 0 cs cE;have a8:=C40 fD 0;generalize qh:K9 0 ds=NT at rp a8;have ct:∀p∈K9 0 ds,p∈NT:=λp hp=>by rw[<-qh];exact hp
  have dD:∀c,M8 (F4 0 cs) c->∃(i d:Nat),ds[i]?=some d/\(c,d)∈NT/\mem d s.live=true/\(O0 g NT).G c=g.G d/\(O0 g NT).Gs c=g.Gs d:=λc ⟨lf,h1,h2⟩=>by
   obtain⟨d,h3⟩:=rp.names lf h1 c h2;obtain⟨e1,e2⟩:=A4q (g:=g) a8 h3;have h4:=h3;rw[<-qh]at h4;obtain⟨i,_,_,_,h5⟩:=A4i ds 0 _ h4;exact⟨_,d,h5,h3,kw _ d h5,e1,e2⟩
  obtain⟨aN,jU⟩:=hR f _ _ _ AJ;have hc:=jU w (O0 g NT) (c.args.toList.map a.eval) cd hr.ext hr.zero (B6D a8 bD ps 0 ds kJ ct) (rp.out a8) (B1Q a8 ds cs cd 0 bd ct)
   (λc jB=>by obtain⟨i,d,_,_,h2,h3,h4⟩:=dD c jB;rw[h3,h4];exact hr.tip d h2)
   (λc c' b jB oY aC hs=>by
    obtain⟨i,d,_,h1,h2,h3,h4⟩:=dD c jB;obtain⟨i',d',_,kY,gp,kZ,ru⟩:=dD c' oY;rw[h3]at hs;rw[kZ];exact hr.disj d d' b h2 gp (λe=>aC ((a8 c d c' d' h1 kY).2 e)) hs)
   (λlf dh d oX=>by
    obtain⟨i,_,h2,rfl⟩:=B3K ps 0 dh oX;have:=A6z cs 0 i (by rw[mM,B4v kJ];omega);rw[Ff]at this;exact this)
  unfold Gl;rw[fT aN,Ia];refine hc.mono λe w' ek=>?_;obtain⟨g',rv,dw,rfl,mo,hp,lc,jd⟩:=ek;show next (a.put o.dst (V4 rv)) w';have iM:∀(i d:Nat),ds[i]?=some d->g'.G (C0 i)=g.G d/\g'.Gs (C0 i)=1/\g.Gs d=1/\(Ent.tup (rs++F4 0 cs)).has (C0 i)=true:=λi d hi=>by
   have jz:=I0 hi;obtain⟨b,us,h1,h2,h3⟩:=A7T bd hi;have cJ:=A8g cs.length 0 i Du;rw[Ff]at cJ;obtain⟨b',iR,kY,gp,kZ⟩:=A7T lc cJ;have h4:(dw.map (λp=>(p.1,p.2.length)))[i]?=(cd.map (λp=>(p.1,p.2.length)))[i]? :=by rw[jd]
   rw[Gj,Gj,h1,kY]at h4;simp only[Iw,Fi,Fs]at h4;refine⟨by rw[gp,h2,h4.1,h4.2],kZ,h3,?_⟩;obtain⟨lf,q1,q2⟩:=A6z cs 0 i Du;rw[Ff]at q2;simp only[Ent.has,Hu];exact⟨lf,by simp[q1],q2⟩
  have eH:=B6B hr ds;have fU:=eH.world hU (w':=w') (wm':=g'.wm) hp.os hp.tape hp.output hp.size hp.ext (λb=>∃d,M8 (F4 0 cs) d/\spare ((O0 g NT).G d)=some b)
   (λb ⟨c,h1,h2⟩=>by
    obtain⟨i,d,_,_,h4,h5,_⟩:=dD c h1;rw[h5]at h2;exact A4r (hr.tip d h4) h2)
   (λe b he hs=>by
    rw[A2t]at he;by_cases hM:∃d,M8 (F4 0 cs) d/\spare ((O0 g NT).G d)=some b
    ·right
     obtain⟨c,h1,h2⟩:=hM;obtain⟨i,d,hi,_,h4,h5,_⟩:=dD c h1;rw[h5]at h2;have gY:e=d:=by
      by_cases gY:e=d
      ·exact gY
      ·exact absurd h2 (hr.disj e d b he h4 gY hs)
     subst gY;obtain⟨q1,q2,q3,q4⟩:=iM i e hi;have ht:=hp.tip (C0 i) q4;rw[q1,q2]at ht;refine⟨by rw[q3];exact ht,λj l hj=>?_⟩;have h9:=(eH.bxl j e l hj).2;have h8:=B7u (s:=s) ⟨i,hi⟩;rw[show j=bxi e from h9,h8]at hj;cases hj
    ·exact .inl hM)
   (λb ⟨c,h1,h2⟩=>by
    obtain⟨i,d,_,_,h4,h5,_⟩:=dD c h1;rw[h5]at h2;exact hr.mine d b h4 h2)
   (λb hb hM=>hp.frame b hb hM) hp.zero
  obtain⟨oZ,pb,db⟩:=hp.rep;have pb:rv++V8 dw=oZ:=by
   have:=Jq pb;simpa using this
  subst pb;obtain⟨itq,dE⟩:=LsRep.split db mo;have rB:∀(i d:Nat)(c:List (Leaf Ty den)),ds[i]?=some d->cs[i]?=some c->BoxOk E.U w' {g with wm:=g'.wm} d c:=λi d c hi yo=>by
   have bE:∀(qi:DX)(mN:List (List (Leaf Ty den)))(je:List (Nat×Ea))(kk i:Nat),A0A w' g' qi mN je->LsRep E.U w' g' (F4 kk mN) (V8 je)->∀c d0,mN[i]?=some c->qi[i]?=some d0->∃b us,g'.G d0=.slice (some ⟨b,0,none⟩) 0 us.length/\us.length=c.length/\0<us.length/\
     (∀(j:Nat) u,us[j]?=some u->w'.cell? ⟨b,j,none⟩=some u/\u.oneCell'=true/\u.cells= #[u])/\LsRep E.U w' g' c us:=by
    intro qi
    induction qi with
    |nil=>intro mN je kk i _ _ c d0 _ h;simp at h
    |cons x qi ih=>
     intro mN je kk i hb hl c d0 hc vh
     match mN,je,hb with
     |c1::mN,(b,us)::je,⟨⟨b1,b2,b3,b4,b5⟩,bH⟩=>
      obtain⟨l1,l2⟩:=LsRep.split hl.2 b2.symm;cases i with
      |zero=>simp at hc vh;subst hc vh;exact⟨b,us,b1,b2,b3,b5,l1⟩
      |succ i=>exact ih mN je (kk+1) i bH l2 c d0 (by simpa using hc) (by simpa using vh)
   have jz:=I0 hi;have cJ:=A8g cs.length 0 i Du;rw[Ff]at cJ;obtain⟨b,us,k1,k2,k3,k4,k5⟩:=bE _ cs dw 0 i lc dE c _ yo cJ;obtain⟨q1,q2,q3,q4⟩:=iM i d hi;have eX:=A8F (nT i d c hi yo).2;have iw:LsRep E.U w' {g with wm:=g'.wm} c us:=by
    refine LsRep.keep (g1:=g') (g2:={g with wm:=g'.wm}) rfl k5 λlf hl e he=>?_;rcases (Leaf.has_iff e lf).1 he with⟨t,x,rfl⟩|⟨o,rfl⟩
    ·exact absurd rfl ((eX _ hl).1 t x e)
    ·exact absurd rfl ((eX _ hl).2 e o)
   exact B7a (by rw[<-q1];exact k1) k2 k3 q3 k4 iw
  have rC:Rel E.U B {g with wm:=g'.wm} s a w':=by
   have aO:∀i,(∃d,i=bxi d/\∃j:Nat,ds[j]?=some d)\/(Y3 s ds).get i=s.get i:=by
    intro i;have:∀ds:DX,(∃d,i=bxi d/\∃j:Nat,ds[j]?=some d)\/(Y3 s ds).get i=s.get i:=by
     intro ds
     induction ds with
     |nil=>exact .inr rfl
     |cons x ds ih=>
      simp only[Y3];rw[G8];by_cases hx:bxi x=i
      ·exact .inl ⟨x,hx.symm,0,Eo⟩
      ·rw[Ek hx];rcases ih with⟨d,h1,j,h2⟩|h
       ·exact .inl ⟨d,h1,j+1,by simpa using h2⟩
       ·exact .inr h
    exact this ds
   have ky:∀i,(∃d,i=bxi d/\∃j:Nat,ds[j]?=some d)->∃d c,s.get i=.bx d c/\BoxOk E.U w' {g with wm:=g'.wm} d c:=λi ⟨d,h1,j,h2⟩=>by
    have bC:=I0 h2;have qZ:cs[j]?=some cs[j]:=Fj Du;generalize cs[j]=c at qZ;exact⟨d,c,by rw[h1];exact(nT j d _ h2 qZ).1,rB j d _ h2 qZ⟩
   refine{fU with ent:=λi=>?_,tip:=λd hd=>fU.tip d (by rw[A2t];exact hd),disj:=λd e b h1 h2=>fU.disj d e b (by rw[A2t];exact h1) (by rw[A2t];exact h2),mine:=λd b h1=>fU.mine d b (by rw[A2t];exact h1),iter:=λi c pos hc=>?_,idis:=λi j c p c' p' cG h1 h2=>?_,bxl:=λi d ls hc=>hr.bxl i d ls hc}
   ·rcases aO i with h|h
    ·obtain⟨d,c,h1,h2⟩:=ky i h;rw[h1];exact h2
    ·rw[<-h];exact fU.ent i
   ·rcases aO i with h|h
    ·obtain⟨d,c,h1,h2⟩:=ky i h;rw[h1]at hc;cases hc
    ·rw[<-h]at hc;exact fU.iter i c pos hc
   ·rcases aO i with h|h
    ·obtain⟨d,c,h3,h4⟩:=ky i h;rw[h3]at h1;cases h1
    ·rcases aO j with h'|h'
     ·obtain⟨d,c,h3,h4⟩:=ky j h';rw[h3]at h2;cases h2
     ·rw[<-h]at h1;rw[<-h']at h2;exact fU.idis i j c p c' p' cG h1 h2
  obtain⟨k1,k2⟩:=C98 (g2:={g with wm:=g'.wm}) (g':=g') rfl itq;exact hn _ _ (REL.setO rC k1 k2 _ hd)
end
end Go.Aev
end
section
open Go.Lib
namespace Go.Aev
variable {Ty:Type}{den:Ty->Type}
def C31{n t sz:Nat}(h:okW n t sz=true):rN (A0V n t sz)=n:=by
 simp only[okW,Ew,Fe]at h;unfold rN A0V;omega
def D4b{n t sz:Nat}(h:okW n t sz=true):rS (A0V n t sz)=sz:=by
 simp only[okW,Ew,Fe]at h;unfold rS A0V;omega
def C6l(n t sz:Nat):1000000000<=A0V n t sz:=by unfold A0V;omega
def D0t{n o:Nat}(h:n<=rN o):okW n (rT o) (rS o)=true:=by
 simp only[okW,Ew,Fe];unfold rN at h;unfold rT rS;omega
section
variable {U:UO Ty den}{B:Bs}{g:Gh}{s:St Ty den}{a:Act}{w:World}
def A8t{d b N n t sz c:Nat}{g':Gh}{w':World}(ho:okW n t sz=true)(hG:g'.G d=.slice (some ⟨b,0,none⟩) 0 N)(hn:n<=c)(hc:c*sz<=N):LRep U w' g' (.ptr d (A0V n t sz):Leaf Ty den) (.slice (some ⟨b,0,none⟩) n c):=
 ⟨.ptr _ _ _ (.inr ⟨_,_,_,rfl⟩),λ_ _ _ he=>by(cases he),λd' o' he=>by
  cases he;exact⟨b,N,hG,.inr (.inr ⟨C6l _ _ _,c,by rw[C31 ho],by rw[C31 ho];exact hn,by rw[D4b ho];exact hc⟩)⟩⟩
def C0F(hU:U.Ok){g':Gh}{w':World}{d b N:Nat}{ls:List (Leaf Ty den)}(hr:Rel U B g' (s.fresh d) a w')(hx:Ext w g.wm w' g'.wm)(ho:g.off g' d)(hG:g'.G d=.slice (some ⟨b,0,none⟩) 0 N)(cX:g'.Gs d=1)(hd:1000000<=d)(av:0<ls.length/\ls.length<=N)
  (hc:∀(j:Nat) lf,ls[j]?=some lf->∃u,w'.cell? ⟨b,j,none⟩=some u/\u.oneCell'=true/\u.cells= #[u]/\LRep U w g lf u):Rel U B g' (A8z d ls s) a w':=by
 refine hr.setBx ⟨b,N,hG,⟨by simpa using av.1,by simpa using av.2,λh=>by rw[Fe]at h;omega⟩,cX,λj lf hj=>?_⟩ (by simp only[St.fresh];rw[mem_cons];exact .inl rfl);rw[Gj]at hj;obtain⟨l0,cV,rfl⟩:=Ix.1 hj;obtain⟨u,u1,u2,u3,u4⟩:=hc j l0 cV;exact⟨u,u1,u2,u3,u4.step hU hx ho⟩
def B7L(hU:U.Ok)(hr:Rel U B g s a w){d N:Nat}(hd:1000000<=d){c:Array Value}{e:Fb}{ls:List (Leaf Ty den)}(w':World)(hw:w'.heap=w.heap.push (.cells c e (0,0)))(jQ:w'.os=w.os)(cY:w'.tape=w.tape)(dy:w'.output=w.output)
  (hN:N<=c.size)(av:0<ls.length/\ls.length<=N)(hc:∀(j:Nat) lf,ls[j]?=some lf->∃u,c[j]?=some u/\u.oneCell'=true/\u.cells= #[u]/\LRep U w g lf u):
  ∃g',Rel U B g' (A8z d ls s) a w'/\g'.G d=.slice (some ⟨w.heap.size,0,none⟩) 0 N:=by
 have bW:w'.heap[w.heap.size]?=some (.cells c e (0,0)):=by rw[hw];simp
 have fV:∀b,spare (.slice (some ⟨w.heap.size,0,none⟩) 0 N)=some b->b=w.heap.size:=λb hs=>by
  simp only[spare]at hs;split at hs
  ·cases hs
  ·exact(Gb hs).symm
 have h1:=hr.alloc hU (.cells c e (0,0)) 0 w' hw jQ cY dy;have h2:=h1.fresh hU d (.slice (some ⟨w.heap.size,0,none⟩) 0 N) 1 ⟨_,_,_,rfl,Ge _,.inr ⟨w.heap.size,0,c,e,(0,0),rfl,bW,Du,by simp[C6],Ge _⟩⟩
  (λe' b he aC hs qN=>by
   cases fV b hs;have:=C1O (hr.tip e' he) qN;omega)
  (λb hs=>by cases fV b hs;exact .inl hr.size)
 have dT:∀b,b<w.heap.size->w'.heap[b]?=w.heap[b]? :=λb hb=>by rw[hw,Jo,Ek Du]
 have hx:Ext w g.wm w' (C6 g.wm w.heap.size 0):=⟨A1D hw,λb off ho=>by
  rcases Hh b w.heap.size with h|h
  ·exact Hz (a:=⟨b,off,none⟩) (dT b h)
  ·rw[hr.zero b h]at ho;omega,λb=>by
  unfold C6;by_cases hb:b=w.heap.size
  ·subst hb;rw[El rfl,hr.zero _ (Fg _)];exact Fg _
  ·rw[Ek hb];exact Fg _⟩
 refine⟨_,C0F (g:=g) (w:=w) (b:=w.heap.size) (N:=N) hU h2 hx ⟨λe he=>by simp[Gh.put,he],λe he=>by simp[Gh.put,he]⟩ (by simp[Gh.put]) (by simp[Gh.put]) hd av λj lf hj=>?_,by simp[Gh.put]⟩;obtain⟨u,u1,u2⟩:=hc j lf hj;refine⟨u,?_,u2⟩;unfold Ho;dsimp only;rw[bW];simpa using u1
def LRep.ofC{lf:Leaf Ty den}{v:Value}(h:CRep U w g.wm lf v)(hc:lf.close=lf):LRep U w g lf v:=by
 have:=LRep.closed (U:=U) (w:=w) (g:=g) h;rwa [hc]at this
def C2G(hU:U.Ok){t:Ty}{l:List (den t)}{j:Nat}{lf:Leaf Ty den}(h:(flat U t l)[j]?=some lf):lf.close=lf:=by
 have hm:=Fp h;unfold flat at hm;obtain⟨x,_,hx⟩:=List.mem_flatMap.1 hm;exact hU.closed t x lf hx
end
def A6a(P:Fh)(U:UO Ty den)(I:Inv)(f:Fq)(ls cs:List (Leaf Ty den)):Prop:=
 A2c cs=true/\0<cs.length/\∀(w:World)(g:Gh)(vs:Ea),I w g.wm->(∀b,w.heap.size<=b->g.wm b=0)->LsRep U w g ls vs->(∀lf∈ls,∀d,lf.has d=false)->
  Calls P f vs.toArray w λe w'=>∃b g',e=.returned (.pointer (some ⟨b,0,none⟩))/\Post U ⟨w,g.wm,λ_=>False,0,λ_=>undef⟩ g' (.one .any) (.pointer (some ⟨b,0,none⟩)) w'/\w.heap.size<=b/\
   Tip w' g'.wm (.slice (some ⟨b,0,none⟩) 0 cs.length) 1/\∀(j:Nat) lf,cs[j]?=some lf->∃u,w'.cell? ⟨b,j,none⟩=some u/\u.oneCell'=true/\u.cells= #[u]/\CRep U w' g'.wm lf u
section
variable {E:Env Ty den}{B:Bs}{g:Gh}{s:St Ty den}{a:Act}{w:World}
variable {P:Fh}{R:Type}{o:Oper}{k:Ent Ty den->St Ty den->Option R}{r:R}{next:Act->World->Prop}{Q:Exit->Act->World->Prop}
variable (hT:∀t,Q6 P E.U t (E.tb t))(hU:E.U.Ok)
def B7y{l:Leaf Ty den}(h:isR l=true):∃d off,l=.ptr d off/\1000000000<=off:=by
 cases l with
 |ptr d off=>exact⟨d,off,rfl,Gu h⟩
 |_=>cases h
def C6D{l:Leaf Ty den}{v:Value}(h:LRep E.U w g l v):LRep E.U w g (clR l) v:=by
 unfold clR;cases isR l with
 |true=>exact h
 |false=>exact LRep.closed h.1
def B1y(hr:Rel E.U B g s a w){ty:Fb}{x:Fl}{d off:Nat}(hx:opl E s ty x=.ptr d off)(ho:1000000000<=off):∃b n c,g.G d=.slice (some ⟨b,0,none⟩) 0 n/\a.eval x=.slice (some ⟨b,0,none⟩) (rN off) c/\rN off<=c/\c*rS off<=n:=by
 have h:=G2 hr ty x;rw[hx]at h;obtain⟨b,n,h1,h2⟩:=h.2.2 d off rfl;obtain⟨c,h3⟩:=h2.row ho;exact⟨b,n,c,h1,h3⟩
include hT hU in
def D0T{t:Fb}{n:Nat}{ps:Array (Nat×Fl)}(ai:o.op=.buildSlice t n ps)(h:I4 E o s k=some r)(hr:Rel E.U B g s a w)(hd:∀i,o.dst=some i->i<a.tmps.size/\B.np<=i)(hn:H6 E B o a k r next):o.wp P a w next Q:=by
 simp only[I4,ai]at h;refine B7Q hT hU ai h hr λu e xs c ht hl ah hc aL h'=>?_;dsimp only at h';obtain⟨hk,h'⟩:=A8 h';rw[Ew,Fe]at hk;have ce:=Jv hk.1 (hU.pos u);have dv:=A1r hU u xs;subst hl;have nU:1000000<=rnO o.dst:=by unfold rnO;split<;>omega
 obtain⟨g',h1,h2⟩:=B7L (ls:=A3X E.U u xs) (N:=xs.length*E.U.size u) hU hr nU (w.alloc (.cells c e)) rfl rfl rfl rfl hc ⟨by show 0<(flat E.U u xs).length;omega,by show(flat E.U u xs).length<=_;omega⟩ λj lf hj=>by
  obtain⟨v,hv,eW⟩:=aL j lf hj;obtain⟨q1,q2⟩:=eW.one hU (A93 hU hj);exact⟨v,hv,q1,q2,LRep.ofC eW (C2G hU hj)⟩
 exact O5 ah (hn _ _ _ _ h' (REL.setO h1 (e:=.one _) (A8t hk.2 h2 (Fg _) (Fg _)) rfl _ hd))
include hT in
def D6x{t:Fb}{x i:Fl}(ai:o.op=.indexAddr t x i)(dZ:isR (opl E s t x)=true)(h:I4 E o s k=some r)(hr:Rel E.U B g s a w)(hd:∀i,o.dst=some i->i<a.tmps.size/\B.np<=i)(hn:H6 E B o a k r next):o.wp P a w next Q:=by
 simp only[I4,ai]at h;obtain⟨d,off,hx,ho⟩:=B7y dZ;rw[hx]at h;split at h
 ·rename_i u e d' jW k0 n ht rD hi;cases rD;obtain⟨hc,h⟩:=A8 h;simp only[Ew,decide_eq_true_eq]at hc;obtain⟨c1,c2,c3,c4⟩:=hc;rw[Fe]at c2;obtain⟨b,m,c,hG,hv,bh,hm⟩:=B1y hr hx ho;obtain⟨cI,ie,z,bR,az,_,_,_⟩:=P9 hT ht;have ei:=V1 hr hi;have hs:=(F2 _ _).1 c3;have cL:(Jp b 0 none).add (n.toNat*E.U.size u)=⟨b,n.toNat*rS off,none⟩:=by rw[Hm,hs,Ff]
  have cS:n<(rN off:Int):=Du
  exact G6 (e:=.one (.ptr d (n.toNat*rS off))) (v:=.pointer (some ⟨b,n.toNat*rS off,none⟩)) hr hd hn h ⟨.pt _ _ _,λ_ _ _ he=>by(cases he),λd' o2 he=>by(cases he;exact⟨b,m,hG,.inl ⟨rfl,c4⟩⟩)⟩ rfl
   (by simp[Fa,ai,hv,ei,Kl,asIntOf,Hn cI,c1,cS,Gw,Gy,bR,az,cL])
 ·cases h
include hT in
def D31{t:Fb}{x:Fl}{lo hi mx:Option Fl}(ai:o.op=.slice t x lo hi mx)(dZ:isR (opl E s t x)=true)(h:I4 E o s k=some r)(hr:Rel E.U B g s a w)(hd:∀i,o.dst=some i->i<a.tmps.size/\B.np<=i)(hn:H6 E B o a k r next):o.wp P a w next Q:=by
 obtain⟨d,off,hx,ho⟩:=B7y dZ
 match lo,hi,mx,ai with
 |none,some y,none,ai=>
  simp only[I4,ai]at h;rw[hx]at h;split at h
  ·rename_i u e d' jW k0 n ht rD hi;cases rD;obtain⟨hc,h⟩:=A8 h;simp only[Ew,decide_eq_true_eq]at hc;obtain⟨c1,c2⟩:=hc;have c2:=Gu c2;obtain⟨b,m,c,hG,hv,bh,hm⟩:=B1y hr hx ho;obtain⟨cI,_⟩:=P9 hT ht;have ei:=V1 hr hi;have e2:((n.toNat:Nat):Int)=n:=Du
   have hb:=A9K P w true (rN off) c bh none (some (.int k0 (n.toNat:Int))) none 0 n.toNat c (.inl ⟨rfl,rfl⟩) (.inr ⟨k0,rfl⟩) (.inl ⟨rfl,rfl⟩) (Ge _) Du (Fg _);rw[e2]at hb;have ha:∀m,(Jp b 0 none).add (0*m)=⟨b,0,none⟩:=λm=>by rw[Hm];simp
   obtain⟨ie,z,bR,az,_⟩:=(P9 hT ht).2;exact G6 (e:=.one (.ptr d (A0V n.toNat (rT off) (rS off)))) (v:=.slice (some ⟨b,0,none⟩) n.toNat c) hr hd hn h (A8t (D0t c2) hG Du hm) rfl
    (by simp[Fa,ai,hv,ei,Instr.sliceAt,Instr.slice,Hn cI,hb,Gw,Gy,bR,az];intro _;exact ha 0)
  ·cases h
 |some _,_,_,ai=>simp only[I4,ai]at h;cases h
 |none,none,_,ai=>simp only[I4,ai]at h;cases h
 |none,some _,some _,ai=>simp only[I4,ai]at h;cases h
include hT in
def D6W{t:Fb}{x:Fl}(ai:o.op=.load t x)(h:I4 E o s k=some r)(hr:Rel E.U B g s a w)(hd:∀i,o.dst=some i->i<a.tmps.size/\B.np<=i)(hn:H6 E B o a k r next):o.wp P a w next Q:=by
 simp only[I4,ai]at h;split at h
 ·rename_i u pl d off ht hx;split at h
  ·rename_i ls bD;obtain⟨hc,h⟩:=A8 h;rw[Ew]at hc;obtain⟨bJ,bh⟩:=hc;have bh:=Gu bh;obtain⟨fs,ie,z,h1,_,h3,h4,_⟩:=A3m hT ht;have ij:=B39 (P:=P) h1 w;have bS:=G2 hr 0 x;rw[hx]at bS;obtain⟨cj,_,_⟩:=A1T hr bD;obtain⟨b,nb,hG,hv,ce,cX,aQ⟩:=A4v bJ bS cj;have uB:∃cs:Nat->Value,∀j,j<E.U.size u->∃lf,ls[off+j]?=some lf/\w.cell? ⟨b,off+j,none⟩=some (cs j)/\(cs j).oneCell'=true/\(cs j).cells= #[cs j]/\LRep E.U w g lf (cs j):=
    ⟨λj=>(w.cell? ⟨b,off+j,none⟩).getD undef,λj hj=>by
     obtain⟨uu,u1,u2,u3,u4⟩:=aQ (off+j) _ (Fj Du);refine⟨_,Fj Du,?_⟩;dsimp only;rw[u1];exact⟨rfl,u2,u3,u4⟩⟩
   obtain⟨cs,cE⟩:=uB;have cZ:(loadCells ⟨b,off,none⟩ (E.U.size u)).run P w=.ok ((Hi (E.U.size u)).map cs).toArray w:=
    run_loadCells w _ _ cs λj hj=>by rw[Hm];obtain⟨_,_,q,_⟩:=cE j hj;exact q
   refine G6 (e:=.st ((ls.drop off).take (E.U.size u))) (v:=.agg ((Hi (E.U.size u)).map cs).toArray) hr hd hn h ⟨_,rfl,A9F Es (λj lf v h5 h6=>?_),λv hv=>?_⟩ rfl ?_
   ·rw[Gi,Ht]at h5;split at h5
    ·rename_i hj;obtain⟨lf',q1,_,_,_,q5⟩:=cE j hj;rw[q1]at h5;cases h5;rw[Gj,Jc hj]at h6;cases h6;exact q5
    ·cases h5
   ·obtain⟨j,hj,rfl⟩:=List.mem_map.1 hv;obtain⟨_,_,_,q3,q4,_⟩:=cE j (by simpa using hj);exact⟨q3,q4⟩
   ·simp[Fa,ai,hv,Instr.loadAt,Jg,loadVar,ij,Gw,Gy,h3,h4,cZ]
  ·cases h
 ·cases h
include hT hU in
def C7W(hZ:∀t zs,E.zr t=some zs->A1v P E.U t zs){t:Fb}{ps:Array (Nat×Fl)}(ai:o.op=.build t ps)(h:I4 E o s k=some r)(hr:Rel E.U B g s a w)(hd:∀i,o.dst=some i->i<a.tmps.size/\B.np<=i)(hn:H6 E B o a k r next):o.wp P a w next Q:=by
 simp only[I4,ai]at h;split at h
 ·rename_i u pl zs ht dx;split at h
  ·rename_i ls bD;obtain⟨fs,ie,z,h1,h2,h3,h4,h5,h6⟩:=A3m hT ht;obtain⟨yf,z',e1,e2,e3,e4,e5⟩:=hZ t zs dx;rw[h3]at e1;cases e1;rw[h5]at e3;cases e3;obtain⟨bK,p1,p2⟩:=B1g hU hr (λl v h=>C6D h) pl ps.toList _ ls z.cells bD (⟨e4,λj lf hj=>by
    obtain⟨uu,u1,u2,u3,u4,_⟩:=e5 j lf hj;exact⟨uu,u1,u2,u3,u4 w g⟩⟩:A6k E.U w g zs z.cells)
   have fe:P.built t (ps.map λ(i,x)=>(i,a.eval x)).toList=some bK:=by
    unfold Program.built;rw[h3,h1];dsimp only;rw[h5,h2];dsimp only;rw[Array.toList_map];exact p1
   have az:=p2.size;refine G6 (e:=.st ls) (v:=.agg bK) hr hd hn h ⟨bK.toList,Eo,A9F (by simp[az]) (λj lf u h1 h2=>?_),λu hu=>?_⟩ rfl (by simp[Fa,ai,run_build w t _ _ fe])
   ·obtain⟨uu,u1,_,_,u4⟩:=p2.at_ j lf h1;rw[Im,u1]at h2;cases h2;exact u4
   ·obtain⟨j,hj,rfl⟩:=Jb hu;have bC:j<ls.length:=by simp at hj;omega
    obtain⟨uu,u1,u2,u3,u4⟩:=p2.at_ j _ (Fj bC);have h9:bK.toList[j]?=some uu:=by rw[Im];exact u1
    rw[Fj hj]at h9;rw[Gb h9];exact⟨u2,u3⟩
  ·cases h
 ·cases h
include hT hU in
def D1X{c:Call}{t u:Fb}{x y:Fl}(ai:o.op=.call c)(aA:c.callee=.builtin .append)(dX:c.argTypes.toList=[t,u])(aD:c.args.toList=[x,y])(h:I4 E o s k=some r)
  (hr:Rel E.U B g s a w)(hd:∀i,o.dst=some i->i<a.tmps.size/\B.np<=i)(hn:H6 E B o a k r next):o.wp P a w next Q:=by
 simp only[I4,ai,aA,dX,aD]at h;have ah:∀{v':Value}{w':World},(Builtin.append_ #[t,u] o.type #[a.eval x,a.eval y]).run P w=.ok v' w'->(Fa a.eval o).run P w=.ok (.value v') w':=λh1=>by
  simp[Fa,ai,Gn,aA,A0k dX,A0k aD,invoke,builtin,h1]
 split at h
 ·rename_i t' e u' e' v m0 own ht hu hy;obtain⟨cI,i,z,hi,az,kR,hz,dx⟩:=P9 hT ht;have vi:=(P9 hT hu).1;split at h
  ·rename_i m hm;obtain⟨ml,h⟩:=A8 h;rw[Fe]at ml;have nV:=(G2 hr u y).1;rw[hy]at nV;obtain⟨aR,cF⟩:=B0g (P:=P) hU (A3E hm nV).1;have ce:=hU.pos t';have kt:=hU.bpos t';have qU:0<m.length*E.U.size t':=Jv ml ce;have fR:∀w':World,w'.heap=w.heap->(Jj i.size m.length (a.eval y)).run P w'=.ok aR.toArray w':=λw' ek=>by
    rw[az];exact cF.first w' ek
   have lg:∀(j:Nat)(lf:Leaf Ty den),(flat E.U t' m)[j]?=some lf->∃v,aR[j]?=some v/\v.oneCell'=true/\v.cells= #[v]/\LRep E.U w g lf v:=λj lf hj=>by
    obtain⟨v,v1,v2⟩:=cF.rep j lf hj;obtain⟨q1,q2⟩:=v2.one hU (A93 hU hj);exact⟨v,v1,q1,q2,LRep.ofC v2 (C2G hU hj)⟩
   have dv:=A1r hU t' m;split at h
   ·
    rename_i hx;obtain⟨bu,h⟩:=A8 h;rw[Ew]at bu;obtain⟨fE,bu⟩:=bu;have bu:=A6J bu;have bS:=G2 hr t x;rw[hx]at bS;have oR:a.eval x=.slice none 0 0:=by
     have:=bS.1;generalize a.eval x=v at this;cases this;rfl
    have jc:m.length<=140737488355328:=Fz (Jw _ kt) bu;have jS:=B1B (P:=P) w t u o.type e i z cI (.inl ⟨_,vi⟩) hi hz none 0 0 [] (λw' _=>by simp[Jj]) (a.eval y) m.length aR cF.len fR Du Du (by rw[kR];simpa using bu);rw[<-oR]at jS;simp only[Ff]at jS;have a7:m.length<=Gf w m.length 0 e:=grownCap_ge _ _ _ _;have dz:m.length*E.U.size t'<=Gf w m.length 0 e*E.U.size t':=Hg _ a7;have nU:1000000<=rnO o.dst:=by unfold rnO;split<;>omega
    obtain⟨g',h1,h2⟩:=B7L (ls:=A3X E.U t' m) (N:=Gf w m.length 0 e*E.U.size t') hU hr nU (c:=(#[]:Array Value)++aR.toArray++Ii z.cells (Gf w m.length 0 e - m.length)) (e:=e) (w.drew.alloc (.cells ((#[]:Array Value)++aR.toArray++Ii z.cells (Gf w m.length 0 e - m.length)) e)) rfl rfl rfl rfl
     (by
      simp only[Kp,Ka,size_zeroCells,dx,cF.nlen,Ke,Ff, <-Gv];exact Hg _ Du) ⟨by show 0<(flat E.U t' m).length;omega,by show(flat E.U t' m).length<=_;omega⟩ λj lf hj=>by
     obtain⟨v,v1,v2⟩:=lg j lf hj;have aH:=I0 v1;exact⟨v,by rw[Hf (by simpa using aH)];simpa using v1,v2⟩
    exact O5 (ah jS) (hn _ _ _ _ h (REL.setO h1 (e:=.one _) (A8t fE h2 a7 (Fg _)) rfl _ hd))
   ·
    rename_i d off hx;split at h
    ·rename_i ls bD;obtain⟨hc,h⟩:=A8 h;simp only[Ew]at hc;obtain⟨⟨nU,ho,bh⟩,qj,fE,bu⟩:=hc;have nU:=Gu nU;have ho:=Gu ho;have bh:=Gu bh;have qj:=(F2 _ _).1 qj;have bu:=A6J bu;rw[qj]at bh h;obtain⟨b,n,c0,hG,hv,Dj,jB⟩:=B1y hr hx ho;rw[qj]at jB;generalize rN off=n0 at*;have jc:n0+m.length<=140737488355328:=Fz (Jw _ kt) bu;obtain⟨cj,aG,aO⟩:=A1T hr bD;obtain⟨b',n',lh,⟨cV,uc,_⟩,cX,aQ⟩:=cj;rw[hG]at lh;cases lh;have bm:spare (g.G d)=some b:=by rw[hG];simp only[spare];rw[Ek Du]
     obtain⟨a0,len,cap,ef,_,fC⟩:=hr.tip d aG;rw[hG]at ef;cases ef;obtain⟨b',jW,c,e2,fz,ha,hb,r1,r2,r3⟩:=fC.resolve_left Du;cases ha;rw[cX]at r1 r2;have bj:g.wm b=0:=by rw[r2]
     have cf:∃dg:Ea,dg.length=n0*E.U.size t'/\(∀w':World,w'.heap=w.heap->(Jj i.size n0 (.slice (some ⟨b,0,none⟩) n0 c0)).run P w'=.ok dg.toArray w')/\
       ∀(j:Nat) lf,(ls.take (n0*E.U.size t'))[j]?=some lf->∃v,dg[j]?=some v/\w.cell? ⟨b,j,none⟩=some v/\v.oneCell'=true/\v.cells= #[v]/\LRep E.U w g lf v:=by
      refine⟨(Hi (n0*E.U.size t')).map λj=>(w.cell? ⟨b,j,none⟩).getD undef,Eo,λw' ek=>?_,λj lf hj=>?_⟩
      ·rw[az];refine run_firstCells_some w' (E.U.size t') n0 ⟨b,0,none⟩ n0 c0 _ Eo (λj v hv=>?_);rw[Gj]at hv;have bC:j<n0*E.U.size t':=by
        rcases Hh j (n0*E.U.size t')with h|h
        ·exact h
        ·rw[Jd (by simpa using h)]at hv;cases hv
       rw[Jc bC]at hv;simp at hv;subst hv;obtain⟨u0,u1,_⟩:=aQ j _ (Fj Du);rw[Hm,Ff,u1];exact(Hz (a:=⟨b,j,none⟩) (by rw[ek])).trans u1
      ·rw[Gi]at hj;split at hj
       ·rename_i bC;obtain⟨u0,u1,u2,u3,u4⟩:=aQ j lf hj;exact⟨u0,by rw[Gj,Jc bC];simp[u1],u1,u2,u3,u4⟩
       ·cases hj
     obtain⟨dg,o1,o2,o3⟩:=cf;have fF:(ls.take (n0*E.U.size t')).length=n0*E.U.size t':=Es
     have jD:(ls.take (n0*E.U.size t')++A3X E.U t' m).length=(n0+m.length)*E.U.size t':=by rw[List.length_append,fF,Gv];show _+(flat E.U t' m).length=_;omega
     by_cases io:c0<n0+m.length
     ·have jS:=B1B (P:=P) w t u o.type e i z cI (.inl ⟨_,vi⟩) hi hz (some ⟨b,0,none⟩) n0 c0 dg o2 (a.eval y) m.length aR cF.len fR io Du (by rw[kR];exact bu);rw[<-hv]at jS;have a7:n0+m.length<=Gf w (n0+m.length) c0 e:=grownCap_ge _ _ _ _;have dz:(n0+m.length)*E.U.size t'<=Gf w (n0+m.length) c0 e*E.U.size t':=Hg _ a7;obtain⟨g',h1,h2⟩:=B7L (ls:=ls.take (n0*E.U.size t')++A3X E.U t' m) (N:=Gf w (n0+m.length) c0 e*E.U.size t') hU hr nU (c:=dg.toArray++aR.toArray++Ii z.cells (Gf w (n0+m.length) c0 e - (n0+m.length))) (e:=e) (w.drew.alloc (.cells (dg.toArray++aR.toArray++Ii z.cells (Gf w (n0+m.length) c0 e - (n0+m.length))) e)) rfl rfl rfl rfl
       (by
        simp only[Kp,Ka,size_zeroCells,dx,cF.nlen,o1, <-Gv];exact Hg _ Du) ⟨by rw[jD,Gv];omega,by rw[jD];exact dz⟩ λj lf hj=>by
       by_cases bC:j<n0*E.U.size t'
       ·rw[Ki Du]at hj;obtain⟨v,v1,_,v2⟩:=o3 j lf hj;have aH:=I0 v1;exact⟨v,by rw[Hf Es,Hf (by simpa using aH)];simpa using v1,v2⟩
       ·rw[Kh Du,fF]at hj;obtain⟨v,v1,v2⟩:=lg _ lf hj;have aH:=I0 v1;exact⟨v,by rw[Hf Es,Array.getElem?_append_right Es];simpa [o1]using v1,v2⟩
      exact O5 (ah jS) (hn _ _ _ _ h (REL.setO h1 (e:=.one _) (A8t fE h2 a7 (Fg _)) rfl _ hd))
     ·have eF:n0+m.length<=c0:=Du
      have dz:(n0+m.length)*E.U.size t'<=c0*E.U.size t':=Hg _ eF;rw[Gv]at dz;obtain⟨s1,⟨c',s2,s3,s4,s5⟩,s6,s7,s8,s9,jA⟩:=A3O P b e2 fz aR (n0*E.U.size t') w c hb (by rw[cF.nlen];omega) (λj h1 h2=>Du) cF.one;have jS:=A7R (P:=P) w t u o.type e i cI (.inl ⟨_,vi⟩) hi (some ⟨b,0,none⟩) n0 c0 (a.eval y) m.length aR cF.len (fR w rfl) (D5 w b (n0*E.U.size t') aR)
       (λa1 iP=>by
        have:a1=⟨b,0,none⟩:=(Gb iP).symm;subst this;rw[Hm,az,Ff];exact s1 _ 0 Eo (Ge _)) (λh0=>by cases h0) eF
      rw[<-hv]at jS;generalize ek:D5 w b (n0*E.U.size t') aR=w' at*;have eb:Ext w g.wm w' g.wm:=⟨A6Y hb s2 s7,λk2 o2 mI=>by
       by_cases hk:k2=b
       ·subst hk;omega
       ·exact Hz (a:=⟨k2,o2,none⟩) (s7 k2 hk),λ_=>Fg _⟩
      have h2:=hr.redo hU aG bm hb s2 s7 s6 s8 s9 jA eb (λ_ _=>rfl) (.slice (some ⟨b,0,none⟩) 0 n) 1 ⟨_,_,_,rfl,Ge _,.inr ⟨b,0,c',e2,fz,rfl,s2,by rw[s3];exact r1,by rw[bj],r3⟩⟩ (λk2 hk=>by
       simp only[spare]at hk;split at hk
       ·cases hk
       ·exact(Gb hk).symm)
      have h3:=C0F (g:=g) (w:=w) (b:=b) (N:=n) (ls:=ls.take (n0*E.U.size t')++A3X E.U t' m) hU h2 eb ⟨λe he=>by simp[Gh.put,he],λe he=>by simp[Gh.put,he]⟩ (by simp[Gh.put]) (by simp[Gh.put]) nU ⟨by rw[jD,Gv];omega,by rw[jD,Gv];omega⟩ λj lf hj=>by
       by_cases bC:j<n0*E.U.size t'
       ·rw[Ki Du]at hj;obtain⟨v,v1,v0,v2⟩:=o3 j lf hj;refine⟨v,?_,v2⟩;simp only[Ho,hb]at v0;simp only[Ho,s2,s4 j (.inl bC)];exact v0
       ·rw[Kh Du,fF]at hj;obtain⟨v,v1,v2⟩:=lg _ lf hj;have:=s5 _ v v1;rw[show n0*E.U.size t'+(j - n0*E.U.size t')=j from Du]at this;exact⟨v,by simp[Ho,s2,this],v2⟩
      exact O5 (ah jS) (hn _ _ _ _ h (REL.setO h3 (e:=.one _) (A8t fE (by simp[Gh.put]) eF jB) rfl _ hd))
    ·cases h
   ·cases h
  ·cases h
 ·cases h
def D3S:∀{ls:List (Leaf Ty den)},A2c ls=true->∀lf∈ls,lf.close=lf:=λh lf hl=>by
 obtain⟨h1,h2⟩:=A8F h lf hl;cases lf with
 |sl t x o=>
  cases o with
  |none=>rfl
  |some c=>exact absurd rfl (h1 t x c)
 |ptr d o=>exact absurd rfl (h2 d o)
 |_=>rfl
include hU in
def D2f(hS:∀f ls cs,E.TNg f ls=some (true,cs)->(∀args w,(Fm f args).run P w=.ok (.enter f args) w)/\A6a P E.U (λw1 m1=>Ext B.w B.wm w1 m1) f ls cs)
  {c:Call}{f:Fq}(ai:o.op=.call c)(aA:c.callee=.value (.func f))(h:I4 E o s k=some r)
  (hr:Rel E.U B g s a w)(hd:∀i,o.dst=some i->i<a.tmps.size/\B.np<=i)(hn:H6 E B o a k r next):o.wp P a w next Q:=by
 simp only[I4,ai,aA]at h;split at h
 ·rename_i i gd ls aZ hT;obtain⟨kA,h'⟩:=A8 h;rw[Ew,Fe]at kA;obtain⟨rfl,Dk⟩:=kA;obtain⟨aN,cq,ce,jU⟩:=hS f _ _ hT;have fT:(Fa a.eval o).run P w=.ok (.enter f (c.args.toList.map a.eval).toArray) w:=by
   simp[Fa,ai,Gn,aA,Is,Ji,invoke,aN];apply Ir;simp
  have hc:=jU w g (c.args.toList.map a.eval) hr.ext hr.zero (LsRep.close (A42 hr c.argTypes.toList c.args.toList)) (λlf hl d=>by
   obtain⟨l0,rfl⟩:=A6f hl;exact A4p l0 d)
  unfold Gl;rw[fT,Ia];refine hc.mono ?_;rintro e w' ⟨b,g',rfl,hp,hb,cM,aQ⟩;have dC:=hr.world hU (w':=w') (wm':=g'.wm) hp.os hp.tape hp.output hp.size hp.ext (λ_=>False) (λb e=>e.elim) (λ_ _ _ _=>.inl λe=>e) (λb e=>e.elim) (λb hb _=>hp.frame b hb (λe=>e)) hp.zero;have fV:∀k,spare (.slice (some ⟨b,0,none⟩) 0 ls.length)=some k->k=b:=λk hk=>by
   simp only[spare]at hk;split at hk
   ·cases hk
   ·exact(Gb hk).symm
  have h2:=dC.fresh hU (C4 (some i)) (.slice (some ⟨b,0,none⟩) 0 ls.length) 1 cM (λe k he aC hs qN=>by
   cases fV k hs;have:=C1O (hr.tip e he) qN;omega) (λk hs=>by
   cases fV k hs;exact .inl (Fz hr.size hb))
  have h3:=h2.setBx (d:=C4 (some i)) (ls:=ls) (BoxOk.ex b (by simp[Gh.put]) ce (by simp[Gh.put]) λj lf hj=>by
   obtain⟨u,u1,u2,u3,u4⟩:=aQ j lf hj;exact⟨u,u1,u2,u3,LRep.ofC u4 (D3S cq lf (Fp hj))⟩) (by simp only[St.fresh];rw[mem_cons];exact .inl rfl)
  refine hn _ _ _ _ h' (REL.setO h3 (e:=.one (.ptr (C4 (some i)) 0)) ⟨.pt _ _ _,λ_ _ _ he=>by(cases he),λd' o2 he=>by(cases he;exact⟨b,ls.length,by simp[Gh.put],.inl ⟨rfl,Ep⟩⟩)⟩ rfl _ hd)
 ·cases h
include hT hU in
def D1I(hZ:∀t zs,E.zr t=some zs->A1v P E.U t zs)(hS:∀f ls cs,E.TNg f ls=some (true,cs)->(∀args w,(Fm f args).run P w=.ok (.enter f args) w)/\A6a P E.U (λw1 m1=>Ext B.w B.wm w1 m1) f ls cs)
  (dZ:T0 E o s=true)(h:I4 E o s k=some r)(hr:Rel E.U B g s a w)(hd:∀i,o.dst=some i->i<a.tmps.size/\B.np<=i)(hn:H6 E B o a k r next):o.wp P a w next Q:=by
 cases ai:o.op with
 |assign x=>
  simp only[T0,ai,Ew]at dZ;simp only[I4,ai]at h;have oR:a.eval x=.slice none 0 0:=by
   have bv:=dZ.1;unfold A0c at bv;split at bv
   ·rfl
   ·cases bv
  exact G6 (e:=.one .nils) (v:=.slice none 0 0) hr hd hn h ⟨.nils,λ_ _ _ he=>by(cases he),λ_ _ he=>by(cases he)⟩ rfl (by simp[Fa,ai,oR])
 |build t ps=>exact C7W hT hU hZ ai h hr hd hn
 |buildSlice t n ps=>exact D0T hT hU ai h hr hd hn
 |indexAddr t x i=>exact D6x hT ai (by simpa only[T0,ai]using dZ) h hr hd hn
 |load t x=>exact D6W hT ai h hr hd hn
 |slice t x lo hi mx=>exact D31 hT ai (by simpa only[T0,ai]using dZ) h hr hd hn
 |call c=>
  have h0:=h;simp only[I4,ai]at h;split at h
  ·rename_i t x aA dX aD;split at h
   ·rename_i u e d off ht hx;simp only[T0,ai,aA,dX,aD,hx,B1r,Jk]at dZ;obtain⟨d',jW,rD,ho⟩:=B7y dZ;cases rD;obtain⟨b,m,c0,hG,hv,bh,hm⟩:=B1y hr hx ho;obtain⟨cI,_⟩:=P9 hT ht;exact G6 (e:=.one (.int .i64 (rN off))) hr hd hn h (LRep.int _ _) rfl (by simp[Fa,ai,Gn,aA,A0k dX,A0k aD,invoke,builtin,hv,Ko,Hn cI,goInt])
   ·rename_i u e ht hx;have hv:a.eval x=.slice none 0 0:=by
     have:=(G2 hr t x).1;rw[hx]at this;generalize a.eval x=v at this;cases this;rfl
    obtain⟨cI,_⟩:=P9 hT ht;exact G6 (e:=.one (.int .i64 0)) hr hd hn h (LRep.int _ _) rfl (by simp[Fa,ai,Gn,aA,A0k dX,A0k aD,invoke,builtin,hv,Ko,Hn cI,goInt])
   ·cases h
  ·rename_i t u x y aA dX aD;exact D1X hT hU ai aA dX aD h0 hr hd hn
  ·rename_i f _ _ aA;exact D2f hU hS ai aA h0 hr hd hn
  ·cases h
 |_=>simp only[I4,ai]at h;cases h
end
end Go.Aev
end
section
open Go.Lib
namespace Go.Aev
variable {Ty:Type}{den:Ty->Type}
structure Y9(P:Fh)(E:Env Ty den)(B:Bs):Prop where
 U:E.U.Ok
 np:B.np<=E.np
 tb:∀t,Q6 P E.U t (E.tb t)
 zr:∀t zs,E.zr t=some zs->A1v P E.U t zs
 T:∀f ls r,E.T f ls=some (true,r)->(∀args w,(Fm f args).run P w=.ok (.enter f args) w)/\A1U P E.U (λw1 m1=>Ext B.w B.wm w1 m1) f ls r
 TB:∀f ls cs rs ay,E.TB f ls cs=some (rs,ay)->(∀args w,(Fm f args).run P w=.ok (.enter f args) w)/\X2 P E.U (λw1 m1=>Ext B.w B.wm w1 m1) f ls cs rs ay
 TI:∀nm ls cs rs ay,E.TI nm ls cs=some (rs,ay)->A5k P E.U B nm ls cs rs ay
 TR:∀f ls cs rs,E.TR f ls cs=some rs->(∀args w,(Fm f args).run P w=.ok (.enter f args) w)/\X2 P E.U (λw1 m1=>Ext B.w B.wm w1 m1) f ls cs rs cs
 TN:∀f ls cs,E.TNg f ls=some (true,cs)->(∀args w,(Fm f args).run P w=.ok (.enter f args) w)/\A6a P E.U (λw1 m1=>Ext B.w B.wm w1 m1) f ls cs
 mix:P.follows .mixedOrders=true
section
variable {E:Env Ty den}{B:Bs}{g:Gh}{s:St Ty den}{a:Act}{w:World}
variable {P:Fh}{R:Type}{o:Oper}{k:Ent Ty den->St Ty den->Option R}{r:R}{next:Act->World->Prop}{Q:Exit->Act->World->Prop}
def C60(hE:Y9 P E B){x:Fl}(ai:o.op=.assign x)(h:A9 E o s k=some r)(hr:Rel E.U B g s a w)(hd:∀i,o.dst=some i->i<a.tmps.size/\B.np<=i)(hn:H6 E B o a k r next):o.wp P a w next Q:=by
 simp only[A9,ai]at h;have ah:(Fa a.eval o).run P w=.ok (.value (a.eval x)) w:=by simp[Fa,ai]
 cases bv:A0c x with
 |false=>
  rw[bv]at h;exact G6 hr hd hn h (A36 hr _ _) (B3j _ _ _) ah
 |true=>
  rw[bv]at h;simp only[Eg]at h;have oR:a.eval x=.slice none 0 0/\∃v,x=.const v/\v=.slice none 0 0:=by
   unfold A0c at bv;split at bv
   ·exact⟨rfl,_,rfl,rfl⟩
   ·cases bv
  obtain⟨fW,v,hx,hv⟩:=oR;have ax:=G2 hr o.type x;split at h
  ·rename_i u l own hl;rw[hl]at ax;rw[fW]at ax ah;have av:l=[]:=by
    obtain⟨a0,cap,h1⟩:=ax.1.sl_inv;simp at h1;exact List.eq_nil_of_length_eq_zero h1.2.1.symm
   subst av;have h2:=hr.fresh hE.U (C4 o.dst) (.slice none 0 0) (E.U.size u) ⟨_,_,_,rfl,Fg _,.inl rfl⟩ (λ_ _ _ _ hs=>by simp[spare]at hs) (λ_ hs=>by simp[spare]at hs);refine O5 ah (hn _ _ _ _ h (REL.setO h2 (e:=.one (.sl u [] (some (C4 o.dst)))) ⟨.nil _ _ _ _,λt1 l1 d1 he=>?_,λ_ _ he=>by(cases he)⟩ rfl _ hd));simp only[Leaf.sl.injEq,Fi]at he;obtain⟨rfl,_,rfl⟩:=he;exact⟨by simp[Gh.put],by simp[Gh.put],TyB.nil⟩
  ·exact G6 (e:=.one (opl E s o.type x)) hr hd hn h (show ERep _ _ _ (.one _) _ from ax) rfl ah
def B9c(hE:Y9 P E B)(h:A9 E o s k=some r)(hr:Rel E.U B g s a w)(hd:∀i,o.dst=some i->i<a.tmps.size/\B.np<=i)(hn:H6 E B o a k r next):o.wp P a w next Q:=by
 cases ai:o.op with
 |move x=>exact D2k ai h hr hd hn
 |assign x=>exact C60 hE ai h hr hd hn
 |makeInterface t x=>exact D0k hE.tb ai h hr hd hn
 |pick c x y=>exact D25 ai h hr hd hn
 |extract x i=>exact C6o ai h hr hd hn
 |binOp op t x y yt=>exact D0R hE.tb ai h hr hd hn
 |unOp op t x=>exact D4X ai h hr hd hn
 |convert src dst x=>exact C6i hE.tb hE.U ai h hr hd hn
 |indexAddr t x i=>exact D1b hE.tb hE.U ai h hr hd hn
 |index t x i=>exact D5Q hE.tb ai h hr hd hn
 |load t x=>exact C71 hE.tb hE.U ai h hr hd hn
 |build t ps=>exact C8B hE.tb hE.U hE.zr ai h hr hd hn
 |alloc t=>exact D4g hE.U hE.zr ai h hr hd hn
 |box t x=>exact D4j hE.U hE.zr ai h hr hd hn
 |store t x y=>exact C2B hE.U hE.zr ai h hr hd hn
 |nilCheck x=>exact D2d ai h hr hd hn
 |fieldAddr t x i=>exact C7H hE.tb ai h hr hd hn
 |slice t x lo hi mx=>exact C51 hE.tb hE.U ai h hr hd hn
 |buildSlice t n ps=>exact D4H hE.tb hE.U ai h hr hd hn
 |makeSlice t l c=>exact C8a hE.tb hE.U ai h hr hd hn
 |range t x=>exact D4k hE.tb hE.U ai h hr hd hn
 |next x uC=>
  cases x with
  |tmp i=>
   cases uC with
   |true=>exact D2v ai h hr hE.U hd hn
   |false=>simp only[A9,ai]at h;cases h
  |_=>simp only[A9,ai]at h;cases h
 |call c=>
  have h0:=h;simp only[A9,ai]at h;cases aA:c.callee with
  |value x=>
   cases x with
   |func f=>
    rw[aA]at h;dsimp only at h;cases kt:E.bp f with
    |none=>rw[kt]at h;exact D03 hE.U hE.T ai aA h hr hd hn
    |some ps=>
     rw[kt]at h;dsimp only at h;cases qk:E.ro f with
     |true=>
      rw[qk]at h;simp only[Eg]at h;obtain⟨e,he,h⟩:=C2g E h;exact B9L hE.U hE.T hE.TR ai aA he hr hd λv w' bZ=>hn _ _ _ _ h bZ
     |false=>rw[qk]at h;exact D00 hE.U hE.TB ai aA (C5U E h) hr hd hn
   |_=>rw[aA]at h;cases h
  |invoke x m=>rw[aA]at h;exact C6m hE.U hE.TI ai aA (C0Z h) hr hd hn
  |builtin b=>rw[aA]at h;exact D5a hE.tb hE.U ai aA h hr hd hn
 |_=>simp only[A9,ai]at h;cases h
def A7N(hE:Y9 P E B)(h:O1 E o s k=some r)(hr:Rel E.U B g s a w)(hd:∀i,o.dst=some i->i<a.tmps.size/\B.np<=i)(hn:H6 E B o a k r next):o.wp P a w next Q:=by
 unfold O1 at h;cases hc:E.rw&&T0 E o s with
 |false=>rw[hc]at h;exact B9c hE h hr hd hn
 |true=>
  rw[hc]at h;rw[Ew]at hc;exact D1I hE.tb hE.U hE.zr hE.TN hc.2 h hr hd hn
def D07{a b c d e:Bool}(h:(a&&(b&&(c&&(d&&e))))=true):a=true/\b=true/\c=true/\d=true/\e=true:=by
 cases a<;>cases b<;>cases c<;>cases d<;>cases e<;>simp at h ⊢
def D6J{d:Nat}{y:Fl}(h:B4y d y=true)(a:Act)(v:Value):(a.put (some d) v).eval y=a.eval y:=by
 cases y with
 |tmp t=>
  simp only[B4y,Fu]at h;have aC:d≠t:=λe=>by rw[<-e,H5]at h;cases h
  show(a.tmps.setIfInBounds d v).getD t undef=a.tmps.getD t undef;rw[Fk,Fk,Array.getElem?_setIfInBounds,Ek aC]
 |const v=>rfl
 |global g=>rfl
 |func f=>rfl
def B9R(hE:Y9 P E B){o2:Oper}{d:Nat}{l:Leaf Ty den}(hb:A9R E o o2 s=some (d,l))(hr:Rel E.U B g s a w)(hd:∀i,o.dst=some i->i<a.tmps.size/\B.np<=i){K K2:Act->World->Prop}
  (h1:∀a1 w1,o2.wp P a1 w1 K2 Q->K a1 w1)(h2:∀a' w',REL E.U B (s.set d (.one l)) a' w'->a'.tmps.size=a.tmps.size->K2 a' w'):o.wp P a w K Q/\o2.guard=none:=by
 unfold A9R at hb;split at hb
 ·rename_i t d0 t2 d2 y ai aZ vj;obtain⟨hc,bH⟩:=A8 hb;clear hb;obtain⟨c1,c2,c3,c4,c5⟩:=D07 hc;have e1:=(F2 _ _).1 c1;have e2:=(F2 _ _).1 c2;subst e1;subst e2;have jY:o2.guard=none:=by simpa using c4
  have fS:o2.dst=none:=by simpa using c5
  refine⟨?_,jY⟩;split at bH
  ·rename_i u pl u' x ht hy;split at bH
   ·rename_i x' cO;simp only[Fi,Fs]at bH;obtain⟨rfl,rfl⟩:=bH;obtain⟨rfl,ex⟩:=B0d cO;simp only at ex;subst ex;obtain⟨fs,ie,z,i1,i2,i3,i4,i5,i6⟩:=A3m hE.tb ht;have nV:=G2 hr 0 y;rw[hy]at nV;obtain⟨vs,ev,oG,cs,cE,fb⟩:=A8b nV.1;have cq:=hE.U.len u' x;have aH:d0<a.tmps.size:=(hd d0 aZ).1;have a8:∀v∈vs,v.oneCell'=true:=λv hv=>by
     obtain⟨j,hj,qP⟩:=Jb hv;have vk:j<(E.U.cells u' x).length:=Du
     have h3:=cE j _ (Fj vk);rw[Fj hj]at h3;rw[<-qP,Gb h3];exact((fb j _ (Fj vk)).one hE.U (hE.U.solid u' x _ (List.getElem_mem vk))).1
    have ah:(Fa a.eval o).run P w=.ok (.value (.pointer (some ⟨w.heap.size,0,none⟩))) (w.alloc (.cells z.cells t)):=by
     simp[Fa,ai,Instr.alloc,zeroValue,Gy,i3,i5,newVar,newRow]
    refine O5 ah (h1 _ _ ?_);rw[aZ];have mO:(a.put (some d0) (.pointer (some ⟨w.heap.size,0,none⟩))).eval y=.agg vs.toArray:=by rw[D6J c3,ev]
    have mP:(a.put (some d0) (.pointer (some ⟨w.heap.size,0,none⟩))).eval (.tmp d0)=.pointer (some ⟨w.heap.size,0,none⟩):=by
     have:=B1S a d0 d0 (.pointer (some ⟨w.heap.size,0,none⟩)) aH;rw[El rfl]at this;exact this
    have vm:(w.alloc (.cells z.cells t)).heap[w.heap.size]?=some (.cells z.cells t (0,0)):=by
     have hp:(w.alloc (.cells z.cells t)).heap=w.heap.push (.cells z.cells t):=rfl;rw[hp];simp
    obtain⟨s1,⟨c',s2,s3,_,s5⟩,s6,s7,s8,s9,jA⟩:=A3O P w.heap.size t (0,0) vs 0 (w.alloc (.cells z.cells t)) z.cells vm Du (λj _ _=>Eo) a8;have cU:=s1 ⟨w.heap.size,0,none⟩ 0 rfl (Fg _);have cH:c'=vs.toArray:=by
     apply Iq;intro j;by_cases hj:j<vs.length
     ·have:=s5 j vs[j] (Fj hj);rw[Ff]at this;rw[this];simp[hj]
     ·rw[Ip Du,Ip Es]
    have jE:(D5 (w.alloc (.cells z.cells t)) w.heap.size 0 vs).heap=w.heap.push (.cells vs.toArray t (0,0)):=by
     apply Iq;intro j;by_cases hj:j=w.heap.size
     ·subst hj;rw[s2,cH];simp
     ·rw[s7 j hj];simp only[World.alloc,Jo,Ek hj]
    have bZ:=hr.alloc hE.U (.cells vs.toArray t (0,0)) (E.U.size u') (D5 (w.alloc (.cells z.cells t)) w.heap.size 0 vs) jE s8 s9 jA;have hx:Ext w g.wm (D5 (w.alloc (.cells z.cells t)) w.heap.size 0 vs) (C6 g.wm w.heap.size (E.U.size u')):=by
     refine⟨A1D jE,λb off ho=>?_,λb=>?_⟩
     ·rcases Hh b w.heap.size with h2|h2
      ·exact Hz (a:=⟨b,off,none⟩) (by rw[jE,Jo,Ek (by show¬b=w.heap.size;omega)])
      ·rw[hr.zero b h2]at ho;omega
     ·unfold C6;by_cases hb:b=w.heap.size
      ·subst hb;rw[El rfl,hr.zero _ (Fg _)];exact Ge _
      ·rw[Ek hb];exact Fg _
    have ax:CRep E.U (D5 (w.alloc (.cells z.cells t)) w.heap.size 0 vs) (C6 g.wm w.heap.size (E.U.size u')) (.elem u' x 0) (.pointer (some ⟨w.heap.size,0+0,none⟩)):=by
     refine .elem u' x 0 w.heap.size 0 cs (by simp[C6]) (λj lf hj=>?_) (λj lf hj=>(fb j lf hj).mono hE.U hx);have h3:=cE j lf hj;have bW:(D5 (w.alloc (.cells z.cells t)) w.heap.size 0 vs).heap[w.heap.size]?=some (.cells vs.toArray t (0,0)):=by rw[jE];simp
     have bC:=I0 h3;rw[Fj bC]at h3;simp[Ho,bW,bC,Gb h3]
    have gr:=bZ.set (e:=.one (.elem u' x 0)) (v:=.pointer (some ⟨w.heap.size,0,none⟩)) ⟨ax,λ_ _ _ he=>by(cases he),λ_ _ he=>by(cases he)⟩ rfl d0 (hd d0 aZ);unfold Gl;have rE:(Fa (a.put (some d0) (.pointer (some ⟨w.heap.size,0,none⟩))).eval o2).run P (w.alloc (.cells z.cells t))=.ok .skip (D5 (w.alloc (.cells z.cells t)) w.heap.size 0 vs):=by
     have az:(Gw t).run P (w.alloc (.cells z.cells t))=.ok (E.U.size u') (w.alloc (.cells z.cells t)):=by simp[Gw,Gy,i3,i4]
     have li:(Value.agg vs.toArray).cells=vs.toArray:=rfl;generalize w.alloc (.cells z.cells t)=w1 at az cU ⊢;simp[Fa,vj,mO,mP,Kk,Jg,storeVar,az,li,oG,cU]
    rw[rE,Iz,fS];exact h2 _ _ ⟨_,gr⟩ (by simp[Gx])
   ·cases bH
  ·cases bH
 ·cases hb
def A3l{m n:Nat}{d:Ed}(h:okd m n d=true):∀i,d=some i->i<n/\m<=i:=λi hi=>by
 subst hi;simp only[okd,Ew,Fe,Hq]at h;exact h
def D32(E:Env Ty den)(ops:Array Oper)(o:Oper)(r:List Oper)(s:St Ty den)(k:St Ty den->Option R):A20 E ops (o::r) s k=bif okd E.np E.nt o.dst then match o.guard with
 |none=>bif R2 o.op&& !(mbO E o.dst)then(match r with
   |o2::r2=>(match A9R E o o2 s with
    |some (d,l)=>A20 E ops r2 (s.set d (.one l)) k
    |none=>none)
   |[]=>none)
  else O1 E o s λe s'=>A20 E ops r (s'.setO o.dst e) k
 |some (j,aY)=>match(ops[j]?).bind (·.dst)with
  |some g=>match s.get g with
   | .one (.bool b)=>bif b==aY
    then O1 E o (s.set g (.one (.bool aY))) λe s'=>A20 E ops r (s'.setO o.dst e) k
    else A20 E ops r ((s.set g (.one (.bool (!aY)))).setO o.dst (.one (.val undef))) k
   | .one (.val v)=>bif A4N v then A20 E ops r (s.setO o.dst (.one (.val undef))) k else none
   |_=>none
  |none=>none
 else none:=by cases r<;>rfl
def A8u(hE:Y9 P E B)(ops:Array Oper):∀(os:List Oper)(s:St Ty den)(a:Act)(w:World)(k:St Ty den->Option R),A20 E ops os s k=some r->REL E.U B s a w->a.tmps.size=E.nt->
  (∀s' a' w',k s'=some r->REL E.U B s' a' w'->a'.tmps.size=E.nt->Q .normal a' w')->wpList P ops Q os a w
 |[],s,a,w,k,h,hr,az,hk=>wpList_nil (hk s a w h hr az)
 |o::os,s,a,w,k,h,⟨g,hr⟩,az,hk=>by
  rw[D32]at h;obtain⟨aZ,h⟩:=A8 h;have hd:∀i,o.dst=some i->i<a.tmps.size/\B.np<=i:=λi hi=>by rw[az];have:=A3l aZ i hi;exact⟨this.1,Fz hE.np this.2⟩
  have run:∀(s1:St Ty den)(g1:Gh),Rel E.U B g1 s1 a w->O1 E o s1 (λe s'=>A20 E ops os (s'.setO o.dst e) k)=some r->∀(K:Act->World->Prop),(∀a w,wpList P ops Q os a w->K a w)->o.wp P a w K Q:=by
   intro s1 g1 dC h1 K hK;refine A7N hE h1 dC hd ?_;intro e s' v w' eJ bZ;exact hK _ _ (A8u hE ops os _ _ _ k eJ bZ (by rw[A0s];exact az) hk)
  cases hg:o.guard with
  |none=>
   rw[hg]at h;dsimp only at h;cases fg:R2 o.op&& !(mbO E o.dst)with
   |true=>
    rw[fg]at h;simp only[Eg]at h
    match os,h with
    |[],h=>cases h
    |o2::yp,h=>
     dsimp only at h;split at h
     ·rename_i d l ky;refine It hg λK hK=>(B9R (K2:=λa1 w1=>wpList P ops Q yp a1 w1) hE ky hr hd (λa1 w1 hw=>hK _ _ (It ?_ λK2 AK=>?_)) (λa' w' bZ rG=>?_)).1
      ·exact(B9R (K:=λ_ _=>True) (K2:=λ_ _=>True) (Q:=Q) hE ky hr hd (λ_ _ _=>trivial) (λ_ _ _ _=>trivial)).2
      ·exact Oper.wp_mono AK hw
      ·exact A8u hE ops yp _ a' w' k h bZ (by rw[rG];exact az) hk
     ·cases h
   |false=>
    rw[fg]at h;exact It hg λK hK=>run s g hr h K hK
  |some jw=>
   obtain⟨j,aY⟩:=jw;rw[hg]at h;dsimp only at h;cases hj:(ops[j]?).bind (·.dst)with
   |none=>rw[hj]at h;cases h
   |some gd=>
    rw[hj]at h;dsimp only at h;split at h
    ·rename_i b mQ;have aN:=hr.ent gd;rw[mQ]at aN;have bL:a.tmps.getD gd undef=.bool b:=CRep.bool_inv aN.1;have aH:gd<a.tmps.size:=by
      rcases Hh gd a.tmps.size with h1|h1
      ·exact h1
      ·rw[Fk,Ip h1]at bL;cases bL
     have aO:a.tmps[gd]?=some (.bool b):=by
      rw[Fk,Fx aH]at bL;rw[Fx aH];simpa using bL
     have hy:Gk ops a.tmps j=some b:=by
      unfold Gk;rw[hj];simp[aO]
     have gr:∀c:Bool,b=c->Rel E.U B g (s.set gd (.one (.bool c))) a w:=by
      intro c hc;exact hr.setSame (e:=.one (.bool c)) (by rw[bL,hc];exact LRep.bool c) rfl
     refine wpList_step λK hK=>?_;simp only[Fy,hg,hy];cases iS:(b==aY)with
     |true=>
      have rH:b=aY:=by simpa using iS
      rw[iS]at h;rw[El (by simp[rH])];exact run _ g (gr aY rH) h K hK
     |false=>
      rw[iS]at h;have aC:b≠aY:=by simpa using iS
      have yq:b= !aY:=by cases b<;>cases aY<;>simp_all
      rw[Ek (by simp[aC])];refine hK _ _ (A8u hE ops os _ _ _ k h ?_ (by rw[A0s];exact az) hk);exact REL.setO (gr _ yq) (e:=.one (.val undef)) ⟨.val _,λ_ _ _ he=>by(cases he),λ_ _ he=>by(cases he)⟩ rfl o.dst hd
    ·rename_i v rJ;have aN:=hr.ent gd;rw[rJ]at aN;have bL:a.tmps.getD gd undef=v:=by
      have h1:=aN.1;cases h1;rfl
     obtain⟨di,h⟩:=A8 h;have hy:∀b,Gk ops a.tmps j≠some b:=by
      intro b hb;unfold Gk at hb;rw[hj]at hb;simp only[Js]at hb;rw[Fk]at bL;cases jY:a.tmps[gd]? with
      |none=>rw[jY]at hb;simp at hb
      |some u=>
       rw[jY]at hb bL;simp at bL;subst bL;cases u<;>simp[A4N]at hb di
     refine wpList_step λK hK=>?_;simp only[Fy,hg];rw[Ek (by
      intro h1;exact hy aY (by simpa using h1))]
     refine hK _ _ (A8u hE ops os _ _ _ k h ?_ (by rw[A0s];exact az) hk);exact REL.setO hr (e:=.one (.val undef)) ⟨.val _,λ_ _ _ he=>by(cases he),λ_ _ he=>by(cases he)⟩ rfl o.dst hd
    ·cases h
end
end Go.Aev
end
section
open Go.Lib
namespace Go.Aev
variable {Ty:Type}{den:Ty->Type}
section
variable {E:Env Ty den}{B:Bs}{g:Gh}{s:St Ty den}{a:Act}{w:World}
variable {P:Fh}{R:Type}{o:Oper}{r:R}
structure Sees(o:Oper)(s s2:St Ty den):Prop where
 tmp:∀t,Jt t∈o.op.operands.toList->s2.get t=s.get t
 bx:∀d ls,L8 s d=some ls->L8 s2 d=some ls
def Sees.opd{s2:St Ty den}(h:Sees o s s2){x:Fl}(hx:x∈o.op.operands.toList)(ty:Fb):opd E s2 ty x=opd E s ty x:=by
 cases x with
 |tmp t=>simp only[Aev.opd,h.tmp t hx]
 |_=>rfl
def Sees.opl{s2:St Ty den}(h:Sees o s s2){x:Fl}(hx:x∈o.op.operands.toList)(ty:Fb):opl E s2 ty x=opl E s ty x:=by
 simp only[Aev.opl,h.opd hx]
def Sees.args{s2:St Ty den}{c:Call}(ai:o.op=.call c)(h:Sees o s s2):∀(dS:List Fb)(xs:List Fl),(∀x∈xs,x∈c.args.toList)->S1 E s2 dS xs=S1 E s dS xs:=by
 have cS:∀x∈c.args.toList,x∈o.op.operands.toList:=by
  intro x hx;rw[ai];simp only[Ez,Gm];cases c.callee<;>simp_all
 intro dS xs
 induction xs generalizing dS with
 |nil=>intro _;cases dS<;>rfl
 |cons x xs ih=>
  intro jx;cases dS with
  |nil=>simp only[S1,h.opl (cS x (jx x Eo)),ih [] (λy hy=>jx y (by simp[hy]))]
  |cons t ts=>simp only[S1,h.opl (cS x (jx x Eo)),ih ts (λy hy=>jx y (by simp[hy]))]
def I7{a b:Nat}{x:Option R}(h:(bif Ey a b then x else none)=some r):a=b/\x=some r:=by
 obtain⟨h1,h2⟩:=A8 h;exact⟨Fw h1,h2⟩
def B9r{s2:St Ty den}{d:Int}{b:Option Fl}(h:Sees o s s2)(hb:∀x,b=some x->x∈o.op.operands.toList):W8 E s2 d b=W8 E s d b:=by
 cases b with
 |none=>rfl
 |some x=>simp only[W8,h.opl (hb x rfl)]
def C46{cl:Leaf Ty den->Leaf Ty den}{s2:St Ty den}(h:Sees o s s2)(pl:List (Nat×Nat)):∀(ps:List (Nat×Fl))(ls:List (Leaf Ty den)),(∀p∈ps,p.2∈o.op.operands.toList)->A2h E cl s2 pl ps ls=A2h E cl s pl ps ls
 |[],ls,_=>rfl
 |(j,x)::ps,ls,cS=>by
  simp only[A2h];rw[show opl E s2 0 x=opl E s 0 x from h.opl (cS (j,x) Eo) 0];cases pl[j]? with
  |none=>rfl
  |some q=>
   obtain⟨o1,n1⟩:=q;dsimp only;cases cellsOf E n1 (cl (opl E s 0 x))with
   |none=>rfl
   |some ys=>
    dsimp only;rw[C46 h pl ps _ (λp hp=>cS p (by simp[hp]))]
def D7d{t:Fb}{x:Fl}(ai:o.op=.makeInterface t x){k1:Ent Ty den->Option R}(h:A9 E o s (λe s'=>bif Ey (T7 s'.live) (T7 s.live)then k1 e else none)=some r):
  ∃e,k1 e=some r/\∀s2:St Ty den,Sees o s s2->A9 E o s2 (λe s'=>some (e,s'))=some (e,s2):=by
 simp only[A9,ai]at h;split at h
 ·rename_i u pl u' y ht hx;split at h
  ·rename_i y' hy;refine⟨_,(I7 h).2,λs2 h2=>?_⟩;simp only[A9,ai,h2.opl (x:=x) (by simp[ai,Ez]),ht,hx,hy]
  ·cases h
 ·cases h
def D6C(hp:R8 E o=true)(di:T2 o=false)(mR:∀c f,o.op=.call c->c.callee≠ .value (.func f)){k1:Ent Ty den->Option R}(h:A9 E o s (λe s'=>bif Ey (T7 s'.live) (T7 s.live)then k1 e else none)=some r):
  ∃e,k1 e=some r/\∀s2:St Ty den,Sees o s s2->A9 E o s2 (λe s'=>some (e,s'))=some (e,s2):=by
 have bc:∀{x:Fl},x∈o.op.operands.toList->∀s2:St Ty den,Sees o s s2->∀ty,opl E s2 ty x=opl E s ty x:=λhx s2 h2 ty=>h2.opl hx ty;cases ai:o.op with
 |move x=>
  simp only[A9,ai]at h;exact⟨_,(I7 h).2,λs2 h2=>by simp only[A9,ai,h2.opd (x:=x) (by simp[ai,Ez])]⟩
 |buildSlice t n ps=>simp only[T2,ai]at di;cases di
 |makeInterface t x=>exact D7d ai h
 |assign x=>
  have bv:A0c x=false:=by simpa only[T2,ai]using di
  simp only[A9,ai,bv,Eh]at h;exact⟨_,(I7 h).2,λs2 h2=>by simp only[A9,ai,bv,Eh,h2.opd (x:=x) (by simp[ai,Ez])]⟩
 |pick c x y=>
  have hc:=λs2 h2=>bc (x:=c) (by simp[ai,Ez]) s2 h2;have hx:=λs2 h2=>bc (x:=x) (by simp[ai,Ez]) s2 h2;have hy:=λs2 h2=>bc (x:=y) (by simp[ai,Ez]) s2 h2;simp only[A9,ai]at h;split at h
  ·rename_i cb;exact⟨_,(I7 h).2,λs2 h2=>by simp only[A9,ai,hc s2 h2,hx s2 h2,hy s2 h2,cb]⟩
  ·rename_i cb;exact⟨_,(I7 h).2,λs2 h2=>by simp only[A9,ai,hc s2 h2,hx s2 h2,hy s2 h2,cb]⟩
  ·cases h
 |extract x i=>
  simp only[A9,ai]at h;have hx:=λs2 (h2:Sees o s s2)=>h2.opd (E:=E) (x:=x) (by simp[ai,Ez]) 0;split at h
  ·rename_i ls cb;split at h
   ·rename_i l hl;exact⟨_,(I7 h).2,λs2 h2=>by simp only[A9,ai,hx s2 h2,cb,hl]⟩
   ·cases h
  ·cases h
 |binOp op t x y yt=>
  have hx:=λs2 h2=>bc (x:=x) (by simp[ai,Ez]) s2 h2;have hy:=λs2 h2=>bc (x:=y) (by simp[ai,Ez]) s2 h2;simp only[A9,ai]at h;have bU:∀(l:Leaf Ty den),(bif Ey (T7 s.live) (T7 s.live)then k1 (.one l)else none)=some r->(∀s2,Sees o s s2->A9 E o s2 (λe s'=>some (e,s'))=some (.one l,s2))->∃e,k1 e=some r/\∀s2,Sees o s s2->A9 E o s2 (λe s'=>some (e,s'))=some (e,s2):=λl h1 h2=>⟨_,(I7 h1).2,h2⟩;split at h
  ·rename_i k0 a Dl b iT kB;split at h
   ·obtain⟨hg,h⟩:=A8 h;exact bU _ h λs2 h2=>by simp only[A9,ai,hx s2 h2,hy s2 h2,iT,kB,hg,Eg]
   ·obtain⟨hg,h⟩:=A8 h;exact bU _ h λs2 h2=>by simp only[A9,ai,hx s2 h2,hy s2 h2,iT,kB,hg,Eg]
   ·obtain⟨hg,h⟩:=A8 h;exact bU _ h λs2 h2=>by simp only[A9,ai,hx s2 h2,hy s2 h2,iT,kB,hg,Eg]
   ·obtain⟨hg,h⟩:=A8 h;exact bU _ h λs2 h2=>by simp only[A9,ai,hx s2 h2,hy s2 h2,iT,kB,hg,Eg]
   ·rename_i n1 n2 n3 n4;obtain⟨hg,h⟩:=A8 h;split at h
    ·rename_i l hl;refine bU _ h λs2 h2=>?_;simp only[A9,ai,hx s2 h2,hy s2 h2,iT,kB];cases op<;>first
      |exact absurd rfl (by assumption)
      |(exfalso;first|exact n1 rfl|exact n2 rfl|exact n3 rfl|exact n4 rfl)
      |(simp only[hg,Eg,hl])
    ·cases h
  ·rename_i a b iT kB;split at h
   ·obtain⟨hg,h⟩:=A8 h;exact bU _ h λs2 h2=>by simp only[A9,ai,hx s2 h2,hy s2 h2,iT,kB,hg,Eg]
   ·exact bU _ h λs2 h2=>by simp only[A9,ai,hx s2 h2,hy s2 h2,iT,kB]
   ·exact bU _ h λs2 h2=>by simp only[A9,ai,hx s2 h2,hy s2 h2,iT,kB]
   ·cases h
  ·rename_i a b iT kB;split at h
   ·rename_i ht;split at h
    ·exact bU _ h λs2 h2=>by simp only[A9,ai,hx s2 h2,hy s2 h2,iT,kB,ht]
    ·exact bU _ h λs2 h2=>by simp only[A9,ai,hx s2 h2,hy s2 h2,iT,kB,ht]
    ·cases h
   ·cases h
  ·cases h
 |unOp op t x=>
  have hx:=λs2 h2=>bc (x:=x) (by simp[ai,Ez]) s2 h2;simp only[A9,ai]at h;split at h
  ·rename_i iT;exact⟨_,(I7 h).2,λs2 h2=>by simp only[A9,ai,hx s2 h2,iT]⟩
  ·rename_i iT;exact⟨_,(I7 h).2,λs2 h2=>by simp only[A9,ai,hx s2 h2,iT]⟩
  ·cases h
 |convert src dst x=>
  have hx:=λs2 h2=>bc (x:=x) (by simp[ai,Ez]) s2 h2;simp only[A9,ai]at h;split at h
  ·rename_i h1 h2 h3;exact⟨_,(I7 h).2,λs2 h4=>by simp only[A9,ai,hx s2 h4,h1,h2,h3]⟩
  ·rename_i h1 h2 h3;split at h
   ·rename_i h5 h6 h7;exact⟨_,(I7 h).2,λs2 h4=>by simp only[A9,ai,hx s2 h4,h1,h2,h3,h5,h6,h7]⟩
   ·rename_i h5 h6 h7;exact⟨_,(I7 h).2,λs2 h4=>by simp only[A9,ai,hx s2 h4,h1,h2,h3,h5,h6,h7]⟩
   ·cases h
  ·rename_i h1 h2 h3;simp only[R8,ai,h2]at hp;cases hp
  ·rename_i h1 h2 h3;simp only[R8,ai,h2]at hp;cases hp
  ·cases h
 |indexAddr t x i=>
  have hx:=λs2 h2=>bc (x:=x) (by simp[ai,Ez]) s2 h2;have hi:=λs2 h2=>bc (x:=i) (by simp[ai,Ez]) s2 h2;simp only[A9,ai]at h;split at h
  ·rename_i h1 h2 h3;split at h
   ·rename_i l' hl;split at h
    ·rename_i y hy;exact⟨_,(I7 h).2,λs2 h4=>by simp only[A9,ai,hx s2 h4,hi s2 h4,h1,h2,h3,hl,hy]⟩
    ·cases h
   ·cases h
  ·cases h
 |index t x i=>
  have hx:=λs2 h2=>bc (x:=x) (by simp[ai,Ez]) s2 h2;have hi:=λs2 h2=>bc (x:=i) (by simp[ai,Ez]) s2 h2;simp only[A9,ai]at h;split at h
  ·rename_i h1 h2 h3;split at h
   ·rename_i y hy;exact⟨_,(I7 h).2,λs2 h4=>by simp only[A9,ai,hx s2 h4,hi s2 h4,h1,h2,h3,hy]⟩
   ·cases h
  ·cases h
 |load t x=>
  have hx:=λs2 h2=>bc (x:=x) (by simp[ai,Ez]) s2 h2;simp only[A9,ai]at h;split at h
  ·cases h
  ·rename_i u fa;split at h
   ·rename_i u' y off fW;split at h
    ·rename_i y' hy;refine⟨_,(I7 h).2,λs2 h4=>?_⟩;simp only[A9,ai,hx s2 h4,fW,fa,hy]
    ·cases h
   ·cases h
  ·rename_i u pl fa;split at h
   ·rename_i u' y off fW;split at h
    ·rename_i y' hy;refine⟨_,(I7 h).2,λs2 h4=>?_⟩;simp only[A9,ai,hx s2 h4,fW,fa,hy]
    ·rename_i dk;split at h
     ·rename_i z hz;refine⟨_,(I7 h).2,λs2 h4=>?_⟩;simp only[A9,ai,hx s2 h4,fW,fa]
      revert dk
      generalize (bif Ey off 0 then P8 E.U u u' [y]else none)=AL;intro dk;cases AL with
      |none=>simp only[hz]
      |some l=>
       cases l with
       |nil=>simp only[hz]
       |cons y0 r=>
        cases r with
        |nil=>exact absurd rfl (dk y0)
        |cons y1 r=>simp only[hz]
     ·cases h
   ·rename_i d off fW;split at h
    ·rename_i ls bD;obtain⟨bJ,h⟩:=A8 h;split at h
     ·rename_i z hz;refine⟨_,(I7 h).2,λs2 h4=>?_⟩;simp only[A9,ai,hx s2 h4,fW,fa,h4.bx d _ bD,bJ,Eg,hz]
     ·cases h
    ·cases h
   ·cases h
  ·rename_i fa AM rK;split at h
   ·rename_i u y off fW;split at h
    ·rename_i l hl;refine⟨_,(I7 h).2,λs2 h4=>?_⟩;simp only[A9,ai,hx s2 h4,fW,hl]
    ·cases h
   ·rename_i d off fW;split at h
    ·rename_i ls bD;obtain⟨bJ,h⟩:=A8 h;split at h
     ·rename_i l hl;refine⟨_,(I7 h).2,λs2 h4=>?_⟩;simp only[A9,ai,hx s2 h4,fW,h4.bx d _ bD,bJ,Eg,hl]
     ·cases h
    ·cases h
   ·cases h
 |nilCheck x=>
  have hx:=λs2 h2=>bc (x:=x) (by simp[ai,Ez]) s2 h2;simp only[A9,ai]at h;split at h
  ·rename_i u y off fW;exact⟨_,(I7 h).2,λs2 h4=>by simp only[A9,ai,hx s2 h4,fW]⟩
  ·rename_i d off fW;obtain⟨bJ,h⟩:=A8 h;exact⟨_,(I7 h).2,λs2 h4=>by simp only[A9,ai,hx s2 h4,fW,bJ,Eg]⟩
  ·cases h
 |build t ps=>
  have kq:mbO E o.dst=false:=by simpa [R8,ai]using hp
  simp only[A9,ai,kq,Eh]at h;split at h
  ·rename_i u pl fa;split at h
   ·rename_i zs dx;split at h
    ·rename_i ls bD;split at h
     ·rename_i x hx;refine⟨_,(I7 h).2,λs2 h4=>?_⟩;have h3:=C46 (E:=E) (cl:=Leaf.close) h4 pl ps.toList zs (λp hp=>by rw[ai];simp only[Ez];simp;exact⟨p.1,by simpa using hp⟩);simp only[A9,ai,kq,Eh,fa,dx,h3,bD,hx]
     ·cases h
    ·cases h
   ·cases h
  ·cases h
 |fieldAddr t x i=>
  have hx:=λs2 h2=>bc (x:=x) (by simp[ai,Ez]) s2 h2;simp only[A9,ai]at h;split at h
  ·rename_i v pl u y off fa fW;split at h
   ·rename_i o1 n1 jy;obtain⟨hg,h⟩:=A8 h;exact⟨_,(I7 h).2,λs2 h4=>by simp only[A9,ai,hx s2 h4,fa,fW,jy,hg,Eg]⟩
   ·cases h
  ·rename_i v pl d off fa fW;split at h
   ·rename_i o1 n1 jy;obtain⟨hg,h⟩:=A8 h;exact⟨_,(I7 h).2,λs2 h4=>by simp only[A9,ai,hx s2 h4,fa,fW,jy,hg,Eg]⟩
   ·cases h
  ·cases h
 |slice t x lo hi mx=>
  have hx:=λs2 h2=>bc (x:=x) (by simp[ai,Ez]) s2 h2;have fy:∀s2,Sees o s s2->∀d,W8 E s2 d lo=W8 E s d lo:=λs2 h2 d=>B9r h2 (λy hy=>by subst hy;simp[ai,Ez]);have kK:∀s2,Sees o s s2->∀d,W8 E s2 d hi=W8 E s d hi:=λs2 h2 d=>B9r h2 (λy hy=>by subst hy;simp[ai,Ez]);simp only[A9,ai]at h;split at h
  ·rename_i b h1 h2;split at h
   ·rename_i h3 h4;split at h
    ·rename_i r0 hr;exact⟨_,(I7 h).2,λs2 h6=>by simp only[A9,ai,hx s2 h6,fy s2 h6,kK s2 h6,h1,h2,h3,h4,hr]⟩
    ·cases h
   ·cases h
  ·rename_i h1 h2;split at h
   ·rename_i l' hl;split at h
    ·rename_i h3 h4;split at h
     ·rename_i r0 hr;exact⟨_,(I7 h).2,λs2 h6=>by simp only[A9,ai,hx s2 h6,fy s2 h6,kK s2 h6,h1,h2,hl,h3,h4,hr]⟩
     ·cases h
    ·rename_i m h3 h4;have hm:∀s2,Sees o s s2->∀ty,opl E s2 ty m=opl E s ty m:=λs2 h2=>bc (x:=m) (by simp[ai,Ez]) s2 h2;split at h
     ·rename_i h7;obtain⟨hg,h⟩:=A8 h;split at h
      ·rename_i r0 hr;exact⟨_,(I7 h).2,λs2 h6=>by simp only[A9,ai,hx s2 h6,fy s2 h6,kK s2 h6,hm s2 h6,h1,h2,hl,h3,h4,h7,hg,Eg,hr]⟩
      ·cases h
     ·cases h
    ·cases h
   ·cases h
  ·cases h
 |call c=>
  simp only[A9,ai]at h;simp only[R8,ai]at hp;split at hp
  ·rename_i f aA;exact absurd aA (mR c f ai)
  ·rename_i aA;rw[aA]at h;dsimp only at h;generalize eK:c.argTypes.toList=dS at h;generalize aD:c.args.toList=args at h;unfold A2b at h;split at h<;>first|cases h;done|(rename_i hb;cases hb;done)|skip
   ·rename_i t x hb;have hx:=λs2 h2=>bc (x:=x) (by simp[ai,Ez,Gm,aA,aD]) s2 h2;split at h
    ·rename_i h1 h2;exact⟨_,(I7 h).2,λs2 h6=>by simp only[A9,ai,aA,eK,aD,A2b,hx s2 h6,h1,h2]⟩
    ·rename_i h1 h2;exact⟨_,(I7 h).2,λs2 h6=>by simp only[A9,ai,aA,eK,aD,A2b,hx s2 h6,h1,h2]⟩
    ·cases h
  ·rename_i aA;rw[aA]at h;dsimp only at h;generalize eK:c.argTypes.toList=dS at h;generalize aD:c.args.toList=args at h;unfold A2b at h;split at h<;>first|cases h;done|(rename_i hb;cases hb;done)|skip
   ·rename_i x y hb;have hx:=λs2 h2=>bc (x:=x) (by simp[ai,Ez,Gm,aA,aD]) s2 h2;have hy:=λs2 h2=>bc (x:=y) (by simp[ai,Ez,Gm,aA,aD]) s2 h2;split at h
    ·rename_i h1 h2;exact⟨_,(I7 h).2,λs2 h6=>by simp only[A9,ai,aA,eK,aD,A2b,hx s2 h6,hy s2 h6,h1,h2]⟩
    ·cases h
  ·rename_i aA;rw[aA]at h;dsimp only at h;generalize eK:c.argTypes.toList=dS at h;generalize aD:c.args.toList=args at h;unfold A2b at h;split at h<;>first|cases h;done|(rename_i hb;cases hb;done)|skip
   ·rename_i x y hb;have hx:=λs2 h2=>bc (x:=x) (by simp[ai,Ez,Gm,aA,aD]) s2 h2;have hy:=λs2 h2=>bc (x:=y) (by simp[ai,Ez,Gm,aA,aD]) s2 h2;split at h
    ·rename_i h1 h2;exact⟨_,(I7 h).2,λs2 h6=>by simp only[A9,ai,aA,eK,aD,A2b,hx s2 h6,hy s2 h6,h1,h2]⟩
    ·cases h
  ·cases hp
 |_=>simp only[R8,ai]at hp;cases hp
def B8A{s2:St Ty den}(h:Sees o s s2):T0 E o s2=T0 E o s:=by
 cases ai:o.op with
 |indexAddr t x i=>simp only[T0,ai,h.opl (E:=E) (x:=x) (by simp[ai,Ez])]
 |slice t x lo hi mx=>simp only[T0,ai,h.opl (E:=E) (x:=x) (by simp[ai,Ez])]
 |call c=>
  simp only[T0,ai];cases aA:c.callee with
  |builtin b=>
   cases b<;>try rfl
   dsimp only;split
   ·rename_i t x ht hx;rw[h.opl (E:=E) (x:=x) (by simp[ai,Ez,Gm,aA,hx])]
   ·rfl
  |value x=>cases x<;>rfl
  |_=>rfl
 |_=>simp only[T0,ai]
def D5r(hp:R8 E o=true)(di:T2 o=false)(mR:∀c f,o.op=.call c->c.callee≠ .value (.func f))(dZ:T0 E o s=true){k1:Ent Ty den->Option R}(h:I4 E o s (λe s'=>bif Ey (T7 s'.live) (T7 s.live)then k1 e else none)=some r):
  ∃e,k1 e=some r/\∀s2:St Ty den,Sees o s s2->I4 E o s2 (λe s'=>some (e,s'))=some (e,s2):=by
 have bc:∀{x:Fl},x∈o.op.operands.toList->∀s2:St Ty den,Sees o s s2->∀ty,opl E s2 ty x=opl E s ty x:=λhx s2 h2 ty=>h2.opl hx ty;cases ai:o.op with
 |assign x=>
  simp only[T2,ai]at di;simp only[T0,ai,Ew]at dZ;rw[dZ.1]at di;cases di
 |build t ps=>
  simp only[R8,ai]at hp;simp only[T0,ai]at dZ;rw[dZ]at hp;cases hp
 |buildSlice t n ps=>simp only[T2,ai]at di;cases di
 |indexAddr t x i=>
  simp only[I4,ai]at h;split at h
  ·rename_i h1 h2 h3;obtain⟨hc,h⟩:=A8 h;exact⟨_,(I7 h).2,λs2 h6=>by simp only[I4,ai,bc (x:=x) (by simp[ai,Ez]) s2 h6,bc (x:=i) (by simp[ai,Ez]) s2 h6,h1,h2,h3,hc,Eg]⟩
  ·cases h
 |load t x=>
  simp only[I4,ai]at h;split at h
  ·rename_i h1 h2;split at h
   ·rename_i hb;obtain⟨hc,h⟩:=A8 h;exact⟨_,(I7 h).2,λs2 h6=>by simp only[I4,ai,bc (x:=x) (by simp[ai,Ez]) s2 h6,h1,h2,h6.bx _ _ hb,hc,Eg]⟩
   ·cases h
  ·cases h
 |slice t x lo hi mx=>
  match lo,hi,mx,ai with
  |none,some y,none,ai=>
   simp only[I4,ai]at h;split at h
   ·rename_i h1 h2 h3;obtain⟨hc,h⟩:=A8 h;exact⟨_,(I7 h).2,λs2 h6=>by simp only[I4,ai,bc (x:=x) (by simp[ai,Ez]) s2 h6,bc (x:=y) (by simp[ai,Ez]) s2 h6,h1,h2,h3,hc,Eg]⟩
   ·cases h
  |some _,_,_,ai=>simp only[I4,ai]at h;cases h
  |none,none,_,ai=>simp only[I4,ai]at h;cases h
  |none,some _,some _,ai=>simp only[I4,ai]at h;cases h
 |call c=>
  simp only[I4,ai]at h;split at h
  ·rename_i t x aA dX aD;split at h
   ·rename_i h1 h2;exact⟨_,(I7 h).2,λs2 h6=>by simp only[I4,ai,aA,dX,aD,bc (x:=x) (by simp[ai,Ez,Gm,aA,aD]) s2 h6,h1,h2]⟩
   ·rename_i h1 h2;exact⟨_,(I7 h).2,λs2 h6=>by simp only[I4,ai,aA,dX,aD,bc (x:=x) (by simp[ai,Ez,Gm,aA,aD]) s2 h6,h1,h2]⟩
   ·cases h
  ·rename_i aA _ _;simp only[R8,ai,aA]at hp;cases hp
  ·rename_i aA;exact absurd aA (mR c _ ai)
  ·cases h
 |_=>simp only[I4,ai]at h;cases h
def C6U(hp:R8 E o=true)(di:T2 o=false)(mR:∀c f,o.op=.call c->c.callee≠ .value (.func f)){k1:Ent Ty den->Option R}(h:O1 E o s (λe s'=>bif Ey (T7 s'.live) (T7 s.live)then k1 e else none)=some r):
  ∃e,k1 e=some r/\∀s2:St Ty den,Sees o s s2->O1 E o s2 (λe s'=>some (e,s'))=some (e,s2):=by
 unfold O1 at h;cases hc:E.rw&&T0 E o s with
 |false=>
  rw[hc]at h;obtain⟨e,h1,h2⟩:=D6C hp di mR h;exact⟨e,h1,λs2 h3=>by unfold O1;rw[B8A h3,hc];exact h2 s2 h3⟩
 |true=>
  rw[hc]at h;obtain⟨e,h1,h2⟩:=D5r hp di mR (by rw[Ew]at hc;exact hc.2) h;exact⟨e,h1,λs2 h3=>by unfold O1;rw[B8A h3,hc];exact h2 s2 h3⟩
def C4a(E:Env Ty den)(o:Oper)(s2:St Ty den)(e:Ent Ty den):Prop:=
 O1 E o s2 (λe s'=>some (e,s'))=some (e,s2)\/
  (T2 o=true/\∃(u:Ty)(xs:List (den u)),e=.one (.sl u xs none)/\A9 E o s2 (λe s'=>some (e,s'))=some (.one (.sl u xs (some (C4 o.dst))),s2.fresh (C4 o.dst)))\/
  ∃c f,o.op=.call c/\c.callee=.value (.func f)/\A3F E f c.argTypes.toList c.args.toList s2=some e
def C3I{s2:St Ty den}(h:Sees o s s2):∀(ds:DX)(cs:List (List (Leaf Ty den))),A1V s ds=some cs->A1V s2 ds=some cs
 |[],cs,hc=>hc
 |d::ds,cs,hc=>by
  simp only[A1V]at hc;split at hc
  ·rename_i ls gZ h1 h2;simp only[A1V,h.bx d ls h1,C3I h ds gZ h2];exact hc
  ·cases hc
def D0m{c:Call}{f:Fq}{e:Ent Ty den}(ai:o.op=.call c){s2:St Ty den}(h:Sees o s s2)(he:A3F E f c.argTypes.toList c.args.toList s=some e):A3F E f c.argTypes.toList c.args.toList s2=some e:=by
 have aD:S1 E s2 c.argTypes.toList c.args.toList=S1 E s c.argTypes.toList c.args.toList:=h.args ai _ _ (λx hx=>hx);unfold A3F at he ⊢;dsimp only at he ⊢;rw[aD];split at he
 ·exact he
 ·rename_i ps kt;split at he
  ·rename_i ds kJ;obtain⟨hn,he⟩:=A8 he;rw[hn,Eg];split at he
   ·rename_i cs cE;rw[C3I h ds cs cE];exact he
   ·cases he
  ·cases he
def C1b{s2:St Ty den}(h:Sees o s s2)(ty:Fb):∀(ps:List (Nat×Fl))(i:Nat),(∀p∈ps,p.2∈o.op.operands.toList)->A29 E s2 ty i ps=A29 E s ty i ps
 |[],i,_=>rfl
 |(j,x)::ps,i,cS=>by
  simp only[A29];rw[C1b h ty ps (i+1) (λp hp=>cS p (by simp[hp])),h.opl (cS (j,x) Eo)]
def C0t{s2:St Ty den}(h:Sees o s s2)(e:Fb)(u:Ty):∀(ps:List (Nat×Fl))(i:Nat),(∀p∈ps,p.2∈o.op.operands.toList)->A3Y E e u s2 i ps=A3Y E e u s i ps
 |[],i,_=>rfl
 |(j,x)::ps,i,cS=>by
  simp only[A3Y,A9z];rw[C0t h e u ps (i+1) (λp hp=>cS p (by simp[hp])),h.opl (cS (j,x) Eo)]
def D1B(hp:R8 E o=true){k1:Ent Ty den->Option R}(h:A34 E o s k1=some r):
  ∃e,k1 e=some r/\∀s2:St Ty den,Sees o s s2->C4a E o s2 e:=by
 by_cases hb:∃t n ps,o.op=.buildSlice t n ps
 ·obtain⟨t,n,ps,ai⟩:=hb;have kD:T2 o=true:=by simp only[T2,ai]
  simp only[A34,ai,A9]at h;split at h
  ·rename_i u e fa;split at h
   ·rename_i u2 oJ;split at h
    ·rename_i xs jx;obtain⟨hg,h⟩:=A8 h;refine⟨_,h,λs2 h2=>.inr (.inl ⟨kD,u,xs,rfl,?_⟩)⟩;have h3:=C0t (E:=E) h2 e u ps.toList 0 (λp hp=>by rw[ai];simp only[Ez];simp;exact⟨p.1,by simpa using hp⟩);simp only[A9,ai,fa,oJ,h3,jx,hg,Eg]
    ·cases h
   ·rename_i oJ;split at h
    ·rename_i ls bD;split at h
     ·rename_i xs jx;obtain⟨hg,h⟩:=A8 h;refine⟨_,h,λs2 h2=>.inr (.inl ⟨kD,u,xs,rfl,?_⟩)⟩;have h3:=C1b (E:=E) h2 e ps.toList 0 (λp hp=>by rw[ai];simp only[Ez];simp;exact⟨p.1,by simpa using hp⟩);simp only[A9,ai,fa,h3,bD,jx,hg,Eg]
     ·cases h
    ·cases h
  ·cases h
 by_cases eg:∃x,o.op=.assign x/\A0c x=true
 ·obtain⟨x,ai,bv⟩:=eg;simp only[A34,ai,bv,Eg]at h;split at h
  ·rename_i u l own hl;refine⟨_,h,λs2 h2=>.inr (.inl ⟨by simp only[T2,ai,bv],u,l,rfl,?_⟩)⟩;simp only[A9,ai,bv,Eg,h2.opl (E:=E) (x:=x) (by simp[ai,Ez]),hl]
  ·cases h
 by_cases yr:∃c f,o.op=.call c/\c.callee=.value (.func f)
 ·obtain⟨c,f,ai,aA⟩:=yr;simp only[A34,ai,aA]at h;obtain⟨e,he,h⟩:=C2g E h;exact⟨e,h,λs2 h2=>.inr (.inr ⟨c,f,ai,aA,D0m ai h2 he⟩)⟩
 ·have di:T2 o=false:=by
   unfold T2;split
   ·rename_i t n ps ai;exact absurd ⟨t,n,ps,ai⟩ hb
   ·rename_i x ai;cases hn:A0c x with
    |false=>rfl
    |true=>exact absurd ⟨x,ai,hn⟩ eg
   ·rfl
  have mR:∀c f,o.op=.call c->c.callee≠ .value (.func f):=λc f h1 h2=>yr ⟨c,f,h1,h2⟩;have h':O1 E o s (λe s'=>bif Ey (T7 s'.live) (T7 s.live)then k1 e else none)=some r:=by
   unfold A34 at h;split at h
   ·rename_i cb;simp only[T2,cb]at di;cases di
   ·rename_i x cb;have:A0c x=false:=by simpa only[T2,cb]using di
    rw[this]at h;exact h
   ·rename_i c cb;split at h
    ·rename_i f aA;exact absurd aA (mR _ _ cb)
    ·exact h
   ·exact h
  obtain⟨e,h1,h2⟩:=C6U hp di mR h';exact⟨e,h1,λs2 h3=>.inl (h2 s2 h3)⟩
def D7B(d:Nat)(e:Ent Ty den)(h:e.has d=false):e.strip d=e:=by
 have hl:∀l:Leaf Ty den,l.has d=false->l.strip d=l:=by
  intro l hl;cases l with
  |sl t x o=>
   cases o with
   |none=>rfl
   |some c=>simp only[Leaf.has]at hl;simp only[Leaf.strip,hl,Eh]
  |ptr e o=>simp only[Leaf.has]at hl;simp only[Leaf.strip,hl,Eh]
  |_=>rfl
 cases e with
 |one l=>simp only[Ent.strip,hl l h]
 |tup ls=>
  simp only[Ent.strip]
  congr 1
  simp only[Ent.has,Je]at h
  conv=>rhs;rw[<-If ls]
  exact Ig λl hm=>hl l (by simpa using h l hm)
 |iter c p=>rfl
 |st ls=>
  simp only[Ent.strip]
  congr 1
  simp only[Ent.has,Je]at h
  conv=>rhs;rw[<-If ls]
  exact Ig λl hm=>hl l (by simpa using h l hm)
 |bx d' ls=>
  simp only[Ent.has]at h;simp only[Ent.strip];cases hb:Ey d' d with
  |true=>rw[hb]at h;cases h
  |false=>
   rw[hb]at h;simp only[Eh,Je]at h ⊢
   congr 1
   conv=>rhs;rw[<-If ls]
   exact Ig λl hm=>hl l (by simpa using h l hm)
def B3Y(d:Nat):∀(fr:List (Nat×Ent Ty den)),A1J d fr=false->∀i,(look fr i).strip d=look fr i
 |[],_,i=>rfl
 |(j,e)::r,h,i=>by
  simp only[A1J]at h;cases he:e.has d with
  |true=>rw[he]at h;cases h
  |false=>
   rw[he]at h;simp only[look];cases Ey j i with
   |true=>exact D7B d e he
   |false=>exact B3Y d r h i
def B0I{s:St Ty den}:∀{os:List Oper},A3d s os=true->∀o∈os,T2 o=true->∀i,(s.get i).strip (C4 o.dst)=s.get i
 |[],_,o,ho=>by cases ho
 |x::os,h,o,ho=>by
  intro kD i;simp only[A3d]at h;rcases Fc.1 ho with rfl|ho
  ·rw[kD]at h;simp only[Eg,Ew,Fu]at h;exact B3Y _ _ h.1 i
  ·cases hx:T2 x with
   |true=>rw[hx]at h;simp only[Eg,Ew]at h;exact B0I h.2 o ho kD i
   |false=>rw[hx]at h;exact B0I h o ho kD i
def C6t(fr:List (Nat×Ent Ty den))(ds:DX)(i:Nat):look (del fr ds) i=bif mem i ds then .one .any else look fr i:=by
 induction fr with
 |nil=>simp only[del,look];cases mem i ds<;>rfl
 |cons p fr ih=>
  obtain⟨j,x⟩:=p;simp only[del,look];cases hj:mem j ds with
  |true=>
   simp only[Eg];rw[ih];cases hb:Ey j i with
   |true=>
    have:=Fw hb;subst this;rw[hj];rfl
   |false=>rfl
  |false=>
   simp only[Eh,look];cases hb:Ey j i with
   |true=>
    have:=Fw hb;subst this;rw[hj];rfl
   |false=>simp only[Eh];exact ih
def A0t(s:St Ty den)(ds:DX)(i:Nat):(s.dels ds).get i=bif mem i ds then .one .any else s.get i:=C6t s.fr ds i
def V5(s:St Ty den)(d:Ed)(e:Ent Ty den)(i:Nat):(s.setO d e).get i=if d=some i then e else s.get i:=by
 cases d with
 |none=>rfl
 |some j=>simp only[St.setO,G8,Fi]
def Gd(ops:Array Oper)(s:St Ty den)(o:Oper)(w:Bool):Prop:=
 match o.guard with
 |none=>w=true
 |some (j,aY)=>∃g,(ops[j]?).bind (·.dst)=some g/\((∃b,s.get g=.one (.bool b)/\w=(b==aY))\/(w=false/\∃v,s.get g=.one (.val v)/\A4N v=true))
structure Ran(E:Env Ty den)(ops:Array Oper)(s:St Ty den)(o:Oper):Prop where
 dst:okd E.np E.nt o.dst=true
 ran:(R2 o.op=false/\((Gd ops s o true/\∃e,(∀d,o.dst=some d->s.get d=e)/\∀s2:St Ty den,Sees o s s2->C4a E o s2 e)\/
  (Gd ops s o false/\∀d,o.dst=some d->s.get d=.one (.val undef))))\/(R2 o.op=true/\o.guard=none)
def A77(h:R8 E o=true):R2 o.op=false:=by
 unfold R8 at h;unfold R2;split
 ·rename_i t he;rw[he]at h;cases h
 ·rfl
def E4:List Oper->DX
 |[]=>[]
 |o::r=>match o.dst with
  |some d=>d::E4 r
  |none=>E4 r
def B63(ops:Array Oper):List Oper->Prop
 |[]=>True
 |o::r=>(∀t∈o.looksAt ops,mem t (E4 (o::r))=false)/\(∀d,o.dst=some d->mem d (E4 r)=false)/\B63 ops r
def C5v{s:St Ty den}{d:Ed}{e:Ent Ty den}{i:Nat}(h:d≠some i):(s.setO d e).get i=s.get i:=by rw[V5,Ek h]
def A7Q{o:Oper}{r:List Oper}{d:Nat}(h:o.dst=some d):mem d (E4 (o::r))=true:=by
 simp only[E4,h,mem,H5,Eg]
def A9e{o:Oper}{r:List Oper}{d:Nat}(h:mem d (E4 r)=true):mem d (E4 (o::r))=true:=by
 simp only[E4];cases o.dst with
 |none=>exact h
 |some e=>simp only[mem];cases Ey e d<;>simp[h]
def A1t(s:St Ty den)(d:Ed)(e:Ent Ty den):(s.setO d e).live=s.live:=by cases d<;>rfl
def C2x{ops:Array Oper}{o:Oper}{t:Nat}(h:Jt t∈o.op.operands.toList):t∈o.looksAt ops:=
 Ie _ (List.mem_filterMap.2 ⟨.tmp t,h,rfl⟩)
def C2l{ops:Array Oper}{o:Oper}{j g:Nat}{aY:Bool}(hg:o.guard=some (j,aY))(hd:(ops[j]?).bind (·.dst)=some g):g∈o.looksAt ops:=
 Ja _ (by simp[hg,hd])
def B7T{os:List Oper}{i:Nat}(h:mem i (E4 os)=true):∃o∈os,o.dst=some i:=by
 induction os with
 |nil=>cases h
 |cons o os ih=>
  simp only[E4]at h;split at h
  ·rename_i d hd;rw[mem_cons]at h;rcases h with rfl|h
   ·exact⟨o,Eo,hd⟩
   ·obtain⟨x,hx,lj⟩:=ih h;exact⟨x,by simp[hx],lj⟩
  ·obtain⟨x,hx,lj⟩:=ih h;exact⟨x,by simp[hx],lj⟩
def B0y{s s2:St Ty den}{d:Nat}(h:s2.get (bxi d)=s.get (bxi d)):L8 s2 d=L8 s d:=by unfold L8;rw[h]
def B5M(ops:Array Oper){pre:List Oper}(mS:pre=ops.toList.take (P1 E ops.toList))(lk:∀o∈pre,A1x E o=true)(bJ:∀o∈pre,∀d,o.dst=some d->d<1000000):∀(os:List Oper)(s:St Ty den)(k:St Ty den->Option R),(∀o∈os,o∈pre)->B63 ops os->Z4 E ops os s k=some r->
  ∃sF:St Ty den,(k sF=some r/\A3d sF pre=true)/\sF.live=s.live/\(∀i,mem i (E4 os)=false->sF.get i=s.get i)/\∀o∈os,Ran E ops sF o
 |[],s,k,_,_,h=>by
  simp only[Z4]at h;obtain⟨hn,h⟩:=A8 h;exact⟨s,⟨h,by rw[mS];exact hn⟩,rfl,λ_ _=>rfl,λ_ ho=>by(cases ho)⟩
 |o::os,s,k,cS,⟨iP,iU,mT⟩,h=>by
  simp only[Z4]at h;obtain⟨hd,h⟩:=A8 h;have lm:=λ(s1:St Ty den)(h1:Z4 E ops os s1 k=some r)=>B5M ops mS lk bJ os s1 k (λx hx=>cS x (by simp[hx])) mT h1;have pc:∀(s1 sF:St Ty den)(e:Ent Ty den),s1.live=s.live->(∀i,s1.get i=s.get i)->sF.live=(s1.setO o.dst e).live->(∀i,mem i (E4 os)=false->sF.get i=(s1.setO o.dst e).get i)->
    sF.live=s.live/\(∀i,mem i (E4 (o::os))=false->sF.get i=s.get i)/\(∀d,o.dst=some d->sF.get d=e):=by
   intro s1 sF e hl hg AN yu;refine⟨by rw[AN,A1t,hl],λi hi=>?_,λd dV=>?_⟩
   ·have h1:mem i (E4 os)=false:=by
     cases h2:mem i (E4 os)with
     |false=>rfl
     |true=>rw[A9e h2]at hi;cases hi
    have h2:o.dst≠some i:=λhe=>by rw[A7Q he]at hi;cases hi
    rw[yu i h1,C5v h2,hg]
   ·rw[yu d (iU d dV),V5,El dV]
  have vn:∀{sF:St Ty den},sF.live=s.live->(∀i,mem i (E4 (o::os))=false->sF.get i=s.get i)->∀s2,Sees o sF s2->Sees o s s2:=λhl hg s2 h2=>
   ⟨λt ht=>(h2.tmp t ht).trans (hg t (iP t (C2x ht))),λd ls bD=>h2.bx d ls ((B0y (hg (bxi d) (by
    cases hm:mem (bxi d) (E4 (o::os))with
    |false=>rfl
    |true=>
     obtain⟨x,hx,lj⟩:=B7T hm;have:=bJ x (cS x hx) _ lj;exact absurd this (by show¬((1000000+d:Nat)<1000000);omega)))).trans bD)⟩
  have da:∀(s1:St Ty den),s1.live=s.live->(∀i,s1.get i=s.get i)->R8 E o=true->A34 E o s (λe=>Z4 E ops os (s1.setO o.dst e) k)=some r->(∀sF:St Ty den,sF.live=s.live->(∀i,mem i (E4 (o::os))=false->sF.get i=s.get i)->Gd ops sF o true)->
    ∃sF:St Ty den,(k sF=some r/\A3d sF pre=true)/\sF.live=s.live/\(∀i,mem i (E4 (o::os))=false->sF.get i=s.get i)/\∀x∈o::os,Ran E ops sF x:=by
   intro s1 hl hg mr he kA;obtain⟨e,hk,eU⟩:=D1B mr (k1:=λe=>Z4 E ops os (s1.setO o.dst e) k) he;obtain⟨sF,h1,h2,h3,h4⟩:=lm _ hk;obtain⟨b1,b2,b3⟩:=pc s1 sF e hl hg h2 h3;refine⟨sF,h1,b1,b2,λx hx=>?_⟩;rcases Fc.1 hx with rfl|hx
   ·exact⟨hd,.inl ⟨A77 mr,.inl ⟨kA sF b1 b2,e,b3,λs2 h5=>eU s2 (vn b1 b2 s2 h5)⟩⟩⟩
   ·exact h4 x hx
  have skip:∀(s1:St Ty den),s1.live=s.live->(∀i,s1.get i=s.get i)->R8 E o=true->Z4 E ops os (s1.setO o.dst (.one (.val undef))) k=some r->(∀sF:St Ty den,sF.live=s.live->(∀i,mem i (E4 (o::os))=false->sF.get i=s.get i)->Gd ops sF o false)->
    ∃sF:St Ty den,(k sF=some r/\A3d sF pre=true)/\sF.live=s.live/\(∀i,mem i (E4 (o::os))=false->sF.get i=s.get i)/\∀x∈o::os,Ran E ops sF x:=by
   intro s1 hl hg mr he kA;obtain⟨sF,h1,h2,h3,h4⟩:=lm _ he;obtain⟨b1,b2,b3⟩:=pc s1 sF _ hl hg h2 h3;refine⟨sF,h1,b1,b2,λx hx=>?_⟩;rcases Fc.1 hx with rfl|hx
   ·exact⟨hd,.inl ⟨A77 mr,.inr ⟨kA sF b1 b2,b3⟩⟩⟩
   ·exact h4 x hx
  cases hg:o.guard with
  |none=>
   rw[hg]at h;dsimp only at h;have dY:=lk o (cS o Eo);cases fg:R2 o.op with
   |true=>
    rw[fg]at h;obtain⟨sF,h1,h2,h3,h4⟩:=lm _ h;obtain⟨b1,b2,b3⟩:=pc s sF _ rfl (λ_=>rfl) h2 h3;refine⟨sF,h1,b1,b2,λx hx=>?_⟩;rcases Fc.1 hx with rfl|hx
    ·exact⟨hd,.inr ⟨fg,hg⟩⟩
    ·exact h4 x hx
   |false=>
    rw[fg]at h;have mr:R8 E o=true:=by simpa [A1x,A6U,fg]using dY
    exact da s rfl (λ_=>rfl) mr h (λsF _ _=>by simp[Gd,hg])
  |some jw=>
   obtain⟨j,aY⟩:=jw;rw[hg]at h;dsimp only at h;cases hj:(ops[j]?).bind (·.dst)with
   |none=>rw[hj]at h;cases h
   |some gd=>
    rw[hj]at h;dsimp only at h;have fh:=iP gd (C2l hg hj);have mr:R8 E o=true:=by
     have:=lk o (cS o Eo);simpa [A1x,A6U,hg]using this
    split at h
    ·rename_i b mQ;have cP:∀c:Bool,b=c->∀i,(s.set gd (.one (.bool c))).get i=s.get i:=λc hc i=>by
      rw[G8];split
      ·rename_i he;subst he;rw[mQ,hc]
      ·rfl
     cases iS:(b==aY)with
     |true=>
      rw[iS]at h;exact da _ Et (cP aY (by simpa using iS)) mr h (λsF _ rL=>by
       simp only[Gd,hg];exact⟨gd,hj,.inl ⟨b,by rw[rL gd fh,mQ],iS.symm⟩⟩)
     |false=>
      rw[iS]at h;exact skip _ Et (cP _ (by cases b<;>cases aY<;>simp_all)) mr h (λsF _ rL=>by
       simp only[Gd,hg];exact⟨gd,hj,.inl ⟨b,by rw[rL gd fh,mQ],iS.symm⟩⟩)
    ·rename_i v rJ;obtain⟨di,h⟩:=A8 h;exact skip s rfl (λ_=>rfl) mr h (λsF _ rL=>by
       simp only[Gd,hg];exact⟨gd,hj,.inr ⟨trivial,v,by rw[rL gd fh,rJ],di⟩⟩)
    ·cases h
def I3(listed:Array Bool):List (Nat×Nat)->DX
 |[]=>[]
 |(d,j)::r=>bif listed.getD j false then I3 listed r else d::I3 listed r
def A1l{listed:Array Bool}{t:Nat}:∀{ps:List (Nat×Nat)},mem t (I3 listed ps)=true↔∃j,(t,j)∈ps/\listed.getD j false=false
 |[]=>by simp[I3,mem]
 |(d,j)::r=>by
  simp only[I3];have ih:=A1l (listed:=listed) (t:=t) (ps:=r);cases hl:listed.getD j false with
  |true=>
   simp only[Eg,ih,Fc,Fs];constructor
   ·rintro⟨m,h1,h2⟩;exact⟨m,.inr h1,h2⟩
   ·rintro⟨m,h1|h1,h2⟩
    ·rw[h1.2,hl]at h2;cases h2
    ·exact⟨m,h1,h2⟩
  |false=>
   simp only[Eh,mem_cons,ih,Fc,Fs];constructor
   ·rintro(h1|⟨m,h1,h2⟩)
    ·exact⟨j,.inl ⟨by rw[h1],rfl⟩,hl⟩
    ·exact⟨m,.inr h1,h2⟩
   ·rintro⟨m,h1|h1,h2⟩
    ·exact .inl (by rw[h1.1])
    ·exact .inr ⟨m,h1,h2⟩
def A3o{d j:Nat}:∀{os:List Oper}{i:Nat},(d,j)∈F5 i os↔i<=j/\∃o,os[j - i]?=some o/\o.dst=some d
 |[],i=>by simp[F5]
 |o::os,i=>by
  have ih:=A3o (d:=d) (j:=j) (os:=os) (i:=i+1);have pd:(i<=j/\∃x,(o::os)[j - i]?=some x/\x.dst=some d)↔((j=i/\o.dst=some d)\/(i+1<=j/\∃x,os[j - (i+1)]?=some x/\x.dst=some d)):=by
   rcases Ib j i with h|h|h
   ·constructor
    ·rintro⟨h1,_⟩;omega
    ·rintro(⟨h1,_⟩|⟨h1,_⟩)<;>omega
   ·subst h;simp;intro h;omega
   ·have e:j - i=(j - (i+1))+1:=Du
    rw[e];simp only[Kg];constructor
    ·rintro⟨_,h2⟩;exact .inr ⟨h,h2⟩
    ·rintro(⟨h1,_⟩|⟨_,h2⟩)
     ·omega
     ·exact⟨Du,h2⟩
  rw[pd];cases hd:o.dst with
  |none=>simp only[F5,hd,ih];simp
  |some e=>
   simp only[F5,hd,Fc,Fs,ih,Fi];constructor
   ·rintro(⟨h1,h2⟩|h)
    ·exact .inl ⟨h2,h1.symm⟩
    ·exact .inr h
   ·rintro(⟨h1,h2⟩|h)
    ·exact .inl ⟨h2.symm,h1⟩
    ·exact .inr h
def A8M:∀(os:List Oper)(i:Nat),(F5 i os).map (·.1)=E4 os
 |[],i=>rfl
 |o::os,i=>by
  simp only[F5,E4];cases o.dst with
  |none=>exact A8M os (i+1)
  |some d=>simp only[Kc,A8M os (i+1)]
structure A88(E:Env Ty den)(ops:Array Oper)(m:Nat)(i:Nat)(o:Oper):Prop where
 pure:A1x E o=true
 low:∀t∈o.looksAt ops,t<1000000
 after:∀e∈o.after,e.on<i\/(gcE e=true/\e.on<m/\∃o',ops[e.on]?=some o'/\∀e'∈o'.after,txE e'=true)
 bound:∀t∈o.looksAt ops,∀j,(t,j)∈F5 0 (ops.toList.take m)->A4O o j=true
def B6S{ops:Array Oper}{m:Nat}{ps:List (Nat×Nat)}(fA:ps=F5 0 (ops.toList.take m)):∀{os:List Oper}{i:Nat},A6X E ops m ps i os=true->∀j o,os[j]?=some o->A88 E ops m (i+j) o
 |[],i,_,j,o,h=>by simp at h
 |x::os,i,h,0,o,ho=>by
  simp only[A6X,Ew]at h;simp only[List.getElem?_cons_zero,Fi]at ho;subst ho;have h1:=h.1;simp only[B8e,Ew,Hv]at h1;obtain⟨h1,h2,h3⟩:=h1;refine⟨h1,λt ht=>by simpa [Fe]using (h3 t ht).1,λe he=>?_,λt ht j hj=>?_⟩
  ·have:=h2 e (by simpa using he);simp only[B9u,Ik,Ew,Fe]at this;refine this.imp id λh5=>⟨h5.1,h5.2.1,?_⟩;have h6:=h5.2.2;split at h6
   ·rename_i o' iq;exact⟨o',iq,λe' mG=>Hv.1 h6 e' (by simpa using mG)⟩
   ·cases h6
  ·have h4:=(h3 t ht).2 (t,j) (by rw[fA];exact hj);simpa [H5]using h4
 |x::os,i,h,j+1,o,ho=>by
  simp only[A6X,Ew]at h;have:=B6S fA h.2 j o (by simpa using ho);rwa [Jy,Nat.add_comm 1 j]at this
def A8r{o:Oper}{j:Nat}(h:A4O o j=true)(md:Gt):∃e∈o.after,e.on=j/\Ga md e=true:=by
 unfold A4O at h;obtain⟨e,he,h1⟩:=Hu.1 h;simp only[Ew]at h1;refine⟨e,by simpa using he,Fw h1.1,?_⟩;unfold Ga;have h2:=h1.2;split at h2<;>first|cases h2;done|skip
 split<;>first|rfl|(rename_i h3 _ _ h4;simp_all)
def A5m:∀{l:DX},V6 l=true->∀x r,l=x::r->mem x r=false/\V6 r=true
 |[],_,x,r,h=>by cases h
 |y::l,h,x,r,he=>by
  cases he;simpa [V6]using h
def B2C{ops:Array Oper}{m:Nat}(fE:∀j o,(ops.toList.take m)[j]?=some o->A88 E ops m j o):∀(os:List Oper)(i:Nat),(∀j o,os[j]?=some o->(ops.toList.take m)[i+j]?=some o)->V6 (E4 os)=true->B63 ops os
 |[],i,_,_=>trivial
 |o::os,i,cS,hn=>by
  have ho:=fE i o (cS 0 o rfl);refine⟨λt ht=>?_,λd hd=>?_,B2C fE os (i+1) (λj x hx=>by have:=cS (j+1) x (by simpa using hx);rwa [<-Jy,Nat.add_right_comm]at this) ?_⟩
  ·cases hm:mem t (E4 (o::os))with
   |false=>rfl
   |true=>
    exfalso;have fT:∀(l:List Oper),mem t (E4 l)=true->∃(j:Nat)(x:Oper),l[j]?=some x/\x.dst=some t:=by
     intro l
     induction l with
     |nil=>intro h;simp[E4,mem]at h
     |cons y l ih=>
      intro h;simp only[E4]at h;cases hy:y.dst with
      |none=>rw[hy]at h;obtain⟨j,x,h1,h2⟩:=ih h;exact⟨j+1,x,by simpa using h1,h2⟩
      |some d=>
       rw[hy]at h;rcases (mem_cons _ _ _).1 h with h1|h1
       ·exact⟨0,y,rfl,by rw[hy,h1]⟩
       ·obtain⟨j,x,h2,h3⟩:=ih h1;exact⟨j+1,x,by simpa using h2,h3⟩
    obtain⟨j,x,hx,lj⟩:=fT _ hm;have h1:=cS j x hx;have h2:=ho.bound t ht (i+j) (A3o.2 ⟨Ge _,x,by(rw[Ha];exact h1),lj⟩);obtain⟨e,he,ej,hb⟩:=A8r h2 .any;rcases ho.after e he with h3|⟨h3,_⟩
    ·omega
    ·unfold gcE at h3;unfold Ga at hb;split at h3
     ·rename_i cb;rw[cb]at hb;cases hb
     ·cases h3
  ·simp only[E4,hd]at hn;exact(A5m hn _ _ rfl).1
  ·simp only[E4]at hn;cases hd:o.dst with
   |none=>rw[hd]at hn;exact hn
   |some d=>rw[hd]at hn;exact(A5m hn _ _ rfl).2
def B0Q{l:List Bool}:∀{i:Nat},l[i]?=some false->(l.set i true).count false+1=l.count false:=by
 induction l with
 |nil=>intro i h;simp at h
 |cons x l ih=>
  intro i h;cases i with
  |zero=>simp at h;subst h;simp
  |succ i=>
   have:=ih (i:=i) (by simpa using h);simp only[List.set_cons_succ,List.count_cons];omega
def B0X{ops:Array Oper}{o:Oper}{s:St Ty den}{gh:Gh}(hr:Rel E.U B gh s a w){b:Bool}(hg:Gd ops s o b):Fy o (Gk ops a.tmps)=b:=by
 unfold Gd at hg;unfold Fy;cases ho:o.guard with
 |none=>rw[ho]at hg;exact hg.symm
 |some jw=>
  obtain⟨j,aY⟩:=jw;rw[ho]at hg;dsimp only at hg ⊢;obtain⟨gd,hj,hc⟩:=hg;have aN:=hr.ent gd;unfold Gk;rw[hj];simp only[Js];rcases hc with⟨c,hc,rfl⟩|⟨rfl,v,hv,di⟩
  ·rw[hc]at aN;have bL:a.tmps.getD gd undef=.bool c:=CRep.bool_inv aN.1;rw[Fk]at bL;cases jY:a.tmps[gd]? with
   |none=>rw[jY]at bL;cases bL
   |some u=>
    rw[jY]at bL;simp at bL;subst bL;cases c<;>cases aY<;>rfl
  ·rw[hv]at aN;have bL:a.tmps.getD gd undef=v:=by
    have h1:=aN.1;cases h1;rfl
   rw[Fk]at bL;cases jY:a.tmps[gd]? with
   |none=>rfl
   |some u=>
    rw[jY]at bL;simp at bL;subst bL;cases u<;>first|rfl|(simp[A4N]at di;done)|(cases aY<;>rfl)
def REL.unname{U:UO Ty den}{s:St Ty den}{d:Ed}{nm:Nat}{u:Ty}{xs:List (den u)}{a:Act}{w:World}(h:REL U B ((s.fresh nm).setO d (.one (.sl u xs (some nm)))) a w)(dk:∀i,(s.get i).strip nm=s.get i):
  REL U B (s.setO d (.one (.sl u xs none))) a w:=by
 obtain⟨g,h⟩:=h;have hg:∀i,d≠some i->((s.fresh nm).setO d (.one (.sl u xs (some nm)))).get i=s.get i:=λi hi=>by
  rw[V5,Ek hi,A4k,dk]
 have aG:∀e,mem e (s.setO d (.one (.sl u xs none))).live=true->mem e ((s.fresh nm).setO d (.one (.sl u xs (some nm)))).live=true:=λe he=>by
  rw[A1t]at he ⊢;show mem e (nm::rem nm s.live)=true;by_cases aC:nm=e
  ·exact(mem_cons _ _ _).2 (.inl aC)
  ·exact(mem_cons _ _ _).2 (.inr ((O7 nm e s.live).2 ⟨he,λh=>aC h.symm⟩))
 refine⟨g,{h with ent:=λi=>?_,tip:=λe he=>h.tip e (aG e he),disj:=λe f b he hf=>h.disj e f b (aG e he) (aG f hf),mine:=λe b he=>h.mine e b (aG e he),iter:=λi c pos hc=>?_,idis:=λi j c p c' p' cG h1 h2=>?_,bxl:=λi e ls hc=>?_}⟩
 ·have h1:=h.ent i;by_cases hi:d=some i
  ·rw[V5,El hi]at h1 ⊢;exact⟨h1.1.own none,λ_ _ _ e=>by(simp at e),λ_ _ e=>by(cases e)⟩
  ·rw[hg i hi]at h1;rw[V5,Ek hi];exact h1
 ·by_cases hi:d=some i
  ·rw[V5,El hi]at hc;cases hc
  ·rw[V5,Ek hi]at hc;exact h.iter i c pos (by rw[hg i hi];exact hc)
 ·by_cases hi:d=some i
  ·rw[V5,El hi]at h1;cases h1
  ·by_cases hj:d=some j
   ·rw[V5,El hj]at h2;cases h2
   ·rw[V5,Ek hi]at h1;rw[V5,Ek hj]at h2;exact h.idis i j c p c' p' cG (by rw[hg i hi];exact h1) (by rw[hg j hj];exact h2)
 ·by_cases hi:d=some i
  ·rw[V5,El hi]at hc;cases hc
  ·rw[V5,Ek hi]at hc;obtain⟨h1,h2⟩:=h.bxl i e ls (by rw[hg i hi];exact hc);refine⟨?_,h2⟩;rw[A1t]at h1 ⊢;rcases (mem_cons _ _ _).1 h1 with h3|h3
   ·exfalso;have:=dk i;rw[hc, <-h3]at this;simp only[Ent.strip,H5,Eg]at this;cases this
   ·exact((O7 nm e s.live).1 h3).1
def A2O{i:Nat}{zs:List (Leaf Ty den)}{s:St Ty den}(j:Nat):(U8 i zs s).get j=if i=j then .one (.ptr (C4 (some i)) 0)else if bxi (C4 (some i))=j then .bx (C4 (some i)) zs else(s.get j).strip (C4 (some i)):=by
 unfold U8;rw[G8,G8,A4k]
structure C8k(P:Fh)(E:Env Ty den)(ops:Array Oper)(m:Nat)(sF:St Ty den)(ia i:Nat)(t:Fb)(zs:List (Leaf Ty den)):Prop where
 op:∃o,ops.toList[ia]?=some o/\o.op=.alloc t/\o.dst=some i/\o.guard=none
 lt:ia<m
 zr:E.zr t=some zs
 pos:0<zs.length
 oz:E.oz i=false
 closed:A2c zs=true
 no:∀j,(sF.get j).strip (C4 (some i))=sF.get j
 low:i<1000000
 one:∀j o,j<m->ops.toList[j]?=some o->R2 o.op=true->j=ia
 look:∀j o,j<m->ops.toList[j]?=some o->mem i (o.looksAt ops)=false
def stL(al:Option (Nat×Nat×List (Leaf Ty den)))(listed:Array Bool)(X:St Ty den):St Ty den:=match al with
 |none=>X
 |some (ia,i,zs)=>bif listed.getD ia false then U8 i zs X else X
def C3v(P:Fh)(E:Env Ty den)(ops:Array Oper)(m:Nat)(sF:St Ty den)(al:Option (Nat×Nat×List (Leaf Ty den))):Prop:=match al with
 |none=>∀j o,j<m->ops.toList[j]?=some o->R2 o.op=false
 |some (ia,i,zs)=>∃t,C8k P E ops m sF ia i t zs
def D1G{e:Edge}(h:A9O e=true)(md:Gt):Ga md e=true:=by
 unfold A9O at h;unfold Ga;split at h<;>first|cases h;done|skip
 split<;>first|rfl|(rename_i h3 _ _ h4;simp_all)
def DC(md:Gt)(ops:Array Oper)(listed:Array Bool):Prop:=∀i o,listed.getD i false=true->ops[i]?=some o->∀e∈o.after,Ga md e=true->listed.getD e.on false=true
def B2S{md:Gt}{listed:Array Bool}(cl:List DX)(cq:∀(k:Nat) c,cl[k]?=some c->listed.getD k false=true->∀j,mem j c=true->listed.getD j false=true):
  ∀(es:List Edge),(∀e∈es,Ga md e=true->listed.getD e.on false=true)->∀j,mem j (A57 cl es)=true->listed.getD j false=true
 |[],_,j,h=>by cases h
 |e::es,he,j,h=>by
  have ih:=B2S cl cq es (λe' h'=>he e' (by simp[h']));simp only[A57]at h;cases hb:A9O e with
  |false=>rw[hb]at h;exact ih j h
  |true=>
   rw[hb]at h;simp only[Eg]at h;have h1:=he e Eo (D1G hb md);rcases (mem_cons _ _ _).1 h with rfl|h
   ·exact h1
   ·have pe:∀(x y:DX),mem j (x++y)=true->mem j x=true\/mem j y=true:=by
     intro x y
     induction x with
     |nil=>exact λh=>.inr h
     |cons z x rM=>
      intro h;rcases (mem_cons _ _ _).1 h with rfl|h
      ·exact .inl ((mem_cons _ _ _).2 (.inl rfl))
      ·exact(rM h).imp (λh=>(mem_cons _ _ _).2 (.inr h)) id
    rcases pe _ _ h with h|h
    ·cases hg:cl[e.on]? with
     |none=>rw[Hc,hg]at h;cases h
     |some c=>
      rw[Hc,hg]at h;exact cq e.on c hg h1 j h
    ·exact ih j h
def C3j{fl l:DX}:∀{n:Nat},A9x fl n l=true->∀j,j<n->mem j fl=false->mem j l=true
 |0,_,j,h,_=>Du
 |n+1,h,j,hj,hf=>by
  simp only[A9x,Ew,Ik]at h;by_cases yv:j=n
  ·subst yv;rcases h.1 with h|h
   ·exact h
   ·rw[hf]at h;cases h
  ·exact C3j h.2 j Du hf
def C08{md:Gt}{ops:Array Oper}{m:Nat}{fl:DX}:∀(os:List Oper)(i:Nat)(cl:List DX),cl.length=i->(∀j o,os[j]?=some o->ops.toList[i+j]?=some o)->A9G fl m i os cl=true->
  (∀(listed:Array Bool),DC md ops listed->∀(k:Nat) c,cl[k]?=some c->listed.getD k false=true->∀j,mem j c=true->listed.getD j false=true)->
  ∀(k:Nat) o,os[k]?=some o->(∀e∈o.after,e.on<i+k\/e.on<m)/\(m<=i+k->∀listed:Array Bool,DC md ops listed->(∀e∈o.after,Ga md e=true->listed.getD e.on false=true)->∀j,j<i+k->mem j fl=false->listed.getD j false=true)
 |[],i,cl,_,_,_,_,k,o,h=>by simp at h
 |x::os,i,cl,hl,cS,ht,cq,k,o,h=>by
  simp only[A9G,Ew,Hv]at ht;obtain⟨h1,h2,h3⟩:=ht;cases k with
  |zero=>
   simp at h;subst h;refine⟨λe he=>by have:=h1 e (by simpa using he);simp only[Ik,Ew,Fe]at this;exact this.imp id (·.2),λhm listed lr fg j hj vo=>?_⟩;simp only[Jx]at hm hj;have hb:Hp i m=false:=by
    cases hb:Hp i m with
    |false=>rfl
    |true=>
     have:i<m:=by simpa [Fe]using hb
     omega
   rw[hb]at h2;simp only[Jl]at h2;exact B2S cl (cq listed lr) _ (λe he=>fg e (by simpa using he)) j (C3j h2 j hj vo)
  |succ k=>
   have:=C08 os (i+1) (cl++[A57 cl x.after.toList]) (by simp[hl]) (λj o hj=>by have:=cS (j+1) o (by simpa using hj);rwa [show i+(j+1)=i+1+j from Du]at this) h3 (λlisted lr k' c hc eJ j hj=>by
    rw[Kj]at hc;split at hc
    ·exact cq listed lr k' c hc eJ j hj
    ·rename_i Dm;have dU:k'=i:=by
      have:=I0 hc;simp at this;omega
     subst dU;simp[hl]at hc;subst hc;have hx:=cS 0 x rfl;rw[Jx]at hx;have eb:ops[k']?=some x:=by simpa using hx
     exact B2S cl (cq listed lr) _ (λe he hb=>lr k' x eJ eb e (by simpa using he) hb) j hj) k o (by simpa using h)
   rw[show i+(k+1)=i+1+k from Du];exact this
def D7M{al:Option (Nat×Nat×List (Leaf Ty den))}{listed:Array Bool}{X Y:St Ty den}(h:X.live=Y.live):(stL al listed X).live=(stL al listed Y).live:=by
 cases al with
 |none=>exact h
 |some p=>
  obtain⟨ia,i,zs⟩:=p;simp only[stL];cases listed.getD ia false with
  |false=>exact h
  |true=>simp only[Eg,U8,St.set,St.fresh,h]
def C2u{U:UO Ty den}{al:Option (Nat×Nat×List (Leaf Ty den))}{listed:Array Bool}{X Y:St Ty den}(hr:REL U B (stL al listed X) a w)(hl:X.live=Y.live)(h:∀i,Y.get i=.one .any\/Y.get i=X.get i):REL U B (stL al listed Y) a w:=by
 obtain⟨g,hr⟩:=hr;have kw:=D7M (al:=al) (listed:=listed) hl;refine⟨g,hr.weaken (λj=>?_) (λd hd=>by rw[kw];exact hd) (λ_ d _ _ hd=>by rw[<-kw];exact hd)⟩;cases al with
 |none=>exact h j
 |some p=>
  obtain⟨ia,i,zs⟩:=p;simp only[stL];cases listed.getD ia false with
  |false=>exact h j
  |true=>
   simp only[Eg];rw[A2O,A2O];split
   ·exact .inr rfl
   ·split
    ·exact .inr rfl
    ·rcases h j with h1|h1
     ·left;rw[h1];rfl
     ·right;rw[h1]
def C1p{os:List Oper}(hn:V6 (E4 os)=true):∀{i j d:Nat}{x y:Oper},os[i]?=some x->os[j]?=some y->x.dst=some d->y.dst=some d->i=j:=by
 induction os with
 |nil=>intro i j d x y h;simp at h
 |cons o os ih=>
  have ik:V6 (E4 os)=true:=by
   simp only[E4]at hn;cases hd:o.dst with
   |none=>rw[hd]at hn;exact hn
   |some d=>rw[hd]at hn;exact(A5m hn _ _ rfl).2
  have nW:∀d,o.dst=some d->∀(j:Nat) y,os[j]?=some y->y.dst≠some d:=λd hd j y hy pf=>by
   simp only[E4,hd]at hn;have h1:=(A5m hn _ _ rfl).1;have h2:∀(l:List Oper)(j:Nat),l[j]?=some y->mem d (E4 l)=true:=by
    intro l
    induction l with
    |nil=>intro j h;simp at h
    |cons z l vq=>
     intro j h;cases j with
     |zero=>simp at h;subst h;exact A7Q pf
     |succ j=>exact A9e (vq j (by simpa using h))
   rw[h2 os j hy]at h1;cases h1
  intro i j d x y hx hy lj pf;cases i with
  |zero=>
   simp at hx;subst hx;cases j with
   |zero=>rfl
   |succ j=>exact absurd pf (nW d lj j y (by simpa using hy))
  |succ i=>
   cases j with
   |zero=>simp at hy;subst hy;exact absurd lj (nW d pf i x (by simpa using hx))
   |succ j=>rw[ih ik (i:=i) (j:=j) (by simpa using hx) (by simpa using hy) lj pf]
def C4R(hE:Y9 P E B){ops:Array Oper}{md:Gt}{Q:Exit->Act->World->Prop}{m:Nat}(hm:m<=ops.size){sF:St Ty den}{al:Option (Nat×Nat×List (Leaf Ty den))}
  (fE:∀j o,(ops.toList.take m)[j]?=some o->A88 E ops m j o)(mU:∀o∈ops.toList.take m,Ran E ops sF o)(dk:A3d sF (ops.toList.take m)=true)(fD:V6 (E4 ops.toList)=true)
  (bJ:∀o∈ops.toList,∀d,o.dst=some d->d<1000000)(fg:C3v P E ops m sF al)
  {fl:DX}(fF:∀(k:Nat) o,ops.toList[k]?=some o->m<=k->∀listed:Array Bool,DC md ops listed->(∀e∈o.after,Ga md e=true->listed.getD e.on false=true)->∀j,j<m->mem j fl=false->listed.getD j false=true)
  (hT:∀(fuel:Nat)(listed:Array Bool)(a:Act)(w:World),listed.size=ops.size->listed.toList.count false<=fuel->(∀j,listed.getD j false=true↔j<m)->REL E.U B (stL al listed sF) a w->a.tmps.size=E.nt->wpAny P md ops Q fuel listed a w):
  ∀(fuel:Nat)(listed:Array Bool)(a:Act)(w:World),listed.size=ops.size->listed.toList.count false<=fuel->DC md ops listed->(∀j,listed.getD j false=true->j<m)->(∀j,j<m->mem j fl=true->listed.getD j false=true)->REL E.U B (stL al listed (sF.dels (I3 listed (F5 0 (ops.toList.take m))))) a w->a.tmps.size=E.nt->
   wpAny P md ops Q fuel listed a w:=by
 have aO:∀{i:Nat}{o:Oper},ops[i]?=some o->ops.toList[i]?=some o:=λh=>by simpa using h
 have jF:∀{i:Nat}{o:Oper},i<m->ops[i]?=some o->(ops.toList.take m)[i]?=some o:=λhi h=>by rw[Gi,El hi];exact aO h
 have ph:∀{listed:Array Bool}{i:Nat},listed.size=ops.size->i<ops.size->listed.getD i true=false->listed.getD i false=false/\listed.toList[i]?=some false:=λ{listed i} az hi h=>by
  have h1:i<listed.size:=Du
  rw[Fk,Fx h1]at h;simp at h;refine⟨?_,by rw[Im,Fx h1,h]⟩;rw[Fk,Fx h1,h];rfl
 have jG:∀{listed:Array Bool}{i:Nat},listed.size=ops.size->i<ops.size->listed.getD i false=false->listed.getD i true=false:=λ{listed i} az hi h=>by
  have h1:i<listed.size:=Du
  rw[Fk,Fx h1]at h ⊢;simpa using h
 intro fuel
 induction fuel with
 |zero=>
  intro listed a w az eM lr aH dv hr df;refine hT 0 listed a w az eM (λj=>⟨aH j,λhj=>?_⟩) (C2u hr rfl λi=>?_) df
  ·cases hl:listed.getD j false with
   |true=>rfl
   |false=>
    exfalso;have h2:=(ph az Du (jG az Du hl)).2;have:=Ih.2 (Fp h2);omega
  ·right
   rw[A0t];cases fq:mem i (I3 listed (F5 0 (ops.toList.take m)))with
   |false=>rfl
   |true=>
    obtain⟨j,hj,hl⟩:=A1l.1 fq;obtain⟨_,o,ho,hd⟩:=A3o.1 hj;have ms:j<ops.size:=by
     have:=I0 ho;simp at this;omega
    exfalso;have h2:=(ph az ms (jG az ms hl)).2;have:=Ih.2 (Fp h2);omega
 |succ fuel ih=>
  intro listed a w az eM lr aH dv hr df;by_cases b8:∀j,j<m->listed.getD j false=true
  ·refine hT (fuel+1) listed a w az eM (λj=>⟨aH j,b8 j⟩) (C2u hr rfl λi=>?_) df
   right
   rw[A0t];cases fq:mem i (I3 listed (F5 0 (ops.toList.take m)))with
   |false=>rfl
   |true=>
    obtain⟨j,hj,hl⟩:=A1l.1 fq;obtain⟨_,o,ho,hd⟩:=A3o.1 hj;have vu:j<m:=by
     have:=I0 ho;simp at this;omega
    rw[b8 j vu]at hl;cases hl
  ·
   have fT:∃j0,j0<m/\listed.getD j0 false=false:=by
    apply Classical.byContradiction;intro hc;refine b8 λj hj=>?_;cases hl:listed.getD j false with
    |true=>rfl
    |false=>exact absurd ⟨j,hj,hl⟩ hc
   obtain⟨j0,oF,cV⟩:=fT;refine⟨λfj=>?_,λi hi=>?_⟩
   ·exfalso;have bE:∀n j,j<=n->j<m->listed.getD j false=true:=by
     intro n
     induction n using Nat.strongRecOn with
     |_ n AO=>
      intro j yv vu;cases hl:listed.getD j false with
      |true=>rfl
      |false=>
       exfalso;have ms:j<ops.size:=Du
       have cv:j∈Gr md ops listed:=by
        rw[Gz];refine⟨jG az ms hl,ops[j],Fx ms,λe he oM=>?_⟩;rcases (fE j ops[j] (jF vu (Fx ms))).after e he with h1|⟨h1,h2,o',h3,h4⟩
        ·exact AO e.on Du e.on (Fg _) Du
        ·cases bh:listed.getD e.on false with
         |true=>rfl
         |false=>
          exfalso;have cv:e.on∈Gr md ops listed:=by
           rw[Gz];refine⟨jG az Du bh,o',h3,λe' mG bH=>?_⟩;exfalso;have h5:=h4 e' mG;unfold txE at h5;unfold gcE at h1;unfold Ga at oM bH;split at h5
           ·rename_i cb;rw[cb]at bH;split at h1
            ·rename_i vw;rw[vw]at oM;cases md<;>first|(cases oM;done)|(cases bH;done)
            ·cases h1
           ·cases h5
          rw[fj]at cv;cases cv
       rw[fj]at cv;cases cv
    rw[bE j0 j0 (Fg _) oF]at cV;cases cV
   ·obtain⟨iy,o,ho,fk⟩:=Gz.1 hi;have vz:i<ops.size:=(He.1 ho).1;have hH:i<m:=by
     rcases Hh i m with h|h
     ·exact h
     ·have jf:mem j0 fl=false:=by
       cases hf:mem j0 fl with
       |false=>rfl
       |true=>rw[dv j0 oF hf]at cV;cases cV
      have:=fF i o (aO ho) h listed lr fk j0 oF jf;rw[this]at cV;cases cV
    have qm:o∈ops.toList.take m:=Fp (jF hH ho);have hO:=fE i o (jF hH ho);have hR:=mU o qm;obtain⟨vA,pi⟩:=ph az vz iy;have rO:∀j,(listed.setIfInBounds i true).getD j false=false↔listed.getD j false=false/\j≠i:=by
     intro j;by_cases cG:i=j
     ·subst cG;have h1:i<listed.size:=Du
      simp[h1]
     ·rw[Gp false cG];constructor
      ·exact λh=>⟨h,λe=>cG e.symm⟩
      ·exact λh=>h.1
    have dG:∀j,(listed.setIfInBounds i true).getD j false=true↔listed.getD j false=true\/j=i:=by
     intro j;by_cases cG:i=j
     ·subst cG;have h1:i<listed.size:=Du
      simp[h1]
     ·rw[Gp false cG];constructor
      ·exact λh=>.inl h
      ·rintro(h|h)
       ·exact h
       ·exact absurd h.symm cG
    have rP:DC md ops (listed.setIfInBounds i true):=by
     intro j oj hj iz e he hb;rcases (dG j).1 hj with h|rfl
     ·exact(dG _).2 (.inl (lr j oj h iz e he hb))
     ·rw[ho]at iz;cases iz;exact(dG _).2 (.inl (fk e he hb))
    have pj:∀j,(listed.setIfInBounds i true).getD j false=true->j<m:=λj hj=>by
     rcases (dG j).1 hj with h|rfl
     ·exact aH j h
     ·exact hH
    have rQ:∀j,j<m->mem j fl=true->(listed.setIfInBounds i true).getD j false=true:=λj hj hf=>(dG j).2 (.inl (dv j hj hf));have nX:(listed.setIfInBounds i true).toList.count false<=fuel:=by
     have:=B0Q pi;rw[Il];omega
    have vB:∀t∈o.looksAt ops,mem t (I3 listed (F5 0 (ops.toList.take m)))=false:=by
     intro t ht;cases fq:mem t (I3 listed (F5 0 (ops.toList.take m)))with
     |false=>rfl
     |true=>
      exfalso;obtain⟨j,hj,hl⟩:=A1l.1 fq;obtain⟨e,he,rfl,hb⟩:=A8r (hO.bound t ht j hj) md;rw[fk e he hb]at hl;cases hl
    have hX:∀t,(sF.dels (I3 (listed.setIfInBounds i true) (F5 0 (ops.toList.take m)))).get t=.one .any\/((o.dst=some t/\(sF.dels (I3 (listed.setIfInBounds i true) (F5 0 (ops.toList.take m)))).get t=sF.get t)\/(o.dst≠some t/\(sF.dels (I3 (listed.setIfInBounds i true) (F5 0 (ops.toList.take m)))).get t=(sF.dels (I3 listed (F5 0 (ops.toList.take m)))).get t)):=by
     intro t;rw[A0t,A0t];cases fq:mem t (I3 (listed.setIfInBounds i true) (F5 0 (ops.toList.take m)))with
     |true=>left;rfl
     |false=>
      right
      simp only[Eh];by_cases hd:o.dst=some t
      ·exact .inl ⟨hd,trivial⟩
      ·right
       refine⟨hd,?_⟩;cases lu:mem t (I3 listed (F5 0 (ops.toList.take m)))with
       |false=>rfl
       |true=>
        exfalso;obtain⟨j,hj,hl⟩:=A1l.1 lu;have en:j≠i:=by
         rintro rfl;obtain⟨_,o',iq,dV⟩:=A3o.1 hj;rw[Ha,jF hH ho]at iq;cases iq;exact hd dV
        have:mem t (I3 (listed.setIfInBounds i true) (F5 0 (ops.toList.take m)))=true:=A1l.2 ⟨j,hj,(rO j).2 ⟨hl,en⟩⟩;rw[this]at fq;cases fq
    generalize ug:sF.dels (I3 listed (F5 0 (ops.toList.take m)))=X at hr hX;generalize pk:sF.dels (I3 (listed.setIfInBounds i true) (F5 0 (ops.toList.take m)))=X' at hX;have qn:X.live=sF.live:=by rw[<-ug];rfl
    have jZ:X'.live=sF.live:=by rw[<-pk];rfl
    have yw:∀t,X.get t=.one .any\/X.get t=sF.get t:=λt=>by
     rw[<-ug,A0t];cases mem t (I3 listed (F5 0 (ops.toList.take m)))with
     |true=>left;rfl
     |false=>right;rfl
    have vC:∀t∈o.looksAt ops,X.get t=sF.get t:=λt ht=>by
     rw[<-ug,A0t,vB t ht];rfl
    have rR:∀d,X.get (bxi d)=sF.get (bxi d):=λd=>by
     rw[<-ug,A0t];cases fq:mem (bxi d) (I3 listed (F5 0 (ops.toList.take m)))with
     |false=>rfl
     |true=>
      obtain⟨j,hj,_⟩:=A1l.1 fq;obtain⟨_,o',iq,dV⟩:=A3o.1 hj;have:=bJ o' (Hk (Fp iq)) _ dV;exact absurd this (by show¬((1000000+d:Nat)<1000000);omega)
    have hd:∀d,o.dst=some d->d<a.tmps.size/\B.np<=d:=λd hd=>by rw[df];have:=A3l hR.dst d hd;exact⟨this.1,Fz hE.np this.2⟩
    have rU:∀d,o.dst=some d->d<1000000:=bJ o (Hk qm);obtain⟨g,hr⟩:=hr;have bc:o.guard=none\/True:=.inr trivial;have yx:∀t∈o.looksAt ops,(stL al listed X).get t=sF.get t:=by
     intro t ht;cases al with
     |none=>exact vC t ht
     |some p=>
      obtain⟨ia,ii,zs⟩:=p;obtain⟨ty,hA⟩:=fg;simp only[stL];cases listed.getD ia false with
      |false=>exact vC t ht
      |true=>
       simp only[Eg];have aC:ii≠t:=λe=>by
        have:=hA.look i o hH (aO ho);rw[e]at this;have h2:∀(l:DX),t∈l->mem t l=true:=by
         intro l
         induction l with
         |nil=>intro h;cases h
         |cons x l vq=>
          intro h;rcases Fc.1 h with h|h
          ·exact(mem_cons _ _ _).2 (.inl h.symm)
          ·exact(mem_cons _ _ _).2 (.inr (vq h))
        rw[h2 _ ht]at this;cases this
       have fy:=hO.low t ht;rw[A2O,Ek aC,Ek (λe=>by rw[<-e]at fy;exact absurd fy (by show¬((1000000+C4 (some ii):Nat)<1000000);omega)),vC t ht,hA.no]
    have lw:Sees o sF (stL al listed X):=by
     refine⟨λt ht=>yx t (C2x ht),λd ls bD=>?_⟩;cases al with
     |none=>rw[show stL none listed X=X from rfl,B0y (rR d)];exact bD
     |some p=>
      obtain⟨ia,ii,zs⟩:=p;obtain⟨ty,hA⟩:=fg;simp only[stL];cases listed.getD ia false with
      |false=>simp only[Eh];rw[B0y (rR d)];exact bD
      |true=>
       simp only[Eg];have ky:sF.get (bxi d)=.bx d ls:=by
        unfold L8 at bD;split at bD
        ·rename_i e bY he;obtain⟨h1,h2⟩:=A8 bD;have:=(F2 _ _).1 h1;subst this;cases h2;exact he
        ·cases bD
       have oX:d≠C4 (some ii):=λe=>by
        have:=hA.no (bxi d);rw[ky,e]at this;simp only[Ent.strip,H5,Eg]at this;cases this
       have jY:(U8 ii zs X).get (bxi d)=.bx d ls:=by
        have yy:=hA.low;rw[A2O,Ek (by unfold bxi;omega),Ek (by unfold bxi;omega),rR,hA.no,ky]
       unfold L8;rw[jY];simp[H5]
    have kA:∀b,Gd ops sF o b->Fy o (Gk ops a.tmps)=b:=by
     intro b hb;refine B0X hr ?_;unfold Gd at hb ⊢;cases rV:o.guard with
     |none=>rw[rV]at hb;exact hb
     |some jw=>
      obtain⟨j,aY⟩:=jw;rw[rV]at hb;dsimp only at hb ⊢;obtain⟨gd,hj,hc⟩:=hb;refine⟨gd,hj,?_⟩;rw[yx gd (C2l rV hj)];exact hc
    have dm:R2 o.op=false->∀(e:Ent Ty den)(a':Act)(w':World),(∀d,o.dst=some d->sF.get d=e)->REL E.U B ((stL al listed X).setO o.dst e) a' w'->a'.tmps.size=E.nt->wpAny P md ops Q fuel (listed.setIfInBounds i true) a' w':=by
     intro eg e a' w' vD ⟨g',bV⟩ gu;refine ih _ _ _ (by simp[az]) nX rP pj rQ ?_ gu;rw[pk];cases al with
     |none=>
      refine⟨g',bV.weaken (λt=>?_) (λd hd=>by rw[A1t];show mem d X.live=true;rw[qn, <-jZ];exact hd) (λ_ d _ _ h=>by rw[A1t]at h;show mem d X'.live=true;rw[jZ, <-qn];exact h)⟩;rw[V5];show X'.get t=_\/X'.get t=_;rcases hX t with h|⟨h1,h2⟩|⟨h1,h2⟩
      ·exact .inl h
      ·right;rw[El h1,h2,vD t h1]
      ·right;rw[Ek h1,h2];rfl
     |some p=>
      obtain⟨ia,ii,zs⟩:=p;obtain⟨ty,hA⟩:=fg;have qo:i≠ia:=λe=>by
       subst e;obtain⟨oa,q1,q2,_⟩:=hA.op;rw[aO ho]at q1;cases q1;rw[q2]at eg;cases eg
      have cP:(listed.setIfInBounds i true).getD ia false=listed.getD ia false:=Gp false qo;simp only[stL]at bV ⊢;rw[cP];cases qp:listed.getD ia false with
      |false=>
       rw[qp]at bV;simp only[Eh]at bV ⊢;refine⟨g',bV.weaken (λt=>?_) (λd hd=>by rw[A1t,qn, <-jZ];exact hd) (λ_ d _ _ h=>by rw[A1t,qn, <-jZ]at h;exact h)⟩;rw[V5];rcases hX t with h|⟨h1,h2⟩|⟨h1,h2⟩
       ·exact .inl h
       ·right;rw[El h1,h2,vD t h1]
       ·right;rw[Ek h1,h2]
      |true=>
       rw[qp]at bV;simp only[Eg]at bV ⊢;have im:(U8 ii zs X).live=(U8 ii zs X').live:=by simp only[U8,St.set,St.fresh,qn,jZ]
       refine⟨g',bV.weaken (λt=>?_) (λd hd=>by rw[A1t,im];exact hd) (λ_ d _ _ h=>by rw[A1t,im]at h;exact h)⟩;have cR:o.dst≠some ii:=λe=>by
        obtain⟨oa,q1,_,q3,_⟩:=hA.op;exact qo (C1p fD (aO ho) q1 e q3)
       have vF:o.dst≠some (bxi (C4 (some ii))):=λe=>by
        have:=rU _ e;exact absurd this (by show¬((1000000+C4 (some ii):Nat)<1000000);omega)
       rw[V5,A2O,A2O];by_cases h1:ii=t
       ·right;rw[El h1,Ek (by rw[<-h1];exact cR),El h1]
       ·rw[Ek h1,Ek h1];by_cases h2:bxi (C4 (some ii))=t
        ·right;rw[El h2,Ek (by rw[<-h2];exact vF),El h2]
        ·rw[Ek h2,Ek h2];rcases hX t with h|⟨h3,h4⟩|⟨h3,h4⟩
         ·left;rw[h];rfl
         ·right;rw[El h3,h4,hA.no,vD t h3]
         ·right;rw[Ek h3,h4]
    unfold wpOp;rw[ho];dsimp only;rcases hR.ran with⟨eg,⟨h1,e,h2,h3⟩|⟨h1,h2⟩⟩|⟨pm,rV⟩
    ·rw[El (kA true h1)];refine .inl ?_;have h4:=h3 (stL al listed X) lw;rcases h4 with h4|⟨kD,u,xs,rfl,h4⟩|⟨c,f,ai,aA,h4⟩
     ·refine A7N hE h4 hr hd ?_;intro e' s' v w' he bZ;simp only[Fi,Fs]at he;obtain⟨rfl,rfl⟩:=he;exact dm eg _ _ _ h2 bZ (by rw[A0s];exact df)
     ·refine B9c hE h4 hr hd ?_;intro e' s' v w' he bZ;simp only[Fi,Fs]at he;obtain⟨rfl,rfl⟩:=he;refine dm eg _ _ _ h2 (REL.unname bZ (λj=>?_)) (by rw[A0s];exact df);have yz:∀j,(X.get j).strip (C4 o.dst)=X.get j:=λj=>by
       rcases yw j with h|h
       ·rw[h];rfl
       ·rw[h];exact B0I dk o qm kD j
      cases al with
      |none=>exact yz j
      |some p=>
       obtain⟨ia,ii,zs⟩:=p;obtain⟨ty,hA⟩:=fg;simp only[stL];cases listed.getD ia false with
       |false=>exact yz j
       |true=>
        simp only[Eg];have aC:C4 (some ii)≠C4 o.dst:=λe=>by
         cases mu:o.dst with
         |none=>rw[mu]at e;have e2:100+ii=99:=e;omega
         |some dd=>
          rw[mu]at e;have cR:dd=ii:=(Nat.add_left_cancel (show 100+ii=100+dd from e)).symm;obtain⟨oa,q1,q2,q3,_⟩:=hA.op;have:=C1p fD (aO ho) q1 (by rw[mu,cR]) q3;subst this;rw[aO ho]at q1;cases q1;simp only[T2,q2]at kD;cases kD
        rw[A2O];split
        ·simp only[Ent.strip,Leaf.strip,K4 aC,Eh]
        ·split
         ·simp only[Ent.strip,K4 aC,Eh]
          congr 1
          conv=>rhs;rw[<-If zs]
          exact Ig λl hl=>by
           have:=A8F hA.closed l hl;cases l with
           |sl t x o=>cases o with
            |none=>rfl
            |some c=>exact absurd rfl (this.1 t x c)
           |ptr d o=>exact absurd rfl (this.2 d o)
           |_=>rfl
         ·rcases yw j with h|h
          ·rw[h];rfl
          ·rw[h,hA.no];exact B0I dk o qm kD j
     ·exact B9L hE.U hE.T hE.TR ai aA h4 hr hd λv w' bZ=>dm eg _ _ _ h2 bZ (by rw[A0s];exact df)
    ·rw[kA false h1];simp only[Jm,if_false];exact dm eg _ _ _ h2 (REL.setO hr (e:=.one (.val undef)) ⟨.val _,λ_ _ _ he=>by(cases he),λ_ _ he=>by(cases he)⟩ rfl o.dst hd) (by rw[A0s];exact df)
    ·
     have hw:Fy o (Gk ops a.tmps)=true:=by simp[Fy,rV]
     rw[El hw];refine .inl ?_;cases al with
     |none=>rw[fg i o hH (aO ho)]at pm;cases pm
     |some p=>
      obtain⟨ia,ii,zs⟩:=p;obtain⟨ty,hA⟩:=fg;have yy:i=ia:=hA.one i o hH (aO ho) pm;subst yy;obtain⟨oa,q1,q2,q3,_⟩:=hA.op;rw[aO ho]at q1;cases q1;simp only[stL,vA,Eh]at hr;have mO:O1 E o X (λe s'=>some (e,s'))=some (.one (.ptr (C4 (some ii)) 0),(X.fresh (C4 (some ii))).set (bxi (C4 (some ii))) (.bx (C4 (some ii)) zs)):=by
       simp only[O1,T0,q2,Hw,Eh,A9,q3,hA.zr,hA.oz];rw[show Hp 0 zs.length=true by simpa [Fe]using hA.pos];rfl
      refine A7N hE mO hr hd ?_;intro e' s' v w' he bZ;simp only[Fi,Fs]at he;obtain⟨rfl,rfl⟩:=he;rw[q3]at bZ;refine ih _ _ _ (by simp[az]) nX rP pj rQ ?_ (by rw[A0s];exact df);rw[pk,q3];simp only[stL];rw[show(listed.setIfInBounds i true).getD i false=true from(dG i).2 (.inr rfl)];simp only[Eg];obtain⟨g2,bZ⟩:=bZ;have im:(U8 ii zs X').live=(U8 ii zs X).live:=by simp only[U8,St.set,St.fresh,qn,jZ]
      refine⟨g2,bZ.weaken (s':=U8 ii zs X') (λt=>?_) (λd hd=>by rw[im]at hd;exact hd) (λ_ d _ _ h=>by rw[im];exact h)⟩;show(U8 ii zs X').get t=_\/(U8 ii zs X').get t=(U8 ii zs X).get t;rw[A2O,A2O];by_cases h1:ii=t
      ·right;rw[El h1,El h1]
      ·rw[Ek h1,Ek h1];by_cases h2:bxi (C4 (some ii))=t
       ·right;rw[El h2,El h2]
       ·rw[Ek h2,Ek h2];rcases hX t with h|⟨h3,h4⟩|⟨h3,h4⟩
        ·left;rw[h];rfl
        ·rw[q3]at h3;exact absurd (Gb h3) h1
        ·right;rw[h4]
def B3V{ops:Array Oper}{oi:Oper}{i:Nat}:∀(os:List Oper)(j0:Nat),A6P ops oi i j0 os=true->∀(n:Nat) o,os[n]?=some o->j0+n≠i->A4O o i=true\/oi.apart ops o=true
 |[],j0,_,n,o,h,_=>by simp at h
 |x::os,j0,hf,n,o,h,aC=>by
  simp only[A6P,Ew,Ik]at hf;cases n with
  |zero=>
   simp at h;subst h;rcases hf.1 with h1|h1
   ·exact absurd ((F2 _ _).1 h1) (by simpa using aC)
   ·exact h1
  |succ n=>exact B3V os (j0+1) hf.2 n o (by simpa using h) Du
def C2R{ops:Array Oper}{m:Nat}{ds:DX}:∀(os:List Oper)(i k:Nat),mem k (flL ops m ds i os)=true->∃o,i<=k/\os[k - i]?=some o/\(A1K ops m ds k o||tl1 ops m k o)=true
 |[],i,k,h=>by simp[flL,mem]at h
 |x::os,i,k,h=>by
  simp only[flL]at h;have aw:mem k (flL ops m ds (i+1) os)=true->∃o,i<=k/\(x::os)[k - i]?=some o/\(A1K ops m ds k o||tl1 ops m k o)=true:=λh=>by
   obtain⟨o,h1,h2,h3⟩:=C2R os (i+1) k h;exact⟨o,Du,by rw[show k - i=(k - (i+1))+1 from Du];simpa using h2,h3⟩
  cases hc:(A1K ops m ds i x||tl1 ops m i x)with
  |false=>rw[hc]at h;exact aw h
  |true=>
   rw[hc]at h;simp only[Eg]at h;rcases (mem_cons _ _ _).1 h with h1|h1
   ·subst h1;exact⟨x,Fg _,Eo,hc⟩
   ·exact aw h1
def C21:∀{os:List Oper},B0w os=true->∀o∈os,∀cs b,o.op≠ .select cs b
 |[],_,o,h=>by cases h
 |x::os,h,o,ho=>by
  simp only[B0w,Ew]at h;rcases Fc.1 ho with rfl|ho
  ·intro cs b he;have:=h.1;rw[he]at this;cases this
  ·exact C21 h.2 o ho
def B3b(hE:Y9 P E B){ops:Array Oper}{md:Gt}{Q:Exit->Act->World->Prop}{m:Nat}{k:St Ty den->Option R}
  {fl:DX}(fF:∀(k:Nat) o,ops.toList[k]?=some o->(∀e∈o.after,e.on<k\/e.on<m)/\(m<=k->∀listed:Array Bool,DC md ops listed->(∀e∈o.after,Ga md e=true->listed.getD e.on false=true)->∀j,j<k->mem j fl=false->listed.getD j false=true))
  (vG:∀(k:Nat) o,ops.toList[k]?=some o->mem k fl=true->m<=k->(A3I o||A61 o)=true/\A6P ops o k (k+1) (ops.toList.drop (k+1))=true)(eO:∀(j:Nat)(o:Oper) cs b,ops[j]?=some o->o.op≠ .select cs b)
  (iA:∀c a d v w,Q (.panic c) (Gx a d v) w->Q (.panic c) a w)
  (hk:∀s' a' w',k s'=some r->REL E.U B s' a' w'->a'.tmps.size=E.nt->Q .normal a' w'):
  ∀(os:List Oper)(i:Nat)(s:St Ty den)(a:Act)(w:World)(fuel:Nat)(listed:Array Bool),ops.toList.drop i=os->listed.size=ops.size->listed.toList.count false<=fuel->(∀j,listed.getD j false=true↔j<i)->m<=i->i<=ops.size->
   Y5 E ops os s k=some r->REL E.U B s a w->a.tmps.size=E.nt->wpAny P md ops Q fuel listed a w
 |[],i,s,a,w,fuel,listed,jH,az,eM,hl,yA,AP,h,hr,df=>by
  simp only[Y5]at h;have hi:ops.size<=i:=by
   have:=congrArg List.length jH;simp at this;omega
  have hQ:=hk s a w h hr df;have fj:Gr md ops listed=[]:=by
   cases AQ:Gr md ops listed with
   |nil=>rfl
   |cons j l=>
    exfalso;have hj:j∈Gr md ops listed:=by rw[AQ];simp
    obtain⟨iy,o,ho,_⟩:=Gz.1 hj;have ms:=(He.1 ho).1;have:=(hl j).2 Du;have h1:j<listed.size:=Du
    rw[Fk,Fx h1]at iy this;simp at iy this;rw[iy]at this;cases this
  cases fuel with
  |zero=>exact⟨fj,hQ⟩
  |succ fuel=>exact⟨λ_=>hQ,λj hj=>by rw[fj]at hj;cases hj⟩
 |o::os,i,s,a,w,fuel,listed,jH,az,eM,hl,yA,AP,h,⟨g,hr⟩,df=>by
  have pn:ops.toList[i]?=some o:=by
   have:=congrArg (λl=>l[0]?) jH;simpa using this
  have iB:ops[i]?=some o:=by simpa using pn
  have AR:i<ops.size:=(He.1 iB).1;have rW:ops.toList.drop (i+1)=os:=by
   have h1:ops.toList.drop (i+1)=(ops.toList.drop i).drop 1:=by rw[Hl]
   rw[h1,jH];rfl
  have lr:DC md ops listed:=λj oj hj iz e he _=>by
   have h1:=(hl j).1 hj;exact(hl _).2 (by rcases (fF j oj (by simpa using iz)).1 e he with h2|h2<;>omega)
  have iy:listed.getD i false=false:=by
   cases hc:listed.getD i false with
   |false=>rfl
   |true=>have:=(hl i).1 hc;omega
  have nY:i<listed.size:=Du
  have iC:listed.getD i true=false/\listed.toList[i]?=some false:=by
   rw[Fk,Fx nY]at iy ⊢;simp at iy;simp[iy,nY]
  have cv:i∈Gr md ops listed:=by
   rw[Gz];exact⟨iC.1,o,iB,λe he _=>(hl _).2 (by rcases (fF i o pn).1 e he with h2|h2<;>omega)⟩
  have rX:mem i fl=false->∀j∈Gr md ops listed,j=i:=by
   intro uh j hj;obtain⟨ly,oj,iz,vH⟩:=Gz.1 hj;have ms:=(He.1 iz).1;rcases Ib j i with h1|h1|h1
   ·have:=(hl j).2 h1;have h2:j<listed.size:=Du
    rw[Fk,Fx h2]at ly this;simp at ly this;rw[ly]at this;cases this
   ·exact h1
   ·have:=(fF j oj (by simpa using iz)).2 Du listed lr vH i h1 uh;rw[this]at iy;cases iy
  cases fuel with
  |zero=>
   have:=Ih.2 (Fp iC.2);omega
  |succ fuel=>
   cases uh:mem i fl with
   |true=>
    obtain⟨ua,fX⟩:=vG i o pn uh yA;simp only[Y5]at h;obtain⟨aZ,h⟩:=A8 h;have hd:∀i,o.dst=some i->i<a.tmps.size/\B.np<=i:=λi hi=>by rw[df];have:=A3l aZ i hi;exact⟨this.1,Fz hE.np this.2⟩
    have rY:o.guard=none:=by
     rcases Ij.1 ua with h5|h5
     ·simp only[A3I,Ew,Iy]at h5;exact h5.1
     ·simp only[A61,Ew,Iy]at h5;exact h5.1
    rw[rY]at h;dsimp only at h;obtain⟨v,hv⟩:∃v,∀w':World,(Fa a.eval o).run P w'=.ok (.value v) w':=by
     rcases Ij.1 ua with h5|h5
     ·simp only[A3I,Ew]at h5;obtain⟨_,h5⟩:=h5;split at h5
      ·rename_i t ai;exact⟨_,λw'=>by simp[Fa,ai];rfl⟩
      ·cases h5
     ·simp only[A61,Ew]at h5;obtain⟨_,h5⟩:=h5;split at h5
      ·rename_i t ix ai;simp only[O1,T0,ai,Hw,Eh,A9]at h;split at h
       ·rename_i ls hx;split at h
        ·rename_i l gw;have he:=A36 hr 0 (.tmp t);rw[hx]at he;obtain⟨vs,AS,mH⟩:=he;obtain⟨v,eW,ax⟩:=mH.get gw;exact⟨v,λw'=>by simp[Fa,ai,AS,Instr.extract,eW]⟩
        ·cases h
       ·cases h
      ·cases h5
    have dm:∀(s':St Ty den)(a':Act)(w':World),Y5 E ops os s' k=some r->REL E.U B s' a' w'->a'.tmps.size=E.nt->wpAny P md ops Q fuel (listed.setIfInBounds i true) a' w':=by
     intro s' a' w' h' bV gu;refine B3b hE fF vG eO iA hk os (i+1) s' a' w' fuel _ rW (by simp[az]) ?_ (λx=>?_) Du Du h' bV gu
     ·have:=B0Q iC.2;rw[Il];omega
     ·by_cases hx:i=x
      ·subst hx;simp[nY]
      ·rw[Gp false hx,hl];omega
    have ah:o.wp P a w (wpAny P md ops Q fuel (listed.setIfInBounds i true)) Q:=by
     refine A7N hE h hr hd ?_;intro e s' v w' eJ bZ;exact dm _ _ _ eJ bZ (by rw[A0s];exact df)
    unfold Gl at ah;rw[hv w]at ah;refine wpAny_first iB eO (λc a w h=>iA c a _ _ w h) fuel listed a w (λj oj hj aC mV dk=>?_) cv (.inl ⟨by simp[Fy,rY],hv⟩) ah;have en:i<j:=by
     rcases Ib j i with h6|h6|h6
     ·have:=(hl j).2 h6;have h7:j<listed.size:=by have:=(He.1 hj).1;omega
      rw[Fk,Fx h7]at mV this;simp at mV this;rw[mV]at this;cases this
     ·exact absurd h6 aC
     ·exact h6
    rcases B3V (ops.toList.drop (i+1)) (i+1) fX (j - (i+1)) oj (by rw[Ht,show i+1+(j - (i+1))=j from Du];simpa using hj) Du with h6|h6
    ·obtain⟨e,he,ej,hb⟩:=A8r h6 md;exact absurd ej (dk e he hb)
    ·exact h6
   |false=>
   refine⟨λhn=>by rw[hn]at cv;(cases cv),λj hj=>?_⟩;have en:=rX uh j hj;subst en;simp only[Y5]at h;obtain⟨aZ,h⟩:=A8 h;have hd:∀i,o.dst=some i->i<a.tmps.size/\B.np<=i:=λi hi=>by rw[df];have:=A3l aZ i hi;exact⟨this.1,Fz hE.np this.2⟩
   have dm:∀(s':St Ty den)(a':Act)(w':World),Y5 E ops os s' k=some r->REL E.U B s' a' w'->a'.tmps.size=E.nt->wpAny P md ops Q fuel (listed.setIfInBounds j true) a' w':=by
    intro s' a' w' h' bV gu;refine B3b hE fF vG eO iA hk os (j+1) s' a' w' fuel _ rW (by simp[az]) ?_ (λx=>?_) Du Du h' bV gu
    ·have:=B0Q iC.2;rw[Il];omega
    ·by_cases hx:j=x
     ·subst hx;simp[nY]
     ·rw[Gp false hx,hl];omega
   have run:∀(s1:St Ty den)(g1:Gh),Rel E.U B g1 s1 a w->O1 E o s1 (λe s'=>Y5 E ops os (s'.setO o.dst e) k)=some r->o.wp P a w (wpAny P md ops Q fuel (listed.setIfInBounds j true)) Q:=by
    intro s1 g1 dC h1;refine A7N hE h1 dC hd ?_;intro e s' v w' eJ bZ;exact dm _ _ _ eJ bZ (by rw[A0s];exact df)
   have skip:∀(s1:St Ty den)(g1:Gh),Rel E.U B g1 s1 a w->Y5 E ops os (s1.setO o.dst (.one (.val undef))) k=some r->wpAny P md ops Q fuel (listed.setIfInBounds j true) (a.put o.dst undef) w:=λs1 g1 dC h1=>
    dm _ _ _ h1 (REL.setO dC (e:=.one (.val undef)) ⟨.val _,λ_ _ _ he=>by(cases he),λ_ _ he=>by(cases he)⟩ rfl o.dst hd) (by rw[A0s];exact df)
   unfold wpOp;rw[iB];dsimp only;cases hg:o.guard with
   |none=>
    rw[hg]at h;rw[show Fy o (Gk ops a.tmps)=true by simp[Fy,hg],El rfl];exact .inl (run s g hr h)
   |some jw=>
    obtain⟨jg,aY⟩:=jw;rw[hg]at h;dsimp only at h;cases mw:(ops[jg]?).bind (·.dst)with
    |none=>rw[mw]at h;cases h
    |some gd=>
     rw[mw]at h;dsimp only at h;split at h
     ·rename_i b mQ;have gr:∀c:Bool,b=c->Rel E.U B g (s.set gd (.one (.bool c))) a w:=λc hc=>by
       have aN:=hr.ent gd;rw[mQ]at aN;exact hr.setSame (e:=.one (.bool c)) (by rw[<-hc];exact aN) rfl
      cases iS:(b==aY)with
      |true=>
       rw[iS]at h;rw[B0X hr (b:=true) (by simp only[Gd,hg];exact⟨gd,mw,.inl ⟨b,mQ,iS.symm⟩⟩),El rfl];exact .inl (run _ g (gr aY (by simpa using iS)) h)
      |false=>
       rw[iS]at h;rw[B0X hr (b:=false) (by simp only[Gd,hg];exact⟨gd,mw,.inl ⟨b,mQ,iS.symm⟩⟩)];simp only[Jm,if_false];exact skip _ g (gr _ (by cases b<;>cases aY<;>simp_all)) h
     ·rename_i v rJ;obtain⟨di,h⟩:=A8 h;rw[B0X hr (b:=false) (by simp only[Gd,hg];exact⟨gd,mw,.inr ⟨trivial,v,rJ,di⟩⟩)];simp only[Jm,if_false];exact skip s g hr h
     ·cases h
def B8k:∀(os:List Oper)(i:Nat),match A0Q i os with
  |none=>∀(j:Nat) o,os[j]?=some o->R2 o.op=false\/o.dst=none
  |some (ia,d,t)=>i<=ia/\(∃o,os[ia - i]?=some o/\o.op=.alloc t/\o.dst=some d)/\∀(j:Nat) o,j<ia - i->os[j]?=some o->R2 o.op=false\/o.dst=none
 |[],i=>by simp[A0Q]
 |x::os,i=>by
  have ih:=B8k os (i+1);have go:(R2 x.op=false\/x.dst=none)->A0Q i (x::os)=A0Q (i+1) os->(match A0Q i (x::os)with
    |none=>∀(j:Nat) o,(x::os)[j]?=some o->R2 o.op=false\/o.dst=none
    |some (ia,d,t)=>i<=ia/\(∃o,(x::os)[ia - i]?=some o/\o.op=.alloc t/\o.dst=some d)/\∀(j:Nat) o,j<ia - i->(x::os)[j]?=some o->R2 o.op=false\/o.dst=none):=by
   intro hx he;rw[he];cases ha:A0Q (i+1) os with
   |none=>
    rw[ha]at ih;intro j o ho;cases j with
    |zero=>simp at ho;subst ho;exact hx
    |succ j=>exact ih j o (by simpa using ho)
   |some p=>
    obtain⟨ia,d,t⟩:=p;rw[ha]at ih;obtain⟨h1,⟨o,h2,h3,h4⟩,h5⟩:=ih;refine⟨Du,⟨o,?_,h3,h4⟩,λj o hj ho=>?_⟩
    ·rw[show ia - i=ia - (i+1)+1 from Du];simpa using h2
    ·cases j with
     |zero=>simp at ho;subst ho;exact hx
     |succ j=>exact h5 j o Du (by simpa using ho)
  cases ai:x.op with
  |alloc t=>
   cases hd:x.dst with
   |none=>exact go (.inr hd) (by simp only[A0Q,ai,hd])
   |some d=>
    simp only[A0Q,ai,hd];exact⟨Fg _,⟨x,Eo,ai,hd⟩,λj o hj=>Du⟩
  |_=>exact go (.inl (by rw[ai];rfl)) (by simp only[A0Q,ai])
def B2y:∀{os:List Oper},A8k os=true->∀(j:Nat) o,os[j]?=some o->R2 o.op=false
 |[],_,j,o,h=>by simp at h
 |x::os,hn,j,o,h=>by
  simp only[A8k,Ew,Fu]at hn;cases j with
  |zero=>simp at h;subst h;exact hn.1
  |succ j=>exact B2y hn.2 j o (by simpa using h)
def C22{ops:Array Oper}{i:Nat}:∀{os:List Oper},B2a ops i os=true->∀(j:Nat) o,os[j]?=some o->mem i (o.looksAt ops)=false
 |[],_,j,o,h=>by simp at h
 |x::os,hn,j,o,h=>by
  simp only[B2a,Ew,Fu]at hn;cases j with
  |zero=>simp at h;subst h;exact hn.1
  |succ j=>exact C22 hn.2 j o (by simpa using h)
def B69:∀(os:List Oper),P1 E os<=os.length/\∀o∈os.take (P1 E os),A1x E o=true
 |[]=>⟨Fg _,λo h=>by simp at h⟩
 |x::os=>by
  obtain⟨h1,h2⟩:=B69 os;simp only[P1];cases hc:A1x E x with
  |false=>simp
  |true=>
   simp only[Eg,Gg,Jz,Fc];refine⟨Du,λo ho=>?_⟩;rcases ho with rfl|ho
   ·exact hc
   ·exact h2 o ho
def B73(hE:Y9 P E B){ops:Array Oper}{md:Gt}{Q:Exit->Act->World->Prop}{m:Nat}{sF:St Ty den}
  (mU:∀o∈ops.toList.take m,Ran E ops sF o)(bJ:∀o∈ops.toList,∀d,o.dst=some d->d<1000000)(fD:V6 (E4 ops.toList)=true)(eO:∀(j:Nat)(o:Oper) cs b,ops[j]?=some o->o.op≠ .select cs b)
  (iA:∀c a d v w,Q (.panic c) (Gx a d v) w->Q (.panic c) a w){w:World}:
  ∀(qu:DX)(fuel:Nat)(listed:Array Bool)(a:Act),listed.size=ops.size->listed.toList.count false<=fuel->(∀i∈qu,∃o,ops.toList[i]?=some o/\A1K ops m (E4 (ops.toList.take m)) i o=true)->qu.Nodup->(∀i∈qu,listed.getD i false=false)->
   REL E.U B (sF.dels (I3 listed (F5 0 (ops.toList.take m)))) a w->a.tmps.size=E.nt->
   (∀(fuel:Nat)(dj:Array Bool)(a':Act),dj.size=ops.size->dj.toList.count false<=fuel->(∀j,dj.getD j false=true↔(listed.getD j false=true\/j∈qu))->REL E.U B (sF.dels (I3 dj (F5 0 (ops.toList.take m)))) a' w->a'.tmps.size=E.nt->wpAny P md ops Q fuel dj a' w)->
   wpAny P md ops Q fuel listed a w
 |[],fuel,listed,a,az,eM,_,_,_,hr,df,hK=>hK fuel listed a az eM (λj=>Eo) hr df
 |i::qu,fuel,listed,a,az,eM,dv,rZ,iy,hr,df,hK=>by
  obtain⟨o,pn,hp⟩:=dv i Eo;simp only[A1K,Ew]at hp;obtain⟨hH,oE,bv,fX,fh⟩:=hp;have hH:i<m:=by simpa [Fe]using hH
  have iB:ops[i]?=some o:=by simpa using pn
  have nY:i<listed.size:=by have:=(He.1 iB).1;omega
  have vI:=iy i Eo;have iC:listed.getD i true=false/\listed.toList[i]?=some false:=by
   rw[Fk,Fx nY]at vI ⊢;simp at vI;simp[vI,nY]
  cases fuel with
  |zero=>
   have:=Ih.2 (Fp iC.2);omega
  |succ fuel=>
  simp only[A3I,Ew,Iy]at oE;obtain⟨rY,oE⟩:=oE;split at oE
  ·rename_i t ai;have fk:∀e,e∉o.after:=λe he=>by
    have:e∈o.after.toList:=by simpa using he
    cases hl:o.after.toList with
    |nil=>rw[hl]at this;cases this
    |cons y l=>rw[hl]at bv;cases bv
   have hv:∀w':World,(Fa a.eval o).run P w'=.ok (.value (a.eval (.tmp t))) w':=λw'=>by simp[Fa,ai]
   have cv:i∈Gr md ops listed:=by
    rw[Gz];exact⟨iC.1,o,iB,λe he=>absurd he (fk e)⟩
   refine wpAny_first iB eO (λc a w h=>iA c a _ _ w h) fuel listed a w (λj oj hj aC mV dk=>?_) cv (.inl ⟨by simp[Fy,rY],hv⟩) ?_
   ·rcases B3V ops.toList 0 fX j oj (by simpa using hj) Du with h6|h6
    ·obtain⟨e,he,ej,hb⟩:=A8r h6 md;exact absurd ej (dk e he hb)
    ·exact h6
   ·have dG:∀j,(listed.setIfInBounds i true).getD j false=true↔listed.getD j false=true\/j=i:=by
     intro j;by_cases cG:i=j
     ·subst cG;simp[nY]
     ·rw[Gp false cG];constructor
      ·exact λh=>.inl h
      ·rintro(h|h)
       ·exact h
       ·exact absurd h.symm cG
    have qm:o∈ops.toList.take m:=by
     refine Fp (i:=i) ?_;rw[Gi,El hH];exact pn
    have hR:=mU o qm;have hd:∀d,o.dst=some d->d<a.tmps.size/\B.np<=d:=λd hd=>by rw[df];have:=A3l hR.dst d hd;exact⟨this.1,Fz hE.np this.2⟩
    obtain⟨g,hr⟩:=hr;have yB:=hr;generalize hX:sF.dels (I3 listed (F5 0 (ops.toList.take m)))=X at hr;have AT:X.get t=sF.get t:=by
     rw[<-hX,A0t];cases fq:mem t (I3 listed (F5 0 (ops.toList.take m)))with
     |false=>rfl
     |true=>
      exfalso;obtain⟨j,hj,_⟩:=A1l.1 fq;obtain⟨_,o',iq,dV⟩:=A3o.1 hj;simp only[B9T,ai,Fu]at fh;have:mem t (E4 (ops.toList.take m))=true:=by
       have cS:=Fp iq;clear fh;generalize ops.toList.take m=os at cS
       induction os with
       |nil=>cases cS
       |cons x os ih=>
        rcases Fc.1 cS with rfl|h3
        ·exact A7Q dV
        ·exact A9e (ih h3)
      rw[this]at fh;cases fh
    have rR:∀d,X.get (bxi d)=sF.get (bxi d):=λd=>by
     rw[<-hX,A0t];cases fq:mem (bxi d) (I3 listed (F5 0 (ops.toList.take m)))with
     |false=>rfl
     |true=>
      obtain⟨j,hj,_⟩:=A1l.1 fq;obtain⟨_,o',iq,dV⟩:=A3o.1 hj;have:=bJ o' (Hk (Fp iq)) _ dV;exact absurd this (by show¬((1000000+d:Nat)<1000000);omega)
    have lw:Sees o sF X:=by
     refine⟨λt' ft=>?_,λd ls bD=>by rw[B0y (rR d)];exact bD⟩;rw[ai]at ft;simp only[Ez]at ft;have:t'=t:=by simpa using ft
     rw[this];exact AT
    have aN:∀d,o.dst=some d->sF.get d=opd E X o.type (.tmp t):=λd mu=>by
     rcases hR.ran with⟨_,⟨_,e,he,nZ⟩|⟨kA,_⟩⟩|⟨fg,_⟩
     ·rw[he d mu];rcases nZ X lw with h7|⟨h7,_⟩|⟨_,_,h7,_⟩
      ·simp only[O1,T0,ai,Hw,Eh,A9,Fi,Fs]at h7;exact h7.1.symm
      ·simp only[T2,ai]at h7;cases h7
      ·rw[ai]at h7;cases h7
     ·simp only[Gd,rY]at kA;cases kA
     ·rw[ai]at fg;cases fg
    have po:=REL.setO hr (A36 hr o.type (.tmp t)) (B3j _ _ _) o.dst hd;refine B73 hE mU bJ fD eO iA qu fuel _ _ (by simp[az]) ?_ (λj hj=>dv j (by simp[hj])) (Kb.1 rZ).2 (λj hj=>?_) ?_ (by rw[A0s];exact df) (λsa dj a' h1 h2 h3 h4 h5=>hK sa dj a' h1 h2 (λj=>?_) h4 h5)
    ·have:=B0Q iC.2;rw[Il];omega
    ·have en:i≠j:=λe=>(Kb.1 rZ).1 (by rw[e];exact hj);rw[Gp false en];exact iy j (by simp[hj])
    ·obtain⟨g',po⟩:=po;refine⟨g',po.weaken (λt'=>?_) (λd fS=>by rw[A1t, <-hX];exact fS) (λ_ d _ _ h=>by rw[A1t, <-hX]at h;exact h)⟩;rw[A0t];cases fq:mem t' (I3 (listed.setIfInBounds i true) (F5 0 (ops.toList.take m)))with
     |true=>left;rfl
     |false=>
      right
      simp only[Eh];rw[V5];by_cases mu:o.dst=some t'
      ·rw[El mu];exact aN t' mu
      ·rw[Ek mu, <-hX,A0t];cases lu:mem t' (I3 listed (F5 0 (ops.toList.take m)))with
       |false=>rfl
       |true=>
        exfalso;obtain⟨j,hj,hl⟩:=A1l.1 lu;have en:j≠i:=by
         rintro rfl;obtain⟨_,o',iq,dV⟩:=A3o.1 hj;rw[Ha,Gi,El hH,pn]at iq;cases iq;exact mu dV
        have:mem t' (I3 (listed.setIfInBounds i true) (F5 0 (ops.toList.take m)))=true:=A1l.2 ⟨j,hj,by rw[Gp false (Fo en)];exact hl⟩;rw[this]at fq;cases fq
    ·rw[h3 j,dG j];simp only[Fc];constructor
     ·rintro((h|h)|h)
      ·exact .inl h
      ·exact .inr (.inl h)
      ·exact .inr (.inr h)
     ·rintro(h|h|h)
      ·exact .inl (.inl h)
      ·exact .inl (.inr h)
      ·exact .inr h
  ·cases oE
def J2(Q:Exit->Act->World->Prop):Exit->Act->World->Prop
 | .normal,a,w=>Q .normal a w
 |_,_,_=>False
def C14{os:List Oper}(ik:A6w (E4 os)=true):∀o∈os,∀d,o.dst=some d->d<1000000:=λo ho d hd=>by
 have bE:∀(l:DX),A6w l=true->mem d l=true->d<1000000:=by
  intro l
  induction l with
  |nil=>intro _ h;cases h
  |cons x l ih=>
   intro h1 h2;simp only[A6w,Ew]at h1;rw[mem_cons]at h2;rcases h2 with rfl|h2
   ·simpa [Fe]using h1.1
   ·exact ih h1.2 h2
 refine bE _ ik ?_;clear ik
 induction os with
 |nil=>cases ho
 |cons x os ih=>
  rcases Fc.1 ho with rfl|ho
  ·exact A7Q hd
  ·exact A9e (ih ho)
def C1V{os:List Oper}{m:Nat}(gV:V6 (E4 os)=true):V6 (E4 (os.take m))=true:=by
 have bE:∀(os:List Oper)(m:Nat),V6 (E4 os)=true->V6 (E4 (os.take m))=true:=by
  intro os
  induction os with
  |nil=>intro m h;simpa using h
  |cons x os ih=>
   intro m h;cases m with
   |zero=>rfl
   |succ m=>
    simp only[Jz,E4]at h ⊢;cases hd:x.dst with
    |none=>rw[hd]at h;exact ih m h
    |some d=>
     rw[hd]at h;simp only[V6,Ew,Fu]at h ⊢;refine⟨?_,ih m h.2⟩;cases yC:mem d (E4 (os.take m))with
     |false=>rfl
     |true=>
      obtain⟨y,hy,pf⟩:=B7T yC;have:mem d (E4 os)=true:=by
       have yD:=Hk hy;clear ih h yC hy
       induction os with
       |nil=>cases yD
       |cons z os AU=>
        rcases Fc.1 yD with rfl|h3
        ·exact A7Q pf
        ·exact A9e (AU h3)
      rw[h.1]at this;cases this
 exact bE _ m gV
def C2M{listed:Array Bool}(hf:∀i,listed.getD i false=false){sF:St Ty den}{os:List Oper}(h2:sF.live=s.live)(h3:∀i,mem i (E4 os)=false->sF.get i=(s.dels (E4 os)).get i)(hr:Rel E.U B g s a w):REL E.U B (sF.dels (I3 listed (F5 0 os))) a w:=by
 refine⟨g,Rel.weaken hr (λi=>?_) (λd hd=>?_) (λi d ls _ hd=>by
  show mem d sF.live=true;rw[h2];exact hd)⟩
 ·rw[A0t];have cv:mem i (I3 listed (F5 0 os))=mem i (E4 os):=by
   rw[<-A8M os 0];generalize F5 0 os=ps
   induction ps with
   |nil=>rfl
   |cons p ps ih=>
    obtain⟨d,j⟩:=p;simp only[I3,hf j,Eh,mem,Kc,ih]
  rw[cv];cases lu:mem i (E4 os)with
  |true=>left;rfl
  |false=>
   right
   simp only[Eh];rw[h3 i lu,A0t,lu];rfl
 ·have h6:(sF.dels (I3 listed (F5 0 os))).live=sF.live:=rfl;rw[h6,h2]at hd;exact hd
def D1f(hE:Y9 P E B){Q:Exit->Act->World->Prop}(id:Nat)(ops:Array Oper)(s:St Ty den)(a:Act)(w:World)(k:St Ty den->Option R)
  (h:B2V E ops s k=some r)(hr:REL E.U B s a w)(az:a.tmps.size=E.nt)
  (hk:∀s' a' w',k s'=some r->REL E.U B s' a' w'->a'.tmps.size=E.nt->Q .normal a' w'):(Kn id ops true).wp P Q a w:=by
 refine Km (Q:=J2 Q) (λe a w h=>by cases e<;>first|exact h|exact h.elim) ?_;have iA:∀c a d v w,J2 Q (.panic c) (Gx a d v) w->J2 Q (.panic c) a w:=λ_ _ _ _ _ h=>h.elim;have hk:∀s' a' w',k s'=some r->REL E.U B s' a' w'->a'.tmps.size=E.nt->J2 Q .normal a' w':=hk;generalize J2 Q=Q0 at iA hk ⊢;unfold B2V at h;obtain⟨fE,h⟩:=A8 h;obtain⟨lz,dY⟩:=B69 (E:=E) ops.toList;generalize hm:P1 E ops.toList=m at h fE lz dY;simp only[C0Y,Ew]at fE;obtain⟨pp,iD,gV,ik,fQ⟩:=fE;have eO:∀(j:Nat)(o:Oper) cs b,ops[j]?=some o->o.op≠ .select cs b:=λj o cs b ho=>C21 fQ o (Fp (i:=j) (by simpa using ho)) cs b;have b8:∀j o,(ops.toList.take m)[j]?=some o->A88 E ops m j o:=λj o ho=>by
  have:=B6S rfl pp j o ho;rwa [Ff]at this
 rw[A8M]at gV ik h iD;have qw:∀k,mem k (flL ops m (E4 (ops.toList.take m)) 0 ops.toList)=true->∃o,ops.toList[k]?=some o/\(A1K ops m (E4 (ops.toList.take m)) k o||tl1 ops m k o)=true:=λk hk=>by
  obtain⟨o,_,h2,h3⟩:=C2R _ _ _ hk;rw[Ha]at h2;exact⟨o,h2,h3⟩
 generalize dv:flL ops m (E4 (ops.toList.take m)) 0 ops.toList=fl at iD qw;have bJ:=C14 ik;have yE:=C1V (m:=m) gV;have fF:∀md,∀(k:Nat) o,ops.toList[k]?=some o->(∀e∈o.after,e.on<k\/e.on<m)/\(m<=k->∀listed:Array Bool,DC md ops listed->(∀e∈o.after,Ga md e=true->listed.getD e.on false=true)->∀j,j<k->mem j fl=false->listed.getD j false=true):=λmd k o ho=>by
  have:=C08 (md:=md) (ops:=ops) (m:=m) (fl:=fl) ops.toList 0 [] rfl (λj o hj=>by rw[Ff];exact hj) iD (λ_ _ k c h=>by simp at h) k o ho;rw[Ff]at this;exact this
 obtain⟨sF,⟨h1,dk⟩,h2,h3,h4⟩:=B5M ops (by rw[hm]) dY (λo ho=>bJ o (Hk ho)) (ops.toList.take m) _ _ (λ_ h=>h) (B2C (m:=m) b8 (ops.toList.take m) 0 (λj o hj=>by rw[Ff];exact hj) yE) h;have vJ:∃al:Option (Nat×Nat×List (Leaf Ty den)),C3v P E ops m sF al/\Y5 E ops (ops.toList.drop m) (match al with|none=>sF|some (_,i,zs)=>U8 i zs sF) k=some r:=by
  have fV:=B8k (ops.toList.take m) 0;cases yF:A0Q 0 (ops.toList.take m)with
  |none=>
   rw[yF]at h1 fV;refine⟨none,λj o hj ho=>?_,h1⟩;have nZ:(ops.toList.take m)[j]?=some o:=by rw[Gi,El hj];exact ho
   rcases fV j o nZ with h5|h5
   ·exact h5
   ·cases qo:R2 o.op with
    |false=>rfl
    |true=>
     have:=dY o (Fp nZ);simp only[A1x,A6U,qo,h5,mbO,Hw,Jk]at this;exact absurd (A77 this) (by rw[qo];simp)
  |some p=>
   obtain⟨ia,i,t⟩:=p;rw[yF]at h1 fV;dsimp only at h1 fV;obtain⟨_,⟨o,h5,h6,h7⟩,h8⟩:=fV;rw[Ha]at h5 h8;have sc:ia<m:=by
    have:=I0 h5;simp at this;omega
   have mI:ops.toList[ia]?=some o:=by rw[Gi,El sc]at h5;exact h5
   split at h1
   ·rename_i zs dx;obtain⟨hc,h1⟩:=A8 h1;simp only[Ew,Fu,Fe]at hc;obtain⟨c1,c2,c3,c4,c5,c6⟩:=hc;refine⟨some (ia,i,zs),⟨t,⟨o,mI,h6,h7,?_⟩,sc,dx,c3,c6,c4,λj=>B3Y _ _ c5 j,bJ o (Fp mI) i h7,λj oj hj iz qx=>?_,λj oj hj iz=>?_⟩,h1⟩
    ·have:=dY o (Fp h5);have eg:R8 E o=false:=by
      cases hp:R8 E o with
      |false=>rfl
      |true=>have:=A77 hp;rw[h6]at this;cases this
     simp only[A1x,eg,Jl,A6U,Ew]at this;simpa using this.2.1
    ·have nZ:(ops.toList.take m)[j]?=some oj:=by rw[Gi,El hj];exact iz
     rcases Ib j ia with h9|h9|h9
     ·rcases h8 j oj h9 nZ with fY|fY
      ·rw[fY]at qx;cases qx
      ·have:=dY oj (Fp nZ);simp only[A1x,A6U,qx,fY,mbO,Hw,Jk]at this;exact absurd (A77 this) (by rw[qx];simp)
     ·exact h9
     ·have:=B2y c1 (j - (ia+1)) oj (by rw[Ht,show ia+1+(j - (ia+1))=j from Du];exact nZ);rw[this]at qx;cases qx
    ·exact C22 c2 j oj (by rw[Gi,El hj];exact iz)
   ·cases h1
 obtain⟨al,fg,hT⟩:=vJ;obtain⟨g,hr⟩:=hr;have dC:REL E.U B (stL al (Ft ops.size false) (sF.dels (I3 (Ft ops.size false) (F5 0 (ops.toList.take m))))) a {w with drawn:=w.drawn+1}:=by
  have cU:stL al (Ft ops.size false) (sF.dels (I3 (Ft ops.size false) (F5 0 (ops.toList.take m))))=sF.dels (I3 (Ft ops.size false) (F5 0 (ops.toList.take m))):=by
   cases al with
   |none=>rfl
   |some p=>
    obtain⟨ia,i,zs⟩:=p;have:(Ft ops.size false).getD ia false=false:=by
     rw[Fk,Io];split<;>rfl
    simp only[stL,this,Eh]
  rw[cU];exact C2M (s:=s) (λi=>by
   rw[Fk,Io];split<;>rfl) h2 h3 (hr.drew hE.U)
 have mW:m<=ops.size:=by simpa using lz
 have jf:∀i,(Ft ops.size false).getD i false=false:=λi=>by
  rw[Fk,Io];split<;>rfl
 have sd:∀(listed:Array Bool)(X:St Ty den),(∀j,listed.getD j false=true->j∈(Hi m).filter λi=>mem i fl)->stL al listed X=X:=λlisted X hl=>by
  cases al with
  |none=>rfl
  |some p=>
   obtain⟨ia,i,zs⟩:=p;obtain⟨t,hA⟩:=fg;have:listed.getD ia false=false:=by
    cases qp:listed.getD ia false with
    |false=>rfl
    |true=>
     exfalso;have h5:=hl ia qp;simp only[Ic,Hr]at h5;obtain⟨o,h6,h7⟩:=qw ia h5.2;obtain⟨oa,q1,q2,_⟩:=hA.op;have AV:oa=o:=by rw[q1]at h6;exact Gb h6
     subst AV;have dD:A3I oa=false:=by
      unfold A3I;split
      ·rename_i t he;rw[he]at q2;cases q2
      ·simp
     have bf:A61 oa=false:=by
      unfold A61;split
      ·rename_i t he;rw[he]at q2;cases q2
      ·simp
     simp[A1K,tl1,dD,bf]at h7
   simp only[stL,this,Eh]
 have n7:∀i,i∈(Hi m).filter (λi=>mem i fl)->∃o,ops.toList[i]?=some o/\A1K ops m (E4 (ops.toList.take m)) i o=true:=λi hi=>by
  simp only[Ic,Hr]at hi;obtain⟨o,h6,h7⟩:=qw i hi.2;refine⟨o,h6,?_⟩;rcases Ij.1 h7 with h8|h8
  ·exact h8
  ·exfalso;simp only[tl1,Ew]at h8;have:=Gu h8.1;omega
 have ir:=λmd=>B73 (B:=B) (md:=md) (Q:=Q0) hE h4 bJ gV eO iA ((Hi m).filter λi=>mem i fl) ops.size (Ft ops.size false) a Eo Eo n7 (List.nodup_range.filter _) (λi _=>jf i) (by
   have:=dC;rw[sd _ _ (λj hj=>by rw[jf]at hj;cases hj)]at this;exact this) az (λse mX a0 vK sf cV yB vL=>
  C4R (B:=B) (md:=md) (Q:=Q0) (fl:=fl) hE mW b8 h4 dk gV bJ fg (λk o ho hk listed h1 h2 j hj=>(fF md k o ho).2 hk listed h1 h2 j Du) (λfuel listed a' w' bD eM hl bV gu=>
   B3b hE (fF md) (λk o ho AW kD=>by
    obtain⟨o',h6,h7⟩:=qw k AW;rw[ho]at h6;cases h6;rcases Ij.1 h7 with h8|h8
    ·exfalso;simp only[A1K,Ew,Fe]at h8;omega
    ·simp only[tl1,Ew]at h8;exact h8.2) eO iA hk (ops.toList.drop m) m (stL al listed sF) a' w' fuel listed rfl bD eM hl (Fg _) mW (by
    cases al with
    |none=>exact hT
    |some p=>
     obtain⟨ia,i,zs⟩:=p;obtain⟨t,hA⟩:=fg;simp only[stL,(hl ia).2 hA.lt,Eg];exact hT) bV gu) se mX a0 _ vK sf (λi o hi ho e he _=>by
    rcases (cV i).1 hi with h5|h5
    ·rw[jf]at h5;cases h5
    ·obtain⟨o',h6,h7⟩:=n7 i h5;have mI:ops.toList[i]?=some o:=by simpa using ho
     rw[mI]at h6;cases h6;simp only[A1K,Ew]at h7;exfalso;have h8:e∈o.after.toList:=by simpa using he
     have h9:=h7.2.2.1;cases hl:o.after.toList with
     |nil=>rw[hl]at h8;cases h8
     |cons y l=>rw[hl]at h9;cases h9) (λi hi=>by
    rcases (cV i).1 hi with h5|h5
    ·rw[jf]at h5;cases h5
    ·simp only[Ic,Hr]at h5;exact h5.1) (λj hj vo=>(cV j).2 (.inr (by simp only[Ic,Hr];exact⟨hj,vo⟩))) (by
    rw[sd _ _ (λj hj=>by
     rcases (cV j).1 hj with h5|h5
     ·rw[jf]at h5;cases h5
     ·exact h5)]
    exact yB) vL)
 refine wp_region_draw λt=>?_;unfold Region.schedule;split
 ·exact Iv _ _ _ _ _ (ir .any)
 ·split
  ·exact Iv _ _ _ _ _ (ir .text)
  ·exact Iv _ _ _ _ _ (ir .gc)
end
end Go.Aev
end
section
open Go.Lib
namespace Go.Aev
variable {Ty:Type}{den:Ty->Type}
section
variable {E:Env Ty den}{B:Bs}{g:Gh}{s:St Ty den}{a:Act}{w:World}
variable {P:Fh}{R:Type}{o:Oper}{k:St Ty den->Option R}{r:R}
def A4V:∀{l r:DX},A7U l r=true->l=r
 |[],[],_=>rfl
 |[],_::_,h=>by cases h
 |_::_,[],h=>by cases h
 |a::x,b::y,h=>by
  simp only[A7U,Ew]at h;rw[Fw h.1,A4V h.2]
def D4Q{w:World}{b c i j:Nat}(h:b≠c)(u v:Value):(w.setCell ⟨b,i,none⟩ u).setCell ⟨c,j,none⟩ v=(w.setCell ⟨c,j,none⟩ v).setCell ⟨b,i,none⟩ u:=by
 simp only[World.setCell]
 congr 1
 apply Iq;intro k;simp only[Array.getElem?_modify];by_cases h1:b=k
 ·subst h1;rw[Ek (Fo h),El rfl,Ek (Fo h),El rfl]
 ·by_cases h2:c=k<;>simp[h1,h2]
def B8n{b c j:Nat}(h:b≠c)(v:Value):∀(us:Ea)(i:Nat)(w:World),(D5 w b i us).setCell ⟨c,j,none⟩ v=D5 (w.setCell ⟨c,j,none⟩ v) b i us
 |[],_,_=>rfl
 |u::us,i,w=>by
  rw[D5,D5,B8n h v us,D4Q h]
def C3O{b c:Nat}(h:b≠c)(us:Ea)(i:Nat):∀(vs:Ea)(j:Nat)(w:World),D5 (D5 w b i us) c j vs=D5 (D5 w c j vs) b i us
 |[],_,_=>rfl
 |v::vs,j,w=>by
  rw[D5,B8n h,C3O h us i vs, <-D5]
def B0s{a:Act}{d:Nat}{v:Value}(h:d<a.tmps.size):(a.put (some d) v).eval (.tmp d)=v:=by
 simp[Gx,Is,h]
def A1i{a:Act}{d j:Nat}{v:Value}(h:j≠d):(a.put (some d) v).eval (.tmp j)=a.eval (.tmp j):=
 Act.eval_put λe he hj=>by cases he;cases hj;exact h rfl
def A5u{j:Nat}{l:DX}(h:(!mem j l)=true){d:Nat}(hd:mem d l=true):j≠d:=λe=>by
 subst e;rw[hd]at h;cases h
def B15{a:Act}{d:Ed}{v:Value}:(a.put d v).tmps.size=a.tmps.size:=by cases d<;>simp[Gx]
def B0P{w:World}{b q:Nat}{vs:Ea}{c:Array Value}{e:Fb}{fz:Nat×Nat}(P:Fh)(hb:w.heap[b]?=some (.cells c e fz))(hq:q+vs.length<=c.size)(hf:fz.2<=q)(a8:∀v∈vs,v.oneCell'=true):
  (storeCells ⟨b,q,none⟩ vs).run P w=.ok () (D5 w b q vs)/\Wr w (D5 w b q vs) b q vs:=by
 obtain⟨s1,⟨c',s2,s3,s4,s5⟩,s6,s7,s8,s9,jA⟩:=A3O P b e fz vs q w c hb hq (λj h1 h2=>Du) a8;exact⟨s1 _ 0 rfl (Ge _),⟨λc1 e1 f1 h1=>by rw[hb]at h1;cases h1;exact⟨c',s2,s3,s4,s5⟩,s7,s6,s8,s9,jA⟩⟩
def B13{o:Oper}{t:Fb}{x y:Fl}{zs:List (Leaf Ty den)}{b q:Nat}{vs:Ea}{w':World}(hZ:∀t zs,E.zr t=some zs->A1v P E.U t zs)(ai:o.op=.store t x y)(hz:E.zr t=some zs)(hx:a.eval x=.pointer (some ⟨b,q,none⟩))(hv:(a.eval y).cells.toList=vs)(hn:vs.length=zs.length)
  (cU:(storeCells ⟨b,q,none⟩ vs).run P w=.ok () w'):(Fa a.eval o).run P w=.ok .skip w':=by
 obtain⟨ie,z,e1,e2,_⟩:=hZ t zs hz;have az:(Gw t).run P w=.ok zs.length w:=by simp[Gw,Gy,e1,e2]
 have h1:(a.eval y).cells.size=zs.length:=by rw[<-hn, <-hv];simp
 simp[Fa,ai,hx,Kk,Jg,storeVar,az,h1,hv,cU]
def B7X{t:Fb}{n:Nat}(h:tyN E t=some n):∃zs,E.zr t=some zs/\zs.length=n:=by
 unfold tyN at h;split at h
 ·rename_i zs dx;exact⟨zs,dx,Gb h⟩
 ·cases h
def B95{s:St Ty den}:∀{l:DX}{i:Nat},(A5E s l).get i=.one .any\/(A5E s l).get i=s.get i/\mem i l=false
 |[],i=>.inr ⟨rfl,rfl⟩
 |d::r,i=>by
  rcases B95 (s:=s.set d (.one .any)) (l:=r) (i:=i)with h|⟨h,h2⟩
  ·exact .inl h
  ·rw[G8]at h;by_cases hd:d=i
   ·rw[El hd]at h;exact .inl h
   ·rw[Ek hd]at h;refine .inr ⟨h,?_⟩;cases hb:mem i (d::r)with
    |false=>rfl
    |true=>
     rcases (mem_cons _ _ _).1 hb with e|e
     ·exact absurd e hd
     ·rw[h2]at e;cases e
def B4Y{s:St Ty den}:∀{l:DX},(A5E s l).live=s.live
 |[]=>rfl
 |d::r=>B4Y (s:=s.set d (.one .any)) (l:=r)
def D4I{s s':St Ty den}{ty:Fb}{j:Nat}(h:s'.get j=s.get j):opl E s' ty (.tmp j)=opl E s ty (.tmp j):=by
 unfold opl opd;dsimp only;rw[h]
def B5I{s:St Ty den}{ty:Fb}{j:Nat}{l:Leaf Ty den}(h:s.get j=.one l):opl E s ty (.tmp j)=l:=by
 unfold opl opd;dsimp only;rw[h]
def C9d(hE:Y9 P E B){ops:Array Oper}{m:Nat}(fG:A8E ops m=true)(bJ:∀o∈ops.toList,∀d,o.dst=some d->d<1000000)(h:B2A E ops m s k=some r)(hr:Rel E.U B g s a w)(az:a.tmps.size=E.nt){Q:Exit->Act->World->Prop}
  (iA:∀c a d v w,Q (.panic c) (Gx a d v) w->Q (.panic c) a w)(hk:∀s' a' w',k s'=some r->REL E.U B s' a' w'->a'.tmps.size=E.nt->Q .normal a' w')(f:Nat):wpAny P .any ops Q (f+6) (A12 m) a w:=by
 have hU:=hE.U;unfold B2A at h;split at h
 ·rename_i dA c vM yG yH dI t2 a2 jn AX AY AZ t3 i3 jv yI yJ yK dN jp Ba Bb Bd dF t5 n5 fi Be Bf Bg t6 f6 a6 vN vO vP sg;split at h
  ·rename_i t1 u1 x1 y1 aA eK aD;have hb:=A8 h;clear h;obtain⟨hc,h⟩:=hb;simp only[Ew]at hc;obtain⟨fL,eT,⟨uH,qy,yL⟩,yM⟩:=hc;have fL:=A4V fL;simp only[List.cons.injEq,and_true]at fL;obtain⟨rfl,rfl,rfl,rfl,rfl,rfl⟩:=fL;split at h
   ·rename_i t' e1 u' e2 t0 l0 d u0 m0 own v0 x0 n sv fs si rK hx hy hv hn vQ;split at h
    ·rename_i b off hp;split at h
     rotate_left
     ·cases h
     rename_i l zz x o' n1 ls sz ya cl cz cx qw ky vR sj;have hb:=A8 h;clear h;obtain⟨hc,h⟩:=hb;simp only[Ew,decide_eq_true_eq]at hc;obtain⟨⟨k1,k4,k5,k6,k7,k8,k9⟩,k2,k3⟩:=hc;have k4:=Fw k4;have k5:=Fw k5;subst k4 k5;rw[Fe]at k6;have k7:=Gu k7;subst k2;obtain⟨ec,qA⟩:=A81 cx;subst ec;have qA:x0=x:=by simpa using qA
     subst qA;obtain⟨e0,mn⟩:=A81 cl;subst e0;have mn:l0=l:=mn;subst mn;simp only[A8E,Ew]at fG;obtain⟨o0,o1,o2,o3,o4,o5,o6,o7,o8,o9⟩:=fG;have o0:=Fw o0;have o2:=A4V o2;have o6:=A4V o6;have o7:=A4V o7;have o8:=A4V o8;have o9:=A4V o9;simp only[tk1,Ew]at o3 o4 o5;have n8:∀(i:Nat)(o:Oper),(ops.toList.drop m)[i]?=some o->ops[m+i]?=some o:=λi o hi=>by
      rw[Ht]at hi;simpa using hi
     rw[sg]at n8;have q1:=n8 0 _ rfl;have q2:=n8 1 _ rfl;have q3:=n8 2 _ rfl;have q4:=n8 3 _ rfl;have q5:=n8 4 _ rfl;have q6:=n8 5 _ rfl;have low:∀(i:Nat)(o:Oper)(j:Nat),(ops.toList.drop m)[i]?=some o->o.dst=some j->j<1000000:=λi o j hi hj=>bJ o (List.mem_of_mem_drop (Fp hi)) j hj;rw[sg]at low;have lA:=low 0 _ dA rfl rfl;have lI:=low 1 _ dI rfl rfl;have lN:=low 3 _ dN rfl rfl;have lF:=low 4 _ dF rfl rfl;simp only[Jf,List.all_nil,Bool.and_true,Ew]at yM;obtain⟨rA,rI,rN,rF⟩:=yM;have rA:=A3l rA dA rfl;have rI:=A3l rI dI rfl;have rN:=A3l rN dN rfl;have rF:=A3l rF dF rfl;have np:=hE.np;have ui:mem dA [dA,dI,dN,dF]=true:=(mem_cons _ _ _).2 (.inl rfl);have vS:mem dI [dA,dI,dN,dF]=true:=(mem_cons _ _ _).2 (.inr ((mem_cons _ _ _).2 (.inl rfl)));have yN:mem dN [dA,dI,dN,dF]=true:=(mem_cons _ _ _).2 (.inr ((mem_cons _ _ _).2 (.inr ((mem_cons _ _ _).2 (.inl rfl)))));have yO:mem dF [dA,dI,dN,dF]=true:=(mem_cons _ _ _).2 (.inr ((mem_cons _ _ _).2 (.inr ((mem_cons _ _ _).2 (.inr ((mem_cons _ _ _).2 (.inl rfl)))))));obtain⟨vT,Bh⟩:=A5m eT dA _ rfl;obtain⟨yP,Bi⟩:=A5m Bh dI _ rfl;obtain⟨Bj,Dn⟩:=A5m Bi dN _ rfl;have ne:∀{x y:Nat}{l:DX},mem x l=false->mem y l=true->y≠x:=λh1 h2 e=>by subst e;rw[h1]at h2;cases h2
     have sm:dI≠dA:=ne vT ((mem_cons _ _ _).2 (.inl rfl));have sn:dN≠dA:=ne vT ((mem_cons _ _ _).2 (.inr ((mem_cons _ _ _).2 (.inl rfl))));have so:dF≠dA:=ne vT ((mem_cons _ _ _).2 (.inr ((mem_cons _ _ _).2 (.inr ((mem_cons _ _ _).2 (.inl rfl))))));have vU:dN≠dI:=ne yP ((mem_cons _ _ _).2 (.inl rfl));have vV:dF≠dI:=ne yP ((mem_cons _ _ _).2 (.inr ((mem_cons _ _ _).2 (.inl rfl))));have Bl:dF≠dN:=ne Bj ((mem_cons _ _ _).2 (.inl rfl));have bS:=G2 hr t1 x1;rw[hx]at bS;have nV:=(G2 hr u1 y1).1;rw[hy]at nV;have db:=G2 hr 0 (.tmp jv);rw[hv]at db;have kE:=V1 hr hn;obtain⟨cI,ie,z,bR,sp,vW,Bm,dx⟩:=P9 hE.tb si;obtain⟨dW,cF⟩:=B0g (P:=P) hU (A3E cz nV).1;obtain⟨v',w2,bA,fH,cap,c2,yQ,fz,r1,r2,r3,r4,r5,r6,r7,_,r8⟩:=B8u (o:=⟨some dA,.call c,vM,yG,yH,none⟩) (ty:=vM) (l:=l0) (m:=[x0]) hU cI (.inl ⟨_,(P9 hE.tb rK).1⟩) bR sp vW Bm dx hr (λi hi=>by cases hi;exact⟨by rw[az];exact rA.1,Fz np rA.2⟩) k1 (A6b hE.tb si) bS cF rfl (Nat.succ_pos 0) (A6J k3);simp only[Gg,Ke,Ff]at r2 r6 r8;have vX:(Fa a.eval ⟨some dA,.call c,vM,yG,yH,none⟩).run P w=.ok (.value v') w2:=by
      have h1:c.argTypes= #[t1,u1]:=A0k eK;have h2:c.args= #[x1,y1]:=A0k aD;simp[Fa,Gn,aA,h1,h2,invoke,builtin,r1]
     obtain⟨yR,Bn,yS⟩:=B1K (E:=E) hU (n:=E.U.size t0) (lf:=.agg t0 x0) (ys:=E.U.cells t0 x0) (by simp[cellsOf]) db;have vl:(a.eval (.tmp jv)).cells.toList.length=1*E.U.size t0:=by simp[yR]
     have sq:∀v∈(a.eval (.tmp jv)).cells.toList,v.oneCell'=true:=λv dt=>by
      obtain⟨j,hj,rfl⟩:=Jb dt;have nH:j<(E.U.cells t0 x0).length:=by rw[Bn, <-yR];simpa using hj
      obtain⟨u,vY,Bo,_⟩:=yS j _ (Fj nH);have:(a.eval (.tmp jv)).cells.toList[j]=u:=by
       have h5:(a.eval (.tmp jv)).cells.toList[j]?=some u:=by simpa using vY
       rw[Fj hj]at h5;exact Gb h5
      rw[this];exact Bo
     have dz:(l0.length+1)*E.U.size t0<=cap*E.U.size t0:=Hg _ r6;rw[Gv]at dz;obtain⟨Bp,W3⟩:=B0P (w:=w2) (q:=fH+l0.length*E.U.size t0) (vs:=(a.eval (.tmp jv)).cells.toList) P r4 (by rw[vl];omega) r7 sq;have vZ:=r8 _ _ vl (λj lf hj=>by
      have hj:(E.U.cells t0 x0)[j]?=some lf:=by simpa [flat]using hj
      obtain⟨u,vY,_,_,u4⟩:=yS j lf hj;exact⟨u,by simpa using vY,u4.1⟩) W3
     generalize mH:(a.eval (.tmp jv)).cells.toList=vs at*;generalize Bq:D5 w2 bA (fH+l0.length*E.U.size t0) vs=w3 at*;obtain⟨g3,R3⟩:=vZ;have Br:=A5u uH ui;have Bt:=A5u qy ui;have Bu:=A5u yL ui;have z0:dA<a.tmps.size:=by rw[az];exact rA.1
     have gb:∀j,j<1000000->j≠bxi b:=λj hj=>by unfold bxi;omega
     have wa:∀j,j≠dA->((s.fresh d).setO (some dA) (.one (.sl t0 (l0++[x0]) (some d)))).get j=(s.fresh d).get j:=λj hj=>by
      show((s.fresh d).set dA _).get j=_;rw[G8,Ek (Fo hj)]
     have su:L8 ((s.fresh d).setO (some dA) (.one (.sl t0 (l0++[x0]) (some d)))) b=some ls:=by
      unfold L8;rw[wa _ (Fo (gb dA lA))];exact ky
     have Bw:opl E ((s.fresh d).setO (some dA) (.one (.sl t0 (l0++[x0]) (some d)))) 0 (.tmp jp)=.ptr b off:=by rw[<-hp];exact D4I (wa _ Bu)
     obtain⟨cj,aG,AC⟩:=A1T R3 su;have n9:=G2 R3 0 (.tmp jp);rw[Bw]at n9;obtain⟨bB,nb,hG,ub,ce,cX,aQ⟩:=A4v k8 n9 cj;have eA:(a.put (some dA) v').eval (.tmp dA)=v':=B0s z0;have yT:=G2 R3 0 (.tmp dA);have gA:opl E ((s.fresh d).setO (some dA) (.one (.sl t0 (l0++[x0]) (some d)))) 0 (.tmp dA)=.sl t0 (l0++[x0]) (some d):=B5I (by
      show((s.fresh d).set dA _).get dA=_;rw[G8,El rfl])
     rw[gA,eA]at yT;have iM:=(yT.2.1 _ _ _ rfl).1;rw[r2]at iM;have dl:mem d ((s.fresh d).setO (some dA) (.one (.sl t0 (l0++[x0]) (some d)))).live=true:=(mem_cons _ _ _).2 (.inl rfl);have vF:d≠b:=λe=>by
      subst e;rw[hG]at iM;simp at iM
     have sx:nb≠0:=Du
     have wb:bB≠bA:=λe=>by
      subst e;refine R3.disj d b bB dl aG vF ?_ ?_
      ·rw[<-iM];simp[spare,r3]
      ·rw[hG];simp[spare,sx]
     obtain⟨aB,lB,cB,yU,_,fC⟩:=R3.tip b aG;rw[hG]at yU;cases yU;obtain⟨Do,Bx,cc,eB,fB,ha,uI,By,yV,iV⟩:=fC.resolve_left sx;cases ha;rw[cX]at By yV;have Bz:g3.wm bB=0:=by rw[yV]
     have Dp:fB.2=0:=Du
     have sy:off+o'+1<=cc.size:=Du
     have uj:v'.cells.toList=[v']:=by rw[r2];rfl
     have ob:∀v∈[v'],v.oneCell'=true:=λv hv=>by rw[Hb.1 hv,r2];rfl
     obtain⟨BA,W6⟩:=B0P (w:=w3) (q:=off+o') (vs:=[v']) P uI (by simpa using sy) Du ob;have wc:w2.heap[bB]?=some (.cells cc eB fB):=(W3.oth bB wb).symm.trans uI;obtain⟨we,BC⟩:=B0P (w:=w2) (q:=off+o') (vs:=[v']) P wc (by simpa using sy) Du ob;obtain⟨sA,_⟩:=B0P (w:=D5 w2 bB (off+o') [v']) (q:=fH+l0.length*E.U.size t0) (vs:=vs) P ((BC.oth bA (Fo wb)).trans r4) (by rw[vl];omega) r7 sq;have sB:D5 (D5 w2 bB (off+o') [v']) bA (fH+l0.length*E.U.size t0) vs=D5 w3 bB (off+o') [v']:=by rw[<-Bq,C3O wb]
     rw[sB]at sA;generalize iP:a.put (some dA) v'=a1 at*;have z1:a1.tmps.size=a.tmps.size:=by rw[<-iP];exact B15
     have cL:(Jp bA fH none).add (l0.length*E.U.size t0)=⟨bA,fH+l0.length*E.U.size t0,none⟩:=Hm _ _ _;have wg:∀w,(Fa a1.eval ⟨some dI,.indexAddr t1 (.tmp dA) (.tmp jn),AX,AY,AZ,none⟩).run P w=.ok (.value (.pointer (some ⟨bA,fH+l0.length*E.U.size t0,none⟩))) w:=λw=>by
      have ei:a1.eval (.tmp jn)=.int .i64 (l0.length:Int):=by rw[<-iP,A1i Br];exact kE
      have h0:(0:Int)<=(l0.length:Int):=Du
      have h1:(l0.length:Int)<((l0.length+1:Nat):Int):=Du
      simp[Fa,eA,r2,ei,Kl,asIntOf,Hn cI,h0,h1,Gw,Gy,bR,sp];omega
     have sI:dI<a1.tmps.size:=by rw[z1,az];exact rI.1
     obtain⟨a2,iU⟩:∃a2,a2=a1.put (some dI) (.pointer (some ⟨bA,fH+l0.length*E.U.size t0,none⟩)):=⟨_,rfl⟩;have z2:a2.tmps.size=a1.tmps.size:=by rw[iU];exact B15
     have sN:dN<a2.tmps.size:=by rw[z2,z1,az];exact rN.1
     have wh:∀w,(Fa a2.eval ⟨some dN,.nilCheck (.tmp jp),Ba,Bb,Bd,none⟩).run P w=.ok (.value (.pointer (some ⟨bB,off,none⟩))) w:=λw=>by
      have:a2.eval (.tmp jp)=.pointer (some ⟨bB,off,none⟩):=by rw[iU,A1i (A5u yL vS)];exact ub
      simp[Fa,this]
     obtain⟨a3,mT⟩:∃a3,a3=a2.put (some dN) (.pointer (some ⟨bB,off,none⟩)):=⟨_,rfl⟩;have z3:a3.tmps.size=a2.tmps.size:=by rw[mT];exact B15
     have sF:dF<a3.tmps.size:=by rw[z3,z2,z1,az];exact rF.1
     have wi:∀w,(Fa a3.eval ⟨some dF,.fieldAddr t5 (.tmp dN) fi,Be,Bf,Bg,none⟩).run P w=.ok (.value (.pointer (some ⟨bB,off+o',none⟩))) w:=λw=>
      B4d hE.tb rfl vQ qw k6 bB off (by rw[mT];exact B0s sN)
     obtain⟨a4,pr⟩:∃a4,a4=a3.put (some dF) (.pointer (some ⟨bB,off+o',none⟩)):=⟨_,rfl⟩;have z4:a4.tmps.size=a3.tmps.size:=by rw[pr];exact B15
     have yW:a4.eval (.tmp dI)=.pointer (some ⟨bA,fH+l0.length*E.U.size t0,none⟩):=by rw[pr,A1i (Fo vV),mT,A1i (Fo vU),iU];exact B0s sI
     have yX:(a4.eval (.tmp jv)).cells.toList=vs:=by rw[pr,A1i (A5u qy yO),mT,A1i (A5u qy yN),iU,A1i (A5u qy vS), <-iP,A1i Bt];exact mH
     have yY:a4.eval (.tmp dF)=.pointer (some ⟨bB,off+o',none⟩):=by rw[pr];exact B0s sF
     have yZ:(a4.eval (.tmp dA)).cells.toList=[v']:=by rw[pr,A1i (Fo so),mT,A1i (Fo sn),iU,A1i (Fo sm),eA];exact uj
     obtain⟨Dq,za,wj⟩:=B7X vR;obtain⟨Dr,zb,uk⟩:=B7X sj;have wk:(Fa a4.eval ⟨none,.store t3 (.tmp dI) (.tmp jv),yI,yJ,yK,none⟩).run P w2=.ok .skip w3:=B13 hE.zr rfl za yW yX (by rw[vl,wj,Ju]) Bp;have sC:(Fa a4.eval ⟨none,.store t3 (.tmp dI) (.tmp jv),yI,yJ,yK,none⟩).run P (D5 w2 bB (off+o') [v'])=.ok .skip (D5 w3 bB (off+o') [v']):=B13 hE.zr rfl za yW yX (by rw[vl,wj,Ju]) sA;have sD:(Fa a4.eval ⟨none,.store t6 (.tmp dF) (.tmp dA),vN,vO,vP,none⟩).run P w3=.ok .skip (D5 w3 bB (off+o') [v']):=B13 hE.zr rfl zb yY yZ (by rw[uk];rfl) BA;have sE:(Fa a4.eval ⟨none,.store t6 (.tmp dF) (.tmp dA),vN,vO,vP,none⟩).run P w2=.ok .skip (D5 w2 bB (off+o') [v']):=B13 hE.zr rfl zb yY yZ (by rw[uk];rfl) we;have bU:Q .normal a4 (D5 w3 bB (off+o') [v']):=by
      have R4:=R3.set (e:=.one .any) (v:=.pointer (some ⟨bA,fH+l0.length*E.U.size t0,none⟩)) (LRep.any _) rfl dI ⟨sI,Fz np rI.2⟩;rw[<-iU]at R4;rw[ub]at n9;have R5:=R4.set (e:=.one (.ptr b off)) n9 rfl dN ⟨sN,Fz np rN.2⟩;rw[<-mT]at R5;have R6:=R5.set (e:=.one (.ptr b (off+o'))) (v:=.pointer (some ⟨bB,off+o',none⟩)) ⟨.pt _ _ _,λ_ _ _ he=>by(cases he),λd' o2 he=>by(cases he;exact⟨bB,nb,hG,.inl ⟨rfl,k9⟩⟩)⟩ rfl dF ⟨sF,Fz np rF.2⟩;rw[<-pr]at R6;have gX:∀{e1 e2 e3:Ent Ty den}{s2:St Ty den}{j:Nat},j≠dI->j≠dN->j≠dF->(((s2.set dI e1).set dN e2).set dF e3).get j=s2.get j:=λh1 h2 h3=>by
       rw[G8,Ek (Fo h3),G8,Ek (Fo h2),G8,Ek (Fo h1)]
      have wo:=C2B (o:=⟨none,.store t6 (.tmp dF) (.tmp dA),vN,vO,vP,none⟩) (P:=P) (Q:=Q) (R:=St Ty den) (k:=λ_ s'=>some s') (r:=(((((s.fresh d).setO (some dA) (.one (.sl t0 (l0++[x0]) (some d)))).set dI (.one .any)).set dN (.one (.ptr b off))).set dF (.one (.ptr b (off+o')))).set (bxi b) (.bx b (T5 ls (off+o') [.sl t0 (l0++[x0]) (some d)])))
       (next:=λa' w'=>REL E.U B ((((((s.fresh d).setO (some dA) (.one (.sl t0 (l0++[x0]) (some d)))).set dI (.one .any)).set dN (.one (.ptr b off))).set dF (.one (.ptr b (off+o')))).set (bxi b) (.bx b (T5 ls (off+o') [.sl t0 (l0++[x0]) (some d)]))) a' w') hE.U hE.zr rfl (by
        have v1:opl E (((((s.fresh d).setO (some dA) (.one (.sl t0 (l0++[x0]) (some d)))).set dI (.one .any)).set dN (.one (.ptr b off))).set dF (.one (.ptr b (off+o')))) 0 (.tmp dF)=.ptr b (off+o'):=B5I (by rw[G8,El rfl]);have v2:(((((s.fresh d).setO (some dA) (.one (.sl t0 (l0++[x0]) (some d)))).set dI (.one .any)).set dN (.one (.ptr b off))).set dF (.one (.ptr b (off+o')))).get dA=.one (.sl t0 (l0++[x0]) (some d)):=by
         rw[gX (Fo sm) (Fo sn) (Fo so)];show((s.fresh d).set dA _).get dA=_;rw[G8,El rfl]
        have v3:opd E (((((s.fresh d).setO (some dA) (.one (.sl t0 (l0++[x0]) (some d)))).set dI (.one .any)).set dN (.one (.ptr b off))).set dF (.one (.ptr b (off+o')))) t6 (.tmp dA)=.one (.sl t0 (l0++[x0]) (some d)):=by
         unfold opd;dsimp only;rw[v2]
        have v4:L8 (((((s.fresh d).setO (some dA) (.one (.sl t0 (l0++[x0]) (some d)))).set dI (.one .any)).set dN (.one (.ptr b off))).set dF (.one (.ptr b (off+o')))) b=some ls:=by
         rw[<-su];unfold L8;rw[gX (Fo (gb dI lI)) (Fo (gb dN lN)) (Fo (gb dF lF))]
        simp only[A9,v1,sj,v3,v4,B5I v2,cellsOf,A5F];have:Nat.ble (off+o'+1) ls.length=true:=by rw[Hq];exact k7
        simp only[this,k9,Ey,Jn,Eg]) R6 (λ_ h=>by cases h) (λe s' v w' h1 h2=>by cases h1;exact h2)
      unfold Gl at wo;rw[sD,Iz]at wo;obtain⟨g7,R7⟩:=wo;refine hk _ _ _ h ⟨g7,R7.weaken (λi=>?_) (λd' dV=>?_) (λi d' bY _ dV=>?_)⟩ (by rw[z4,z3,z2,z1,az])
      ·by_cases hi:bxi b=i
       ·right;rw[G8,El hi,G8,El hi]
       ·rw[G8,Ek hi,G8,Ek hi];rcases B95 (s:=s.fresh d) (l:=[dA,dI,dN,dF]) (i:=i)with h1|⟨h1,h2⟩
        ·exact .inl h1
        ·right
         have nm:∀x,mem x [dA,dI,dN,dF]=true->i≠x:=λx hx e=>by subst e;rw[h2]at hx;cases hx
         rw[h1,gX (nm _ vS) (nm _ yN) (nm _ yO),wa _ (nm _ ui)]
      ·have h1:mem d' (A5E (s.fresh d) [dA,dI,dN,dF]).live=true:=dV;rw[B4Y]at h1;exact h1
      ·show mem d' (A5E (s.fresh d) [dA,dI,dN,dF]).live=true;rw[B4Y];exact dV
     refine Hx o2 Eo λi hi=>?_;rw[Hb.1 hi];unfold wpOp;rw[show m+0=m from rfl]at q1;simp only[q1];rw[El (by simp[Fy])];refine .inl ?_;unfold Gl;rw[vX,Oper.upon_value];show wpAny P .any ops Q (f+5) _ (a.put (some dA) v') w2;rw[iP];refine Iu q2 o1 o3.1 o3.2 (λc a w=>iA c a _ _ w) (.inl ⟨rfl,wg⟩) ?_;show wpAny P .any ops Q (f+4) _ (a1.put (some dI) _) w2;rw[<-iU];refine Iu q4 o1 o4.1 o4.2 (λc a w=>iA c a _ _ w) (.inl ⟨rfl,wh⟩) ?_;show wpAny P .any ops Q (f+3) _ (a2.put (some dN) _) w2;rw[<-mT];refine Iu q5 o1 o5.1 o5.2 (λc a w=>iA c a _ _ w) (.inl ⟨rfl,wi⟩) ?_;show wpAny P .any ops Q (f+2) (ls4 m) (a3.put (some dF) _) w2;rw[<-pr];have one:∀(i:Nat)(o:Oper)(l:Array Bool)(w w':World)(n:Nat),ops[i]?=some o->o.guard=none->o.dst=none->(Fa a4.eval o).run P w=.ok .skip w'->wpAny P .any ops Q n (seT l i) a4 w'->wpOp P ops Q i (wpAny P .any ops Q n (l.setIfInBounds i true)) a4 w:=λi o l w w' n h1 h2 h3 h4 h5=>by
      unfold wpOp;simp only[h1];rw[El (by simp[Fy,h2])];refine .inl ?_;unfold Gl;rw[h4,Iz,h3];exact h5
     refine Hx o6 Eo λi hi=>?_;rcases Fc.1 hi with rfl|hi
     ·refine one _ _ _ _ _ _ q3 rfl rfl wk (Hx o7 Eo λi hi=>?_);rcases Hb.1 hi with rfl
      exact one _ _ _ _ _ _ q6 rfl rfl sD (wpAny_done o9 bU f)
     ·rcases Hb.1 hi with rfl;refine one _ _ _ _ _ _ q6 rfl rfl sE (Hx o8 Eo λi hi=>?_);rcases Hb.1 hi with rfl;refine one _ _ _ _ _ _ q3 rfl rfl sC (wpAny_done ?_ bU f);rw[show seT (seT (ls4 m) (m+5)) (m+2)=seT (seT (ls4 m) (m+2)) (m+5)from Array.setIfInBounds_comm _ _ Du];exact o9
    ·cases h
   ·cases h
  ·cases h
 ·cases h
def D48(hE:Y9 P E B){Q:Exit->Act->World->Prop}(id:Nat)(ops:Array Oper)(s:St Ty den)(a:Act)(w:World)(k:St Ty den->Option R)
  (h:B52 E ops s k=some r)(hr:REL E.U B s a w)(az:a.tmps.size=E.nt)
  (hk:∀s' a' w',k s'=some r->REL E.U B s' a' w'->a'.tmps.size=E.nt->Q .normal a' w'):(Kn id ops true).wp P Q a w:=by
 unfold B52 at h;cases fG:A8E ops (P1 E ops.toList)with
 |false=>rw[fG]at h;exact D1f hE id ops s a w k h hr az hk
 |true=>
  rw[fG]at h;obtain⟨fE,h⟩:=A8 h;refine Km (Q:=J2 Q) (λe a w h=>by cases e<;>first|exact h|exact h.elim) ?_;have iA:∀c a d v w,J2 Q (.panic c) (Gx a d v) w->J2 Q (.panic c) a w:=λ_ _ _ _ _ h=>h.elim;have hk:∀s' a' w',k s'=some r->REL E.U B s' a' w'->a'.tmps.size=E.nt->J2 Q .normal a' w':=hk;generalize J2 Q=Q0 at iA hk ⊢;obtain⟨lz,dY⟩:=B69 (E:=E) ops.toList;generalize hm:P1 E ops.toList=m at h fG fE lz dY;simp only[C3F,Ew]at fE;obtain⟨pp,iD,gV,ik,eg⟩:=fE;have b8:∀j o,(ops.toList.take m)[j]?=some o->A88 E ops m j o:=λj o ho=>by
   have:=B6S rfl pp j o ho;rwa [Ff]at this
  rw[A8M]at gV ik h;have bJ:=C14 ik;obtain⟨sF,⟨h1,dk⟩,h2,h3,h4⟩:=B5M ops (by rw[hm]) dY (λo ho=>bJ o (Hk ho)) (ops.toList.take m) _ _ (λ_ h=>h) (B2C (m:=m) b8 (ops.toList.take m) 0 (λj o hj=>by rw[Ff];exact hj) (C1V gV)) h;obtain⟨g,hr⟩:=hr;have mW:m<=ops.size:=by simpa using lz
  have jf:∀i,(Ft ops.size false).getD i false=false:=λi=>by
   rw[Fk,Io];split<;>rfl
  have dC:REL E.U B (stL none (Ft ops.size false) (sF.dels (I3 (Ft ops.size false) (F5 0 (ops.toList.take m))))) a {w with drawn:=w.drawn+1}:=C2M (s:=s) jf h2 h3 (hr.drew hE.U);refine wp_region_any hE.mix (C4R (B:=B) (md:=.any) (Q:=Q0) (al:=none) (fl:=[]) hE mW b8 h4 dk gV bJ (λj o hj ho=>?_) (λk o ho hk listed _ h2 j hj _=>?_) (λfuel listed a' w' bD eM hl bV gu=>?_) ops.size _ a _ Eo Eo (λi o hi=>?_) (λi hi=>?_) (λj _ hj=>by cases hj) dC az)
  ·exact B2y eg j o (by rw[Gi,El hj];exact ho)
  ·have mI:o∈ops.toList.drop m:=Fp (i:=k - m) (by rw[Ht,show m+(k - m)=k from Du];exact ho);have h5:=Hv.1 (Hv.1 iD o mI) j (Hr.2 hj);obtain⟨e,he,wq,hb⟩:=A8r h5 .any;have:=h2 e he hb;rw[wq]at this;exact this
  ·have oc:=fG;simp only[A8E,Ew]at oc;have BD:=Fw oc.1;have uk:listed=A12 m:=by
    apply Iq;intro i;have h5:=hl i;rw[Fk]at h5;simp only[A12,List.getElem?_toArray,Kj,List.length_replicate,List.getElem?_replicate];by_cases hi:i<listed.size
    ·rw[Fx hi]at h5 ⊢;by_cases hH:i<m
     ·rw[El hH,El hH];have:=h5.2 hH;simpa using this
     ·rw[Ek hH,El Du];cases hv:listed[i]with
      |false=>rfl
      |true=>exact absurd (h5.1 (by simp[hv])) hH
    ·rw[Ip Du,Ek Du,Ek Du]
   obtain⟨g',bV⟩:=bV;rw[uk]at eM ⊢;have Ds:6<=fuel:=by
    have:(A12 m).toList.count false=6:=by simp[A12,List.count_append,List.count_replicate]
    omega
   rw[show fuel=(fuel - 6)+6 from Du];exact C9d hE fG bJ h1 bV gu iA hk (fuel - 6)
  ·rw[jf]at hi;cases hi
  ·rw[jf]at hi;cases hi
end
end Go.Aev
end
section
open Go.Lib
namespace Go.Aev
variable {Ty:Type}{den:Ty->Type}
section
variable {E:Env Ty den}{B:Bs}{g:Gh}{s:St Ty den}{a:Act}{w:World}
variable {P:Fh}{R:Type}{o:Oper}{k:Ent Ty den->St Ty den->Option R}{r:R}{next:Act->World->Prop}{Q:Exit->Act->World->Prop}
def C3m:Ex->Exit
 | .normal=>.normal
 | .exit id=>.exit id
 | .ret=>.ret
def B6Y(E:Env Ty den)(B:Bs)(k:Ex->St Ty den->Option R)(r:R)(Q:Exit->Act->World->Prop):Prop:=
 ∀e s a w,k e s=some r->REL E.U B s a w->a.tmps.size=E.nt->Q (C3m e) a w
def C2H{c:Code}{body:St Ty den->(Ex->St Ty den->Option R)->Option R}
  (od:∀(s:St Ty den)(a:Act)(w:World)(k:Ex->St Ty den->Option R)(Q:Exit->Act->World->Prop),body s k=some r->REL E.U B s a w->a.tmps.size=E.nt->B6Y E B k r Q->c.wp P Q a w):
  ∀(n:Nat)(s:St Ty den)(a:Act)(w:World)(k:Ex->St Ty den->Option R)(Q:Exit->Act->World->Prop),C8 body n s k=some r->REL E.U B s a w->a.tmps.size=E.nt->B6Y E B k r Q->
   ∀(b:Frame)(kk:List Item)(cs:List Frame),∃e a' w',Q e a' w'/\Arrives P (lone (b.at a (.code c::.inLoop c::kk)) cs w) b kk cs e a' w'
 |0,s,a,w,k,Q,h,hr,az,hm,b,kk,cs=>by cases h
 |n+1,s,a,w,k,Q,h,hr,az,hm,b,kk,cs=>by
  simp only[C8]at h;have h1:=od s a w _ (λe a' w'=>match e with
   | .normal=>∀(b:Frame)(kk:List Item)(cs:List Frame),∃e zd sH,Q e zd sH/\Arrives P (lone (b.at a' (.code c::.inLoop c::kk)) cs w') b kk cs e zd sH
   |e=>Q e a' w') h hr az (λe s' a' w' hk bV cn=>by
    cases e with
    |normal=>exact C2H od n s' a' w' k Q hk bV cn hm
    |exit id=>exact hm _ _ _ _ hk bV cn
    |ret=>exact hm _ _ _ _ hk bV cn)
  obtain⟨e,a₁,w₁,hq,cN⟩:=h1 b (.inLoop c::kk) cs;cases e with
  |normal=>
   obtain⟨e₂,a₂,w₂,BE,sJ⟩:=hq b kk cs;exact⟨e₂,a₂,w₂,BE,.of_steps (Steps.trans cN (.one step_inLoop)) sJ⟩
  |exit id=>exact⟨_,a₁,w₁,hq,.pass (x:=.inLoop c) rfl (λ_ _=>.inl Eo) cN⟩
  |goto l=>exact⟨_,a₁,w₁,hq,.pass (x:=.inLoop c) rfl (λ_ _=>.inl Eo) cN⟩
  |ret=>exact⟨_,a₁,w₁,hq,.pass (x:=.inLoop c) rfl (λ_ _=>.inl Eo) cN⟩
  |panic ch=>exact⟨_,a₁,w₁,hq,.pass (x:=.inLoop c) rfl (λ_ _=>.inl Eo) cN⟩
  |outgrown=>exact⟨_,a₁,w₁,hq,.pass (x:=.inLoop c) rfl (λ_ _=>.inl Eo) cN⟩
def B9o(hE:Y9 P E B)(n:Nat):∀(c:Code)(s:St Ty den)(a:Act)(w:World)(k:Ex->St Ty den->Option R)(Q:Exit->Act->World->Prop),B2 E n c s k=some r->REL E.U B s a w->a.tmps.size=E.nt->B6Y E B k r Q->c.wp P Q a w:=by
 intro c
 induction c with
 |skip=>intro s a w k Q h hr az hm;exact wp_skip (hm .normal s a w h hr az)
 |region id ops wr=>
  intro s a w k Q h hr az hm;cases wr with
  |true=>
   simp only[B2]at h;exact D48 hE id ops s a w _ h hr az (λs' a' w' hk ⟨g',bV⟩ cn=>hm .normal _ _ _ hk ⟨g',bV.clean _⟩ cn)
  |false=>
   simp only[B2]at h;exact wp_region_list (A8u hE ops ops.toList s a w _ h hr az (λs' a' w' hk ⟨g',bV⟩ cn=>hm .normal _ _ _ hk ⟨g',bV.clean _⟩ cn))
 |seq x y rM ws=>
  intro s a w k Q h hr az hm;simp only[B2]at h;refine wp_seq (rM s a w _ _ h hr az ?_);intro e s' a' w' hk bV cn;cases e with
  |normal=>exact ws s' a' w' k Q hk bV cn hm
  |exit id=>exact hm _ _ _ _ hk bV cn
  |ret=>exact hm _ _ _ _ hk bV cn
 |cond c x y rM ws=>
  intro s a w k Q h hr az hm;obtain⟨g,hr⟩:=hr;simp only[B2]at h;split at h
  ·rename_i t hc;have uj:=A6q hr hc;cases t with
   |true=>exact wp_cond_true uj (rM s a w k Q h ⟨g,hr⟩ az hm)
   |false=>exact wp_cond_false uj (ws s a w k Q h ⟨g,hr⟩ az hm)
  ·cases h
 |block id c ih=>
  intro s a w k Q h hr az hm;simp only[B2]at h;refine wp_block (ih s a w _ _ h hr az ?_);intro e s' a' w' hk bV cn;cases e with
  |normal=>exact hm .normal _ _ _ hk bV cn
  |ret=>exact hm .ret _ _ _ hk bV cn
  |exit j=>
   simp only[A7]at hk;simp only[C3m,Exit.inBlock];cases hj:Ey j id with
   |true=>
    rw[hj]at hk;rw[El ((F2 j id).1 hj)];exact hm .normal _ _ _ hk bV cn
   |false=>
    rw[hj]at hk;rw[Ek (λe=>by rw[(F2 j id).2 e]at hj;cases hj)];exact hm (.exit j) _ _ _ hk bV cn
 |loop c ih=>
  intro s a w k Q h hr az hm;simp only[B2]at h;intro b kk cs;obtain⟨g,hr⟩:=hr;obtain⟨e,a',w',hq,cN⟩:=C2H (c:=c) (λs a w k Q h hr az hm=>ih _ a w _ Q h hr az (λe s' a' w' hk ⟨g',bV⟩ cn=>by
   cases e with
   |normal=>exact hm .normal _ _ _ hk ⟨g',bV.clean _⟩ cn
   |exit id=>exact hm _ _ _ _ hk ⟨g',bV⟩ cn
   |ret=>exact hm _ _ _ _ hk ⟨g',bV⟩ cn)) n _ a w k Q h ⟨g,hr.clean _⟩ az hm b kk cs
  exact⟨e,a',w',hq,.of_steps (.one step_loop) cN⟩
 |exit id=>intro s a w k Q h hr az hm;exact wp_exit (hm (.exit id) s a w h hr az)
 |ret=>intro s a w k Q h hr az hm;exact wp_ret (hm .ret s a w h hr az)
 |rangeFunc f p x y=>intro s a w k Q h;simp only[B2]at h;cases h
 |scope c=>intro s a w k Q h;simp only[B2]at h;cases h
 |label l=>intro s a w k Q h;simp only[B2]at h;cases h
 |goto l=>intro s a w k Q h;simp only[B2]at h;cases h
 |refuse wy=>intro s a w k Q h;simp only[B2]at h;cases h
end
end Go.Aev
end
section
open Go.Lib
namespace Go.Aev
variable {Ty:Type}{den:Ty->Type}
section
variable {U:UO Ty den}{B:Bs}{g:Gh}{s:St Ty den}{a:Act}{w:World}
variable {E:Env Ty den}{P:Fh}
def A3j:∀(ls:List (Leaf Ty den))(k i:Nat),look (A4w k ls) i=if h:k<=i/\i - k<ls.length then .one ls[i - k]else .one .any
 |[],k,i=>by simp[A4w,look]
 |l::ls,k,i=>by
  simp only[A4w,look];by_cases h:k=i
  ·subst h;simp[H5]
  ·rw[K4 h];simp only[Eh];rw[A3j ls (k+1) i];by_cases h1:k+1<=i/\i - (k+1)<ls.length
   ·rw[dif_pos h1,dif_pos Es]
    congr 1
    have:i - k=(i - (k+1))+1:=Du
    simp[this]
   ·rw[dif_neg h1,dif_neg Es]
structure EnvI(P:Fh)(E:Env Ty den)(I:Inv):Prop where
 U:E.U.Ok
 tb:∀t,Q6 P E.U t (E.tb t)
 zr:∀t zs,E.zr t=some zs->A1v P E.U t zs
 T:∀f ls r,E.T f ls=some (true,r)->(∀args w,(Fm f args).run P w=.ok (.enter f args) w)/\A1U P E.U I f ls r
 TB:∀f ls cs rs ay,E.TB f ls cs=some (rs,ay)->(∀args w,(Fm f args).run P w=.ok (.enter f args) w)/\X2 P E.U I f ls cs rs ay
 TI:∀(w:World)(m:Nat->Nat),I w m->∀nm ls cs rs ay,E.TI nm ls cs=some (rs,ay)->A5k P E.U ⟨w,m,λ_=>False,0,λ_=>undef⟩ nm ls cs rs ay
 TR:∀f ls cs rs,E.TR f ls cs=some rs->(∀args w,(Fm f args).run P w=.ok (.enter f args) w)/\X2 P E.U I f ls cs rs cs
 mono:∀w m w' m',I w m->Ext w m w' m'->I w' m'
 dcx:A4j E.U
 TN:∀f ls cs,E.TNg f ls=some (true,cs)->(∀args w,(Fm f args).run P w=.ok (.enter f args) w)/\A6a P E.U I f ls cs
 mix:P.follows .mixedOrders=true
def EnvI.at{I:Inv}(eQ:EnvI P E I){B:Bs}(hI:I B.w B.wm)(uz:B.np<=E.np):Y9 P E B:=
 ⟨eQ.U,uz,eQ.tb,eQ.zr,λf' bY r' h'=>by
  obtain⟨h1,h2⟩:=eQ.T f' bY r' h';exact⟨h1,λw1 g1 jI hx=>h2 w1 g1 jI (eQ.mono _ _ _ _ hI hx)⟩,λf' bY gZ sK qX h'=>by
  obtain⟨h1,h2⟩:=eQ.TB f' bY gZ sK qX h';exact⟨h1,λw1 g1 jI j8 hx=>h2 w1 g1 jI j8 (eQ.mono _ _ _ _ hI hx)⟩,λnm bY gZ sK qX h'=>eQ.TI _ _ hI nm bY gZ sK qX h',λf' bY gZ sK h'=>by
  obtain⟨h1,h2⟩:=eQ.TR f' bY gZ sK h';exact⟨h1,λw1 g1 jI j8 hx=>h2 w1 g1 jI j8 (eQ.mono _ _ _ _ hI hx)⟩,λf' bY gZ h'=>by
  obtain⟨h1,h2,h3,h4⟩:=eQ.TN f' bY gZ h';exact⟨h1,h2,h3,λw1 g1 jI hx=>h4 w1 g1 jI (eQ.mono _ _ _ _ hI hx)⟩,eQ.mix⟩
def C0T{I:Inv}(eQ:EnvI P E I){f:Fq}{fn:Func}(hf:P.funcs[f]?=some fn)(df:E.nt=fn.ntmps){w:World}{g:Gh}{ls:List (Leaf Ty den)}{vs:Ea}(hI:I w g.wm)(hz:∀b,w.heap.size<=b->g.wm b=0)(ax:LsRep E.U w g ls vs)(cM:P0 ls=true->Tip w g.wm (g.G 0) (g.Gs 0))
  {c:Code}(hb:fn.body=some c)(bh:ls.length<=E.nt){n:Nat}{R:Type}{kk:Ex->St Ty den->Option R}{r:R}(hn:B2 E n c (A13 ls) kk=some r){Rr:Ending->World->Prop}
  (bU:∀e s' a' w' g',kk e s'=some r->Rel E.U ⟨w,g.wm,λb=>P0 ls=true/\spare (g.G 0)=some b,0,λ_=>undef⟩ g' s' a' w'->(e=.normal\/e=.ret)/\∃v,(Hy fn a'.tmps).run P w'=.ok v w'/\Rr (.returned v) w'):Calls P f vs.toArray w Rr:=by
 have hE:Y9 P E ⟨w,g.wm,λb=>P0 ls=true/\spare (g.G 0)=some b,0,λ_=>undef⟩:=eQ.at hI (Ge _);have av:=ax.length;refine calls_of_wp hf hb ?_;refine B9o (B:=⟨w,g.wm,λb=>P0 ls=true/\spare (g.G 0)=some b,0,λ_=>undef⟩) hE n c _ _ _ _ _ hn ⟨g,?_⟩ Es ?_
 ·refine{os:=rfl,tape:=rfl,output:=rfl,size:=Fg _,frame:=λb _ _=>⟨rfl,rfl⟩,ext:=Ext.refl _ _,zero:=hz,ent:=λi=>?_,tip:=λd hd=>?_,disj:=λd e b hd he aC=>?_,mine:=λd b hd hs=>?_,iter:=λi c p h=>?_,idis:=λi j c p c' p' _ h=>?_,defers:=rfl,bxl:=λi d l h=>?_,pin:=λi hi=>absurd hi (Nat.not_lt_zero i)}
  ·simp only[A13,St.get,A3j,Ge,Ha,true_and];split
   ·rename_i hi;obtain⟨v,hv,db⟩:=ax.get (Fj hi);have cK:i<vs.length:=Du
    have:(vs.toArray++Ft (fn.ntmps - vs.toArray.size) undef).getD i undef=v:=by
     rw[Fk,Hf (by simpa using cK)];simp[hv]
    rw[this];exact db
   ·exact ERep.any _ _ _
  ·simp only[A13]at hd;cases ho:P0 ls with
   |false=>rw[ho]at hd;cases hd
   |true=>
    rw[ho]at hd;simp only[Eg,mem_cons]at hd;rcases hd with rfl|hd
    ·exact cM ho
    ·cases hd
  ·simp only[A13]at hd he;cases ho:P0 ls with
   |false=>rw[ho]at hd;cases hd
   |true=>
    rw[ho]at hd he;simp only[Eg,mem_cons]at hd he;rcases hd with rfl|hd
    ·rcases he with rfl|he
     ·exact absurd rfl aC
     ·cases he
    ·cases hd
  ·simp only[A13]at hd;cases ho:P0 ls with
   |false=>rw[ho]at hd;cases hd
   |true=>
    rw[ho]at hd;simp only[Eg,mem_cons]at hd;rcases hd with rfl|hd
    ·exact .inr ⟨rfl,hs⟩
    ·cases hd
  ·simp only[A13,St.get,A3j]at h;split at h<;>cases h
  ·simp only[A13,St.get,A3j]at h;split at h<;>cases h
  ·simp only[A13,St.get,A3j]at h;split at h<;>cases h
 ·intro e s' a' w' hk ⟨g',bV⟩ cn;obtain⟨he,v,h1,h2⟩:=bU e s' a' w' g' hk bV;rcases he with rfl|rfl
  ·exact⟨bV.defers,v,h1,h2⟩
  ·exact⟨bV.defers,v,h1,h2⟩
def B0a{I:Inv}(eQ:EnvI P E I){f:Fq}{fn:Func}(hf:P.funcs[f]?=some fn)(df:E.nt=fn.ntmps)(fm:∀args w,(Fm f args).run P w=.ok (.enter f args) w)
  {S:List (Leaf Ty den)->Option (Ent Ty den)}(hS:∀ls r,S ls=some r->∃n,A5 E n fn ls=some r):Sound P E.U I f S:=by
 refine⟨fm,λls r bD w g vs hI hz ax cM dD=>?_⟩;obtain⟨n,hn⟩:=hS ls r bD;unfold A5 at hn;cases hb:fn.body with
 |none=>rw[hb]at hn;cases hn
 |some c=>
  rw[hb]at hn;obtain⟨bh,hn⟩:=A8 hn;refine C0T eQ hf df hI hz ax cM hb (by simpa [Hq]using bh) hn λe s' a' w' g' hk bV=>?_;have da:B1u E fn.results.toList s'=some r->∃v,(Hy fn a'.tmps).run P w'=.ok v w'/\(λe w'=>∃v g',e=Jh v/\Post E.U ⟨w,g.wm,λb=>P0 ls=true/\spare (g.G 0)=some b,0,λ_=>undef⟩ g' r v w') (.returned v) w':=λhp=>by
   obtain⟨v,h1,g2,h2⟩:=C7m (P:=P) eQ.tb eQ.U eQ.dcx hp bV;exact⟨v,h1,v,g2,rfl,h2⟩
  cases e with
  |normal=>exact⟨.inl rfl,da hk⟩
  |ret=>exact⟨.inr rfl,da hk⟩
  |exit id=>cases hk
def D4V{I:Inv}(eQ:EnvI P E I){f:Fq}{fn:Func}(hf:P.funcs[f]?=some fn)(df:E.nt=fn.ntmps){n:Nat}{ls cs:List (Leaf Ty den)}(hn:B3o E n fn ls=some cs)(ho:P0 ls=false):A6a P E.U I f ls cs:=by
 unfold B3o at hn;cases hb:fn.body with
 |none=>rw[hb]at hn;cases hn
 |some c=>
  rw[hb]at hn;obtain⟨bh,hn⟩:=A8 hn;split at hn
  ·rename_i mN gm;obtain⟨mY,hn⟩:=A8 hn;cases hn;rw[Ew,Fe]at mY;refine⟨mY.1,mY.2,λw g vs hI hz ax dD=>?_⟩;refine C0T eQ hf df hI hz ax (λh=>by rw[ho]at h;cases h) hb (by simpa [Hq]using bh) gm λe s' a' w' g' hk bV=>?_;have da:∀h:(match fn.results.toList with
     |[.tmp t]=>match s'.get t with
      | .one (.ptr d o)=>bif Ey o 0&&Hp d 1000000 then L8 s' d else none
      |_=>none
     |_=>none)=some cs,∃v,(Hy fn a'.tmps).run P w'=.ok v w'/\(λe w'=>∃b g',e=Jh (.pointer (some ⟨b,0,none⟩))/\Post E.U ⟨w,g.wm,λ_=>False,0,λ_=>undef⟩ g' (.one .any) (.pointer (some ⟨b,0,none⟩)) w'/\w.heap.size<=b/\
      Tip w' g'.wm (.slice (some ⟨b,0,none⟩) 0 cs.length) 1/\∀(j:Nat) lf,cs[j]?=some lf->∃u,w'.cell? ⟨b,j,none⟩=some u/\u.oneCell'=true/\u.cells= #[u]/\CRep E.U w' g'.wm lf u) (.returned v) w':=λh=>by
    split at h
    ·rename_i t ht;split at h
     ·rename_i d o hg;obtain⟨hc,h'⟩:=A8 h;rw[Ew]at hc;have:=(F2 _ _).1 hc.1;subst this;obtain⟨cj,aG,_⟩:=A1T bV h';have aN:=bV.ent t;rw[hg]at aN;obtain⟨b,n,hG,hv,⟨h0,h1,h2⟩,cX,aQ⟩:=A4v Ep aN cj;cases h2 hc.2;have ah:=A6H P fn a' w' [.tmp t] ht (vs:=[a'.tmps.getD t undef]) (λf hf=>by simp[hf.tmp]);simp only[V4,List.length_singleton,dif_pos,List.getElem_cons_zero]at ah;rw[hv]at ah;have bm:spare (g'.G d)=some b:=by rw[hG];simp only[spare];rw[Ek Du]
      have cM:=bV.tip d aG;rw[hG,cX]at cM;refine⟨_,ah,b,g',rfl,{os:=bV.os,tape:=bV.tape,output:=bV.output,size:=bV.size,frame:=λk hk _=>bV.frame k hk (λh=>by have:=h.1;rw[ho]at this;cases this),ext:=bV.ext,zero:=bV.zero,rep:=LRep.any _,nit:=rfl,tip:=λd hd=>(by cases hd),disj:=λd _ _ hd=>(by cases hd),mine:=λd _ hd=>(by cases hd)},?_,cM,λj lf hj=>?_⟩
      ·rcases bV.mine d b aG bm with h|h
       ·exact h
       ·have:=h.1;rw[ho]at this;cases this
      ·obtain⟨u,u1,u2,u3,u4⟩:=aQ j lf hj;exact⟨u,u1,u2,u3,u4.1⟩
     ·cases h
    ·cases h
   cases e with
   |normal=>exact⟨.inl rfl,da hk⟩
   |ret=>exact⟨.inr rfl,da hk⟩
   |exit id=>cases hk
  ·cases hn
def A8S{d:Nat}:∀{ls:List (Leaf Ty den)},mem d (A0P ls)=true->M8 ls d
 |[],h=>by cases h
 |l::ls,h=>by
  have mZ:mem d (A0P ls)=true->M8 (l::ls) d:=λh=>by
   obtain⟨lf,h1,h2⟩:=A8S h;exact⟨lf,by simp[h1],h2⟩
  cases l with
  |sl t x o=>
   cases o with
   |none=>exact mZ h
   |some e=>
    simp only[A0P,mem_cons]at h;rcases h with h|h
    ·exact⟨.sl t x (some e),Eo,by simp[Leaf.has,h,H5]⟩
    ·exact mZ h
  |ptr e o=>
   simp only[A0P,mem_cons]at h;rcases h with h|h
   ·exact⟨.ptr e o,Eo,by simp[Leaf.has,h,H5]⟩
   ·exact mZ h
  |_=>exact mZ h
def C4d{d:Nat}:∀{ls:List (Leaf Ty den)},M8 ls d->mem d (A0P ls)=true
 |[],⟨lf,h,_⟩=>by simp at h
 |l::ls,⟨lf,h,hd⟩=>by
  simp only[Fc]at h;rcases h with rfl|h
  ·rcases (Leaf.has_iff d _).1 hd with⟨t,x,rfl⟩|⟨o,rfl⟩
   ·exact(mem_cons _ _ _).2 (.inl rfl)
   ·exact(mem_cons _ _ _).2 (.inl rfl)
  ·have ih:=C4d ⟨lf,h,hd⟩;cases l with
   |sl t x o=>
    cases o with
    |none=>exact ih
    |some e=>simp only[A0P,mem_cons];exact .inr ih
   |ptr e o=>simp only[A0P,mem_cons];exact .inr ih
   |_=>exact ih
def B1U:∀(rs:List ResultVar)(j:Nat)(s:St Ty den),(∀c d,(c,d)∈E8 j s rs->c<=j+rs.length/\mem d (K7 s rs).live=false)/\(∀e,mem e (K7 s rs).live=true->mem e s.live=true)
 |[],j,s=>⟨λc d h=>by simp[E8]at h,λ_ h=>h⟩
 | .cell _ _::r,j,s=>by
  obtain⟨h1,h2⟩:=B1U r (j+1) s;simp only[E8,K7];exact⟨λc d h=>by obtain⟨k1,k2⟩:=h1 c d h;exact⟨by simp only[Gg];omega,k2⟩,h2⟩
 | .tmp t::r,j,s=>by
  have skip:∀(s':St Ty den),(∀e,mem e s'.live=true->mem e s.live=true)->E8 j s (.tmp t::r)=E8 (j+1) s' r->K7 s (.tmp t::r)=K7 s' r->
    (∀c d,(c,d)∈E8 j s (.tmp t::r)->c<=j+(ResultVar.tmp t::r).length/\mem d (K7 s (.tmp t::r)).live=false)/\(∀e,mem e (K7 s (.tmp t::r)).live=true->mem e s.live=true):=by
   intro s' hl he hS;obtain⟨h1,h2⟩:=B1U r (j+1) s';rw[he,hS];exact⟨λc d h=>by obtain⟨k1,k2⟩:=h1 c d h;exact⟨by simp only[Gg];omega,k2⟩,λe h=>hl e (h2 e h)⟩
  cases hg:s.get t with
  |one l=>
   cases l with
   |sl t0 x o=>
    cases o with
    |none=>exact skip s (λ_ h=>h) (by simp only[E8,hg]) (by simp only[K7,hg])
    |some d=>
     cases hm:mem d s.live with
     |false=>exact skip (s.kill d) (λ_ h=>(A3C.1 h).1) (by simp only[E8,hg,hm,Eh]) (by simp only[K7,hg])
     |true=>
      obtain⟨h1,h2⟩:=B1U r (j+1) (s.kill d);have he:E8 j s (.tmp t::r)=(bif Ey d 0 then 0 else j+1,d)::E8 (j+1) (s.kill d) r:=by simp only[E8,hg,hm,Eg]
      have hS:K7 s (.tmp t::r)=K7 (s.kill d) r:=by simp only[K7,hg]
      rw[he,hS];refine⟨λc d' h=>?_,λe h=>(A3C.1 (h2 e h)).1⟩;simp only[Fc,Fs]at h;rcases h with⟨rfl,rfl⟩|h
      ·refine⟨?_,?_⟩
       ·cases Ey d' 0<;>simp only[Eg,Eh,Gg]<;>omega
       ·cases h5:mem d' (K7 (s.kill d') r).live with
        |false=>rfl
        |true=>exact absurd rfl (A3C.1 (h2 _ h5)).2
      ·obtain⟨k1,k2⟩:=h1 c d' h;exact⟨by simp only[Gg];omega,k2⟩
   |_=>exact skip s (λ_ h=>h) (by simp only[E8,hg]) (by simp only[K7,hg])
  |tup ls=>exact skip s (λ_ h=>h) (by simp only[E8,hg]) (by simp only[K7,hg])
  |st ls=>exact skip s (λ_ h=>h) (by simp only[E8,hg]) (by simp only[K7,hg])
  |iter c p=>exact skip s (λ_ h=>h) (by simp only[E8,hg]) (by simp only[K7,hg])
  |bx d' ls=>exact skip s (λ_ h=>h) (by simp only[E8,hg]) (by simp only[K7,hg])
def C47:∀(cs:List (List (Leaf Ty den)))(cd:List (Nat×Ea))(kk:Nat)(s:St Ty den),Rel U B g s a w->A0A w g (P4 kk cs.length) cs cd->LsRep U w g (F4 kk cs) (V8 cd)->(∀i,i<cs.length->mem (C0 (kk+i)) s.live=true)->
  Rel U B g (B4D kk s cs) a w
 |[],[],kk,s,hr,_,_,_=>hr
 |c::cs,(b,us)::cd,kk,s,hr,hb,hl,hm=>by
  obtain⟨⟨b1,b2,b3,b4,b5⟩,bH⟩:=hb;obtain⟨h1,h2⟩:=LsRep.split hl.2 b2.symm;exact C47 cs cd (kk+1) _ (hr.setBx (B7a b1 b2 b3 b4 b5 h1) (hm 0 Eo)) bH h2 λi hi=>by
   have:=hm (i+1) (by simpa using hi);rw[show kk+(i+1)=kk+1+i from Du]at this;exact this
 |[],_::_,_,_,_,h,_,_=>h.elim
 |_::_,[],_,_,_,h,_,_=>h.elim
def C1s:∀{ps:DX}{kk:Nat},pinned E s kk ps=true->∀{i p:Nat},ps[i]?=some p->s.get p=.one (.ptr (C0 (kk+i)) 0)/\p<E.np
 |[],_,_,i,p,h=>by simp at h
 |q::ps,kk,h,i,p,hp=>by
  simp only[pinned,Ew]at h;cases i with
  |zero=>
   simp at hp;subst hp;have h1:=h.1;split at h1
   ·rename_i d hd;simp only[Ew,Fe]at h1;have:=(F2 _ _).1 h1.1;subst this;exact⟨hd,h1.2⟩
   ·cases h1
  |succ i=>
   have:=C1s h.2 (i:=i) (p:=p) (by simpa using hp);rw[show kk+(i+1)=kk+1+i from Du];exact this
def C10{args:List (Leaf Ty den)}:∀{ps:DX}{kk:Nat},B1s args kk ps=true->∀{i p:Nat},ps[i]?=some p->args[p]?=some (.ptr (C0 (kk+i)) 0)
 |[],_,_,i,p,h=>by simp at h
 |q::ps,kk,h,i,p,hp=>by
  simp only[B1s,Ew]at h;cases i with
  |zero=>
   simp at hp;subst hp;have h1:=h.1;split at h1
   ·rename_i d hd;have:=(F2 _ _).1 h1;subst this;exact hd
   ·cases h1
  |succ i=>
   have:=C10 h.2 (i:=i) (p:=p) (by simpa using hp);rw[show kk+(i+1)=kk+1+i from Du];exact this
def B4g:∀{ds:DX}{cs:List (List (Leaf Ty den))}{cd:List (Nat×Ea)},A0A w g ds cs cd->ds.length=cd.length/\cs.length=cd.length/\∀{i d:Nat}{c:List (Leaf Ty den)},ds[i]?=some d->cs[i]?=some c->∃(b:Nat)(us:Ea),cd[i]?=some (b,us)/\g.G d=.slice (some ⟨b,0,none⟩) 0 us.length/\us.length=c.length
 |[],[],[],_=>⟨rfl,rfl,λh=>by simp at h⟩
 |x::ds,c::cs,(b,us)::cd,hb=>by
  obtain⟨h1,h2,h3⟩:=B4g hb.2;refine⟨by simp[h1],by simp[h2],λ{i d c'} hd hc=>?_⟩;cases i with
  |zero=>simp at hd hc;subst hd hc;exact⟨b,us,rfl,hb.1.1,hb.1.2.1⟩
  |succ i=>simpa using h3 (i:=i) (by simpa using hd) (by simpa using hc)
 |[],[],_::_,h=>h.elim
 |[],_::_,cd,h=>by cases cd<;>exact h.elim
 |_::_,[],cd,h=>by cases cd<;>exact h.elim
 |_::_,_::_,[],h=>h.elim
def C3D:∀{cs ay:List (List (Leaf Ty den))},B2o cs ay=true->cs.length=ay.length/\∀{i:Nat}{c c':List (Leaf Ty den)},cs[i]?=some c->ay[i]?=some c'->c.length=c'.length
 |[],[],_=>⟨rfl,λh=>by simp at h⟩
 |a::r,b::r',h=>by
  simp only[B2o,Ew]at h;obtain⟨h1,h2⟩:=C3D h.2;refine⟨by simp[h1],λ{i c c'} hc cH=>?_⟩;cases i with
  |zero=>simp at hc cH;subst hc cH;exact(F2 _ _).1 h.1
  |succ i=>exact h2 (i:=i) (by simpa using hc) (by simpa using cH)
 |[],_::_,h=>by cases h
 |_::_,[],h=>by cases h
def C1l:∀(n kk:Nat),A0E (P4 kk n)=true
 |0,_=>rfl
 |n+1,kk=>by
  simp only[P4,A0E,Ew,Fu];refine⟨?_,C1l n (kk+1)⟩;have:∀(n k2:Nat),kk<k2->mem (C0 kk) (P4 k2 n)=false:=by
   intro n
   induction n with
   |zero=>intro _ _;rfl
   |succ n ih=>
    intro k2 hk;simp only[P4,mem];rw[K4 (by unfold C0;omega)];exact ih (k2+1) Du
  exact this n (kk+1) Du
def C15:∀(n kk:Nat),(P4 kk n).length=n
 |0,_=>rfl
 |n+1,kk=>by simp[P4,C15 n]
def A7K{I:Inv}(eQ:EnvI P E I){f:Fq}{fn:Func}{ps:DX}(hf:P.funcs[f]?=some fn)(df:E.nt=fn.ntmps)(fm:∀args w,(Fm f args).run P w=.ok (.enter f args) w)
  {S:List (Leaf Ty den)->List (List (Leaf Ty den))->Option (List (Leaf Ty den)×List (List (Leaf Ty den)))}(hS:∀ls cs r,S ls cs=some r->∃n,C5 E n fn ps ls cs=some r):D7 P E.U I f S:=by
 refine⟨fm,λls cs rs ay bD w g vs cd hI hz ax sL my cM sM dD=>?_⟩;obtain⟨n,hn⟩:=hS ls cs _ bD;unfold C5 at hn;cases hb:fn.body with
 |none=>rw[hb]at hn;cases hn
 |some c=>
  rw[hb]at hn;obtain⟨mY,hn⟩:=A8 hn;simp only[Ew,Hq,Fe]at mY;obtain⟨bh,BF,jy,cq⟩:=mY;have jy:=(F2 _ _).1 jy;have av:=ax.length;generalize hB:(⟨w,g.wm,λb=>∃d,M8 (F4 0 cs) d/\spare (g.G d)=some b,E.np,λi=>(vs.toArray++Ft (fn.ntmps - vs.toArray.size) undef).getD i undef⟩:Bs)=B0;have hE:Y9 P E B0:=eQ.at (by rw[<-hB];exact hI) (by rw[<-hB];exact Fg _);refine calls_of_wp hf hb ?_;have bZ:Rel E.U B0 g {fr:=A4w 0 ls,live:=A0P (F4 0 cs)} {tmps:=vs.toArray++Ft (fn.ntmps - vs.toArray.size) undef,defers:=[]} w:=by
   subst hB;refine{os:=rfl,tape:=rfl,output:=rfl,size:=Fg _,frame:=λb _ _=>⟨rfl,rfl⟩,ext:=Ext.refl _ _,zero:=hz,ent:=λi=>?_,tip:=λd hd=>cM d (A8S hd),disj:=λd e b hd he aC=>sM d e b (A8S hd) (A8S he) aC,mine:=λd b hd hs=>.inr ⟨d,A8S hd,hs⟩,iter:=λi c p h=>?_,idis:=λi j c p c' p' _ h=>?_,defers:=rfl,bxl:=λi d l h=>?_,pin:=λi hi=>rfl}
   ·simp only[St.get,A3j,Ge,Ha,true_and];split
    ·rename_i hi;obtain⟨v,hv,db⟩:=ax.get (Fj hi);have cK:i<vs.length:=Du
     have:(vs.toArray++Ft (fn.ntmps - vs.toArray.size) undef).getD i undef=v:=by
      rw[Fk,Hf (by simpa using cK)];simp[hv]
     rw[this];exact db
    ·exact ERep.any _ _ _
   ·simp only[St.get,A3j]at h;split at h<;>cases h
   ·simp only[St.get,A3j]at h;split at h<;>cases h
   ·simp only[St.get,A3j]at h;split at h<;>cases h
  have sO:=C47 cs cd 0 _ bZ my sL (λi hi=>C4d (A6z cs 0 i hi));refine B9o (B:=B0) hE n c _ _ _ _ _ hn ⟨g,sO⟩ Es ?_;intro e s' a' w' hk ⟨g',bV⟩ cn;have bU:L9 E fn.results.toList ps cs .normal s'=some (rs,ay)->a'.defers=[]/\∃v,(Hy fn a'.tmps).run P w'=.ok v w'/\(λe w'=>∃g' rv dw,e=Jh (V4 rv)/\rs.length=rv.length/\
   Post E.U ⟨w,g.wm,λb=>∃d,M8 (F4 0 cs) d/\spare (g.G d)=some b,0,λ_=>undef⟩ g' (.tup (rs++F4 0 ay)) (.tuple (rv++V8 dw).toArray) w'/\
   A0A w' g' (P4 0 cs.length) ay dw/\dw.map (λp=>(p.1,p.2.length))=cd.map (λp=>(p.1,p.2.length))) (.returned v) w':=λhp=>by
   simp only[L9]at hp;split at hp
   case h_2=>cases hp
   rename_i ze gZ s1 BG BH;obtain⟨mY,hp⟩:=A8 hp;simp only[Fi,Fs]at hp;obtain⟨rfl,rfl⟩:=hp;simp only[Ew,Fe]at mY;obtain⟨cP,wu,aG,uY⟩:=mY;obtain⟨jI,q1,q2,q3⟩:=B0r (P:=P) hE.tb hE.U eQ.dcx _ 0 s' ze BG bV;obtain⟨j8,N,p1,p2,p3,p4,p5,p6,p7⟩:=B2M hE.U _ 0 _ gZ s1 BH q3;obtain⟨n1,n2⟩:=A86 fn.results.toList 0 s';obtain⟨n3,n4⟩:=B1U fn.results.toList 0 s';have qL:=C15 cs.length 0;have a8:=C3q (s:=K7 s' fn.results.toList) (C1l cs.length 0) (by rw[qL];exact cq) p4 p5 aG;have lC:∀c d,(c,d)∈K9 0 (P4 0 cs.length)++N->mem d (K7 s' fn.results.toList).live=true/\900000<=c:=λc d nS=>by
    rw[Gc]at nS;rcases nS with h1|h1
    ·obtain⟨i,_,_,h3,h4⟩:=A4i _ 0 _ h1;exact⟨p6 _ (A7Z aG h4),by(have kZ:c=C0 i:=h3);rw[kZ];unfold C0;omega⟩
    ·obtain⟨⟨i,j,_,_,h3⟩,h4,_⟩:=p5 _ h1;exact⟨h4,by(have kZ:c=bo (C0 i) j:=h3);rw[kZ];unfold bo;omega⟩
   have b8:OneOne (E8 0 s' fn.results.toList++(K9 0 (P4 0 cs.length)++N)):=OneOne.append n2 a8 λp hp q hq=>by
    obtain⟨h1,h2⟩:=n3 p.1 p.2 hp;obtain⟨h3,h4⟩:=lC q.1 q.2 hq;refine⟨Du,λe=>?_⟩;rw[e,h3]at h2;cases h2
   have cy:=B6p bV b8 (λc d nS=>by
    rw[Gc]at nS;rcases nS with h1|h1
    ·exact(n1 c d h1).1
    ·exact n4 _ (lC c d h1).1) ((q1.mono λp hp=>Ie _ hp).append (p2.mono λp hp=>Ja _ hp)) (r:=.tup (ze++F4 0 gZ)) (v:=.tuple (jI++V8 j8).toArray) (λc=>by simp only[Ent.has,Hu]) rfl (λDu wv=>⟨_,rfl,wv⟩)
   obtain⟨z1,z2⟩:=C3D cP;have kg:=B1Q b8 _ _ _ 0 p3 (λp hp=>Ja _ (Ie _ hp));refine⟨bV.defers,_,A6H P fn a' w' _ rfl q2,_,jI,j8,rfl,q1.length,?_,by rw[z1];exact kg,?_⟩
   ·subst hB;exact{os:=cy.os,tape:=cy.tape,output:=cy.output,size:=cy.size,frame:=cy.frame,ext:=cy.ext,zero:=cy.zero,rep:=cy.rep,nit:=cy.nit,tip:=cy.tip,disj:=cy.disj,mine:=cy.mine}
   ·obtain⟨x1,x2,x3⟩:=B4g my;obtain⟨y1,y2,y3⟩:=B4g p3;apply List.ext_getElem?;intro i;rw[Gj,Gj];rcases Hh i cs.length with hi|hi
    ·have lD:=A8g cs.length 0 i hi;rw[Ff]at lD;obtain⟨b,us,e1,e2,e3⟩:=x3 lD (Fj hi);obtain⟨b',iR,uV,yQ,Dv⟩:=y3 lD (Fj (show i<gZ.length from Du));have im:=z2 (Fj hi) (Fj (show i<gZ.length from Du));have zf:i<ps.length:=Du
     obtain⟨f1,f2⟩:=C1s wu (Fj zf);rw[Ff]at f1;have f3:=bV.ent ps[i];rw[f1]at f3;obtain⟨b2,Dw,f4,f5⟩:=f3.2.2 _ _ rfl;have f6:=bV.pin ps[i] (by subst hB;exact f2);rw[f5.at Ep]at f6;have f7:=C10 BF (Fj zf);rw[Ff]at f7;obtain⟨v0,f8,f9⟩:=ax.get f7;obtain⟨b3,Dx,f10,f11⟩:=f9.2.2 _ _ rfl;have f12:(Value.pointer (some ⟨b2,0,none⟩))=v0:=by
      rw[f6];subst hB;have oG:=I0 f8;show(vs.toArray++Ft (fn.ntmps - vs.toArray.size) undef).getD ps[i] undef=v0;rw[Fk,Hf (by simpa using oG)];simp[f8]
     rw[f11.at Ep]at f12;rw[e2]at f10;rw[yQ]at f4;simp only[Kr,Fi,Kq]at f10 f4;simp only[Ks,Fi,Kq]at f12;rw[e1,uV];simp only[Iw,Fi,Fs];exact⟨by rw[f4.1.1,f12.1, <-f10.1.1],Du⟩
    ·rw[Jd Du,Jd Du]
  cases e with
  |normal=>exact bU hk
  |ret=>exact bU hk
  |exit id=>cases hk
end
end Go.Aev
end
section
namespace Go.Aev
structure B1 where
 line:Int
 col:Int
structure A7o where
 name:DT
 index:Int
 item:Bool
structure A0 where
 kind:Int
 pos:B1
 from_:Int
 to_:Int
 text:DT
 value:DT
abbrev DZ:=List A0
structure I6 where
 name:DT
 wrap:DT
structure A1j where
 has:Bool
 block:Bool
 text:DT
structure A3z where
 name:DT
 pos:B1
structure A1Q where
 kind:Int
 pos:List B1
 path:List A7o
structure B9 where
 name:DT
 choices:List Eb
structure A1 where
 sym:DT
 kids:DS
 tok:Int
abbrev DY:=List A1
structure A1B where
 nodes:DY
 toks:DZ
inductive LitT where
 |mk (kind:Int) (text:DT) (block:Bool) (items:List LitT) (fields:List (DT×LitT×B1)) (pos:B1)
abbrev LfT:=DT×LitT×B1
abbrev LfT.name(x:LfT):DT:=x.1
abbrev LfT.value(x:LfT):LitT:=x.2.1
abbrev LfT.pos(x:LfT):B1:=x.2.2
namespace LitT
def kind:LitT->Int|mk a _ _ _ _ _=>a
def text:LitT->DT|mk _ a _ _ _ _=>a
def block:LitT->Bool|mk _ _ a _ _ _=>a
def items:LitT->List LitT|mk _ _ _ a _ _=>a
def fields:LitT->List LfT|mk _ _ _ _ a _=>a
def pos:LitT->B1|mk _ _ _ _ _ a=>a
def eta(x:LitT):LitT.mk x.kind x.text x.block x.items x.fields x.pos=x:=by cases x;rfl
end LitT
structure D1 where
 name:DT
 value:LitT
 pos:B1
structure C7 where
 name:DT
 args:List D1
 pos:B1
structure VdT where
 name:DT
 type_:I6
 hasDefault:Bool
 dflt:LitT
 dirs:List C7
 pos:B1
structure RdT where
 op:Int
 type_:DT
 pos:B1
structure A4R where
 note:A1j
 name:DT
 dirs:List C7
 pos:B1
structure IvT where
 note:A1j
 name:DT
 type_:I6
 hasDefault:Bool
 dflt:LitT
 dirs:List C7
 pos:B1
structure FdT where
 note:A1j
 name:DT
 args:List IvT
 type_:I6
 dirs:List C7
 pos:B1
inductive SelT where
 |mk (kind:Int) (alias_ name on_:DT) (args:List D1) (dirs:List C7) (sels:List SelT) (pos:B1)
abbrev Ee:=List SelT
namespace SelT
def kind:SelT->Int|mk a _ _ _ _ _ _ _=>a
def alias_:SelT->DT|mk _ a _ _ _ _ _ _=>a
def name:SelT->DT|mk _ _ a _ _ _ _ _=>a
def on_:SelT->DT|mk _ _ _ a _ _ _ _=>a
def args:SelT->List D1|mk _ _ _ _ a _ _ _=>a
def dirs:SelT->List C7|mk _ _ _ _ _ a _ _=>a
def sels:SelT->Ee|mk _ _ _ _ _ _ a _=>a
def pos:SelT->B1|mk _ _ _ _ _ _ _ a=>a
def eta(x:SelT):SelT.mk x.kind x.alias_ x.name x.on_ x.args x.dirs x.sels x.pos=x:=by cases x;rfl
end SelT
structure D8 where
 kind:Int
 name:DT
 on_:DT
 short:Bool
 vars:List VdT
 dirs:List C7
 sels:Ee
 pos:B1
structure J1 where
 defs:List D8
structure A8Q where
 kind:Int
 extd:Bool
 note:A1j
 name:DT
 ifaces:List A3z
 dirs:List C7
 fields:List FdT
 inputs:List IvT
 members:List A3z
 values:List A4R
 roots:List RdT
 repeatable:Bool
 places:List A3z
 pos:B1
structure B44 where
 toks:DZ
 at_:Int
 nest:Int
 limit:Int
 kind:Int
structure B21 where
 toks:DZ
 at_:Int
structure B6j where
 b:DS
structure B4N where
 buf:DS
inductive PartT where
 |sel (x:SelT)|root (x:RdT)|field (x:FdT)|value (x:A4R)|input (x:IvT)
inductive Ty6 where|i32|u8|i64|rs|str|strs|part|pos|tok|lit|lf|arg|dir|vd|sel|dfn|doc|note|named|iv|fd|vald|rd|sys|fault|step|tref|rule|node|tree|node0|lit0|dfn0|cur|rdr|out|page
 deriving DecidableEq
abbrev A4:Ty6->Type
 | .i32=>Int
 | .u8=>Int
 | .i64=>Int
 | .rs=>DS
 | .str=>DT
 | .strs=>Eb
 | .part=>PartT
 | .pos=>B1
 | .tok=>A0
 | .lit=>LitT
 | .lf=>LfT
 | .arg=>D1
 | .dir=>C7
 | .vd=>VdT
 | .sel=>SelT
 | .dfn=>D8
 | .doc=>J1
 | .note=>A1j
 | .named=>A3z
 | .iv=>IvT
 | .fd=>FdT
 | .vald=>A4R
 | .rd=>RdT
 | .sys=>A8Q
 | .fault=>A1Q
 | .step=>A7o
 | .tref=>I6
 | .rule=>B9
 | .node=>A1
 | .tree=>A1B
 | .node0=>A1
 | .lit0=>LitT
 | .dfn0=>D8
 | .cur=>B44
 | .rdr=>B21
 | .out=>B6j
 | .page=>B4N
abbrev L6:=Leaf Ty6 A4
abbrev DV:=List L6
abbrev Ec:=List DV
abbrev E6:=Ent Ty6 A4
abbrev DU:=Option E6
abbrev S6:=St Ty6 A4
def A0H:(t:Ty6)->A4 t->DV
 | .i32,(n:Int)=>[.int .i32 n]
 | .u8,(n:Int)=>[.int .u8 n]
 | .i64,(n:Int)=>[.int .i64 n]
 | .rs,(l:DS)=>[.sl .i32 l none]
 | .str,(s:DT)=>[.str s]
 | .strs,(l:Eb)=>[.sl .str l none]
 | .part,(p:PartT)=>[match p with| .sel x=>.ifc 238 .sel x| .root x=>.ifc 254 .rd x| .field x=>.ifc 255 .fd x| .value x=>.ifc 258 .vald x| .input x=>.ifc 259 .iv x]
 | .pos,(x:B1)=>[.int .i64 x.line,.int .i64 x.col]
 | .tok,(x:A0)=>[.int .i64 x.kind,.int .i64 x.pos.line,.int .i64 x.pos.col,.int .i64 x.from_,.int .i64 x.to_,.str x.text,.str x.value]
 | .lit,(x:LitT)=>[.int .i64 x.kind,.str x.text,.bool x.block,.sl .lit x.items none,.sl .lf x.fields none,.int .i64 x.pos.line,.int .i64 x.pos.col]
 | .lf,(x:LfT)=>[.str x.name,.int .i64 x.value.kind,.str x.value.text,.bool x.value.block,.sl .lit x.value.items none,.sl .lf x.value.fields none,.int .i64 x.value.pos.line,.int .i64 x.value.pos.col,.int .i64 x.pos.line,.int .i64 x.pos.col]
 | .arg,(x:D1)=>[.str x.name,.int .i64 x.value.kind,.str x.value.text,.bool x.value.block,.sl .lit x.value.items none,.sl .lf x.value.fields none,.int .i64 x.value.pos.line,.int .i64 x.value.pos.col,.int .i64 x.pos.line,.int .i64 x.pos.col]
 | .dir,(x:C7)=>[.str x.name,.sl .arg x.args none,.int .i64 x.pos.line,.int .i64 x.pos.col]
 | .vd,(x:VdT)=>[.str x.name,.str x.type_.name,.str x.type_.wrap,.bool x.hasDefault,.int .i64 x.dflt.kind,.str x.dflt.text,.bool x.dflt.block,.sl .lit x.dflt.items none,.sl .lf x.dflt.fields none,.int .i64 x.dflt.pos.line,.int .i64 x.dflt.pos.col,.sl .dir x.dirs none,.int .i64 x.pos.line,.int .i64 x.pos.col]
 | .sel,(x:SelT)=>[.int .i64 x.kind,.str x.alias_,.str x.name,.str x.on_,.sl .arg x.args none,.sl .dir x.dirs none,.sl .sel x.sels none,.int .i64 x.pos.line,.int .i64 x.pos.col]
 | .dfn,(x:D8)=>[.int .i64 x.kind,.str x.name,.str x.on_,.bool x.short,.sl .vd x.vars none,.sl .dir x.dirs none,.sl .sel x.sels none,.int .i64 x.pos.line,.int .i64 x.pos.col]
 | .doc,(x:J1)=>[.sl .dfn x.defs none]
 | .note,(x:A1j)=>[.bool x.has,.bool x.block,.str x.text]
 | .named,(x:A3z)=>[.str x.name,.int .i64 x.pos.line,.int .i64 x.pos.col]
 | .iv,(x:IvT)=>[.bool x.note.has,.bool x.note.block,.str x.note.text,.str x.name,.str x.type_.name,.str x.type_.wrap,.bool x.hasDefault,.int .i64 x.dflt.kind,.str x.dflt.text,.bool x.dflt.block,.sl .lit x.dflt.items none,.sl .lf x.dflt.fields none,.int .i64 x.dflt.pos.line,.int .i64 x.dflt.pos.col,.sl .dir x.dirs none,.int .i64 x.pos.line,.int .i64 x.pos.col]
 | .fd,(x:FdT)=>[.bool x.note.has,.bool x.note.block,.str x.note.text,.str x.name,.sl .iv x.args none,.str x.type_.name,.str x.type_.wrap,.sl .dir x.dirs none,.int .i64 x.pos.line,.int .i64 x.pos.col]
 | .vald,(x:A4R)=>[.bool x.note.has,.bool x.note.block,.str x.note.text,.str x.name,.sl .dir x.dirs none,.int .i64 x.pos.line,.int .i64 x.pos.col]
 | .rd,(x:RdT)=>[.int .i64 x.op,.str x.type_,.int .i64 x.pos.line,.int .i64 x.pos.col]
 | .sys,(x:A8Q)=>[.int .i64 x.kind,.bool x.extd,.bool x.note.has,.bool x.note.block,.str x.note.text,.str x.name,.sl .named x.ifaces none,.sl .dir x.dirs none,.sl .fd x.fields none,.sl .iv x.inputs none,.sl .named x.members none,.sl .vald x.values none,.sl .rd x.roots none,.bool x.repeatable,.sl .named x.places none,.int .i64 x.pos.line,.int .i64 x.pos.col]
 | .fault,(x:A1Q)=>[.int .i64 x.kind,.sl .pos x.pos none,.sl .step x.path none]
 | .step,(x:A7o)=>[.str x.name,.int .i64 x.index,.bool x.item]
 | .tref,(x:I6)=>[.str x.name,.str x.wrap]
 | .rule,(x:B9)=>[.str x.name,.sl .strs x.choices none]
 | .node,(x:A1)=>[.str x.sym,.sl .i64 x.kids none,.int .i64 x.tok]
 | .tree,(x:A1B)=>[.sl .node x.nodes none,.sl .tok x.toks none]
 | .node0,(x:A1)=>[.str x.sym,.nils,.int .i64 x.tok]
 | .dfn0,(x:D8)=>[.int .i64 x.kind,.str x.name,.str x.on_,.bool x.short,.nils,.sl .dir x.dirs none,.sl .sel x.sels none,.int .i64 x.pos.line,.int .i64 x.pos.col]
 | .lit0,(x:LitT)=>[.int .i64 x.kind,.str x.text,.bool x.block,.nils,.nils,.int .i64 x.pos.line,.int .i64 x.pos.col]
 | .cur,(x:B44)=>[.sl .tok x.toks none,.int .i64 x.at_,.int .i64 x.nest,.int .i64 x.limit,.int .i64 x.kind]
 | .rdr,(x:B21)=>[.sl .tok x.toks none,.int .i64 x.at_]
 | .out,(x:B6j)=>[.sl .u8 x.b none]
 | .page,(x:B4N)=>[.elem .i64 (0:Int) 0,.sl .u8 x.buf none]
def C0l:DV->Option PartT
 |[.ifc 238 .sel x]=>some (PartT.sel x)
 |[.ifc 254 .rd x]=>some (PartT.root x)
 |[.ifc 255 .fd x]=>some (PartT.field x)
 |[.ifc 258 .vald x]=>some (PartT.value x)
 |[.ifc 259 .iv x]=>some (PartT.input x)
 |_=>none
def B87:DV->Option (Int)
 |[.int .i32 n]=>some n
 |_=>none
def B9I:DV->Option (Int)
 |[.int .u8 n]=>some n
 |_=>none
def C1S:DV->Option (Int)
 |[.int .i64 n]=>some n
 |_=>none
def C2K:DV->Option DS
 |[.sl .i32 n none]=>some n
 |_=>none
def B70:DV->Option DT
 |[.str n]=>some n
 |_=>none
def B8o:DV->Option Eb
 |[.sl .str n none]=>some n
 |_=>none
def B8F:DV->Option B1
 |[.int .i64 v1,.int .i64 v2]=>some (⟨v1,v2⟩:B1)
 |_=>none
def B8W:DV->Option A0
 |[.int .i64 v1,.int .i64 v2,.int .i64 v3,.int .i64 v4,.int .i64 v5,.str v6,.str v7]=>some (⟨v1,⟨v2,v3⟩,v4,v5,v6,v7⟩:A0)
 |_=>none
def C3B:DV->Option LitT
 |[.int .i64 v1,.str v2,.bool v3,.sl .lit v4 none,.sl .lf v5 none,.int .i64 v6,.int .i64 v7]=>some (⟨v1,v2,v3,v4,v5,⟨v6,v7⟩⟩:LitT)
 |_=>none
def C1B:DV->Option LfT
 |[.str v1,.int .i64 v2,.str v3,.bool v4,.sl .lit v5 none,.sl .lf v6 none,.int .i64 v7,.int .i64 v8,.int .i64 v9,.int .i64 lE]=>some (⟨v1,⟨v2,v3,v4,v5,v6,⟨v7,v8⟩⟩,⟨v9,lE⟩⟩:LfT)
 |_=>none
def B8T:DV->Option D1
 |[.str v1,.int .i64 v2,.str v3,.bool v4,.sl .lit v5 none,.sl .lf v6 none,.int .i64 v7,.int .i64 v8,.int .i64 v9,.int .i64 lE]=>some (⟨v1,⟨v2,v3,v4,v5,v6,⟨v7,v8⟩⟩,⟨v9,lE⟩⟩:D1)
 |_=>none
def C0n:DV->Option C7
 |[.str v1,.sl .arg v2 none,.int .i64 v3,.int .i64 v4]=>some (⟨v1,v2,⟨v3,v4⟩⟩:C7)
 |_=>none
def C0X:DV->Option VdT
 |[.str v1,.str v2,.str v3,.bool v4,.int .i64 v5,.str v6,.bool v7,.sl .lit v8 none,.sl .lf v9 none,.int .i64 lE,.int .i64 sP,.sl .dir sQ none,.int .i64 sR,.int .i64 sS]=>some (⟨v1,⟨v2,v3⟩,v4,⟨v5,v6,v7,v8,v9,⟨lE,sP⟩⟩,sQ,⟨sR,sS⟩⟩:VdT)
 |_=>none
def C5h:DV->Option SelT
 |[.int .i64 v1,.str v2,.str v3,.str v4,.sl .arg v5 none,.sl .dir v6 none,.sl .sel v7 none,.int .i64 v8,.int .i64 v9]=>some (⟨v1,v2,v3,v4,v5,v6,v7,⟨v8,v9⟩⟩:SelT)
 |_=>none
def C1J:DV->Option D8
 |[.int .i64 v1,.str v2,.str v3,.bool v4,.sl .vd v5 none,.sl .dir v6 none,.sl .sel v7 none,.int .i64 v8,.int .i64 v9]=>some (⟨v1,v2,v3,v4,v5,v6,v7,⟨v8,v9⟩⟩:D8)
 |_=>none
def C4s:DV->Option J1
 |[.sl .dfn v1 none]=>some (⟨v1⟩:J1)
 |_=>none
def C2X:DV->Option A1j
 |[.bool v1,.bool v2,.str v3]=>some (⟨v1,v2,v3⟩:A1j)
 |_=>none
def B9p:DV->Option A3z
 |[.str v1,.int .i64 v2,.int .i64 v3]=>some (⟨v1,⟨v2,v3⟩⟩:A3z)
 |_=>none
def C2L:DV->Option IvT
 |[.bool v1,.bool v2,.str v3,.str v4,.str v5,.str v6,.bool v7,.int .i64 v8,.str v9,.bool lE,.sl .lit sP none,.sl .lf sQ none,.int .i64 sR,.int .i64 sS,.sl .dir ww none,.int .i64 wx,.int .i64 wz]=>some (⟨⟨v1,v2,v3⟩,v4,⟨v5,v6⟩,v7,⟨v8,v9,lE,sP,sQ,⟨sR,sS⟩⟩,ww,⟨wx,wz⟩⟩:IvT)
 |_=>none
def C3e:DV->Option FdT
 |[.bool v1,.bool v2,.str v3,.str v4,.sl .iv v5 none,.str v6,.str v7,.sl .dir v8 none,.int .i64 v9,.int .i64 lE]=>some (⟨⟨v1,v2,v3⟩,v4,v5,⟨v6,v7⟩,v8,⟨v9,lE⟩⟩:FdT)
 |_=>none
def C2b:DV->Option A4R
 |[.bool v1,.bool v2,.str v3,.str v4,.sl .dir v5 none,.int .i64 v6,.int .i64 v7]=>some (⟨⟨v1,v2,v3⟩,v4,v5,⟨v6,v7⟩⟩:A4R)
 |_=>none
def C4C:DV->Option RdT
 |[.int .i64 v1,.str v2,.int .i64 v3,.int .i64 v4]=>some (⟨v1,v2,⟨v3,v4⟩⟩:RdT)
 |_=>none
def C1I:DV->Option A8Q
 |[.int .i64 v1,.bool v2,.bool v3,.bool v4,.str v5,.str v6,.sl .named v7 none,.sl .dir v8 none,.sl .fd v9 none,.sl .iv lE none,.sl .named sP none,.sl .vald sQ none,.sl .rd sR none,.bool sS,.sl .named ww none,.int .i64 wx,.int .i64 wz]=>some (⟨v1,v2,⟨v3,v4,v5⟩,v6,v7,v8,v9,lE,sP,sQ,sR,sS,ww,⟨wx,wz⟩⟩:A8Q)
 |_=>none
def B9j:DV->Option A1Q
 |[.int .i64 v1,.sl .pos v2 none,.sl .step v3 none]=>some (⟨v1,v2,v3⟩:A1Q)
 |_=>none
def B96:DV->Option A7o
 |[.str v1,.int .i64 v2,.bool v3]=>some (⟨v1,v2,v3⟩:A7o)
 |_=>none
def B8y:DV->Option I6
 |[.str v1,.str v2]=>some (⟨v1,v2⟩:I6)
 |_=>none
def B8N:DV->Option B9
 |[.str v1,.sl .strs v2 none]=>some (⟨v1,v2⟩:B9)
 |_=>none
def C0c:DV->Option A1
 |[.str v1,.sl .i64 v2 none,.int .i64 v3]=>some (⟨v1,v2,v3⟩:A1)
 |_=>none
def B7Z:DV->Option A1
 |[.str v1,.nils,.int .i64 v3]=>some (⟨v1,[],v3⟩:A1)
 |_=>none
def C1F:DV->Option D8
 |[.int .i64 v1,.str v2,.str v3,.bool v4,.nils,.sl .dir v6 none,.sl .sel v7 none,.int .i64 v8,.int .i64 v9]=>some (⟨v1,v2,v3,v4,[],v6,v7,⟨v8,v9⟩⟩:D8)
 |_=>none
def C4N:DV->Option LitT
 |[.int .i64 v1,.str v2,.bool v3,.nils,.nils,.int .i64 v6,.int .i64 v7]=>some (⟨v1,v2,v3,[],[],⟨v6,v7⟩⟩:LitT)
 |_=>none
def C4I:DV->Option A1B
 |[.sl .node v1 none,.sl .tok v2 none]=>some (⟨v1,v2⟩:A1B)
 |_=>none
def B26:(t:Ty6)->DV->Option (A4 t)
 | .part,ls=>C0l ls
 | .i32,ls=>B87 ls
 | .u8,ls=>B9I ls
 | .i64,ls=>C1S ls
 | .rs,ls=>C2K ls
 | .str,ls=>B70 ls
 | .strs,ls=>B8o ls
 | .pos,ls=>B8F ls
 | .tok,ls=>B8W ls
 | .lit,ls=>C3B ls
 | .lf,ls=>C1B ls
 | .arg,ls=>B8T ls
 | .dir,ls=>C0n ls
 | .vd,ls=>C0X ls
 | .sel,ls=>C5h ls
 | .dfn,ls=>C1J ls
 | .doc,ls=>C4s ls
 | .note,ls=>C2X ls
 | .named,ls=>B9p ls
 | .iv,ls=>C2L ls
 | .fd,ls=>C3e ls
 | .vald,ls=>C2b ls
 | .rd,ls=>C4C ls
 | .sys,ls=>C1I ls
 | .fault,ls=>B9j ls
 | .step,ls=>B96 ls
 | .tref,ls=>B8y ls
 | .rule,ls=>B8N ls
 | .node,ls=>C0c ls
 | .tree,ls=>C4I ls
 | .node0,ls=>B7Z ls
 | .lit0,ls=>C4N ls
 | .dfn0,ls=>C1F ls
 |_,_=>none
def D0l(t:Ty6)(ls:DV)(x:A4 t)(h:B26 t ls=some x):A0H t x=ls:=by
 cases t<;>unfold B26 at h<;>dsimp only at h<;>first
  |(cases h;done)
  |(first|unfold C0l at h|unfold B87 at h|unfold B9I at h|unfold C1S at h|unfold C2K at h|unfold B70 at h|unfold B8o at h|unfold B8F at h|unfold B8W at h|unfold C3B at h|unfold C1B at h|unfold B8T at h|unfold C0n at h|unfold C0X at h|unfold C5h at h|unfold C1J at h|unfold C4s at h|unfold C2X at h|unfold B9p at h|unfold C2L at h|unfold C3e at h|unfold C2b at h|unfold C4C at h|unfold C1I at h|unfold B9j at h|unfold B96 at h|unfold B8y at h|unfold B8N at h|unfold C0c at h|unfold B7Z at h|unfold C4N at h|unfold C1F at h|unfold C4I at h)<;>split at h<;>first|(cases h;done)|(cases h;rfl)
def B4n:(t:Ty6)->Option (DT->List (A4 t))
 | .u8=>some λb=>b.map λc=>(c.toNat:Int)
 |_=>none
def B28:(t:Ty6)->Option (List (A4 t)->DT)
 | .u8=>some λ(l:DS)=>l.map λn=>Jr n.toNat
 |_=>none
def B4p:(t:Ty6)->Option (DS->List (A4 t))
 | .i32=>some λb=>b
 |_=>none
def B4I:(t:Ty6)->Option (List (A4 t)->DS)
 | .i32=>some λ(l:DS)=>l
 |_=>none
def D4d:Ty6->Nat
 | .pos=>2
 | .tok=>7
 | .lit=>7
 | .lf=>10
 | .arg=>10
 | .dir=>4
 | .vd=>14
 | .sel=>9
 | .dfn=>9
 | .doc=>1
 | .note=>3
 | .named=>3
 | .iv=>17
 | .fd=>10
 | .vald=>7
 | .rd=>4
 | .sys=>17
 | .fault=>3
 | .step=>3
 | .tref=>2
 | .rule=>2
 | .node=>3
 | .tree=>2
 | .node0=>3
 | .lit0=>7
 | .dfn0=>9
 | .cur=>5
 | .rdr=>2
 | .out=>1
 | .page=>2
 |_=>1
def C7N:Ty6->Nat
 | .i32=>4| .u8=>1| .i64=>8| .rs=>24| .str=>16| .strs=>24| .part=>16
 | .pos=>16
 | .tok=>72
 | .lit=>96
 | .lf=>128
 | .arg=>128
 | .dir=>56
 | .vd=>192
 | .sel=>144
 | .dfn=>136
 | .doc=>24
 | .note=>24
 | .named=>32
 | .iv=>216
 | .fd=>136
 | .vald=>80
 | .rd=>40
 | .sys=>272
 | .fault=>56
 | .step=>32
 | .tref=>32
 | .rule=>40
 | .node=>48
 | .tree=>48
 | .node0=>48
 | .lit0=>96
 | .dfn0=>136
 | .cur=>56
 | .rdr=>32
 | .out=>24
 | .page=>32
def D1O:Ty6->Option Fb
 | .u8=>some 5
 |_=>none
def slX(t:Ty6):L6->Option (List (A4 t))
 | .nils=>some []
 | .sl u l none=>(if h:u=t then some (h ▸ l)else none)
 |_=>none
def A68(x:LitT):LitT:=⟨x.kind,x.text,x.block,[],[],x.pos⟩
def B2I:L6->Option (List LitT)
 | .sl .lit0 l none=>some (Hs A68 l)
 |l=>slX .lit l
def B6H:(t:Ty6)->DV->Option (A4 t)
 | .node,[.str v1,k,.int .i64 v3]=>(slX .i64 k).map λv2=>(⟨v1,v2,v3⟩:A1)
 | .lit,[.int .i64 v1,.str v2,.bool v3,a,b,.int .i64 v6,.int .i64 v7]=>match B2I a,slX .lf b with
  |some v4,some v5=>some (⟨v1,v2,v3,v4,v5,⟨v6,v7⟩⟩:LitT)
  |_,_=>none
 | .dfn,[.int .i64 v1,.str v2,.str v3,.bool v4,a,.sl .dir v6 none,.sl .sel v7 none,.int .i64 v8,.int .i64 v9]=>(slX .vd a).map λv5=>(⟨v1,v2,v3,v4,v5,v6,v7,⟨v8,v9⟩⟩:D8)
 |_,_=>none
def U6:UO Ty6 A4 where
 deq:=inferInstance
 cells:=A0H
 dec:=B26
 ofBytes:=B4n
 toBytes:=B28
 ofRunes:=B4p
 toRunes:=B4I
 size:=D4d
 bytes:=C7N
 bty:=109
 ety:=D1O
 dcx:=B6H
def B8G(l:DS):l.flatMap (λn=>[(.int .i32 n:L6)])=l.map λn=>.int .i32 n:=by
 induction l with
 |nil=>rfl
 |cons x l ih=>simp[ih]
def A9p(l:DS):l.flatMap (λn=>[(.int .u8 n:L6)])=l.map λn=>.int .u8 n:=by
 induction l with
 |nil=>rfl
 |cons x l ih=>simp[ih]
def u6_ok:(U6).Ok where
 pos:=λt=>by cases t<;>decide
 bpos:=λt=>by cases t<;>decide
 len:=λt x=>by cases t<;>rfl
 dec:=λt ls x h=>by
  exact D0l t ls x h
 ofBytes:=λt f h=>by
  cases t<;>simp only[U6,B4n,Fi,reduceCtorEq]at h;subst h;intro b;refine⟨Kf ..,?_⟩;show List.flatMap (A0H .u8) _=_;have h2:=A9p (b.map λc=>(c.toNat:Int));simp only[List.map_map]at h2;exact h2
 ofRunes:=λt f h=>by
  cases t<;>simp only[U6,B4p,reduceCtorEq]at h;cases h;intro b;exact⟨rfl,B8G b⟩
 toRunes:=λt f h=>by
  cases t<;>simp only[U6,B4I,reduceCtorEq]at h;cases h;intro l;exact B8G l
 toBytes:=λt f h=>by
  cases t<;>simp only[U6,B28,Fi,reduceCtorEq]at h;cases h;intro l;exact⟨l,A9p l,rfl⟩
 ofBytes1:=λt f h=>by cases t<;>first|rfl|(simp only[U6,B4n,reduceCtorEq]at h;done)
 ofRunes1:=λt f h=>by cases t<;>first|rfl|(simp only[U6,B4p,reduceCtorEq]at h;done)
 toRunes1:=λt f h=>by cases t<;>first|rfl|(simp only[U6,B4I,reduceCtorEq]at h;done)
 toBytes1:=λt f h=>by cases t<;>first|rfl|(simp only[U6,B28,reduceCtorEq]at h;done)
 solid:=λt x lf h=>by
  have bE:∀l∈A0H t x,A5F l=true:=by
   cases t<;>first
    |(intro l hl;have gw:=Hb.1 hl;subst gw;cases x<;>rfl)
    |(intro l hl;simp only[A0H,Fc,Hj,or_false]at hl;rcases hl with rfl;rfl)
    |(intro l hl;simp only[A0H,Fc,Hj,or_false]at hl;rcases hl with rfl|hl<;>first|rfl|(repeat (first|(rcases hl with rfl|hl<;>first|rfl|skip)|(subst hl;rfl))))
  exact C3o (bE lf h)
 closed:=λt x lf h=>by
  have bE:∀l∈A0H t x,l.close=l:=by
   cases t<;>first
    |(intro l hl;have gw:=Hb.1 hl;subst gw;cases x<;>rfl)
    |(intro l hl;simp only[A0H,Fc,Hj,or_false]at hl;rcases hl with rfl;rfl)
    |(intro l hl;simp only[A0H,Fc,Hj,or_false]at hl;rcases hl with rfl|hl<;>first|rfl|(repeat (first|(rcases hl with rfl|hl<;>first|rfl|skip)|(subst hl;rfl))))
  exact bE lf h
def B0f{t:Ty6}{l:L6}{x:List (A4 t)}(h:slX t l=some x){w:World}{wm:Nat->Nat}{v:Value}(hc:CRep U6 w wm l v):CRep U6 w wm (.sl t x none) v:=by
 unfold slX at h;split at h
 ·cases h;cases hc;exact .nil _ _ _ _
 ·split at h
  ·rename_i e;subst e;cases h;exact hc
  ·cases h
 ·cases h
def B6w:∀(xs:List LitT)(j:Nat)(lf:L6),(flat U6 .lit (Hs A68 xs))[j]?=some lf->∃nQ,(flat U6 .lit0 xs)[j]?=some nQ/\∀(w:World)(wm:Nat->Nat) v,CRep U6 w wm nQ v->CRep U6 w wm lf v
 |[],j,lf,h=>by simp[flat]at h
 |x::xs,j,lf,h=>by
  have e1:flat U6 .lit (Hs A68 (x::xs))=A0H .lit (A68 x)++flat U6 .lit (Hs A68 xs):=rfl;have e2:flat U6 .lit0 (x::xs)=A0H .lit0 x++flat U6 .lit0 xs:=rfl;rw[e1]at h;rw[e2]
  match j,h with
  |0,h|1,h|2,h|5,h|6,h=>cases h;exact⟨_,rfl,λ_ _ _ h=>h⟩
  |3,h|4,h=>cases h;exact⟨_,rfl,λ_ _ v h=>by cases h;exact .nil _ _ _ _⟩
  |j+7,h=>exact B6w xs j lf h
def D7H{l:L6}{x:List LitT}(h:B2I l=some x){w:World}{wm:Nat->Nat}{v:Value}(hc:CRep U6 w wm l v):CRep U6 w wm (.sl .lit x none) v:=by
 unfold B2I at h;split at h
 ·rename_i l0;cases h;cases hc with
  |nil t own a cap=>exact .nil _ _ _ _
  |sl t l own b off cap cs a7 bj hc hr=>
   have:=CRep.sl (U:=U6) (w:=w) (wm:=wm) .lit (Hs A68 l0) none b off cap cs (by simpa using a7) (by rw[Kf];exact bj) (λj lf hj=>by
    obtain⟨nQ,h1,h2⟩:=B6w l0 j lf hj;exact hc j nQ h1) (λj lf hj=>by
    obtain⟨nQ,h1,h2⟩:=B6w l0 j lf hj;exact h2 _ _ _ (hr j nQ h1))
   simpa using this
 ·exact B0f h hc
def A6W:A4j U6:=λt ls x h=>by
 change B6H t ls=some x at h;unfold B6H at h;split at h
 ·rename_i v1 k v3;obtain⟨v2,h2,rfl⟩:=Ix.1 h;refine⟨rfl,λw wm cs hc j lf hj=>?_⟩
  match j,hj with
  |0,hj=>cases hj;exact hc 0 _ rfl
  |1,hj=>cases hj;exact B0f h2 (hc 1 _ rfl)
  |2,hj=>cases hj;exact hc 2 _ rfl
 ·rename_i v1 v2 v3 a b v6 v7;split at h
  ·rename_i v4 v5 h4 h5;cases h;refine⟨rfl,λw wm cs hc j lf hj=>?_⟩
   match j,hj with
   |0,hj=>cases hj;exact hc 0 _ rfl
   |1,hj=>cases hj;exact hc 1 _ rfl
   |2,hj=>cases hj;exact hc 2 _ rfl
   |3,hj=>cases hj;exact D7H h4 (hc 3 _ rfl)
   |4,hj=>cases hj;exact B0f h5 (hc 4 _ rfl)
   |5,hj=>cases hj;exact hc 5 _ rfl
   |6,hj=>cases hj;exact hc 6 _ rfl
  ·cases h
 ·rename_i v1 v2 v3 v4 a v6 v7 v8 v9;obtain⟨v5,h2,rfl⟩:=Ix.1 h;refine⟨rfl,λw wm cs hc j lf hj=>?_⟩
  match j,hj with
  |4,hj=>cases hj;exact B0f h2 (hc 4 _ rfl)
  |0,hj|1,hj|2,hj|3,hj|5,hj|6,hj|7,hj|8,hj=>cases hj;exact hc _ _ rfl
 ·cases h
end Go.Aev
end
namespace Go.Aev
open Go.Proofs
def B34{Ty:Type}{den:Ty->Type}{P:Fh}{U:UO Ty den}{t e:Fb}{u:Ty}(h1:P.underlying t=some (.slice e))
  (h2:(match P.info? e with
   |some i=>Ey i.size (U.size u)&&(Ey i.bytes (U.bytes u)&&(match i.zero with|some z=>Ey z.cells.size (U.size u)|none=>false))
   |none=>false)=true) (h3:(match U.ety u with|some e'=>Ey e' e|none=>true)=true):Q6 P U t (.slice u e):=by
 refine⟨⟨h1,?_⟩,λe' he=>by rw[he]at h3;exact Fw h3⟩;split at h2
 ·rename_i i hi;simp only[Ew,Nat.beq_eq]at h2;obtain⟨h3,h4,h5⟩:=h2;split at h5
  ·rename_i z hz;exact⟨i,z,hi,h3,h4,hz,Fw h5⟩
  ·cases h5
 ·cases h2
def B8Y(P:Fh)(t:Fb):Option (List (Nat×Nat)):=match P.underlying t with
 |some (.struct fs)=>fs.toList.mapM (λf=>(P.info? f.type).map λi=>(f.offset,i.size))
 |_=>none
def B2f{Ty:Type}{den:Ty->Type}{P:Fh}{U:UO Ty den}{t:Fb}{u:Ty}{pl:List (Nat×Nat)}(h0:B8Y P t=some pl)
  (h2:(match P.info? t with
   |some i=>Ey i.size (U.size u)&&(match i.zero with|some z=>Ey z.cells.size (U.size u)|none=>false)
   |none=>false)=true):Q6 P U t (.struct u pl):=by
 unfold B8Y at h0;split at h0
 ·rename_i fs h1;split at h2
  ·rename_i i hi;simp only[Ew,Nat.beq_eq]at h2;obtain⟨h3,h5⟩:=h2;split at h5
   ·rename_i z hz;exact⟨fs,i,z,h1,h0,hi,h3,hz,Fw h5⟩
   ·cases h5
  ·cases h2
 ·cases h0
def D2R{Ty:Type}{den:Ty->Type}{P:Fh}{U:UO Ty den}{t:Fb}{u:Ty}(h:(match P.underlying t with|some (.interface _)=>true|_=>false)=true)(hs:U.size u=1):Q6 P U t (.iface u):=by
 split at h
 ·rename_i m hm;exact⟨⟨m,hm⟩,hs⟩
 ·cases h
def zm{Ty:Type}{den:Ty->Type}:Leaf Ty den->Value->Bool
 | .int k n,.int k' n'=>decide (k=k')&&decide (n=n')
 | .bool b,.bool b'=>b==b'
 | .str s,.string b=>s==b.data.toList
 | .sl _ [] none,.slice none 0 0=>true
 | .nils,.slice none 0 0=>true
 | .val (.pointer none),.pointer none=>true
 | .val .nilIface,.nilIface=>true
 |_,_=>false
def zms{Ty:Type}{den:Ty->Type}:List (Leaf Ty den)->Ea->Bool
 |[],[]=>true
 |l::ls,v::vs=>zm l v&&zms ls vs
 |_,_=>false
def D6j{Ty:Type}{den:Ty->Type}{U:UO Ty den}{lf:Leaf Ty den}{u:Value}(h:zm lf u=true):u.oneCell'=true/\u.cells= #[u]/\(∀(w:World)(g:Gh),LRep U w g lf u)/\∀t,lf=.sl t [] none->u=.slice none 0 0:=by
 unfold zm at h;split at h
 ·rename_i k n k' n';simp only[Ew,decide_eq_true_eq]at h;obtain⟨rfl,rfl⟩:=h;exact⟨rfl,rfl,λw g=>LRep.int _ _,λt e=>by cases e⟩
 ·rename_i b b';simp only[beq_iff_eq]at h;subst h;exact⟨rfl,rfl,λw g=>LRep.bool _,λt e=>by cases e⟩
 ·rename_i s b;simp only[beq_iff_eq]at h;subst h;exact⟨rfl,rfl,λw g=>by have:=LRep.str (U:=U) (w:=w) (g:=g) b.data.toList;rw[B9F]at this;exact this,λt e=>by cases e⟩
 ·exact⟨rfl,rfl,λw g=>⟨.nil _ _ _ _,λ_ _ _ e=>by(cases e),λ_ _ e=>by(cases e)⟩,λ_ _=>rfl⟩
 ·exact⟨rfl,rfl,λw g=>⟨.nils,λ_ _ _ e=>by(cases e),λ_ _ e=>by(cases e)⟩,λt e=>by cases e⟩
 ·exact⟨rfl,rfl,λw g=>⟨.val _,λ_ _ _ e=>by(cases e),λ_ _ e=>by(cases e)⟩,λt e=>by cases e⟩
 ·exact⟨rfl,rfl,λw g=>⟨.val _,λ_ _ _ e=>by(cases e),λ_ _ e=>by(cases e)⟩,λt e=>by cases e⟩
 ·cases h
def B8U{Ty:Type}{den:Ty->Type}:∀{ls:List (Leaf Ty den)}{vs:Ea},zms ls vs=true->ls.length=vs.length/\∀(j:Nat) lf,ls[j]?=some lf->∃u,vs[j]?=some u/\zm lf u=true
 |[],[],_=>⟨rfl,λj lf h=>by simp at h⟩
 |l::ls,v::vs,h=>by
  simp only[zms,Ew]at h;obtain⟨h1,h2⟩:=B8U h.2;refine⟨by simp[h1],λj lf hj=>?_⟩;cases j with
  |zero=>simp at hj;subst hj;exact⟨v,rfl,h.1⟩
  |succ j=>simpa using h2 j lf (by simpa using hj)
 |[],_::_,h=>by cases h
 |_::_,[],h=>by cases h
def B2n{Ty:Type}{den:Ty->Type}{P:Fh}{U:UO Ty den}{t:Fb}{zs:List (Leaf Ty den)}
  (h:(match P.info? t with
   |some i=>Ey i.size zs.length&&(match i.zero with|some z=>zms zs z.cells.toList|none=>false)
   |none=>false)=true):A1v P U t zs:=by
 split at h
 ·rename_i i hi;simp only[Ew]at h;obtain⟨h1,h2⟩:=h;split at h2
  ·rename_i z hz;obtain⟨h3,h4⟩:=B8U h2;refine⟨i,z,hi,Fw h1,hz,by rw[h3];simp,λj lf hj=>?_⟩;obtain⟨u,h5,h6⟩:=h4 j lf hj;obtain⟨a1,a2,a3,a4⟩:=D6j (U:=U) h6;exact⟨u,by rw[<-Im];exact h5,a1,a2,a3,a4⟩
  ·cases h2
 ·cases h
def tb6(t:Fb):TK Ty6:=
 match t with
 |3=>.int .i64
 |4=>.bool
 |5=>.int .u8
 |6=>.int .u8
 |9=>.str
 |21=>.int .i32
 |22=>.slice .u8 5
 |24=>.slice .dfn 76
 |25=>.struct .doc [(0,1)]
 |26=>.struct .doc [(0,1)]
 |27=>.int .i64
 |28=>.slice .pos 44
 |29=>.slice .step 334
 |30=>.struct .fault [(0,1),(1,1),(2,1)]
 |31=>.struct .fault [(0,1),(1,1),(2,1)]
 |36=>.slice .sys 88
 |40=>.int .i64
 |41=>.slice .lit 46
 |42=>.slice .lf 142
 |43=>.struct .pos [(0,1),(1,1)]
 |44=>.struct .pos [(0,1),(1,1)]
 |45=>.struct .lit [(0,1),(1,1),(2,1),(3,1),(4,1),(5,2)]
 |46=>.struct .lit [(0,1),(1,1),(2,1),(3,1),(4,1),(5,2)]
 |50=>.struct .tref [(0,1),(1,1)]
 |51=>.struct .tref [(0,1),(1,1)]
 |57=>.struct .arg [(0,1),(1,7),(8,2)]
 |58=>.struct .arg [(0,1),(1,7),(8,2)]
 |59=>.slice .arg 58
 |60=>.struct .dir [(0,1),(1,1),(2,2)]
 |61=>.struct .dir [(0,1),(1,1),(2,2)]
 |62=>.slice .dir 61
 |63=>.struct .note [(0,1),(1,1),(2,1)]
 |64=>.struct .note [(0,1),(1,1),(2,1)]
 |65=>.struct .iv [(0,3),(3,1),(4,2),(6,1),(7,7),(14,1),(15,2)]
 |66=>.struct .iv [(0,3),(3,1),(4,2),(6,1),(7,7),(14,1),(15,2)]
 |67=>.int .i64
 |68=>.slice .sel 70
 |69=>.struct .sel [(0,1),(1,1),(2,1),(3,1),(4,1),(5,1),(6,1),(7,2)]
 |70=>.struct .sel [(0,1),(1,1),(2,1),(3,1),(4,1),(5,1),(6,1),(7,2)]
 |71=>.int .i64
 |72=>.struct .vd [(0,1),(1,2),(3,1),(4,7),(11,1),(12,2)]
 |73=>.struct .vd [(0,1),(1,2),(3,1),(4,7),(11,1),(12,2)]
 |74=>.slice .vd 73
 |75=>.struct .dfn [(0,1),(1,1),(2,1),(3,1),(4,1),(5,1),(6,1),(7,2)]
 |76=>.struct .dfn [(0,1),(1,1),(2,1),(3,1),(4,1),(5,1),(6,1),(7,2)]
 |77=>.int .i64
 |78=>.slice .iv 66
 |79=>.struct .fd [(0,3),(3,1),(4,1),(5,2),(7,1),(8,2)]
 |80=>.struct .fd [(0,3),(3,1),(4,1),(5,2),(7,1),(8,2)]
 |81=>.slice .fd 80
 |82=>.struct .named [(0,1),(1,2)]
 |83=>.struct .named [(0,1),(1,2)]
 |84=>.slice .named 83
 |85=>.slice .vald 257
 |86=>.slice .rd 253
 |87=>.struct .sys [(0,1),(1,1),(2,3),(5,1),(6,1),(7,1),(8,1),(9,1),(10,1),(11,1),(12,1),(13,1),(14,1),(15,2)]
 |88=>.struct .sys [(0,1),(1,1),(2,3),(5,1),(6,1),(7,1),(8,1),(9,1),(10,1),(11,1),(12,1),(13,1),(14,1),(15,2)]
 |93=>.slice .tok 102
 |95=>.slice .node 153
 |96=>.struct .tree [(0,1),(1,1)]
 |97=>.struct .tree [(0,1),(1,1)]
 |100=>.int .i64
 |101=>.struct .tok [(0,1),(1,2),(3,1),(4,1),(5,1),(6,1)]
 |102=>.struct .tok [(0,1),(1,2),(3,1),(4,1),(5,1),(6,1)]
 |106=>.struct .page [(0,1),(1,1)]
 |107=>.struct .page [(0,1),(1,1)]
 |108=>.struct .page [(0,2)]
 |109=>.struct .page [(0,2)]
 |114=>.struct .out [(0,1)]
 |115=>.struct .out [(0,1)]
 |120=>.slice .rule 180
 |122=>.slice .str 9
 |125=>.struct .rdr [(0,1),(1,1)]
 |126=>.struct .rdr [(0,1),(1,1)]
 |142=>.struct .lf [(0,1),(1,7),(8,2)]
 |145=>.slice .i32 21
 |151=>.slice .i64 3
 |152=>.struct .node [(0,1),(1,1),(2,1)]
 |153=>.struct .node [(0,1),(1,1),(2,1)]
 |166=>.slice .part 236
 |178=>.slice .strs 122
 |179=>.struct .rule [(0,1),(1,1)]
 |180=>.struct .rule [(0,1),(1,1)]
 |195=>.struct .cur [(0,1),(1,1),(2,1),(3,1),(4,1)]
 |196=>.struct .cur [(0,1),(1,1),(2,1),(3,1),(4,1)]
 |203=>.int .u64
 |236=>.iface .part
 |238=>.struct .sel [(0,1),(1,1),(2,1),(3,1),(4,1),(5,1),(6,1),(7,2)]
 |252=>.struct .rd [(0,1),(1,1),(2,2)]
 |253=>.struct .rd [(0,1),(1,1),(2,2)]
 |254=>.struct .rd [(0,1),(1,1),(2,2)]
 |255=>.struct .fd [(0,3),(3,1),(4,1),(5,2),(7,1),(8,2)]
 |256=>.struct .vald [(0,3),(3,1),(4,1),(5,2)]
 |257=>.struct .vald [(0,3),(3,1),(4,1),(5,2)]
 |258=>.struct .vald [(0,3),(3,1),(4,1),(5,2)]
 |259=>.struct .iv [(0,3),(3,1),(4,2),(6,1),(7,7),(14,1),(15,2)]
 |264=>.int .u32
 |267=>.int .u64
 |285=>.slice .rs 145
 |326=>.int .u8
 |327=>.int .u8
 |329=>.int .i32
 |330=>.int .i32
 |333=>.struct .step [(0,1),(1,1),(2,1)]
 |334=>.struct .step [(0,1),(1,1),(2,1)]
 |_=>.other
def A3R(t:Fb):Q6 Fv U6 t (tb6 t):=by
 unfold tb6;split
 all_goals first|exact B2f En En|exact B34 En En En|exact D2R En rfl|(show Tryz.prog.underlying _=_;kernel_rfl)|trivial
def zr6(t:Fb):Option DV:=
 match t with
 |3=>some [.int .i64 0]
 |4=>some [.bool false]
 |5=>some [.int .u8 0]
 |6=>some [.int .u8 0]
 |9=>some [.str []]
 |21=>some [.int .i32 0]
 |22=>some [.sl .u8 [] none]
 |24=>some [.sl .dfn [] none]
 |25=>some [.sl .dfn [] none]
 |26=>some [.sl .dfn [] none]
 |27=>some [.int .i64 0]
 |28=>some [.sl .pos [] none]
 |29=>some [.sl .step [] none]
 |30=>some [.int .i64 0,.sl .pos [] none,.sl .step [] none]
 |31=>some [.int .i64 0,.sl .pos [] none,.sl .step [] none]
 |36=>some [.sl .sys [] none]
 |40=>some [.int .i64 0]
 |41=>some [.sl .lit [] none]
 |42=>some [.sl .lf [] none]
 |43=>some [.int .i64 0,.int .i64 0]
 |44=>some [.int .i64 0,.int .i64 0]
 |45=>some [.int .i64 0,.str [],.bool false,.sl .lit [] none,.sl .lf [] none,.int .i64 0,.int .i64 0]
 |46=>some [.int .i64 0,.str [],.bool false,.sl .lit [] none,.sl .lf [] none,.int .i64 0,.int .i64 0]
 |50=>some [.str [],.str []]
 |51=>some [.str [],.str []]
 |57=>some [.str [],.int .i64 0,.str [],.bool false,.sl .lit [] none,.sl .lf [] none,.int .i64 0,.int .i64 0,.int .i64 0,.int .i64 0]
 |58=>some [.str [],.int .i64 0,.str [],.bool false,.sl .lit [] none,.sl .lf [] none,.int .i64 0,.int .i64 0,.int .i64 0,.int .i64 0]
 |59=>some [.sl .arg [] none]
 |60=>some [.str [],.sl .arg [] none,.int .i64 0,.int .i64 0]
 |61=>some [.str [],.sl .arg [] none,.int .i64 0,.int .i64 0]
 |62=>some [.sl .dir [] none]
 |63=>some [.bool false,.bool false,.str []]
 |64=>some [.bool false,.bool false,.str []]
 |65=>some [.bool false,.bool false,.str [],.str [],.str [],.str [],.bool false,.int .i64 0,.str [],.bool false,.sl .lit [] none,.sl .lf [] none,.int .i64 0,.int .i64 0,.sl .dir [] none,.int .i64 0,.int .i64 0]
 |66=>some [.bool false,.bool false,.str [],.str [],.str [],.str [],.bool false,.int .i64 0,.str [],.bool false,.sl .lit [] none,.sl .lf [] none,.int .i64 0,.int .i64 0,.sl .dir [] none,.int .i64 0,.int .i64 0]
 |67=>some [.int .i64 0]
 |68=>some [.sl .sel [] none]
 |69=>some [.int .i64 0,.str [],.str [],.str [],.sl .arg [] none,.sl .dir [] none,.sl .sel [] none,.int .i64 0,.int .i64 0]
 |70=>some [.int .i64 0,.str [],.str [],.str [],.sl .arg [] none,.sl .dir [] none,.sl .sel [] none,.int .i64 0,.int .i64 0]
 |71=>some [.int .i64 0]
 |72=>some [.str [],.str [],.str [],.bool false,.int .i64 0,.str [],.bool false,.sl .lit [] none,.sl .lf [] none,.int .i64 0,.int .i64 0,.sl .dir [] none,.int .i64 0,.int .i64 0]
 |73=>some [.str [],.str [],.str [],.bool false,.int .i64 0,.str [],.bool false,.sl .lit [] none,.sl .lf [] none,.int .i64 0,.int .i64 0,.sl .dir [] none,.int .i64 0,.int .i64 0]
 |74=>some [.sl .vd [] none]
 |75=>some [.int .i64 0,.str [],.str [],.bool false,.sl .vd [] none,.sl .dir [] none,.sl .sel [] none,.int .i64 0,.int .i64 0]
 |76=>some [.int .i64 0,.str [],.str [],.bool false,.sl .vd [] none,.sl .dir [] none,.sl .sel [] none,.int .i64 0,.int .i64 0]
 |77=>some [.int .i64 0]
 |78=>some [.sl .iv [] none]
 |79=>some [.bool false,.bool false,.str [],.str [],.sl .iv [] none,.str [],.str [],.sl .dir [] none,.int .i64 0,.int .i64 0]
 |80=>some [.bool false,.bool false,.str [],.str [],.sl .iv [] none,.str [],.str [],.sl .dir [] none,.int .i64 0,.int .i64 0]
 |81=>some [.sl .fd [] none]
 |82=>some [.str [],.int .i64 0,.int .i64 0]
 |83=>some [.str [],.int .i64 0,.int .i64 0]
 |84=>some [.sl .named [] none]
 |85=>some [.sl .vald [] none]
 |86=>some [.sl .rd [] none]
 |87=>some [.int .i64 0,.bool false,.bool false,.bool false,.str [],.str [],.sl .named [] none,.sl .dir [] none,.sl .fd [] none,.sl .iv [] none,.sl .named [] none,.sl .vald [] none,.sl .rd [] none,.bool false,.sl .named [] none,.int .i64 0,.int .i64 0]
 |88=>some [.int .i64 0,.bool false,.bool false,.bool false,.str [],.str [],.sl .named [] none,.sl .dir [] none,.sl .fd [] none,.sl .iv [] none,.sl .named [] none,.sl .vald [] none,.sl .rd [] none,.bool false,.sl .named [] none,.int .i64 0,.int .i64 0]
 |93=>some [.sl .tok [] none]
 |95=>some [.sl .node [] none]
 |96=>some [.sl .node [] none,.sl .tok [] none]
 |97=>some [.sl .node [] none,.sl .tok [] none]
 |100=>some [.int .i64 0]
 |101=>some [.int .i64 0,.int .i64 0,.int .i64 0,.int .i64 0,.int .i64 0,.str [],.str []]
 |102=>some [.int .i64 0,.int .i64 0,.int .i64 0,.int .i64 0,.int .i64 0,.str [],.str []]
 |106=>some [.val (.pointer none),.sl .u8 [] none]
 |107=>some [.val (.pointer none),.sl .u8 [] none]
 |108=>some [.val (.pointer none),.sl .u8 [] none]
 |109=>some [.val (.pointer none),.sl .u8 [] none]
 |114=>some [.sl .u8 [] none]
 |115=>some [.sl .u8 [] none]
 |120=>some [.sl .rule [] none]
 |122=>some [.sl .str [] none]
 |125=>some [.sl .tok [] none,.int .i64 0]
 |126=>some [.sl .tok [] none,.int .i64 0]
 |142=>some [.str [],.int .i64 0,.str [],.bool false,.sl .lit [] none,.sl .lf [] none,.int .i64 0,.int .i64 0,.int .i64 0,.int .i64 0]
 |145=>some [.sl .i32 [] none]
 |151=>some [.sl .i64 [] none]
 |152=>some [.str [],.sl .i64 [] none,.int .i64 0]
 |153=>some [.str [],.sl .i64 [] none,.int .i64 0]
 |166=>some [.sl .part [] none]
 |178=>some [.sl .strs [] none]
 |179=>some [.str [],.sl .strs [] none]
 |180=>some [.str [],.sl .strs [] none]
 |195=>some [.sl .tok [] none,.int .i64 0,.int .i64 0,.int .i64 0,.int .i64 0]
 |196=>some [.sl .tok [] none,.int .i64 0,.int .i64 0,.int .i64 0,.int .i64 0]
 |203=>some [.int .u64 0]
 |238=>some [.int .i64 0,.str [],.str [],.str [],.sl .arg [] none,.sl .dir [] none,.sl .sel [] none,.int .i64 0,.int .i64 0]
 |252=>some [.int .i64 0,.str [],.int .i64 0,.int .i64 0]
 |253=>some [.int .i64 0,.str [],.int .i64 0,.int .i64 0]
 |254=>some [.int .i64 0,.str [],.int .i64 0,.int .i64 0]
 |255=>some [.bool false,.bool false,.str [],.str [],.sl .iv [] none,.str [],.str [],.sl .dir [] none,.int .i64 0,.int .i64 0]
 |256=>some [.bool false,.bool false,.str [],.str [],.sl .dir [] none,.int .i64 0,.int .i64 0]
 |257=>some [.bool false,.bool false,.str [],.str [],.sl .dir [] none,.int .i64 0,.int .i64 0]
 |258=>some [.bool false,.bool false,.str [],.str [],.sl .dir [] none,.int .i64 0,.int .i64 0]
 |259=>some [.bool false,.bool false,.str [],.str [],.str [],.str [],.bool false,.int .i64 0,.str [],.bool false,.sl .lit [] none,.sl .lf [] none,.int .i64 0,.int .i64 0,.sl .dir [] none,.int .i64 0,.int .i64 0]
 |264=>some [.int .u32 0]
 |267=>some [.int .u64 0]
 |285=>some [.sl .rs [] none]
 |326=>some [.int .u8 0]
 |327=>some [.int .u8 0]
 |329=>some [.int .i32 0]
 |330=>some [.int .i32 0]
 |333=>some [.str [],.int .i64 0,.bool false]
 |334=>some [.str [],.int .i64 0,.bool false]
 |_=>none
def A3K(t:Fb)(zs:DV)(h:zr6 t=some zs):A1v Fv U6 t zs:=by
 unfold zr6 at h;split at h
 all_goals first|(cases h;exact B2n En)|cases h
def A7h:Tryz.prog.follows .mixedOrders=true:=En
abbrev T6:=Fq->DV->Option (Bool×E6)
abbrev TB6:=Fq->DV->Ec->Option (Bool×DV×Ec)
def nav:Code->DX->Code
 |c,[]=>c
 | .seq a b,i::p=>match i with|0=>nav a p|_=>nav b p
 | .cond _ a b,i::p=>match i with|0=>nav a p|_=>nav b p
 | .block _ c,_::p=>nav c p
 | .loop c,_::p=>nav c p
 |c,_=>c
def body(f:Func):Code:=match f.body with|some c=>c|none=>.skip
def A2(f:Func)(p:DX):Code:=nav (body f) p
def NN:Nat:=18446744073709551616
def DD:Nat:=1000000
def lbN{R:Type}(nn:Nat)(E:Env Ty6 A4)(c:Code)(hid:Nat)(s:S6)(k:Ex->S6->Option R):Option R:=B2 E nn c s (A3c (E.drop hid) k)
section
variable {Ty:Type}{den:Ty->Type}{R:Type}
def A3b(body:St Ty den->(Ex->St Ty den->Option R)->Option R)(m:Nat)(k:Ex->St Ty den->Option R):Ex->St Ty den->Option R
 | .normal,s=>C8 body m s k
 |e,s=>k e s
def B5U(body:St Ty den->(Ex->St Ty den->Option R)->Option R)(m:Nat)(s:St Ty den)(k:Ex->St Ty den->Option R):
  C8 body (m+1) s k=body s (A3b body m k):=by
 simp only[C8]
 congr 1
 funext e s'
 cases e<;>rfl
end
deriving instance Inhabited for B1,A7o,A0,I6,A1j,A3z,A1Q,B9,A1,A1B
instance:Inhabited LitT:=⟨.mk 0 [] false [] [] default⟩
deriving instance Inhabited for D1,C7,VdT,RdT,A4R,IvT,FdT
instance:Inhabited SelT:=⟨.mk 0 [] [] [] [] [] [] default⟩
deriving instance Inhabited for D8,J1,A8Q,B44,B21,B6j,B4N,PartT
instance (t:Ty6):Inhabited (A4 t):=by
 cases t<;>unfold A4<;>infer_instance
inductive KD where
 |int (k:IntKind)|bool|str|sl (t:Ty6) (own:Ed)|agg (t:Ty6)|ptr (d off:Nat)|any|slc (t:Ty6)
def lI:L6->Int
 | .int _ n=>n
 |_=>0
def lB:L6->Bool
 | .bool b=>b
 |_=>false
def lS:L6->DT
 | .str s=>s
 |_=>[]
def lL(t:Ty6):L6->List (A4 t)
 | .sl u l _=>match(inferInstance:Decidable (u=t))with
  | .isTrue h=>h ▸ l
  | .isFalse _=>[]
 |_=>[]
def lA(t:Ty6):L6->A4 t
 | .agg u x=>match(inferInstance:Decidable (u=t))with
  | .isTrue h=>h ▸ x
  | .isFalse _=>default
 |_=>default
def A6r(l:L6):DS:=lL .i32 l
def A6(l:L6):DS:=lL .u8 l
def Y6(l:L6):DS:=lL .i64 l
def I2(l:L6):Eb:=lL .str l
def A6F(l:L6):List Eb:=lL .strs l
def A71(l:L6):List PartT:=lL .part l
def B2K(l:L6):List B1:=lL .pos l
def A2v(l:L6):DZ:=lL .tok l
def D0d(l:L6):List LitT:=lL .lit l
def D17(l:L6):List LfT:=lL .lf l
def B4O(l:L6):List D1:=lL .arg l
def A14(l:L6):List C7:=lL .dir l
def A1X(l:L6):Ee:=lL .sel l
def B8S(l:L6):DY:=lL .node l
def J4(l:L6):A0:=lA .tok l
def V7(l:L6):LitT:=lA .lit l
def K8(l:L6):D1:=lA .arg l
def B4C(l:L6):VdT:=lA .vd l
def L7(l:L6):SelT:=lA .sel l
def N6(l:L6):D8:=lA .dfn l
def A9E(l:L6):J1:=lA .doc l
def C2i(l:L6):A1Q:=lA .fault l
def A8N(l:L6):I6:=lA .tref l
def X6:KD->L6->L6
 | .int k,l=>.int k (lI l)
 | .bool,l=>.bool (lB l)
 | .str,l=>.str (lS l)
 | .sl t own,l=>.sl t (lL t l) own
 | .agg t,l=>.agg t (lA t l)
 | .ptr d o,_=>.ptr d o
 | .any,_=>.any
 | .slc t,l=>.sl t (lL t l) none
def okL:KD->L6->Bool
 | .int k,.int k' _=>decide (k=k')
 | .bool,.bool _=>true
 | .str,.str _=>true
 | .sl t none,.sl u _ none=>decide (u=t)
 | .slc t,.sl u _ _=>decide (u=t)
 | .sl t (some d),.sl u _ (some e)=>decide (u=t)&&Ey d e
 | .agg t,.agg u _=>decide (u=t)
 | .ptr d o,.ptr e q=>Ey d e&&Ey o q
 | .any,.any=>true
 |_,_=>false
def A0T:List KD->DV->Bool
 |[],[]=>true
 |k::ks,l::ls=>okL k l&&A0T ks ls
 |_,_=>false
def B1F:List (List KD)->Ec->Bool
 |[],[]=>true
 |k::ks,l::ls=>A0T k l&&B1F ks ls
 |_,_=>false
def gL:DU->Nat->L6
 |some (.one l),0=>l
 |some (.tup ls),j=>ls.getD j .any
 |_,_=>.any
def gB:Option (DV×Ec)->Nat->L6
 |some (ls,_),j=>ls.getD j .any
 |none,_=>.any
def gC:Option (DV×Ec)->Nat->Nat->L6
 |some (_,cs),k,j=>(cs.getD k []).getD j .any
 |none,_,_=>.any
def okR(ks:List KD):DU->Bool
 |some (.one l)=>match ks with
  |[k]=>okL k l
  |_=>false
 |some (.tup ls)=>A0T ks ls&& !Ey ks.length 1
 |_=>false
def A6E(F:DU):Nat->List KD->DV
 |_,[]=>[]
 |j,k::ks=>X6 k (gL F j)::A6E F (j+1) ks
def N3(ks:List KD)(F:DU):E6:=
 match ks with
 |[k]=>.one (X6 k (gL F 0))
 |ks=>.tup (A6E F 0 ks)
def okB(ks:List KD)(eo:List (List KD)):Option (DV×Ec)->Bool
 |some (ls,cs)=>A0T ks ls&&B1F eo cs
 |none=>false
def A9A(F:Option (DV×Ec)):Nat->List KD->DV
 |_,[]=>[]
 |j,k::ks=>X6 k (gB F j)::A9A F (j+1) ks
def rsR(ks:List KD)(F:Option (DV×Ec)):DV:=A9A F 0 ks
def A76(F:Option (DV×Ec))(b:Nat):Nat->List KD->DV
 |_,[]=>[]
 |j,k::ks=>X6 k (gC F b j)::A76 F b (j+1) ks
def A8h(F:Option (DV×Ec)):Nat->List (List KD)->Ec
 |_,[]=>[]
 |b,k::ks=>A76 F b 0 k::A8h F (b+1) ks
def csR(eo:List (List KD))(F:Option (DV×Ec)):Ec:=A8h F 0 eo
def B7k:Option (Bool×DV×Ec)->Option (Bool×DV)
 |some (b,r,_)=>some (b,r)
 |none=>none
end Go.Aev
section
namespace Go.Aev
def D0(l:DS):Bool:=A3 l.length 4
def M3(ls:Ef):Bool:=A3 ls.length 24&&ls.all D0
def K6(c:Int):Bool:=c==9||c==32
def M7(l:DS):Nat:=(l.takeWhile K6).length
def G3(l:DS):Int:=M7 l
def B8(l:DS):Bool:=l.all K6
def V2:Int->Ef->Int
 |m,[]=>m
 |m,l::r=>V2 (if !B8 l&&(decide (m<0)||decide (G3 l<m))then G3 l else m) r
def X1(ls:Ef):Int:=let m:=V2 (-1) (ls.drop 1);if m<0 then 0 else m
def N9(ls:Ef):Ef:=ls.take 1++(ls.drop 1).map λl=>l.drop (X1 ls).toNat
def R9(ls:Ef):Ef:=((ls.dropWhile B8).reverse.dropWhile B8).reverse
def K0(ls:Ef):Ef:=R9 (N9 ls)
end Go.Aev
namespace Go.Aev
section
variable {Ty:Type}{den:Ty->Type}{R:Type}
def lbC(E:Env Ty den)(c:Code)(hid n:Nat):St Ty den->(Ex->St Ty den->Option R)->Option R:=λs k=>B2 E n c s (A3c (E.drop hid) k)
end
def B7A(c:Int):Bool:=decide (48<=c)&&decide (c<=57)
def O4(c:Int):Int:=if B7A c then c - 48 else if decide (97<=c)&&decide (c<=102)then c - 87 else if decide (65<=c)&&decide (c<=70)then c - 55 else -1
def A2P:Int->DS->Int
 |n,[]=>n
 |n,c::r=>if O4 c<0 then -1 else A2P (n*16+O4 c) r
def E5(l:DS):Int:=if l.length<4 then -1 else A2P 0 (l.take 4)
def O3(eR low:Int):Int×Bool:=if decide (eR<55296)||decide (56320<=eR)||decide (low<56320)||decide (57344<=low)then(0,false)else(65536+(eR - 55296)*1024+(low - 56320),true)
def X9(l:DS):Int×Int:=
 let eR:=E5 l
 if eR<0\/(56320<=eR/\eR<=57343)then(0,0)
 else if eR<55296\/57343<eR then(eR,6)
 else if 10<=l.length/\l[4]?=some 92/\l[5]?=some 117/\(O3 eR (E5 (l.drop 6))).2=true then((O3 eR (E5 (l.drop 6))).1,12)else(0,0)
def P5(c:Int):Int:=if c=34\/c=92\/c=47 then c else if c=98 then 8 else if c=102 then 12 else if c=110 then 10 else if c=114 then 13 else if c=116 then 9 else -1
def A1Y:DS->Int×Int
 |_::c::r=>if 0<=P5 c then(P5 c,2)else if c=117 then X9 r else(0,0)
 |_=>(0,0)
def M6(c:Int):Bool:=if c<32 then c==9||(c==10||c==13)else decide (c<=65535)&&(decide (c<55296)||decide (57344<=c))
def D2(c:Int):Bool:=(decide (0<=c)&&decide (c<55296))||(decide (57343<c)&&decide (c<=1114111))
def inF(c:Int)(t:DT):Bool:=t.any λb=>(b.toNat:Int)==c
def u8F(c:Int):DS:=
 if c<128 then [c]
 else if c<2048 then [192+c / 64,128+c % 64]
 else if c<65536 then [224+c / 4096,128+c / 64 % 64,128+c % 64]
 else [240+c / 262144,128+c / 4096 % 64,128+c / 64 % 64,128+c % 64]
def P3(c:Int):DS:=if D2 c then u8F c else []
def toB(l:DS):DT:=l.map λn=>Jr n.toNat
def B7(l:DS):DT:=toB (l.flatMap u8F)
def J9(l:DS):DT×Bool:=if l.all D2 then(B7 l,true)else([],false)
def A0u(c:Int):Bool:=M6 c&& !(c==34)&& !(c==92)&& !(c==10)&& !(c==13)
def K1(l:DS):Int:=if l[0]?=some 92/\l[1]?=some 117 then E5 (l.drop 2)else -1
def J6:DS->Int×Int
 |[]=>(0,0)
 |c::r=>if A0u c then(c,1)else if c=92 then A1Y (c::r)else(0,0)
def A7m:Nat->DS->Option DS
 |_,[]=>some []
 |0,_=>none
 |n+1,l=>if(J6 l).2<=0 then none else(A7m n (l.drop (J6 l).2.toNat)).map ((J6 l).1:: ·)
def A18(l:DS):Option DS:=A7m l.length l
def A50:Option DS->DT×Int
 |some l=>((J9 l).1,0)
 |none=>([],60)
def Z3(l:DS):DT×Int:=A50 (A18 l)
def L2(a b:DS):DS:=a++b
def smL(l:DS):Bool:=decide (l.length<=1073741824)
def K3:DS->Bool
 |34::34::34::_=>true
 |_=>false
def E2:DS->DS
 |92::34::34::34::r=>34::34::34::E2 r
 |c::r=>c::E2 r
 |[]=>[]
def T1:DS->Bool
 |92::34::34::34::r=>T1 r
 |c::r=>if !M6 c||K3 (c::r)then false else T1 r
 |[]=>true
def A0e:Int->DS->Int
 |_,92::34::34::34::r=>A0e 0 r
 |_,c::r=>A0e c r
 |last,[]=>last
def A3Z(x:Int):Bool:= !(x==34)&& !(x==92)
def A8e(last:Int)(l:DS):Bool:=T1 l&&A3Z (A0e last l)
def O2:DS->Bool
 |10::_=>true
 |13::r=> !(r.head? ==some 10)
 |_=>false
def I5:DS->DS->Ef
 |cur,[]=>[cur]
 |cur,c::r=>if O2 (c::r)then cur::I5 [] r else if c=13 then I5 cur r else I5 (cur++[c]) r
def B5(l:DS):Ef:=I5 [] l
def W1:Nat->DS->DS
 |_,[]=>[]
 |i,c::r=>if O2 (c::r)then((i+1:Nat):Int)::W1 (i+1) r else W1 (i+1) r
def T4(l:DS):DS:=0::W1 0 l
def J0:Ef->DS
 |[]=>[]
 |l::r=>l++r.flatMap (10:: ·)
def Z0(l:DS):DT×Int:=if A8e 0 l then((J9 (J0 (K0 (B5 (E2 l))))).1,0)else([],60)
def M4:DS->Bool
 |92::34::34::34::_=>true
 |_=>false
end Go.Aev
end
namespace Go.Aev
open Go.Lib
def smS(s:DT):Bool:=decide (s.length<=67108864)
def Y7(l:DT):Bool:=decide ((Gq l).1=65533)&&decide ((Gq l).2=1)
def A1P:Nat->DT->DS×Nat
 |0,_=>([],0)
 |n+1,l=>if l=[]then([],0)else if Y7 l then([],0)else
  (((Gq l).1:Int)::(A1P n (l.drop (Gq l).2)).1,(Gq l).2+(A1P n (l.drop (Gq l).2)).2)
def C3(l:DT):DS×Nat:=A1P l.length l
def dgF(l:DT):Int×Int:=(((decodeGoB ⟨l.toArray⟩).1:Nat),((decodeGoB ⟨l.toArray⟩).2:Nat))
def isB(l:DS):Bool:=l.all λn=>decide (0<=n)&&decide (n<=255)
def eqI(a b:DS):Bool:=a==b
def I9:DS->Int
 |[a]=>a % 128
 |[a,b]=>a % 32*64+b % 64
 |[a,b,c]=>(a % 16*64+b % 64)*64+c % 64
 |[a,b,c,d]=>((a % 8*64+b % 64)*64+c % 64)*64+d % 64
 |_=>0
def R1(l:DS):Int×Int:=if Y7 (toB l)then(0,0)else(((Gq (toB l)).1:Nat),((Gq (toB l)).2:Nat))
def E0(c:Int):Int×Int×Bool:=if decide (c<65536)||decide (1114111<c)then(0,0,false)else(55296+(c - 65536) / 1024,56320+(c - 65536) % 1024,true)
def S2(n:Int):Int:=if n<10 then 48+n else 55+n
def H7(c:Int):DS:=[92,117,S2 (c / 4096 % 16),S2 (c / 256 % 16),S2 (c / 16 % 16),S2 (c % 16)]
def wrF(c:Int):DS:=
 if c=34\/c=92 then [92,c]else if c=8 then [92,98]else if c=9 then [92,116]else if c=10 then [92,110]else if c=12 then [92,102]else if c=13 then [92,114]
 else if(E0 c).2.2 then H7 (E0 c).1++H7 (E0 c).2.1
 else if c<32\/c=127 then H7 c else [c]
def qtC(cs:DS):DS:=34::cs.flatMap wrF++[34]
def qtF(v:DT):DT×Int:=if(C3 v).2<v.length then([],1)else(B7 (qtC (C3 v).1),0)
def maskF:DS->DS
 |34::34::34::r=>92::34::34::34::maskF r
 |c::r=>c::maskF r
 |[]=>[]
def U7(ls:Ef):Bool:=
 !B8 (ls.headD [])&&(!B8 (ls.getLastD [])&&(decide (ls.length=1)||ls.any λl=> !B8 l&&decide (G3 l=0)))
def btC(cs:DS):DS:=[34,34,34]++(if decide (1<(B5 cs).length)|| !K6 (cs.headD 0)then [10]else [])++maskF cs++[10,34,34,34]
def btF(v:DT):DT×Bool:=
 if v=[]then([34,34,34,34,34,34],true)
 else if(C3 v).2<v.length then([],false)
 else if !(C3 v).1.all (λc=>M6 c&& !(c==13))then([],false)
 else if !U7 (B5 (C3 v).1)then([],false)
 else(B7 (btC (C3 v).1),true)
end Go.Aev
namespace Go.Aev
open Go.Proofs
def F29(aa:DS):Option (DV×Ec):=bif decide (aa.length<=140737488355328)then some ([.str (toB aa)],[[.ptr 900000 B4,.sl .u8 aa (some 92000001)]])else none
def S29:DV->Ec->Option (Bool×DV×Ec)
 |[.ptr d0 o0],[[.ptr p0 q0,.sl .u8 aa (some bM)]]=>bif(Ey d0 900000&&Ey o0 0)&&(Ey p0 900000&&Ey q0 B4)&&(Ey bM 92000001)then some (okB [.str] [[.ptr 900000 B4,.sl .u8 (some 92000001)]] (F29 aa),rsR [.str] (F29 aa),csR [[.ptr 900000 B4,.sl .u8 (some 92000001)]] (F29 aa))else none
 |_,_=>none
def F47(a0:DT)(a1:Int):DU:=bif decide (a0.length<=2)&&decide (0<=a1)&&decide (a1<=1000)then some (.one (.str (Go.Lib.repeatL a0 a1.toNat)))else none
def S47:DV->Option (Bool×E6)
 |[.str a0,.int .i64 a1]=>some (okR [.str] (F47 a0 a1),N3 [.str] (F47 a0 a1))
 |_=>none
def F48(a0:DT)(a1:DT):DU:=bif smS a0&&(a1==[93])then some (.one (.int .i64 ((a0.count 93:Nat):Int)))else none
def S48:DV->Option (Bool×E6)
 |[.str a0,.str a1]=>some (okR [.int .i64] (F48 a0 a1),N3 [.int .i64] (F48 a0 a1))
 |_=>none
def F52(a0:DS):DU:=bif isB a0&&smL a0 then some (.tup [.sl .i32 (C3 (toB a0)).1 (some 1),.int .i64 (((C3 (toB a0)).2:Nat):Int)])else none
def S52:DV->Option (Bool×E6)
 |[.sl .u8 a0 none]=>some (okR [.sl .i32 (some 1),.int .i64] (F52 a0),N3 [.sl .i32 (some 1),.int .i64] (F52 a0))
 |_=>none
def F65(a0:DT)(a1:DT):DU:=some (.one (.str (if Go.Lib.hasPrefix a0 a1 then a0.drop a1.length else a0)))
def S65:DV->Option (Bool×E6)
 |[.str a0,.str a1]=>some (okR [.str] (F65 a0 a1),N3 [.str] (F65 a0 a1))
 |_=>none
def A47(aa:DS):Option (DV×Ec):=some ([],[[.ptr 900000 B4,.sl .u8 aa (some 92000001)]])
def B0v:DV->Ec->Option (Bool×DV×Ec)
 |[.ptr d0 o0],[[.ptr p0 q0,.sl .u8 aa (some bM)]]=>bif(Ey d0 900000&&Ey o0 0)&&(Ey p0 900000&&Ey q0 B4)&&(Ey bM 92000001)then some (okB [] [[.ptr 900000 B4,.sl .u8 (some 92000001)]] (A47 aa),rsR [] (A47 aa),csR [[.ptr 900000 B4,.sl .u8 (some 92000001)]] (A47 aa))else none
 |_,_=>none
def A4e(a0:DT):DU:=bif smS a0 then some (.tup [.str (btF a0).1,.bool (btF a0).2])else none
def A9u:DV->Option (Bool×E6)
 |[.str a0]=>some (okR [.str,.bool] (A4e a0),N3 [.str,.bool] (A4e a0))
 |_=>none
def A3N(a0:DT):DU:=bif smS a0 then some (.tup [.str (qtF a0).1,.int .i64 (qtF a0).2])else none
def B0p:DV->Option (Bool×E6)
 |[.str a0]=>some (okR [.str,.int .i64] (A3N a0),N3 [.str,.int .i64] (A3N a0))
 |_=>none
def A3a(a0:DT):DU:=bif smS a0 then some (.tup [.str (btF a0).1,.bool (btF a0).2])else none
def B0q:DV->Option (Bool×E6)
 |[.str a0]=>some (okR [.str,.bool] (A3a a0),N3 [.str,.bool] (A3a a0))
 |_=>none
def A1Z(a0:DT):DU:=bif smS a0 then some (.tup [.str (qtF a0).1,.int .i64 (qtF a0).2])else none
def A9t:DV->Option (Bool×E6)
 |[.str a0]=>some (okR [.str,.int .i64] (A1Z a0),N3 [.str,.int .i64] (A1Z a0))
 |_=>none
def A2E(a0:DS):DU:=bif smL a0 then some (.tup [.str (Z0 a0).1,.int .i64 (Z0 a0).2])else none
def B0k:DV->Option (Bool×E6)
 |[.sl .i32 a0 none]=>some (okR [.str,.int .i64] (A2E a0),N3 [.str,.int .i64] (A2E a0))
 |_=>none
def A2z(a0:DS):DU:=bif D0 a0 then some (.tup [.str (Z3 a0).1,.int .i64 (Z3 a0).2])else none
def B1E:DV->Option (Bool×E6)
 |[.sl .i32 a0 none]=>some (okR [.str,.int .i64] (A2z a0),N3 [.str,.int .i64] (A2z a0))
 |_=>none
def A0W(a b:Nat):(Ey a b=true)=(a=b):=propext ⟨Fw,λh=>by subst h;exact Nat.beq_refl a⟩
def B7v:KD->Bool
 | .slc _=>true
 |_=>false
def V3:List KD->Bool
 |[]=>true
 |k::ks=> !B7v k&&V3 ks
def B0z(t:Ty6)(l:List (A4 t))(o:Ed):lL t (.sl t l o)=l:=by
 unfold lL;dsimp only;split
 ·rfl
 ·rename_i h _;exact absurd rfl h
def D2y(t:Ty6)(x:A4 t):lA t (.agg t x)=x:=by
 unfold lA;dsimp only;split
 ·rfl
 ·rename_i h _;exact absurd rfl h
def A7S{k:KD}{l:L6}(h:okL k l=true)(hx:B7v k=false):X6 k l=l:=by
 cases k with
 |slc t=>cases hx
 |int k0=>cases l<;>first|(cases h;done)|(simp only[okL,decide_eq_true_eq]at h;subst h;rfl)
 |bool=>cases l<;>first|(cases h;done)|rfl
 |str=>cases l<;>first|(cases h;done)|rfl
 |any=>cases l<;>first|(cases h;done)|rfl
 |ptr d o=>
  cases l<;>first|(cases h;done)|skip
  simp only[okL,Ew,A0W]at h;obtain⟨rfl,rfl⟩:=h;rfl
 |agg t=>
  cases l<;>first|(cases h;done)|skip
  simp only[okL,decide_eq_true_eq]at h;subst h;simp only[X6,D2y]
 |sl t own=>
  cases l with
  |sl u x o=>
   cases own with
   |none=>
    cases o with
    |none=>
     simp only[okL,decide_eq_true_eq]at h;subst h;simp only[X6];rw[B0z]
    |some e=>cases h
   |some d=>
    cases o with
    |none=>cases h
    |some e=>
     simp only[okL,Ew,decide_eq_true_eq,A0W]at h;obtain⟨rfl,rfl⟩:=h;simp only[X6];rw[B0z]
  |_=>cases own<;>cases h
def B83{k:KD}{l:L6}(h:okL k l=true)(hc:(X6 k l).close=X6 k l):X6 k l=l.close:=by
 cases hs:B7v k with
 |false=>rw[A7S h hs]at hc ⊢;exact hc.symm
 |true=>
  cases k with
  |slc t=>
   cases l<;>first|(cases h;done)|skip
   rename_i u x o;simp only[okL,decide_eq_true_eq]at h;subst h;simp only[X6,Leaf.close];rw[B0z]
  |_=>cases hs
def C2w(F:DU)(all:DV)(hF:F=some (.tup all)):∀(ks:List KD)(ls:DV)(j:Nat),all.drop j=ls->A0T ks ls=true->V3 ks=true->A6E F j ks=ls
 |[],[],j,_,_,_=>rfl
 |[],_::_,j,_,h,_=>by cases h
 |k::ks,[],j,_,h,_=>by cases h
 |k::ks,l::ls,j,hd,h,hx=>by
  simp only[A0T,Ew]at h;simp only[V3,Ew,Fu]at hx;have hj:all[j]?=some l:=by
   have:=congrArg (λx=>x[0]?) hd;simpa using this
  have fS:all.drop (j+1)=ls:=by
   have h1:all.drop (j+1)=(all.drop j).drop 1:=by rw[Hl]
   rw[h1,hd];rfl
  have hg:gL F j=l:=by rw[hF];cases j<;>simp[gL,Hc,hj]
  simp only[A6E,hg,A7S h.1 hx.1,C2w F all hF ks ls (j+1) fS h.2 hx.2]
def B9v{ks:List KD}{F:DU}(h:okR ks F=true)(hx:V3 ks=true):F=some (N3 ks F):=by
 unfold okR at h;split at h
 ·rename_i l;split at h
  ·rename_i k;simp only[V3,Ew,Fu]at hx;simp only[N3,gL,A7S h hx.1]
  ·cases h
 ·rename_i ls;simp only[Ew,Fu]at h;have:=C2w (some (.tup ls)) ls rfl ks ls 0 Eo h.1 hx;cases ks with
  |nil=>simp only[N3,this]
  |cons k ks=>
   cases ks with
   |nil=>have:=h.2;cases this
   |cons k2 ks=>simp only[N3,this]
 ·cases h
def C1o(F:Option (DV×Ec))(all:DV)(cs:Ec)(hF:F=some (all,cs)):∀(ks:List KD)(ls:DV)(j:Nat),all.drop j=ls->A0T ks ls=true->V3 ks=true->A9A F j ks=ls
 |[],[],j,_,_,_=>rfl
 |[],_::_,j,_,h,_=>by cases h
 |k::ks,[],j,_,h,_=>by cases h
 |k::ks,l::ls,j,hd,h,hx=>by
  simp only[A0T,Ew]at h;simp only[V3,Ew,Fu]at hx;have hj:all[j]?=some l:=by
   have:=congrArg (λx=>x[0]?) hd;simpa using this
  have fS:all.drop (j+1)=ls:=by
   have h1:all.drop (j+1)=(all.drop j).drop 1:=by rw[Hl]
   rw[h1,hd];rfl
  have hg:gB F j=l:=by rw[hF];simp[gB,Hc,hj]
  simp only[A9A,hg,A7S h.1 hx.1,C1o F all cs hF ks ls (j+1) fS h.2 hx.2]
def C29(F:Option (DV×Ec))(rs:DV)(cs:Ec)(hF:F=some (rs,cs))(b:Nat)(all:DV)(hb:cs[b]?=some all):∀(ks:List KD)(ls:DV)(j:Nat),all.drop j=ls->A0T ks ls=true->V3 ks=true->A76 F b j ks=ls
 |[],[],j,_,_,_=>rfl
 |[],_::_,j,_,h,_=>by cases h
 |k::ks,[],j,_,h,_=>by cases h
 |k::ks,l::ls,j,hd,h,hx=>by
  simp only[A0T,Ew]at h;simp only[V3,Ew,Fu]at hx;have hj:all[j]?=some l:=by
   have:=congrArg (λx=>x[0]?) hd;simpa using this
  have fS:all.drop (j+1)=ls:=by
   have h1:all.drop (j+1)=(all.drop j).drop 1:=by rw[Hl]
   rw[h1,hd];rfl
  have hg:gC F b j=l:=by rw[hF];simp[gC,Hc,hb,hj]
  simp only[A76,hg,A7S h.1 hx.1,C29 F rs cs hF b all hb ks ls (j+1) fS h.2 hx.2]
def A5h:List (List KD)->Bool
 |[]=>true
 |k::ks=>V3 k&&A5h ks
def B9X(F:Option (DV×Ec))(rs:DV)(all:Ec)(hF:F=some (rs,all)):∀(ks:List (List KD))(cs:Ec)(b:Nat),all.drop b=cs->B1F ks cs=true->A5h ks=true->A8h F b ks=cs
 |[],[],b,_,_,_=>rfl
 |[],_::_,b,_,h,_=>by cases h
 |k::ks,[],b,_,h,_=>by cases h
 |k::ks,c::cs,b,hd,h,hx=>by
  simp only[B1F,Ew]at h;simp only[A5h,Ew]at hx;have hj:all[b]?=some c:=by
   have:=congrArg (λx=>x[0]?) hd;simpa using this
  have fS:all.drop (b+1)=cs:=by
   have h1:all.drop (b+1)=(all.drop b).drop 1:=by rw[Hl]
   rw[h1,hd];rfl
  simp only[A8h,C29 F rs all hF b c hj k c 0 Eo h.1 hx.1,B9X F rs all hF ks cs (b+1) fS h.2 hx.2]
def C2j{ks:List KD}{eo:List (List KD)}{F:Option (DV×Ec)}(h:okB ks eo F=true)(hx:V3 ks=true)(hy:A5h eo=true):F=some (rsR ks F,csR eo F):=by
 cases F with
 |none=>cases h
 |some p=>
  obtain⟨ls,cs⟩:=p;simp only[okB,Ew]at h;simp only[rsR,csR,C1o (some (ls,cs)) ls cs rfl ks ls 0 Eo h.1 hx,B9X (some (ls,cs)) ls cs rfl eo cs 0 Eo h.2 hy]
def sG(S:DV->Option (Bool×E6)):DV->DU:=λls=>L3 (S ls)
def sGB(S:DV->Ec->Option (Bool×DV×Ec)):DV->Ec->Option (DV×Ec):=λls cs=>L3 (S ls cs)
def D4W{P:Fh}{I:Inv}{f:Fq}{S:DV->Option (Bool×E6)}(h:Sound P U6 I f (sG S)){ls:DV}{r:E6}(hr:S ls=some (true,r)):(∀args w,(Fm f args).run P w=.ok (.enter f args) w)/\A1U P U6 I f ls r:=
 ⟨h.enter,h.ok ls r (by simp only[sG,hr,L3])⟩
def D4A{P:Fh}{I:Inv}{f:Fq}{S:DV->Ec->Option (Bool×DV×Ec)}(h:D7 P U6 I f (sGB S)){ls:DV}{cs:Ec}{rs:DV}{ay:Ec}(hr:L3 (S ls cs)=some (rs,ay)):
 (∀args w,(Fm f args).run P w=.ok (.enter f args) w)/\X2 P U6 I f ls cs rs ay:=⟨h.enter,h.ok ls cs rs ay hr⟩
def D0o{P:Fh}{I:Inv}{f:Fq}{S:DV->Ec->Option (Bool×DV×Ec)}(h:D7 P U6 I f (sGB S))(qk:∀ls cs rs ay,S ls cs=some (true,rs,ay)->ay=cs){ls:DV}{cs:Ec}{rs:DV}(hr:L3 (B7k (S ls cs))=some rs):
  (∀args w,(Fm f args).run P w=.ok (.enter f args) w)/\X2 P U6 I f ls cs rs cs:=by
 cases hS:S ls cs with
 |none=>rw[hS]at hr;cases hr
 |some p=>
  obtain⟨b,tY,ay⟩:=p;rw[hS]at hr;cases b with
  |false=>cases hr
  |true=>
   cases hr;have:=qk _ _ _ _ hS;subst this;exact⟨h.enter,h.ok _ _ _ _ (by simp only[sGB,hS,L3])⟩
def A2Z{α:Type}{b:Bool}{x y:α}(h:L3 (some (b,x))=some y):b=true/\x=y:=by
 cases b with
 |false=>cases h
 |true=>cases h;exact⟨rfl,rfl⟩
def T3{α:Type}{c:Bool}{x:Option (Bool×α)}{y:α}(h:L3 (bif c then x else none)=some y):c=true/\L3 x=some y:=by
 cases c with
 |false=>cases h
 |true=>exact⟨rfl,h⟩
def D9{F:DU}{ks:List KD}{X:DU}(mO:X=F)(hx:V3 ks=true){r:E6}(h:L3 (some (okR ks F,N3 ks F))=some r):X=some r:=by
 obtain⟨h1,h2⟩:=A2Z h;rw[mO,B9v h1 hx,h2]
def A8c{F:Option (DV×Ec)}{ks:List KD}{eo:List (List KD)}{X:Option (DV×Ec)}(mO:X=F)(hx:V3 ks=true)(hy:A5h eo=true){r:DV×Ec}(h:L3 (some (okB ks eo F,rsR ks F,csR eo F))=some r):X=some r:=by
 obtain⟨h1,h2⟩:=A2Z h;rw[mO,C2j h1 hx hy,h2]
def A1d:E6->E6
 | .one l=>.one l.close
 | .tup ls=>.tup (F6 ls)
 |e=>e
def B5i(e:E6)(hi:∀d ls,e≠ .bx d ls)(hs:∀ls,e≠ .st ls)(d:Nat):(A1d e).has d=false:=by
 cases e with
 |one l=>simp only[A1d,Ent.has];exact A4p l d
 |tup ls=>
  simp only[A1d,Ent.has];clear hi hs
  induction ls with
  |nil=>rfl
  |cons l ls ih=>simp only[F6,List.any_cons,A4p,Jl];exact ih
 |iter s p=>rfl
 |bx d ls=>exact absurd rfl (hi d ls)
 |st ls=>exact absurd rfl (hs ls)
def Post.closed{B:Bs}{g':Gh}{r:E6}{v:Value}{w':World}(h:Post U6 B g' r v w')(hb:∀d ls,r≠ .bx d ls)(hs:∀ls,r≠ .st ls):Post U6 B g' (A1d r) v w':=by
 refine{os:=h.os,tape:=h.tape,output:=h.output,size:=h.size,frame:=h.frame,ext:=h.ext,zero:=h.zero,rep:=?_,nit:=?_,tip:=λd hd=>?_,disj:=λd e b hd=>?_,mine:=λd b hd=>?_}
 ·have:=h.rep;cases r with
  |one l=>exact LRep.closed (show LRep U6 w' g' l v from this).1
  |tup ls=>
   obtain⟨vs,h1,h2⟩:=this;exact⟨vs,h1,LsRep.close h2⟩
  |iter s p=>exact this
  |bx d ls=>exact absurd rfl (hb d ls)
  |st ls=>exact absurd rfl (hs ls)
 ·have:=h.nit;cases r<;>first|rfl|exact this
 ·rw[B5i r hb hs]at hd;cases hd
 ·rw[B5i r hb hs]at hd;cases hd
 ·rw[B5i r hb hs]at hd;cases hd
def Sound.close{P:Fh}{I:Inv}{f:Fq}{S0 S:DV->DU}(h:Sound P U6 I f S0)(hS:∀ls r,S ls=some r->∃r0,S0 ls=some r0/\r=A1d r0/\(∀d ls,r0≠ .bx d ls)/\∀ls,r0≠ .st ls):Sound P U6 I f S:=by
 refine⟨h.enter,λls r hr=>?_⟩;obtain⟨r0,h1,rfl,h2,h3⟩:=hS ls r hr;intro w g vs hI hz ax cM dD;refine(h.ok ls r0 h1 w g vs hI hz ax cM dD).mono λe w' hw=>?_;obtain⟨v,g',h4,h5⟩:=hw;exact⟨v,g',h4,h5.closed h2 h3⟩
def B0M:KD->Bool
 | .sl _ (some _)=>false
 | .ptr _ _=>false
 |_=>true
def C1j{k:KD}{l:L6}(h:B0M k=true):(X6 k l).close=X6 k l:=by
 cases k with
 |sl t o=>cases o<;>first|rfl|cases h
 |ptr d o=>cases h
 |_=>rfl
def C4m(F:DU)(all:DV)(hF:F=some (.tup all)):∀(ks:List KD)(ls:DV)(j:Nat),all.drop j=ls->A0T ks ls=true->ks.all B0M=true->A6E F j ks=F6 ls
 |[],[],j,_,_,_=>rfl
 |[],_::_,j,_,h,_=>by cases h
 |k::ks,[],j,_,h,_=>by cases h
 |k::ks,l::ls,j,hd,h,hx=>by
  simp only[A0T,Ew]at h;simp only[Jf,Ew]at hx;have hj:all[j]?=some l:=by
   have:=congrArg (λx=>x[0]?) hd;simpa using this
  have fS:all.drop (j+1)=ls:=by
   have h1:all.drop (j+1)=(all.drop j).drop 1:=by rw[Hl]
   rw[h1,hd];rfl
  have hg:gL F j=l:=by rw[hF];cases j<;>simp[gL,Hc,hj]
  simp only[A6E,F6,hg,B83 h.1 (C1j hx.1),C4m F all hF ks ls (j+1) fS h.2 hx.2]
def D1A{ks:List KD}{F:DU}(h:okR ks F=true)(hx:ks.all B0M=true):∃r0,F=some r0/\N3 ks F=A1d r0/\(∀d ls,r0≠ .bx d ls)/\∀ls,r0≠ .st ls:=by
 unfold okR at h;split at h
 ·rename_i l;split at h
  ·rename_i k;simp only[Jf,Ew]at hx;exact⟨_,rfl,by simp only[N3,gL,A1d,B83 h (C1j hx.1)],λd ls=>Eo,λls=>Eo⟩
  ·cases h
 ·rename_i ls;simp only[Ew,Fu]at h;have:=C4m (some (.tup ls)) ls rfl ks ls 0 Eo h.1 hx;refine⟨_,rfl,?_,λd ls=>Eo,λls=>Eo⟩;cases ks with
  |nil=>simp only[N3,this,A1d]
  |cons k ks=>
   cases ks with
   |nil=>have:=h.2;cases this
   |cons k2 ks=>simp only[N3,this,A1d]
 ·cases h
def A78{F:DU}{ks:List KD}{X:DU}(mO:X=F)(hx:ks.all B0M=true){r:E6}(h:L3 (some (okR ks F,N3 ks F))=some r):∃r0,X=some r0/\r=A1d r0/\(∀d ls,r0≠ .bx d ls)/\∀ls,r0≠ .st ls:=by
 obtain⟨h1,h2⟩:=A2Z h;obtain⟨r0,h3,h4,h5⟩:=D1A h1 hx;exact⟨r0,mO.trans h3,by rw[<-h2,h4],h5⟩
structure HB(I:Inv):Prop where
 mono:∀w m w' m',I w m->Ext w m w' m'->I w' m'
 s29:D7 Fv U6 I 29 (sGB S29)
 s138:D7 Fv U6 I 138 (sGB B0v)
 s47:Sound Fv U6 I 47 (sG S47)
 s48:Sound Fv U6 I 48 (sG S48)
 s65:Sound Fv U6 I 65 (sG S65)
 s155:Sound Fv U6 I 155 (sG A9u)
 s156:Sound Fv U6 I 156 (sG B0p)
 s163:Sound Fv U6 I 163 (sG B0q)
 s164:Sound Fv U6 I 164 (sG A9t)
 s212:Sound Fv U6 I 212 (sG B0k)
 s214:Sound Fv U6 I 214 (sG B1E)
 s52:Sound Fv U6 I 52 (sG S52)
end Go.Aev
