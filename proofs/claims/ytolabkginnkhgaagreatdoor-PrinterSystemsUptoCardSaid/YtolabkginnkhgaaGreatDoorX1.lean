/- Proved here: lemmas that the claim's text uses. Conditions: those that each lemma states. -/
import Derived.Test.YtolabkginnkhgaaGreatDoorRows
import Derived.Lib.ValidLaws
import Derived.Lib.Strings
import Derived.Lib.Repeat
import Derived.Lib.Replace
import Derived.Test.YtolabkginnkhgaaGreatDoorX0
set_option maxRecDepth 100000
set_option linter.unusedVariables false
set_option linter.unusedSimpArgs false
open Bool renaming and_eq_true→Aw,not_eq_true'→Bw,and_false→Dx,or_eq_true_iff→Er,or_eq_true→Es,or_false→Fz,false_or→Ga,false_eq_true→Gb,and_self→Hj
open Go renaming execOp→Ax,TypeId→Ay,Operand→Az,Program→Bf,callFunc→Bn,FuncId→Bp,sizeOf→Bz,grownCap→Ca,typeInfo→Cd,yielded→Ch,run_underlying→Cl,resolve→Cm,getD_set_ne→Cv,IntKind→Db,wpList→De,mem_ready→Df,wpList_step→Ea,storeCells→Eb,results→Ec,loadVar→Ed,wpList_plain→Ey,wpAny_sound→Ez,size_zeroCells→Fa,loadCells→Fb,grownCap_ge→Fc,run_firstCells_some→Gg,eqGuard_at_string→Gi
open Nat renaming beq→Ba,le_refl→Be,blt_eq→Bh,zero_add→Bj,blt→Bu,zero_le→Cc,le_trans→Ci,mul_le_mul_right→Co,add_mul→Cp,eq_of_beq_eq_true→Cs,lt_or_ge→Da,sub_zero→Dh,le_of_ble_eq_true→Di,lt_trichotomy→Eg,ble_eq→Eh,lt_of_lt_of_le→Fg,le_mul_of_pos_right→Fh,add_zero→Fi,mul_pos→Gq,add_assoc→Gr
open Go.Op renaming operands→Bb,intCmp→Ef
open List renaming mem_cons→Bg,getElem?_eq_getElem→Bl,mem_of_getElem?→Bq,mem_append→Cf,getElem?_map→Cj,getD_eq_getElem?_getD→Ck,getElem?_take→Cq,length_cons→Ct,range→Dj,not_mem_nil→Dl,drop_drop→Dm,mem_of_mem_take→Dr,map→Ds,getElem?_eq_none→Du,any_eq_true→Dv,mem_range→Ei,mem_filter→Ej,mem_append_left→Ek,map_id→El,map_congr_left→Em,getElem?_range→En,count_pos_iff→Eo,size_toArray→Fj,mem_singleton→Fk,mem_append_right→Fl,getElem?_drop→Fm,getElem?_append_right→Fo,getElem?_append_left→Fp,eq_nil_of_length_eq_zero→Fq,any_eq_false→Fs,all_eq_true→Ft,take_succ_cons→Gt,nodup_cons→Gu,map_cons→Gv,length_map→Gw,length_append→Gx,getElem_of_mem→Gy,getElem?_eq_some_iff→Gz,getElem?_cons_succ→Ha,ext_getElem?→Hb,all_cons→Hc
open Option.some renaming injEq→Bi,inj→Cn
open Array renaming getD_eq_getD_getElem?→Bm,replicate→Br,getElem?_eq_getElem→Bx,getElem?_eq_some_iff→Dc,getElem?_append_left→Dd,getElem?_push→Dy,ext'→Dz,toList_setIfInBounds→Et,getElem?_toList→Eu,size_append→Gc,getElem?_replicate→Ge,getElem?_eq_none→Gf,size_push→Hk,getElem?_setIfInBounds→Hl,ext_getElem?→Hm
open Prod.mk renaming injEq→Bo
open Go.Proofs.Tryz renaming prog→By
open Go.Region renaming wanted→Cb,binds→Ce,ready→Cy,Mode→Cz
open Go.Addr renaming add_lit→Cg,mk→Do
open Go.Oper renaming wp→Cr,upon_enter→Dq,upon_skip→Ff
open Go.Call renaming operands→Cu
open Go.Lib renaming decodeL→Cw
open Go.World renaming cell?_of_block→Cx,cell?→Dg,setCell→Gj
open Go.Instr renaming sureAddr→Dk,storeAt→Fu,loadAt→Fv,sliceAt→He,slice→Hf,indexAt→Hg,extract→Hh,alloc→Hi
open Go.Builtin renaming firstCells→Dn,zeroCells→Dw,len_→Fx,append_→Fy
open Option renaming map_eq_some_iff→Dp,map_some→Ee,isNone_iff_eq_none→Fe,bind_some→Gn
open Go.Deferred renaming ofValue→Ep
open Go.Act renaming put→Ev,eval→Ew
open Go.Ending renaming returned→Fw
open Go.Value.tuple renaming inj→Gk
open Go.Value.slice renaming injEq→Gl
open UInt8 renaming ofNat→Gm
open Go.Operand renaming tmp→Gp
open Go.Addr.mk renaming injEq→Hn
open Go.Value.pointer renaming injEq→Ho
section
open Go.Lib
namespace Go.Aev
variable {Ty:Type}{den:Ty->Type}
def M4(ls:List (Leaf Ty den))(c:Nat):Prop:=∃lf∈ls,lf.has c=true
def A0f:List (Nat×Ai)->Ai
 |[]=>[]
 |(b,us)::r=>.pointer (some ⟨b,0,none⟩)::(us++A0f r)
def Z3(w:World)(g:Gh):Aj->List (List (Leaf Ty den))->List (Nat×Ai)->Prop
 |[],[],[]=>True
 |d::ds,c::cs,(b,us)::r=>(g.G d=.slice (some ⟨b,0,none⟩) 0 us.length/\us.length=c.length/\0<us.length/\g.Gs d=1/\
  ∀(j:Nat) u,us[j]?=some u->w.cell? ⟨b,j,none⟩=some u/\u.oneCell'=true/\u.cells= #[u])/\Z3 w g ds cs r
 |_,_,_=>False
def K7:Nat->Aj->List (Nat×Nat)
 |_,[]=>[]
 |k,d::r=>(C0 k,d)::K7 (k+1) r
def Z1(P:Bf)(U:UO Ty den)(I:Inv)(f:Bp)(ls:List (Leaf Ty den))(cs:List (List (Leaf Ty den)))(rs:List (Leaf Ty den))(aR:List (List (Leaf Ty den))):Prop:=
 ∀(w:World)(g:Gh)(vs:Ai)(bP:List (Nat×Ai)),I w g.wm->(∀b,w.heap.size<=b->g.wm b=0)->LsRep U w g ls vs->LsRep U w g (G4 0 cs) (A0f bP)->Z3 w g (O3 0 cs.length) cs bP->
  (∀d,M4 (G4 0 cs) d->Tip w g.wm (g.G d) (g.Gs d))->(∀d e b,M4 (G4 0 cs) d->M4 (G4 0 cs) e->d≠e->spare (g.G d)=some b->spare (g.G e)≠some b)->
  (∀lf∈ls,∀d,lf.has d=true->M4 (G4 0 cs) d)->
  Calls P f vs.toArray w λe w'=>∃g' rv dD,e=.returned (V4 rv)/\rs.length=rv.length/\
   Post U ⟨w,g.wm,λb=>∃d,M4 (G4 0 cs) d/\spare (g.G d)=some b,0,λ_=>undef⟩ g' (.tup (rs++G4 0 aR)) (.tuple (rv++A0f dD).toArray) w'/\
   Z3 w' g' (O3 0 cs.length) aR dD/\dD.map (λp=>(p.1,p.2.length))=bP.map (λp=>(p.1,p.2.length))
structure D4(P:Bf)(U:UO Ty den)(I:Inv)(f:Bp)(S:List (Leaf Ty den)->List (List (Leaf Ty den))->Option (List (Leaf Ty den)×List (List (Leaf Ty den)))):Prop where
 enter:∀args w,(Bn f args).run P w=.ok (.enter f args) w
 ok:∀ls cs rs aR,S ls cs=some (rs,aR)->Z1 P U I f ls cs rs aR
section
variable {U:UO Ty den}{B:Bs}{g:Gh}{s:St Ty den}{a:Act}{w:World}
def OneOne(N:List (Nat×Nat)):Prop:=∀c d c' d',(c,d)∈N->(c',d')∈N->(c=c'↔d=d')
theorem D6g(hU:U.Ok)(hr:Rel U B g s a w){k d c:Nat}{l:Leaf Ty den}{u:Value}(hl:LRep U w g l u)(hb:∃b n,g.G d=.slice (some ⟨b,0,none⟩) 0 n):
  ∃N,Rel U B g (pk1 k d c s l).2 a w/\PackRep U w g ((C0 k,d)::N) [(pk1 k d c s l).1] [u]/\OneOne N/\(∀p∈N,p.1=c/\mem p.2 s.live=true/\mem p.2 (pk1 k d c s l).2.live=false)/\
   (∀e,mem e (pk1 k d c s l).2.live=true->mem e s.live=true):=by
 have keep:∀{l':Leaf Ty den},CRep U w g.wm l' u->(∀t x c,l'≠ .sl t x (some c))->(∀c' o,l'=.ptr c' o->∃d' b n,(c',d')∈[(C0 k,d)]/\g.G d'=.slice (some ⟨b,0,none⟩) 0 n/\PtrAt U w b n o u)->pk1 k d c s l=(l',s)->
   ∃N,Rel U B g (pk1 k d c s l).2 a w/\PackRep U w g ((C0 k,d)::N) [(pk1 k d c s l).1] [u]/\OneOne N/\(∀p∈N,p.1=c/\mem p.2 s.live=true/\mem p.2 (pk1 k d c s l).2.live=false)/\
   (∀e,mem e (pk1 k d c s l).2.live=true->mem e s.live=true):=λh1 h2 h3 h4=>by
  rw[h4];exact⟨[],hr,⟨⟨h1,λt x c he=>absurd he (h2 t x c),h3⟩,trivial⟩,λ_ _ _ _ h=>by(cases h),λp hp=>by(cases hp),λ_ h=>h⟩
 cases l with
 |sl t x o=>
  cases o with
  |none=>exact keep hl.1.close (λ_ _ _ he=>by(cases he)) (λ_ _ he=>by(cases he)) rfl
  |some e=>
   cases hm:mem e s.live with
   |false=>exact keep hl.1.close (λ_ _ _ he=>by(cases he)) (λ_ _ he=>by(cases he)) (by simp only[pk1,hm,Aq];rfl)
   |true=>
    obtain⟨h1,h2⟩:=hl.2.1 t x e rfl;have he:pk1 k d c s (.sl t x (some e))=(.sl t x (some c),s.kill e):=by simp only[pk1,hm,Ap]
    rw[he];refine⟨[(c,e)],hr.kill hU e,⟨⟨hl.1.own _,λt1 x1 c1 gG=>?_,λ_ _ gG=>by(cases gG)⟩,trivial⟩,λc1 d1 c2 d2 h3 h4=>?_,λp hp=>?_,λe' h=>(A3e.1 h).1⟩
    ·cases gG;exact⟨e,by simp,h1,h2⟩
    ·simp only[Bg,Dl,or_false,Bo]at h3 h4;simp[h3,h4]
    ·simp only[Bg,Dl,or_false]at hp;subst hp;refine⟨rfl,hm,?_⟩;cases h5:mem e (s.kill e).live with
     |false=>rfl
     |true=>exact absurd rfl (A3e.1 h5).2
 |ptr e o=>
  cases hc:Ba e d&&Ba o C4 with
  |false=>exact keep (.any _) (λ_ _ _ he=>by(cases he)) (λ_ _ he=>by(cases he)) (by simp only[pk1,hc,Aq])
  |true=>
   simp only[Aw]at hc;have e1:=(F6 _ _).1 hc.1;have e2:o=C4:=(F6 _ _).1 hc.2;subst e2;subst e1;obtain⟨b,n,h1,h2⟩:=hl.2.2 e _ rfl;refine keep (l':=.ptr (C0 k) C4) (.ptr _ _ _ h2.ptr) (λ_ _ _ he=>by(cases he)) (λc' o' he=>?_) (by simp only[pk1,H3,hc.2,Hj,Ap]);cases he;exact⟨e,b,n,by simp,h1,h2⟩
 |_=>exact keep hl.1.close (λ_ _ _ he=>by(cases he)) (λ_ _ he=>by(cases he)) rfl
theorem OneOne.append{N M:List (Nat×Nat)}(h1:OneOne N)(h2:OneOne M)(h:∀p∈N,∀q∈M,p.1≠q.1/\p.2≠q.2):OneOne (N++M):=by
 intro c d c' d' h3 h4;rw[Cf]at h3 h4;rcases h3 with h3|h3<;>rcases h4 with h4|h4
 ·exact h1 c d c' d' h3 h4
 ·have:=h _ h3 _ h4;exact⟨λe=>absurd e this.1,λe=>absurd e this.2⟩
 ·have:=h _ h4 _ h3;exact⟨λe=>absurd e.symm this.1,λe=>absurd e.symm this.2⟩
 ·exact h2 c d c' d' h3 h4
theorem C3N(hU:U.Ok){k d:Nat}:∀(ls:List (Leaf Ty den))(us:Ai)(j:Nat)(s:St Ty den),Rel U B g s a w->LsRep U w g ls us->(∃b n,g.G d=.slice (some ⟨b,0,none⟩) 0 n)->
  ∃N,Rel U B g (pkC k d j s ls).2 a w/\PackRep U w g ((C0 k,d)::N) (pkC k d j s ls).1 us/\OneOne N/\(∀p∈N,(∃i,j<=i/\i<j+ls.length/\p.1=bo (C0 k) i)/\mem p.2 s.live=true/\mem p.2 (pkC k d j s ls).2.live=false)/\
   (∀e,mem e (pkC k d j s ls).2.live=true->mem e s.live=true)/\(pkC k d j s ls).1.length=ls.length
 |[],[],j,s,hr,_,_=>⟨[],hr,trivial,λ_ _ _ _ h=>by(cases h),λp hp=>by(cases hp),λ_ h=>h,rfl⟩
 |l::ls,u::us,j,s,hr,bc,hb=>by
  obtain⟨N1,a1,a2,a3,a4,a5⟩:=D6g hU hr (k:=k) (d:=d) (c:=bo (C0 k) j) bc.1 hb;obtain⟨N2,b1,b2,b3,b4,b5,b6⟩:=C3N hU (k:=k) (d:=d) ls us (j+1) _ a1 bc.2 hb;have e1:(pkC k d j s (l::ls)).1=(pk1 k d (bo (C0 k) j) s l).1::(pkC k d (j+1) (pk1 k d (bo (C0 k) j) s l).2 ls).1:=rfl;have e2:(pkC k d j s (l::ls)).2=(pkC k d (j+1) (pk1 k d (bo (C0 k) j) s l).2 ls).2:=rfl;rw[e1,e2];refine⟨N1++N2,b1,⟨?_,b2.mono λp hp=>?_⟩,a3.append b3 λp hp q hq=>?_,λp hp=>?_,λe he=>a5 e (b5 e he),by simp[b6]⟩
  ·obtain⟨c1,c2,c3⟩:=a2.1;exact⟨c1,λt x c he=>by(obtain⟨d',h1,h2⟩:=c2 t x c he;exact⟨d',by simp only[Bg,Cf]at h1 ⊢;exact h1.imp id Or.inl,h2⟩),λc o he=>by(obtain⟨d',b,n,h1,h2⟩:=c3 c o he;exact⟨d',b,n,by simp only[Bg,Cf]at h1 ⊢;exact h1.imp id Or.inl,h2⟩)⟩
  ·simp only[Bg,Cf]at hp ⊢;exact hp.imp id Or.inr
  ·obtain⟨p1,p2,p3⟩:=a4 p hp;obtain⟨⟨i,q1,q2,q3⟩,q4,q5⟩:=b4 q hq;refine⟨λe=>?_,λe=>?_⟩
   ·rw[p1,q3]at e;unfold bo at e;omega
   ·rw[e]at p3;rw[p3]at q4;cases q4
  ·rw[Cf]at hp;rcases hp with hp|hp
   ·obtain⟨p1,p2,p3⟩:=a4 p hp;refine⟨⟨j,Be _,by simp,p1⟩,p2,?_⟩;cases h5:mem p.2 (pkC k d (j+1) (pk1 k d (bo (C0 k) j) s l).2 ls).2.live with
    |false=>rfl
    |true=>have:=b5 _ h5;rw[p3]at this;cases this
   ·obtain⟨⟨i,q1,q2,q3⟩,q4,q5⟩:=b4 p hp;exact⟨⟨i,by omega,by simp only[Ct];omega,q3⟩,a5 _ q4,q5⟩
theorem C3o{d:Nat}{ls:List (Leaf Ty den)}(e9:Bu d 1000000=true)(h:BoxOk U w g d ls):∃(b:Nat)(us:Ai),g.G d=.slice (some ⟨b,0,none⟩) 0 us.length/\us.length=ls.length/\0<us.length/\g.Gs d=1/\
  (∀(j:Nat) u,us[j]?=some u->w.cell? ⟨b,j,none⟩=some u/\u.oneCell'=true/\u.cells= #[u])/\LsRep U w g ls us:=by
 obtain⟨b,n,h1,⟨h2,_,hn⟩,h3,h4⟩:=h;have hn:=hn e9;subst hn;have bG:∀(ls:List (Leaf Ty den))(o:Nat),(∀(j:Nat) lf,ls[j]?=some lf->∃u,w.cell? ⟨b,o+j,none⟩=some u/\u.oneCell'=true/\u.cells= #[u]/\LRep U w g lf u)->
   ∃us:Ai,us.length=ls.length/\(∀(j:Nat) u,us[j]?=some u->w.cell? ⟨b,o+j,none⟩=some u/\u.oneCell'=true/\u.cells= #[u])/\LsRep U w g ls us:=by
  intro ls
  induction ls with
  |nil=>intro o _;exact⟨[],rfl,λj u h=>by simp at h,trivial⟩
  |cons l ls ih=>
   intro o hc;obtain⟨us,e1,e2,e3⟩:=ih (o+1) (λj lf hj=>by
    have:=hc (j+1) lf (by simpa using hj);rw[show o+(j+1)=o+1+j by omega]at this;exact this)
   obtain⟨u,u1,u2,u3,u4⟩:=hc 0 l rfl;refine⟨u::us,by simp[e1],λj v hj=>?_,u4,e3⟩;cases j with
   |zero=>simp at hj;subst hj;exact⟨u1,u2,u3⟩
   |succ j=>
    have:=e2 j v (by simpa using hj);rw[show o+1+j=o+(j+1)by omega]at this;exact this
 obtain⟨us,e1,e2,e3⟩:=bG ls 0 (λj lf hj=>by rw[Bj];exact h4 j lf hj);exact⟨b,us,by rw[e1];exact h1,e1,by omega,h3,λj u hj=>by have:=e2 j u hj;rw[Bj]at this;exact this,e3⟩
theorem A3p:∀(ds:Aj)(k:Nat)(p:Nat×Nat),p∈K7 k ds->∃i,k<=i/\i<k+ds.length/\p.1=C0 i/\ds[i - k]?=some p.2
 |[],k,p,h=>by cases h
 |d::ds,k,p,h=>by
  simp only[K7,Bg]at h;rcases h with rfl|h
  ·exact⟨k,Be _,by simp,rfl,by simp⟩
  ·obtain⟨i,h1,h2,h3,h4⟩:=A3p ds (k+1) p h;refine⟨i,by omega,by simp only[Ct];omega,h3,?_⟩;rw[show i - k=i - (k+1)+1 by omega];simpa using h4
theorem B3o(hU:U.Ok):∀(ds:Aj)(k:Nat)(s:St Ty den)(cs:List (List (Leaf Ty den)))(s':St Ty den),pkB k s ds=some (cs,s')->Rel U B g s a w->
  ∃bP N,Rel U B g s' a w/\PackRep U w g (K7 k ds++N) (G4 k cs) (A0f bP)/\Z3 w g ds cs bP/\OneOne N/\
   (∀p∈N,(∃i j,k<=i/\j<100/\p.1=bo (C0 i) j)/\mem p.2 s.live=true/\mem p.2 s'.live=false)/\(∀e,mem e s'.live=true->mem e s.live=true)/\cs.length=ds.length
 |[],k,s,cs,s',h,hr=>by
  simp only[pkB,Bi,Bo]at h;obtain⟨rfl,rfl⟩:=h;exact⟨[],[],hr,trivial,trivial,λ_ _ _ _ h=>by(cases h),λp hp=>by(cases hp),λ_ h=>h,rfl⟩
 |d::ds,k,s,cs,s',h,hr=>by
  simp only[pkB]at h;split at h
  ·rename_i e ls hg;obtain⟨hc,h⟩:=B8 h;simp only[Aw]at hc;have e1:=(F6 _ _).1 hc.1;subst e1;have aj:ls.length<100:=by simpa [Bh]using hc.2.1
   split at h
   ·rename_i fN s1 jO;simp only[Bi,Bo]at h;obtain⟨rfl,rfl⟩:=h;have bU:=hr.ent (bxi e);rw[hg]at bU;obtain⟨b,us,g1,g2,g3,g4,g5,g6⟩:=C3o hc.2.2 (show BoxOk U w g e ls from bU);obtain⟨N1,a1,a2,a3,a4,a5,a6⟩:=C3N hU (k:=k) (d:=e) ls us 0 s hr g6 ⟨b,_,g1⟩;obtain⟨bP,N2,b1,b2,b3,b4,b5,b6,b7⟩:=B3o hU ds (k+1) _ fN s1 jO a1;refine⟨(b,us)::bP,N1++N2,b1,?_,⟨⟨g1,g2.trans a6.symm,g3,g4,g5⟩,b3⟩,a3.append b4 λp hp q hq=>?_,λp hp=>?_,λe he=>a5 e (b6 e he),by simp[b7]⟩
    ·have pf:∀p∈(C0 k,e)::N1,p∈K7 k (e::ds)++(N1++N2):=λp hp=>by
      simp only[K7,Bg,Cf]at hp ⊢;rcases hp with h|h
      ·exact .inl (.inl h)
      ·exact .inr (.inl h)
     have pg:∀p∈K7 (k+1) ds++N2,p∈K7 k (e::ds)++(N1++N2):=λp hp=>by
      simp only[K7,Bg,Cf]at hp ⊢;rcases hp with h|h
      ·exact .inl (.inr h)
      ·exact .inr (.inr h)
     refine⟨⟨.pt _ _ _,λ_ _ _ he=>by(cases he),λc o he=>?_⟩,(a2.mono pf).append (b2.mono pg)⟩;cases he;exact⟨e,b,_,by simp[K7],g1,.inl ⟨rfl,by decide⟩⟩
    ·obtain⟨⟨i,p1,p2,p3⟩,p4,p5⟩:=a4 p hp;obtain⟨⟨i',j',q1,q2,q3⟩,q4,q5⟩:=b5 q hq;refine⟨λe=>?_,λe=>?_⟩
     ·rw[p3,q3]at e;unfold bo C0 at e;omega
     ·rw[e]at p5;rw[p5]at q4;cases q4
    ·rw[Cf]at hp;rcases hp with hp|hp
     ·obtain⟨⟨i,p1,p2,p3⟩,p4,p5⟩:=a4 p hp;refine⟨⟨k,i,Be _,by omega,p3⟩,p4,?_⟩;cases h5:mem p.2 s1.live with
      |false=>rfl
      |true=>have:=b6 _ h5;rw[p5]at this;cases this
     ·obtain⟨⟨i',j',q1,q2,q3⟩,q4,q5⟩:=b5 p hp;exact⟨⟨i',j',by omega,q2,q3⟩,a5 _ q4,q5⟩
   ·cases h
  ·cases h
theorem B9Q:∀{ds:Aj},A0e ds=true->∀{i j x:Nat},ds[i]?=some x->ds[j]?=some x->i=j
 |[],_,i,j,x,h,_=>by simp at h
 |d::ds,hn,i,j,x,h1,h2=>by
  simp only[A0e,Aw,Bw]at hn;have cY:∀{i:Nat},ds[i]? ≠some d:=λ{i} h=>by
   have:mem d ds=true:=by
    clear h1 h2 hn
    induction ds generalizing i with
    |nil=>simp at h
    |cons y r ih=>
     rw[mem_cons];cases i with
     |zero=>simp at h;exact .inl h
     |succ i=>exact .inr (ih (by simpa using h))
   rw[hn.1]at this;cases this
  cases i with
  |zero=>
   simp at h1;subst h1;cases j with
   |zero=>rfl
   |succ j=>exact absurd (by simpa using h2) (cY (i:=j))
  |succ i=>
   cases j with
   |zero=>simp at h2;subst h2;exact absurd (by simpa using h1) (cY (i:=i))
   |succ j=>rw[B9Q hn.2 (i:=i) (j:=j) (by simpa using h1) (by simpa using h2)]
theorem A8A:∀{ds:Aj},A1X s ds=true->∀{i x:Nat},ds[i]?=some x->mem x s.live=true
 |[],_,i,x,h=>by simp at h
 |d::ds,hn,i,x,h=>by
  simp only[A1X,Aw]at hn;cases i with
  |zero=>simp at h;subst h;exact hn.1
  |succ i=>exact A8A hn.2 (by simpa using h)
theorem B8n{ds:Aj}(hn:A0e ds=true)(k:Nat):OneOne (K7 k ds):=by
 intro c d c' d' h1 h2;obtain⟨i,a1,a2,a3,a4⟩:=A3p ds k _ h1;obtain⟨i',b1,b2,b3,b4⟩:=A3p ds k _ h2;simp only at a3 b3 a4 b4;constructor
 ·intro e;rw[a3,b3]at e;have:i=i':=by unfold C0 at e;omega
  subst this;rw[a4]at b4;exact Cn b4
 ·intro e;subst e;have:=B9Q hn a4 b4;rw[a3,b3]
  congr 1;omega
theorem C3B{ds:Aj}(hn:A0e ds=true)(ap:ds.length<100){N:List (Nat×Nat)}{s':St Ty den}(h1:OneOne N)(h2:∀p∈N,(∃i j,0<=i/\j<100/\p.1=bo (C0 i) j)/\mem p.2 s.live=true/\mem p.2 s'.live=false)(hl:A1X s' ds=true):
  OneOne (K7 0 ds++N):=by
 refine(B8n hn 0).append h1 λp hp q hq=>?_;obtain⟨i,a1,a2,a3,a4⟩:=A3p ds 0 _ hp;obtain⟨⟨i',j',q1,q2,q3⟩,q4,q5⟩:=h2 q hq;refine⟨λe=>?_,λe=>?_⟩
 ·rw[a3,q3]at e;unfold bo C0 at e;omega
 ·have:=A8A hl a4;rw[e,q5]at this;cases this
end
section
variable {E:Env Ty den}{B:Bs}{g:Gh}{s:St Ty den}{a:Act}{w:World}
variable {P:Bf}{R:Type}{o:Oper}{k:Ent Ty den->St Ty den->Option R}{r:R}{next:Act->World->Prop}{Q:Exit->Act->World->Prop}
theorem C7h(hU:E.U.Ok){Bc:Bs}{g' g1:Gh}{ent:Ent Ty den}{v0:Value}{w':World}(hp:Post E.U Bc g' ent v0 w')(hr:Rel E.U B g1 s a w')(aX:g1.wm=g'.wm)
  (hB:∀b,Bc.w.heap.size<=b\/Bc.M b->B.w.heap.size<=b\/B.M b){kk d j:Nat}(cc:X0 Bc g' g1 ent none (λc=>c<bo (C0 kk) j) s)
  {lf:Leaf Ty den}{v:Value}(ak:LRep E.U w' g' lf v)(hc:∀c,lf.has c=true->ent.has c=true)(hd:mem d s.live=true/\g1.G d=g'.G (C0 kk)):
  ∃g2,Rel E.U B g2 (P5 kk d (bo (C0 kk) j) (bo d j) s lf).2 a w'/\g2.wm=g'.wm/\LRep E.U w' g2 (P5 kk d (bo (C0 kk) j) (bo d j) s lf).1 v/\X0 Bc g' g2 ent none (λc=>c<bo (C0 kk) (j+1)) (P5 kk d (bo (C0 kk) j) (bo d j) s lf).2/\
   (∀e,mem e s.live=true->g2.G e=g1.G e/\g2.Gs e=g1.Gs e/\mem e (P5 kk d (bo (C0 kk) j) (bo d j) s lf).2.live=true)/\(∀e,(P5 kk d (bo (C0 kk) j) (bo d j) s lf).1.has e=true->mem e (P5 kk d (bo (C0 kk) j) (bo d j) s lf).2.live=true):=by
 have bm:∀c,c<bo (C0 kk) j->c<bo (C0 kk) (j+1):=λc h=>by unfold bo at*;omega
 have keep:∀{lf':Leaf Ty den},LRep E.U w' g1 lf' v->(∀e,lf'.has e=true->mem e s.live=true)->P5 kk d (bo (C0 kk) j) (bo d j) s lf=(lf',s)->
   ∃g2,Rel E.U B g2 (P5 kk d (bo (C0 kk) j) (bo d j) s lf).2 a w'/\g2.wm=g'.wm/\LRep E.U w' g2 (P5 kk d (bo (C0 kk) j) (bo d j) s lf).1 v/\X0 Bc g' g2 ent none (λc=>c<bo (C0 kk) (j+1)) (P5 kk d (bo (C0 kk) j) (bo d j) s lf).2/\
   (∀e,mem e s.live=true->g2.G e=g1.G e/\g2.Gs e=g1.Gs e/\mem e (P5 kk d (bo (C0 kk) j) (bo d j) s lf).2.live=true)/\(∀e,(P5 kk d (bo (C0 kk) j) (bo d j) s lf).1.has e=true->mem e (P5 kk d (bo (C0 kk) j) (bo d j) s lf).2.live=true):=by
  intro lf' hl cY he;rw[he];refine⟨g1,hr,aX,hl,λe he=>?_,λe he=>⟨rfl,rfl,he⟩,cY⟩;rcases cc e he with h1|⟨c',h1,h2,h3,h4⟩
  ·exact .inl h1
  ·exact .inr ⟨c',h1,bm _ h2,h3,h4⟩
 have plain:∀{lf:Leaf Ty den}{v:Value},LRep E.U w' g' lf v->(∀e,lf.has e=false)->LRep E.U w' g1 lf v:=λ{lf v} h h2=>⟨by rw[aX];exact h.1,λt l d he=>by(subst he;have:=h2 d;simp[Leaf.has,H3]at this),λd o he=>by(subst he;have:=h2 d;simp[Leaf.has,H3]at this)⟩;cases lf with
 |sl t l x=>
  cases x with
  |none=>exact keep (plain ak λ_=>rfl) (λe he=>by simp[Leaf.has]at he) rfl
  |some e=>
   by_cases cn:e=bo (C0 kk) j
   ·subst cn;simp only[P5,H3,Ap];exact B25 (c:=bo (C0 kk) j) hU hp hr aX hB cc bm ak (hc _ (by simp[Leaf.has])) (by unfold bo;omega) (λ_ _ _ c' h1 _=>by omega) (λh=>by unfold bo at h;omega)
   ·refine keep (lf':=.sl t l none) ⟨by rw[aX];exact ak.1.own none,λ_ _ _ he=>by(simp at he),λ_ _ he=>by(cases he)⟩ (λe he=>by simp[Leaf.has]at he) ?_;simp only[P5,K0 cn,Aq]
 |ptr e o=>
  cases eT:Ba e (C0 kk)&&Ba o C4 with
  |false=>exact keep (lf':=.any) (LRep.any _) (λe he=>by simp[Leaf.has]at he) (by simp only[P5,eT,Aq])
  |true=>
   simp only[Aw]at eT;have e1:=(F6 _ _).1 eT.1;have e2:o=C4:=(F6 _ _).1 eT.2;subst e2;subst e1;obtain⟨b,n,h1,h2⟩:=ak.2.2 _ _ rfl;refine keep (lf':=.ptr d C4) ⟨.ptr _ _ _ h2.ptr,λ_ _ _ he=>by(cases he),λd' o' he=>?_⟩ (λe he=>?_) (by simp only[P5,H3,eT.2,Hj,Ap])
   ·cases he;exact⟨b,n,hd.2.trans h1,h2⟩
   ·simp only[Leaf.has]at he;have:=(F6 _ _).1 he;subst this;exact hd.1
 |_=>exact keep (plain ak λ_=>rfl) (λe he=>by simp[Leaf.has]at he) rfl
theorem LsRep.keep{g1 g2:Gh}{U:UO Ty den}(hw:g2.wm=g1.wm):∀{ls:List (Leaf Ty den)}{vs:Ai},LsRep U w g1 ls vs->(∀lf∈ls,∀e,lf.has e=true->g2.G e=g1.G e/\g2.Gs e=g1.Gs e)->LsRep U w g2 ls vs
 |[],[],_,_=>trivial
 |_::_,_::_,h,hk=>⟨h.1.keep hw (hk _ (by simp)),LsRep.keep hw h.2 λlf hl=>hk lf (by simp[hl])⟩
theorem C1m(hU:E.U.Ok){Bc:Bs}{g':Gh}{ent:Ent Ty den}{v0:Value}{w':World}(hp:Post E.U Bc g' ent v0 w')(hB:∀b,Bc.w.heap.size<=b\/Bc.M b->B.w.heap.size<=b\/B.M b){kk d:Nat}:
  ∀(ls:List (Leaf Ty den))(vs:Ai)(j:Nat)(s:St Ty den)(g1:Gh),Rel E.U B g1 s a w'->g1.wm=g'.wm->X0 Bc g' g1 ent none (λc=>c<bo (C0 kk) j) s->LsRep E.U w' g' ls vs->(∀lf∈ls,∀c,lf.has c=true->ent.has c=true)->
   mem d s.live=true->g1.G d=g'.G (C0 kk)->
  ∃g2,Rel E.U B g2 (unC kk d j s ls).2 a w'/\g2.wm=g'.wm/\LsRep E.U w' g2 (unC kk d j s ls).1 vs/\X0 Bc g' g2 ent none (λc=>c<bo (C0 kk) (j+ls.length)) (unC kk d j s ls).2/\
   (∀e,mem e s.live=true->g2.G e=g1.G e/\g2.Gs e=g1.Gs e/\mem e (unC kk d j s ls).2.live=true)/\(unC kk d j s ls).1.length=ls.length
 |[],[],j,s,g1,hr,aX,cc,_,_,_,_=>⟨g1,hr,aX,trivial,cc,λ_ h=>⟨rfl,rfl,h⟩,rfl⟩
 |lf::ls,v::vs,j,s,g1,hr,aX,cc,ak,hc,hd,hG=>by
  obtain⟨g2,h1,h2,h3,h4,h5,h6⟩:=C7h hU hp hr aX hB cc ak.1 (hc lf (by simp)) ⟨hd,hG⟩;obtain⟨g3,k1,k2,k3,k4,k5,k6⟩:=C1m hU hp hB ls vs (j+1) _ g2 h1 h2 h4 ak.2 (λl hl=>hc l (by simp[hl])) (h5 d hd).2.2 ((h5 d hd).1.trans hG);have e1:(unC kk d j s (lf::ls)).1=(P5 kk d (bo (C0 kk) j) (bo d j) s lf).1::(unC kk d (j+1) (P5 kk d (bo (C0 kk) j) (bo d j) s lf).2 ls).1:=rfl;have e2:(unC kk d j s (lf::ls)).2=(unC kk d (j+1) (P5 kk d (bo (C0 kk) j) (bo d j) s lf).2 ls).2:=rfl;rw[e1,e2];refine⟨g3,k1,k2,⟨h3.keep (k2.trans h2.symm) λe he=>⟨(k5 e (h6 e he)).1,(k5 e (h6 e he)).2.1⟩,k3⟩,?_,λe he=>?_,by simp[k6]⟩
  ·rw[show j+(lf::ls).length=j+1+ls.length by simp only[Ct];omega];exact k4
  ·obtain⟨e1,e2,e3⟩:=h5 e he;obtain⟨f1,f2,f3⟩:=k5 e e3;exact⟨f1.trans e1,f2.trans e2,f3⟩
theorem LsRep.split{U:UO Ty den}{g:Gh}:∀{ls bL:List (Leaf Ty den)}{vs ox:Ai},LsRep U w g (ls++bL) (vs++ox)->ls.length=vs.length->LsRep U w g ls vs/\LsRep U w g bL ox
 |[],_,[],_,h,_=>⟨trivial,h⟩
 |_::_,_,_::_,_,h,hl=>by
  obtain⟨h1,h2⟩:=LsRep.split h.2 (by simpa using hl);exact⟨⟨h.1,h1⟩,h2⟩
 |[],_,_::_,_,_,hl=>by simp at hl
 |_::_,_,[],_,_,hl=>by simp at hl
theorem B3R{U:UO Ty den}{g:Gh}{d b:Nat}{us:Ai}{ls:List (Leaf Ty den)}(hG:g.G d=.slice (some ⟨b,0,none⟩) 0 us.length)(hl:us.length=ls.length)(bV:0<us.length)(hs:g.Gs d=1)
  (hc:∀(j:Nat) u,us[j]?=some u->w.cell? ⟨b,j,none⟩=some u/\u.oneCell'=true/\u.cells= #[u])(hr:LsRep U w g ls us):BoxOk U w g d ls:=by
 refine BoxOk.ex b (by rw[hG,hl]) (by omega) hs λj lf hj=>?_;obtain⟨u,h1,h2⟩:=hr.get hj;obtain⟨c1,c2,c3⟩:=hc j u h1;exact⟨u,c1,c2,c3,h2⟩
theorem C2h(hU:E.U.Ok){Bc:Bs}{g':Gh}{ent:Ent Ty den}{v0:Value}{w':World}(hp:Post E.U Bc g' ent v0 w')(hB:∀b,Bc.w.heap.size<=b\/Bc.M b->B.w.heap.size<=b\/B.M b):
  ∀(ds:Aj)(cs:List (List (Leaf Ty den)))(bP:List (Nat×Ai))(kk:Nat)(s:St Ty den)(g1:Gh),Rel E.U B g1 s a w'->g1.wm=g'.wm->Z3 w' g' (O3 kk ds.length) cs bP->LsRep E.U w' g' (G4 kk cs) (A0f bP)->
   A7K cs=true->(∀lf∈G4 kk cs,∀c,lf.has c=true->ent.has c=true)->X0 Bc g' g1 ent none (λc=>c<bo (C0 kk) 0) s->(∀i d,ds[i]?=some d->mem d s.live=true/\g1.G d=g'.G (C0 (kk+i))/\g1.Gs d=1)->
  ∃g2,Rel E.U B g2 (unB kk s ds cs) a w'/\g2.wm=g'.wm/\(∀e,mem e s.live=true->g2.G e=g1.G e/\g2.Gs e=g1.Gs e)
 |[],[],[],kk,s,g1,hr,aX,_,_,_,_,_,_=>⟨g1,hr,aX,λ_ _=>⟨rfl,rfl⟩⟩
 |d::ds,c::cs,(b,us)::bP,kk,s,g1,hr,aX,bU,ak,gK,dx,cc,iC=>by
  obtain⟨⟨b1,b2,b3,b4,b5⟩,ph⟩:=bU;simp only[A7K,Aw,Bh]at gK;obtain⟨ma,fj,sD⟩:=iC 0 d rfl;obtain⟨fZ,df⟩:=LsRep.split ak.2 b2.symm;obtain⟨g2,h1,h2,h3,h4,h5,h6⟩:=C1m hU hp hB (kk:=kk) (d:=d) c us 0 s g1 hr aX cc fZ (λlf hl=>dx lf (by simp[G4,hl])) ma fj;obtain⟨f1,f2,f3⟩:=h5 d ma;have w5:BoxOk E.U w' g2 d (unC kk d 0 s c).1:=B3R (by rw[f1,fj];exact b1) (by rw[h6,b2]) b3 (by rw[f2,sD]) b5 h3;have h7:=h1.setBx w5 f3;obtain⟨g3,k1,k2,k3⟩:=C2h hU hp hB ds cs bP (kk+1) _ g2 h7 h2 ph df gK.2 (λlf hl=>dx lf (by simp[G4,hl])) (λe he=>by
    rcases h4 e he with q1|⟨c',q1,q2,q3,q4⟩
    ·exact .inl q1
    ·refine .inr ⟨c',q1,?_,q3,q4⟩;have:=gK.1;unfold bo C0 at q2 ⊢;omega) (λi d' dM=>by
    obtain⟨e1,e2,e3⟩:=iC (i+1) d' (by simpa using dM);obtain⟨q1,q2,q3⟩:=h5 d' e1;exact⟨q3,by rw[q1,e2];congr 2;omega,by rw[q2,e3]⟩)
  refine⟨g3,k1,k2,λe he=>?_⟩;obtain⟨q1,q2,q3⟩:=h5 e he;obtain⟨r1,r2⟩:=k3 e q3;exact⟨r1.trans q1,r2.trans q2⟩
 |[],[],_::_,_,_,_,_,_,h,_,_,_,_,_=>h.elim
 |[],_::_,_,_,_,_,_,_,h,_,_,_,_,_=>by cases ‹List (Nat×Ai)› <;>exact h.elim
 |_::_,[],_,_,_,_,_,_,h,_,_,_,_,_=>by cases ‹List (Nat×Ai)› <;>exact h.elim
 |_::_,_::_,[],_,_,_,_,_,h,_,_,_,_,_=>h.elim
theorem B5t(hr:Rel E.U B g s a w):∀ds,Rel E.U B g (W6 s ds) a w
 |[]=>hr
 |d::ds=>(B5t hr ds).noBx d
theorem A2D:∀ds:Aj,(W6 s ds).live=s.live
 |[]=>rfl
 |d::ds=>A2D ds
theorem B6b{d:Nat}:∀{ds:Aj},(∃i:Nat,ds[i]?=some d)->(W6 s ds).get (bxi d)=.one .any
 |[],⟨i,h⟩=>by simp at h
 |x::ds,⟨i,h⟩=>by
  simp only[W6];rw[K5];by_cases hx:bxi x=bxi d
  ·rw[Au hx]
  ·rw[At hx];cases i with
   |zero=>simp at h;subst h;exact absurd rfl hx
   |succ i=>exact B6b ⟨i,by simpa using h⟩
theorem B4u{ls:List (Leaf Ty den)}:∀{ps ds:Aj},A1R ls ps=some ds->ds.length=ps.length
 |[],ds,h=>by simp only[A1R,Bi]at h;subst h;rfl
 |p::ps,ds,h=>by
  simp only[A1R]at h;split at h
  ·rename_i d fO _ jO;simp only[Bi]at h;subst h;simp[B4u jO]
  ·cases h
theorem B6e{U:UO Ty den}{NT:List (Nat×Nat)}(hN:OneOne NT){ls:List (Leaf Ty den)}{vs:Ai}(bc:LsRep U w g ls vs):∀(ps:Aj)(kk:Nat)(ds:Aj),A1R ls ps=some ds->(∀p∈K7 kk ds,p∈NT)->
  LsRep U w (M7 g NT) (A5O (F8 ls) kk ps) vs
 |[],kk,ds,h,_=>LsRep.closed_any (g:=g) (g':=M7 g NT) rfl (LsRep.close bc)
 |p::ps,kk,ds,h,bZ=>by
  simp only[A1R]at h;split at h
  ·rename_i d fO hp jO;simp only[Bi]at h;subst h;refine(B6e hN bc ps (kk+1) fO jO λp hp=>bZ p (by simp[K7,hp])).set p (.ptr (C0 kk) 0) λv hv=>?_;have iI:ls[p]?=some (.ptr d 0):=by
    have aj:=bc.length;have:p<ls.length:=by rw[aj];exact I7 hv
    rw[Ck,Bl this]at hp;rw[Bl this];simpa using hp
   obtain⟨v',e1,e2⟩:=bc.get iI;rw[hv]at e1;cases e1;obtain⟨b,n,e3,e4⟩:=e2.2.2 d 0 rfl;obtain⟨e5,_⟩:=A4S (g:=g) hN (bZ (C0 kk,d) (by simp[K7]));exact⟨by rw[e4.at (by decide)];exact .pt _ _ _,λ_ _ _ he=>by(cases he),λd' o' he=>by(cases he;exact⟨b,n,e5.trans e3,e4⟩)⟩
  ·cases h
theorem B5f{ls:List (Leaf Ty den)}{d:Nat}:∀(ps:Aj)(kk:Nat){lf:Leaf Ty den},lf∈A5O (F8 ls) kk ps->lf.has d=true->∃i,kk<=i/\i<kk+ps.length/\d=C0 i
 |[],kk,lf,h,hd=>by
  obtain⟨l0,rfl⟩:=A6e h;rw[A5L]at hd;cases hd
 |p::ps,kk,lf,h,hd=>by
  rcases List.mem_or_eq_of_mem_set h with h|rfl
  ·obtain⟨i,h1,h2,h3⟩:=B5f ps (kk+1) h hd;exact⟨i,by omega,by simp only[Ct];omega,h3⟩
  ·simp only[Leaf.has]at hd;have:=(F6 _ _).1 hd;exact⟨kk,Be _,by simp,this.symm⟩
theorem A6U:∀(cs:List (List (Leaf Ty den)))(kk i:Nat),i<cs.length->M4 (G4 kk cs) (C0 (kk+i))
 |[],kk,i,h=>by simp at h
 |c::cs,kk,0,h=>⟨.ptr (C0 kk) 0,by simp[G4],by simp[Leaf.has,H3]⟩
 |c::cs,kk,i+1,h=>by
  obtain⟨lf,h1,h2⟩:=A6U cs (kk+1) i (by simpa using h);exact⟨lf,by simp[G4,h1],by rw[show kk+(i+1)=kk+1+i by omega];exact h2⟩
theorem A92{NT:List (Nat×Nat)}(hN:OneOne NT):∀(ds:Aj)(cs:List (List (Leaf Ty den)))(bP:List (Nat×Ai))(kk:Nat),Z3 w g ds cs bP->(∀p∈K7 kk ds,p∈NT)->Z3 w (M7 g NT) (O3 kk cs.length) cs bP
 |[],[],[],kk,_,_=>trivial
 |d::ds,c::cs,(b,us)::bP,kk,h,bZ=>by
  obtain⟨⟨b1,b2,b3,b4,b5⟩,h'⟩:=h;obtain⟨e1,e2⟩:=A4S (g:=g) hN (bZ (C0 kk,d) (by simp[K7]));exact⟨⟨e1.trans b1,b2,b3,e2.trans b4,b5⟩,A92 hN ds cs bP (kk+1) h' λp hp=>bZ p (by simp[K7,hp])⟩
 |[],[],_::_,_,h,_=>h.elim
 |[],_::_,bP,_,h,_=>by cases bP<;>exact h.elim
 |_::_,[],bP,_,h,_=>by cases bP<;>exact h.elim
 |_::_,_::_,[],_,h,_=>h.elim
theorem A7V:∀{ds:Aj}{cs:List (List (Leaf Ty den))}{bP:List (Nat×Ai)},Z3 w g ds cs bP->∀{i d:Nat},ds[i]?=some d->∃(b:Nat)(us:Ai),bP[i]?=some (b,us)/\g.G d=.slice (some ⟨b,0,none⟩) 0 us.length/\g.Gs d=1
 |[],[],[],_,i,d,h=>by simp at h
 |x::ds,c::cs,(b,us)::bP,hb,0,d,h=>by simp at h;subst h;exact⟨b,us,rfl,hb.1.1,hb.1.2.2.2.1⟩
 |x::ds,c::cs,(b,us)::bP,hb,i+1,d,h=>by simpa using A7V hb.2 (i:=i) (by simpa using h)
 |[],[],_::_,h,_,_,_=>h.elim
 |[],_::_,bP,h,_,_,_=>by cases bP<;>exact h.elim
 |_::_,[],bP,h,_,_,_=>by cases bP<;>exact h.elim
 |_::_,_::_,[],h,_,_,_=>h.elim
theorem A8I:∀(n kk i:Nat),i<n->(O3 kk n)[i]?=some (C0 (kk+i))
 |0,kk,i,h=>by omega
 |n+1,kk,0,h=>by simp[O3]
 |n+1,kk,i+1,h=>by
  simp only[O3,Ha];rw[A8I n (kk+1) i (by omega)]
  congr 2;omega
theorem B7P(hU:E.U.Ok){S:List (Leaf Ty den)->List (List (Leaf Ty den))->Option (List (Leaf Ty den)×List (List (Leaf Ty den)))}{ls:List (Leaf Ty den)}{vs:Ai}(bc:LsRep E.U w g ls vs)
  (hS:∀bL cs rs aR,S bL cs=some (rs,aR)->∀g1:Gh,g1.wm=g.wm->LsRep E.U w g1 bL vs->∃f kU jP,(Ax a.eval o).run P w=.ok (.enter f jP.toArray) w/\LsRep E.U w g1 kU jP/\(∀lf∈kU,∀d,lf.has d=true->M4 bL d)/\Z1 P E.U (λw1 m1=>Ext B.w B.wm w1 m1) f kU cs rs aR)
  {ps:Aj}(h:A7h S ps ls o.dst s k=some r)
  (hr:Rel E.U B g s a w)(hd:∀i,o.dst=some i->i<a.tmps.size/\B.np<=i)(hn:H4 E B o a k r next):o.wp P a w next Q:=by
 unfold A7h at h;split at h
 case h_2=>cases h
 rename_i ds iC;obtain⟨hJ,h⟩:=B8 h;simp only[Aw,Bh]at hJ;obtain⟨ly,ap⟩:=hJ;split at h
 case h_2=>cases h
 rename_i cs s1 uY;obtain⟨kV,h⟩:=B8 h;split at h
 case h_2=>cases h
 rename_i rs aR sE;obtain⟨eT,h⟩:=B8 h;simp only[Aw,Bh]at eT;obtain⟨ck,w6,gK⟩:=eT;have ck:=(F6 _ _).1 ck;obtain⟨w7,h⟩:=B8 h;obtain⟨bP,N,r1,rp,bd,one,sH,ga,lz⟩:=B3o hU ds 0 s cs s1 uY hr;have aW:=C3B (s:=s) ly ap one sH kV;generalize oA:K7 0 ds++N=NT at rp aW;have bZ:∀p∈K7 0 ds,p∈NT:=λp hp=>by rw[<-oA];exact Ek _ hp
 have w9:∀c d,(c,d)∈NT->mem d s.live=true:=λc d mi=>by
  rw[<-oA,Cf]at mi;rcases mi with h1|h1
  ·obtain⟨i,_,_,_,h4⟩:=A3p ds 0 _ h1;exact ga _ (A8A kV h4)
  ·exact(sH _ h1).2.1
 have dx:∀c,M4 (G4 0 cs) c->∃d,(c,d)∈NT/\mem d s.live=true/\(M7 g NT).G c=g.G d/\(M7 g NT).Gs c=g.Gs d:=λc ⟨lf,h1,h2⟩=>by
  obtain⟨d,h3⟩:=rp.names lf h1 c h2;obtain⟨e1,e2⟩:=A4S (g:=g) aW h3;exact⟨d,h3,w9 c d h3,e1,e2⟩
 have pi:∀e b,mem e s1.live=true->spare (g.G e)=some b->(∃d,M4 (G4 0 cs) d/\spare ((M7 g NT).G d)=some b)->∃i,ds[i]?=some e:=λe b he hs ⟨c,h1,h2⟩=>by
  obtain⟨d,h3,h4,h5,_⟩:=dx c h1;rw[h5]at h2;have fM:e=d:=by
   by_cases fM:e=d
   ·exact fM
   ·exact absurd h2 (hr.disj e d b (ga e he) h4 fM hs)
  subst fM;rw[<-oA,Cf]at h3;rcases h3 with h3|h3
  ·obtain⟨i,_,_,_,h6⟩:=A3p ds 0 _ h3;exact⟨_,h6⟩
  ·have:=(sH _ h3).2.2;rw[he]at this;cases this
 obtain⟨f,kU,jP,fk,sI,sJ,ja⟩:=hS _ _ _ _ sE (M7 g NT) rfl (B6e aW bc ps 0 ds iC bZ);have hc:=ja w (M7 g NT) jP bP hr.ext hr.zero sI (rp.out aW) (A92 aW ds cs bP 0 bd bZ)
  (λc iJ=>by obtain⟨d,_,h2,h3,h4⟩:=dx c iJ;rw[h3,h4];exact hr.tip d h2)
  (λc c' b iJ nj av hs=>by
   obtain⟨d,h1,h2,h3,h4⟩:=dx c iJ;obtain⟨d',lC,dw,jd,nk⟩:=dx c' nj;rw[h3]at hs;rw[jd];exact hr.disj d d' b h2 dw (λe=>av ((aW c d c' d' h1 lC).2 e)) hs)
  (λlf dc d ni=>by
   obtain⟨zn,sK,sD⟩:=sJ lf dc d ni;obtain⟨i,_,h2,rfl⟩:=B5f ps 0 sK sD;have:=A6U cs 0 i (by rw[lz,B4u iC];omega);rw[Bj]at this;exact this)
 unfold Cr;rw[fk,Dq];refine hc.mono λe w' dL=>?_;obtain⟨g',rv,dD,rfl,kR,hp,jQ,ic⟩:=dL;show next (a.put o.dst (V4 rv)) w';have jE:∀i d,ds[i]?=some d->(Post.tip hp (C0 i))=(Post.tip hp (C0 i))/\g'.G (C0 i)=g.G d/\g'.Gs (C0 i)=1/\g.Gs d=1/\(Ent.tup (rs++G4 0 aR)).has (C0 i)=true:=λi d hi=>by
  have jr:=I7 hi;obtain⟨b,us,h1,h2,h3⟩:=A7V bd hi;have dt:=A8I cs.length 0 i (by omega);rw[Bj]at dt;obtain⟨b',vn,lC,dw,jd⟩:=A7V jQ dt;have h4:(dD.map (λp=>(p.1,p.2.length)))[i]?=(bP.map (λp=>(p.1,p.2.length)))[i]? :=by rw[ic]
  rw[Cj,Cj,h1,lC]at h4;simp only[Ee,Bi,Bo]at h4;refine⟨rfl,by rw[dw,h2,h4.1,h4.2],jd,h3,?_⟩;obtain⟨lf,q1,q2⟩:=A6U aR 0 i (by omega);rw[Bj]at q2;simp only[Ent.has,Dv];exact⟨lf,by simp[q1],q2⟩
 have ea:=B5t r1 ds;have fm:=ea.world hU (w':=w') (wm':=g'.wm) hp.os hp.tape hp.output hp.size hp.ext (λb=>∃d,M4 (G4 0 cs) d/\spare ((M7 g NT).G d)=some b)
  (λb ⟨c,h1,h2⟩=>by
   obtain⟨d,_,h4,h5,_⟩:=dx c h1;rw[h5]at h2;exact A5y (hr.tip d h4) h2)
  (λe b he hs=>by
   rw[A2D]at he;by_cases hM:∃d,M4 (G4 0 cs) d/\spare ((M7 g NT).G d)=some b
   ·right
    obtain⟨i,hi⟩:=pi e b he hs hM;obtain⟨_,q1,q2,q3,q4⟩:=jE i e hi;have ht:=hp.tip (C0 i) q4;rw[q1,q2]at ht;refine⟨by rw[q3];exact ht,λj l hj=>?_⟩;have h9:=(ea.bxl j e l hj).2;have h8:=B6b (s:=s1) ⟨i,hi⟩;rw[show j=bxi e from h9,h8]at hj;cases hj
   ·exact .inl hM)
  (λb ⟨c,h1,h2⟩=>by
   obtain⟨d,_,h4,h5,_⟩:=dx c h1;rw[h5]at h2;exact hr.mine d b h4 h2)
  (λb hb hM=>hp.frame b hb hM) hp.zero
 have vo:∀b,w.heap.size<=b\/(∃d,M4 (G4 0 cs) d/\spare ((M7 g NT).G d)=some b)->B.w.heap.size<=b\/B.M b:=λb hb=>by
  rcases hb with hb|⟨c,h1,h2⟩
  ·exact .inl (Ci hr.size hb)
  ·obtain⟨d,_,h4,h5,_⟩:=dx c h1;rw[h5]at h2;exact hr.mine d b h4 h2
 obtain⟨nq,nr,cT⟩:=hp.rep;have nr:rv++A0f dD=nq:=by
  have:=Gk nr;simpa using this
 subst nr;obtain⟨fZ,df⟩:=LsRep.split cT kR;have fB:∀(l0:List (Leaf Ty den)),(∀lf∈l0,lf∈rs++G4 0 aR)->∀lf∈l0,∀c,lf.has c=true->(Ent.tup (rs++G4 0 aR)).has c=true:=λl0 cH lf hl c hc=>by
  simp only[Ent.has,Dv];exact⟨lf,cH lf hl,hc⟩
 have pj:∀c,(∃i,i<ds.length/\c=C0 i)->900000<=c/\c<1000000:=λc ⟨i,h1,h2⟩=>by rw[h2];unfold C0;omega
 have cc:X0 ⟨w,g.wm,λb=>∃d,M4 (G4 0 cs) d/\spare ((M7 g NT).G d)=some b,0,λ_=>undef⟩ g' {g with wm:=g'.wm} (Ent.tup (rs++G4 0 aR)) none (λc=>c<=0\/∃i,i<ds.length/\c=C0 i) (W6 s1 ds):=λe he=>by
  rw[A2D]at he;by_cases fk:∃i:Nat,ds[i]?=some e
  ·obtain⟨i,hi⟩:=fk;obtain⟨_,q1,q2,q3,q4⟩:=jE i e hi;exact .inr ⟨C0 i,q4,.inr ⟨i,I7 hi,rfl⟩,q1.symm,λh0=>by unfold C0 at h0;omega⟩
  ·left
   intro b hb;refine⟨?_,λhM=>fk (pi e b he hb hM)⟩;obtain⟨_,_,_,gJ⟩:=A5y (hr.tip e (ga e he)) hb;exact(Dc.1 gJ).1
 obtain⟨g2,l1,l2,l3,l4,l5,l6⟩:=B2v (dst:=o.dst) (p:=none) (X:=λc=>∃i,i<ds.length/\c=C0 i) hU hp vo rs rv 0 (W6 s1 ds) {g with wm:=g'.wm} fm rfl
  (λc hc=>by have:=pj c hc;omega) cc fZ (fB rs λlf hl=>by simp[hl])
 obtain⟨g3,m1,m2,m3⟩:=C2h hU hp vo ds aR dD 0 _ g2 l1 l2 (by
   have:O3 0 ds.length=O3 0 cs.length:=by rw[lz]
   rw[this];exact jQ) df gK (fB _ λlf hl=>by simp[hl]) (λe he=>by
    rcases l6 e he with q1|⟨c',q1,q2,q3,q4⟩
    ·exact .inl q1
    ·refine .inr ⟨c',q1,?_,q3,q4⟩;have:c'<1000000:=by
      rcases q2 with q2|q2
      ·omega
      ·exact(pj _ q2).2
     unfold bo C0;omega) (λi d hi=>by
    obtain⟨_,q1,q2,q3,q4⟩:=jE i d hi;obtain⟨e1,e2,e3⟩:=l4 d (by rw[A2D];exact A8A kV hi);exact⟨e3,by rw[e1,Bj,q1],by rw[e2];exact q3⟩)
 have dZ:LsRep E.U w' g3 (S9 o.dst none 0 (W6 s1 ds) rs).1 rv:=l3.keep (m2.trans l2.symm) λlf hl e he=>m3 e (l5 lf hl e he);refine hn _ _ _ _ h (REL.setO m1 (e:=A5w _) ?_ ?_ _ hd)
 ·generalize (S9 o.dst none 0 (W6 s1 ds) rs).1=bL at dZ;have aj:=dZ.length
  match bL,rv,dZ,aj with
  |[],[],_,_=>exact⟨[],by simp[V4],trivial⟩
  |[l],[v],hf,_=>exact hf.1
  |l::l2::bL,v::v2::vs,hf,_=>exact⟨v::v2::vs,by simp[V4],hf⟩
  |[],_::_,_,hl=>simp at hl
  |[_],[],_,hl=>simp at hl
  |[_],_::_::_,_,hl=>simp at hl
  |_::_::_,[],_,hl=>simp at hl
  |_::_::_,[_],_,hl=>simp at hl
 ·generalize (S9 o.dst none 0 (W6 s1 ds) rs).1=bL
  match bL with
  |[]=>rfl
  |[l]=>rfl
  |_::_::_=>rfl
theorem C9P(hU:E.U.Ok)(hS:∀f ls cs rs aR,E.TB f ls cs=some (rs,aR)->(∀args w,(Bn f args).run P w=.ok (.enter f args) w)/\Z1 P E.U (λw1 m1=>Ext B.w B.wm w1 m1) f ls cs rs aR)
  {c:Call}{f:Bp}{ps:Aj}(ag:o.op=.call c)(aq:c.callee=.value (.func f))(h:B7E E f ps c.argTypes.toList c.args.toList o.dst s k=some r)
  (hr:Rel E.U B g s a w)(hd:∀i,o.dst=some i->i<a.tmps.size/\B.np<=i)(hn:H4 E B o a k r next):o.wp P a w next Q:=by
 refine B7P hU (A5h hr c.argTypes.toList c.args.toList) (λbL cs rs aR sE g1 _ hl=>?_) h hr hd hn;obtain⟨aK,ja⟩:=hS f _ _ _ _ sE;refine⟨f,bL,_,?_,hl,λlf dc d hd=>⟨lf,dc,hd⟩,ja⟩;simp[Ax,ag,Cm,aq,Ew,Ep,invoke,aK];apply Dz;simp
def A49(P:Bf)(U:UO Ty den)(B:Bs)(nm:String)(ls:List (Leaf Ty den))(cs:List (List (Leaf Ty den)))(rs:List (Leaf Ty den))(aR:List (List (Leaf Ty den))):Prop:=
 ∀(w:World)(g:Gh)(vs:Ai),LsRep U w g ls vs->∃f kU jP,(invoke (.fn (.method nm) #[]) vs.toArray).run P w=.ok (.enter f jP.toArray) w/\LsRep U w g kU jP/\(∀lf∈kU,∀d,lf.has d=true->M4 ls d)/\Z1 P U (λw1 m1=>Ext B.w B.wm w1 m1) f kU cs rs aR
theorem D3n(hU:E.U.Ok)(hS:∀nm ls cs rs aR,E.TI nm ls cs=some (rs,aR)->A49 P E.U B nm ls cs rs aR)
  {c:Call}{x:Az}{nm:String}(ag:o.op=.call c)(aq:c.callee=.invoke x nm)(h:A7h (E.TI nm) (E.bi nm) (opl E s 0 x::Q5 E s c.argTypes.toList c.args.toList) o.dst s k=some r)
  (hr:Rel E.U B g s a w)(hd:∀i,o.dst=some i->i<a.tmps.size/\B.np<=i)(hn:H4 E B o a k r next):o.wp P a w next Q:=by
 refine B7P hU (ls:=opl E s 0 x::Q5 E s c.argTypes.toList c.args.toList) (vs:=a.eval x::c.args.toList.map a.eval) ⟨H7 hr 0 x,A5h hr c.argTypes.toList c.args.toList⟩ (λbL cs rs aR xa g1 _ hl=>?_) h hr hd hn;obtain⟨f,kU,jP,h1,h2,h3,h4⟩:=hS nm _ _ _ _ xa w g1 _ hl;refine⟨f,kU,jP,?_,h2,h3,h4⟩;have cw:(#[a.eval x]++c.args.map a.eval)=(a.eval x::c.args.toList.map a.eval).toArray:=by
  apply Dz;simp
 simp[Ax,ag,Cm,aq,cw];simpa using h1
theorem A7y:∀{ls:List (Leaf Ty den)},A1L ls=true->(∀lf∈ls,(∀t x c,lf≠ .sl t x (some c))/\∀d o,lf≠ .ptr d o)
 |[],_,lf,h=>by simp at h
 |l::ls,hc,lf,h=>by
  have bG:(∀t x c,l≠ .sl t x (some c))/\(∀d o,l≠ .ptr d o)/\A1L ls=true:=by
   cases l with
   |sl t x o=>
    cases o with
    |none=>exact⟨λ_ _ _ e=>(by(cases e)),λ_ _ e=>(by(cases e)),hc⟩
    |some c=>cases hc
   |ptr d o=>cases hc
   |_=>exact⟨λ_ _ _ e=>(by(cases e)),λ_ _ e=>(by(cases e)),hc⟩
  simp only[Bg]at h;rcases h with rfl|h
  ·exact⟨bG.1,bG.2.1⟩
  ·exact A7y bG.2.2 lf h
theorem B7z(hr:Rel E.U B g s a w):∀(ds:Aj)(kk:Nat)(cs:List (List (Leaf Ty den))),A1W s ds=some cs->∃bP,Z3 w g ds cs bP/\PackRep E.U w g (K7 kk ds) (G4 kk cs) (A0f bP)/\cs.length=ds.length/\(∀(i d:Nat),ds[i]?=some d->mem d s.live=true)/\
   ∀(i d:Nat)(c:List (Leaf Ty den)),ds[i]?=some d->cs[i]?=some c->s.get (bxi d)=.bx d c/\A1L c=true
 |[],kk,cs,h=>by
  simp only[A1W,Bi]at h;subst h;exact⟨[],trivial,trivial,rfl,λi d h=>by simp at h,λi d c h=>by simp at h⟩
 |d::ds,kk,cs,h=>by
  simp only[A1W]at h;split at h
  ·rename_i ls fN bc sL;obtain⟨ck,h⟩:=B8 h;rw[Aw]at ck;obtain⟨ck,e9⟩:=ck;simp only[Bi]at h;subst h;obtain⟨bU,kV,aL⟩:=A2I hr bc;obtain⟨b,us,g1,g2,g3,g4,g5,g6⟩:=C3o e9 bU;obtain⟨bP,a1,a2,a3,a4,a5⟩:=B7z hr ds (kk+1) fN sL;have ga:∀p∈K7 (kk+1) ds,p∈K7 kk (d::ds):=λp hp=>by simp[K7,hp]
   have pk:∀(ls:List (Leaf Ty den))(us:Ai),(∀lf∈ls,(∀t x c,lf≠ .sl t x (some c))/\∀d o,lf≠ .ptr d o)->LsRep E.U w g ls us->PackRep E.U w g (K7 kk (d::ds)) ls us:=by
    intro ls
    induction ls with
    |nil=>intro us _ h;cases us with
     |nil=>trivial
     |cons _ _=>exact h.elim
    |cons l ls ih=>
     intro us hc h;cases us with
     |nil=>exact h.elim
     |cons u us=>
      have:=hc l (by simp);exact⟨⟨h.1.1,λt x c e=>absurd e (this.1 t x c),λc o e=>absurd e (this.2 c o)⟩,ih us (λlf hl=>hc lf (by simp[hl])) h.2⟩
   refine⟨(b,us)::bP,⟨⟨g1,g2,g3,g4,g5⟩,a1⟩,⟨⟨.pt _ _ _,λ_ _ _ e=>by(cases e),λc o e=>?_⟩,(pk ls us (A7y ck) g6).append (a2.mono ga)⟩,by simp[a3],λi d' hi=>?_,λi d' c hi hc=>?_⟩
   ·cases e;exact⟨d,b,_,by simp[K7],g1,.inl ⟨rfl,by decide⟩⟩
   ·cases i with
    |zero=>simp at hi;subst hi;exact kV
    |succ i=>exact a4 i d' (by simpa using hi)
   ·cases i with
    |zero=>simp at hi hc;subst hi hc;exact⟨aL,ck⟩
    |succ i=>exact a5 i d' c (by simpa using hi) (by simpa using hc)
  ·cases h
theorem C9O{U:UO Ty den}{g' g2:Gh}(hw:g2.wm=g'.wm){rs:List (Leaf Ty den)}{rv:Ai}(h:LsRep U w g' rs rv):ERep U w g2 (A5w (F8 rs)) (V4 rv)/\(A5w (F8 rs)).isIter=false:=by
 have hf:=LsRep.closed_any (g':=g2) hw (LsRep.close h);have aj:=hf.length;generalize F8 rs=bL at hf aj
 match bL,rv,hf,aj with
 |[],[],_,_=>exact⟨⟨[],by simp[V4],trivial⟩,rfl⟩
 |[l],[v],hf,_=>exact⟨hf.1,rfl⟩
 |l::l2::bL,v::v2::vs,hf,_=>exact⟨⟨v::v2::vs,by simp[V4],hf⟩,rfl⟩
 |[],_::_,_,hl=>simp at hl
 |[_],[],_,hl=>simp at hl
 |[_],_::_::_,_,hl=>simp at hl
 |_::_::_,[],_,hl=>simp at hl
 |_::_::_,[_],_,hl=>simp at hl
theorem C2m(hU:E.U.Ok)(hS:∀f ls r,E.T f ls=some (true,r)->(∀args w,(Bn f args).run P w=.ok (.enter f args) w)/\A1U P E.U (λw1 m1=>Ext B.w B.wm w1 m1) f ls r)
  (hR:∀f ls cs rs,E.TR f ls cs=some rs->(∀args w,(Bn f args).run P w=.ok (.enter f args) w)/\Z1 P E.U (λw1 m1=>Ext B.w B.wm w1 m1) f ls cs rs cs)
  {c:Call}{f:Bp}{e:Ent Ty den}(ag:o.op=.call c)(aq:c.callee=.value (.func f))(h:A38 E f c.argTypes.toList c.args.toList s=some e)
  (hr:Rel E.U B g s a w)(hd:∀i,o.dst=some i->i<a.tmps.size/\B.np<=i)(hn:∀v w',REL E.U B (s.setO o.dst e) (a.put o.dst v) w'->next (a.put o.dst v) w'):o.wp P a w next Q:=by
 have bc:=A5h hr c.argTypes.toList c.args.toList;have fk:∀(aK:∀args w,(Bn f args).run P w=.ok (.enter f args) w),(Ax a.eval o).run P w=.ok (.enter f (c.args.toList.map a.eval).toArray) w:=λaK=>by
  simp[Ax,ag,Cm,aq,Ew,Ep,invoke,aK];apply Dz;simp
 unfold A38 at h;dsimp only at h;generalize hL:Q5 E s c.argTypes.toList c.args.toList=ls at h bc;split at h
 ·have cL:∀r,E.T f (F8 ls)=some (true,r)->(∀v w' g1 g2,g2.wm=g1.wm->ERep E.U w' g1 r v->ERep E.U w' g2 e v/\e.isIter=false)->o.wp P a w next Q:=by
   intro r iZ ck;obtain⟨aK,ja⟩:=hS f _ _ iZ;have hc:=ja w g (c.args.toList.map a.eval) hr.ext hr.zero (LsRep.close bc) (λh1=>by rw[A8c]at h1;cases h1) (λlf hl d dM=>by
    obtain⟨l0,rfl⟩:=A6e hl;rw[A5L]at dM;cases dM)
   rw[A8c]at hc;unfold Cr;rw[fk aK,Dq];refine hc.mono λe' w' dL=>?_;obtain⟨v,g',rfl,hp⟩:=dL;have dv:=hr.world hU (w':=w') (wm':=g'.wm) hp.os hp.tape hp.output hp.size hp.ext (λ_=>False) (λb e=>e.elim) (λ_ _ _ _=>.inl λe=>e) (λb e=>e.elim) (λb hb _=>hp.frame b hb (λe=>by cases e.1)) hp.zero;obtain⟨k1,k2⟩:=ck v w' g' {g with wm:=g'.wm} rfl hp.rep;exact hn v w' (REL.setO dv k1 k2 _ hd)
  split at h
  ·rename_i l iZ;cases h;exact cL _ iZ λv w' g1 g2 hw he=>⟨LRep.closed (g:=g2) (by rw[hw];exact he.1),rfl⟩
  ·rename_i rr iZ;cases h;exact cL _ iZ λv w' g1 g2 hw he=>by
    obtain⟨vs,hv,mN⟩:=he;exact⟨⟨vs,hv,LsRep.closed_any (g':=g2) hw (LsRep.close mN)⟩,rfl⟩
  ·cases h
 ·rename_i ps fa;split at h
  case h_2=>cases h
  rename_i ds iC;obtain⟨ly,h⟩:=B8 h;split at h
  case h_2=>cases h
  rename_i cs ct;split at h
  case h_2=>cases h
  rename_i rs xc;cases h;obtain⟨bP,bd,rp,lz,kV,mj⟩:=B7z hr ds 0 cs ct;have aW:=B8n ly 0;generalize oA:K7 0 ds=NT at rp aW;have bZ:∀p∈K7 0 ds,p∈NT:=λp hp=>by rw[<-oA];exact hp
  have dx:∀c,M4 (G4 0 cs) c->∃(i d:Nat),ds[i]?=some d/\(c,d)∈NT/\mem d s.live=true/\(M7 g NT).G c=g.G d/\(M7 g NT).Gs c=g.Gs d:=λc ⟨lf,h1,h2⟩=>by
   obtain⟨d,h3⟩:=rp.names lf h1 c h2;obtain⟨e1,e2⟩:=A4S (g:=g) aW h3;have h4:=h3;rw[<-oA]at h4;obtain⟨i,_,_,_,h5⟩:=A3p ds 0 _ h4;exact⟨_,d,h5,h3,kV _ d h5,e1,e2⟩
  obtain⟨aK,ja⟩:=hR f _ _ _ xc;have hc:=ja w (M7 g NT) (c.args.toList.map a.eval) bP hr.ext hr.zero (B6e aW bc ps 0 ds iC bZ) (rp.out aW) (A92 aW ds cs bP 0 bd bZ)
   (λc iJ=>by obtain⟨i,d,_,_,h2,h3,h4⟩:=dx c iJ;rw[h3,h4];exact hr.tip d h2)
   (λc c' b iJ nj av hs=>by
    obtain⟨i,d,_,h1,h2,h3,h4⟩:=dx c iJ;obtain⟨i',d',_,lC,dw,jd,nk⟩:=dx c' nj;rw[h3]at hs;rw[jd];exact hr.disj d d' b h2 dw (λe=>av ((aW c d c' d' h1 lC).2 e)) hs)
   (λlf dc d ni=>by
    obtain⟨i,_,h2,rfl⟩:=B5f ps 0 dc ni;have:=A6U cs 0 i (by rw[lz,B4u iC];omega);rw[Bj]at this;exact this)
  unfold Cr;rw[fk aK,Dq];refine hc.mono λe w' dL=>?_;obtain⟨g',rv,dD,rfl,kR,hp,jQ,ic⟩:=dL;show next (a.put o.dst (V4 rv)) w';have jE:∀(i d:Nat),ds[i]?=some d->g'.G (C0 i)=g.G d/\g'.Gs (C0 i)=1/\g.Gs d=1/\(Ent.tup (rs++G4 0 cs)).has (C0 i)=true:=λi d hi=>by
   have jr:=I7 hi;obtain⟨b,us,h1,h2,h3⟩:=A7V bd hi;have dt:=A8I cs.length 0 i (by omega);rw[Bj]at dt;obtain⟨b',vn,lC,dw,jd⟩:=A7V jQ dt;have h4:(dD.map (λp=>(p.1,p.2.length)))[i]?=(bP.map (λp=>(p.1,p.2.length)))[i]? :=by rw[ic]
   rw[Cj,Cj,h1,lC]at h4;simp only[Ee,Bi,Bo]at h4;refine⟨by rw[dw,h2,h4.1,h4.2],jd,h3,?_⟩;obtain⟨lf,q1,q2⟩:=A6U cs 0 i (by omega);rw[Bj]at q2;simp only[Ent.has,Dv];exact⟨lf,by simp[q1],q2⟩
  have ea:=B5t hr ds;have fm:=ea.world hU (w':=w') (wm':=g'.wm) hp.os hp.tape hp.output hp.size hp.ext (λb=>∃d,M4 (G4 0 cs) d/\spare ((M7 g NT).G d)=some b)
   (λb ⟨c,h1,h2⟩=>by
    obtain⟨i,d,_,_,h4,h5,_⟩:=dx c h1;rw[h5]at h2;exact A5y (hr.tip d h4) h2)
   (λe b he hs=>by
    rw[A2D]at he;by_cases hM:∃d,M4 (G4 0 cs) d/\spare ((M7 g NT).G d)=some b
    ·right
     obtain⟨c,h1,h2⟩:=hM;obtain⟨i,d,hi,_,h4,h5,_⟩:=dx c h1;rw[h5]at h2;have fM:e=d:=by
      by_cases fM:e=d
      ·exact fM
      ·exact absurd h2 (hr.disj e d b he h4 fM hs)
     subst fM;obtain⟨q1,q2,q3,q4⟩:=jE i e hi;have ht:=hp.tip (C0 i) q4;rw[q1,q2]at ht;refine⟨by rw[q3];exact ht,λj l hj=>?_⟩;have h9:=(ea.bxl j e l hj).2;have h8:=B6b (s:=s) ⟨i,hi⟩;rw[show j=bxi e from h9,h8]at hj;cases hj
    ·exact .inl hM)
   (λb ⟨c,h1,h2⟩=>by
    obtain⟨i,d,_,_,h4,h5,_⟩:=dx c h1;rw[h5]at h2;exact hr.mine d b h4 h2)
   (λb hb hM=>hp.frame b hb hM) hp.zero
  obtain⟨nq,nr,cT⟩:=hp.rep;have nr:rv++A0f dD=nq:=by
   have:=Gk nr;simpa using this
  subst nr;obtain⟨fZ,df⟩:=LsRep.split cT kR;have pm:∀(i d:Nat)(c:List (Leaf Ty den)),ds[i]?=some d->cs[i]?=some c->BoxOk E.U w' {g with wm:=g'.wm} d c:=λi d c hi vq=>by
   have bG:∀(oB:Aj)(lD:List (List (Leaf Ty den)))(ig:List (Nat×Ai))(kk i:Nat),Z3 w' g' oB lD ig->LsRep E.U w' g' (G4 kk lD) (A0f ig)->∀c d0,lD[i]?=some c->oB[i]?=some d0->∃b us,g'.G d0=.slice (some ⟨b,0,none⟩) 0 us.length/\us.length=c.length/\0<us.length/\
     (∀(j:Nat) u,us[j]?=some u->w'.cell? ⟨b,j,none⟩=some u/\u.oneCell'=true/\u.cells= #[u])/\LsRep E.U w' g' c us:=by
    intro oB
    induction oB with
    |nil=>intro lD ig kk i _ _ c d0 _ h;simp at h
    |cons x oB ih=>
     intro lD ig kk i hb hl c d0 hc sM
     match lD,ig,hb with
     |c1::lD,(b,us)::ig,⟨⟨b1,b2,b3,b4,b5⟩,aY⟩=>
      obtain⟨l1,l2⟩:=LsRep.split hl.2 b2.symm;cases i with
      |zero=>simp at hc sM;subst hc sM;exact⟨b,us,b1,b2,b3,b5,l1⟩
      |succ i=>exact ih lD ig (kk+1) i aY l2 c d0 (by simpa using hc) (by simpa using sM)
   have jr:=I7 hi;have dt:=A8I cs.length 0 i (by omega);rw[Bj]at dt;obtain⟨b,us,k1,k2,k3,k4,k5⟩:=bG _ cs dD 0 i jQ df c _ vq dt;obtain⟨q1,q2,q3,q4⟩:=jE i d hi;have ez:=A7y (mj i d c hi vq).2;have gb:LsRep E.U w' {g with wm:=g'.wm} c us:=by
    refine LsRep.keep (g1:=g') (g2:={g with wm:=g'.wm}) rfl k5 λlf hl e he=>?_;rcases (Leaf.has_iff e lf).1 he with⟨t,x,rfl⟩|⟨o,rfl⟩
    ·exact absurd rfl ((ez _ hl).1 t x e)
    ·exact absurd rfl ((ez _ hl).2 e o)
   exact B3R (by rw[<-q1];exact k1) k2 k3 q3 k4 gb
  have pn:Rel E.U B {g with wm:=g'.wm} s a w':=by
   have aL:∀i,(∃d,i=bxi d/\∃j:Nat,ds[j]?=some d)\/(W6 s ds).get i=s.get i:=by
    intro i;have:∀ds:Aj,(∃d,i=bxi d/\∃j:Nat,ds[j]?=some d)\/(W6 s ds).get i=s.get i:=by
     intro ds
     induction ds with
     |nil=>exact .inr rfl
     |cons x ds ih=>
      simp only[W6];rw[K5];by_cases hx:bxi x=i
      ·exact .inl ⟨x,hx.symm,0,by simp⟩
      ·rw[At hx];rcases ih with⟨d,h1,j,h2⟩|h
       ·exact .inl ⟨d,h1,j+1,by simpa using h2⟩
       ·exact .inr h
    exact this ds
   have kW:∀i,(∃d,i=bxi d/\∃j:Nat,ds[j]?=some d)->∃d c,s.get i=.bx d c/\BoxOk E.U w' {g with wm:=g'.wm} d c:=λi ⟨d,h1,j,h2⟩=>by
    have bA:=I7 h2;have o7:cs[j]?=some cs[j]:=Bl (by omega);generalize cs[j]=c at o7;exact⟨d,c,by rw[h1];exact(mj j d _ h2 o7).1,pm j d _ h2 o7⟩
   refine{fm with ent:=λi=>?_,tip:=λd hd=>fm.tip d (by rw[A2D];exact hd),disj:=λd e b h1 h2=>fm.disj d e b (by rw[A2D];exact h1) (by rw[A2D];exact h2),mine:=λd b h1=>fm.mine d b (by rw[A2D];exact h1),iter:=λi c pos hc=>?_,idis:=λi j c p c' p' cn h1 h2=>?_,bxl:=λi d ls hc=>hr.bxl i d ls hc}
   ·rcases aL i with h|h
    ·obtain⟨d,c,h1,h2⟩:=kW i h;rw[h1];exact h2
    ·rw[<-h];exact fm.ent i
   ·rcases aL i with h|h
    ·obtain⟨d,c,h1,h2⟩:=kW i h;rw[h1]at hc;cases hc
    ·rw[<-h]at hc;exact fm.iter i c pos hc
   ·rcases aL i with h|h
    ·obtain⟨d,c,h3,h4⟩:=kW i h;rw[h3]at h1;cases h1
    ·rcases aL j with h'|h'
     ·obtain⟨d,c,h3,h4⟩:=kW j h';rw[h3]at h2;cases h2
     ·rw[<-h]at h1;rw[<-h']at h2;exact fm.idis i j c p c' p' cn h1 h2
  obtain⟨k1,k2⟩:=C9O (g2:={g with wm:=g'.wm}) (g':=g') rfl fZ;exact hn _ _ (REL.setO pn k1 k2 _ hd)
end
end Go.Aev
end
section
open Go.Lib
namespace Go.Aev
variable {Ty:Type}{den:Ty->Type}
theorem C1C{n t sz:Nat}(h:okW n t sz=true):rN (A0p n t sz)=n:=by
 simp only[okW,Aw,Bh]at h;unfold rN A0p;omega
theorem C6G{n t sz:Nat}(h:okW n t sz=true):rS (A0p n t sz)=sz:=by
 simp only[okW,Aw,Bh]at h;unfold rS A0p;omega
theorem C58(n t sz:Nat):1000000000<=A0p n t sz:=by unfold A0p;omega
theorem D3s{n o:Nat}(h:n<=rN o):okW n (rT o) (rS o)=true:=by
 simp only[okW,Aw,Bh];unfold rN at h;unfold rT rS;omega
section
variable {U:UO Ty den}{B:Bs}{g:Gh}{s:St Ty den}{a:Act}{w:World}
theorem A8R{d b N n t sz c:Nat}{g':Gh}{w':World}(ho:okW n t sz=true)(hG:g'.G d=.slice (some ⟨b,0,none⟩) 0 N)(hn:n<=c)(hc:c*sz<=N):LRep U w' g' (.ptr d (A0p n t sz):Leaf Ty den) (.slice (some ⟨b,0,none⟩) n c):=
 ⟨.ptr _ _ _ (.inr ⟨_,_,_,rfl⟩),λ_ _ _ he=>by(cases he),λd' o' he=>by
  cases he;exact⟨b,N,hG,.inr (.inr ⟨C58 _ _ _,c,by rw[C1C ho],by rw[C1C ho];exact hn,by rw[C6G ho];exact hc⟩)⟩⟩
theorem C1W(hU:U.Ok){g':Gh}{w':World}{d b N:Nat}{ls:List (Leaf Ty den)}(hr:Rel U B g' (s.fresh d) a w')(hx:Ext w g.wm w' g'.wm)(ho:g.off g' d)(hG:g'.G d=.slice (some ⟨b,0,none⟩) 0 N)(cW:g'.Gs d=1)(hd:1000000<=d)(aj:0<ls.length/\ls.length<=N)
  (hc:∀(j:Nat) lf,ls[j]?=some lf->∃u,w'.cell? ⟨b,j,none⟩=some u/\u.oneCell'=true/\u.cells= #[u]/\LRep U w g lf u):Rel U B g' (A8i d ls s) a w':=by
 refine hr.setBx ⟨b,N,hG,⟨by simpa using aj.1,by simpa using aj.2,λh=>by rw[Bh]at h;omega⟩,cW,λj lf hj=>?_⟩ (by simp only[St.fresh];rw[mem_cons];exact .inl rfl);rw[Cj]at hj;obtain⟨l0,cH,rfl⟩:=Dp.1 hj;obtain⟨u,u1,u2,u3,u4⟩:=hc j l0 cH;exact⟨u,u1,u2,u3,u4.step hU hx ho⟩
theorem B3T(hU:U.Ok)(hr:Rel U B g s a w){d N:Nat}(hd:1000000<=d){c:Array Value}{e:Ay}{ls:List (Leaf Ty den)}(w':World)(hw:w'.heap=w.heap.push (.cells c e (0,0)))(iW:w'.os=w.os)(cJ:w'.tape=w.tape)(dC:w'.output=w.output)
  (hN:N<=c.size)(aj:0<ls.length/\ls.length<=N)(hc:∀(j:Nat) lf,ls[j]?=some lf->∃u,c[j]?=some u/\u.oneCell'=true/\u.cells= #[u]/\LRep U w g lf u):
  ∃g',Rel U B g' (A8i d ls s) a w'/\g'.G d=.slice (some ⟨w.heap.size,0,none⟩) 0 N:=by
 have bE:w'.heap[w.heap.size]?=some (.cells c e (0,0)):=by rw[hw];simp
 have fo:∀b,spare (.slice (some ⟨w.heap.size,0,none⟩) 0 N)=some b->b=w.heap.size:=λb hs=>by
  simp only[spare]at hs;split at hs
  ·cases hs
  ·exact(Cn hs).symm
 have h1:=hr.alloc hU (.cells c e (0,0)) 0 w' hw iW cJ dC;have h2:=h1.fresh hU d (.slice (some ⟨w.heap.size,0,none⟩) 0 N) 1 ⟨_,_,_,rfl,Cc _,.inr ⟨w.heap.size,0,c,e,(0,0),rfl,bE,by omega,by simp[C7],Cc _⟩⟩
  (λe' b he av hs oR=>by
   cases fo b hs;have:=C0x (hr.tip e' he) oR;omega)
  (λb hs=>by cases fo b hs;exact .inl hr.size)
 have dq:∀b,b<w.heap.size->w'.heap[b]?=w.heap[b]? :=λb hb=>by rw[hw,Dy,At (by omega)]
 have hx:Ext w g.wm w' (C7 g.wm w.heap.size 0):=⟨A0Y hw,λb off ho=>by
  rcases Da b w.heap.size with h|h
  ·exact Cx (a:=⟨b,off,none⟩) (dq b h)
  ·rw[hr.zero b h]at ho;omega,λb=>by
  unfold C7;by_cases hb:b=w.heap.size
  ·subst hb;rw[Au rfl,hr.zero _ (Be _)];exact Be _
  ·rw[At hb];exact Be _⟩
 refine⟨_,C1W (g:=g) (w:=w) (b:=w.heap.size) (N:=N) hU h2 hx ⟨λe he=>by simp[Gh.put,he],λe he=>by simp[Gh.put,he]⟩ (by simp[Gh.put]) (by simp[Gh.put]) hd aj λj lf hj=>?_,by simp[Gh.put]⟩;obtain⟨u,u1,u2⟩:=hc j lf hj;refine⟨u,?_,u2⟩;unfold Dg;dsimp only;rw[bE];simpa using u1
theorem LRep.ofC{lf:Leaf Ty den}{v:Value}(h:CRep U w g.wm lf v)(hc:lf.close=lf):LRep U w g lf v:=by
 have:=LRep.closed (U:=U) (w:=w) (g:=g) h;rwa [hc]at this
theorem C4e(hU:U.Ok){t:Ty}{l:List (den t)}{j:Nat}{lf:Leaf Ty den}(h:(flat U t l)[j]?=some lf):lf.close=lf:=by
 have hm:=Bq h;unfold flat at hm;obtain⟨x,_,hx⟩:=List.mem_flatMap.1 hm;exact hU.closed t x lf hx
end
def A7a(P:Bf)(U:UO Ty den)(I:Inv)(f:Bp)(ls cs:List (Leaf Ty den)):Prop:=
 A1L cs=true/\0<cs.length/\∀(w:World)(g:Gh)(vs:Ai),I w g.wm->(∀b,w.heap.size<=b->g.wm b=0)->LsRep U w g ls vs->(∀lf∈ls,∀d,lf.has d=false)->
  Calls P f vs.toArray w λe w'=>∃b g',e=.returned (.pointer (some ⟨b,0,none⟩))/\Post U ⟨w,g.wm,λ_=>False,0,λ_=>undef⟩ g' (.one .any) (.pointer (some ⟨b,0,none⟩)) w'/\w.heap.size<=b/\
   Tip w' g'.wm (.slice (some ⟨b,0,none⟩) 0 cs.length) 1/\∀(j:Nat) lf,cs[j]?=some lf->∃u,w'.cell? ⟨b,j,none⟩=some u/\u.oneCell'=true/\u.cells= #[u]/\CRep U w' g'.wm lf u
section
variable {E:Env Ty den}{B:Bs}{g:Gh}{s:St Ty den}{a:Act}{w:World}
variable {P:Bf}{R:Type}{o:Oper}{k:Ent Ty den->St Ty den->Option R}{r:R}{next:Act->World->Prop}{Q:Exit->Act->World->Prop}
variable (hT:∀t,P8 P E.U t (E.tb t))(hU:E.U.Ok)
theorem B26{l:Leaf Ty den}(h:isR l=true):∃d off,l=.ptr d off/\1000000000<=off:=by
 cases l with
 |ptr d off=>exact⟨d,off,rfl,Di h⟩
 |_=>cases h
theorem C7L{l:Leaf Ty den}{v:Value}(h:LRep E.U w g l v):LRep E.U w g (clR l) v:=by
 unfold clR;cases isR l with
 |true=>exact h
 |false=>exact LRep.closed h.1
theorem B0n(hr:Rel E.U B g s a w){ty:Ay}{x:Az}{d off:Nat}(hx:opl E s ty x=.ptr d off)(ho:1000000000<=off):∃b n c,g.G d=.slice (some ⟨b,0,none⟩) 0 n/\a.eval x=.slice (some ⟨b,0,none⟩) (rN off) c/\rN off<=c/\c*rS off<=n:=by
 have h:=H7 hr ty x;rw[hx]at h;obtain⟨b,n,h1,h2⟩:=h.2.2 d off rfl;obtain⟨c,h3⟩:=h2.row ho;exact⟨b,n,c,h1,h3⟩
include hT hU in
theorem D2M{t:Ay}{n:Nat}{ps:Array (Nat×Az)}(ag:o.op=.buildSlice t n ps)(h:I2 E o s k=some r)(hr:Rel E.U B g s a w)(hd:∀i,o.dst=some i->i<a.tmps.size/\B.np<=i)(hn:H4 E B o a k r next):o.wp P a w next Q:=by
 simp only[I2,ag]at h;refine B87 hT hU ag h hr λu e xs c ht hl af hc aJ h'=>?_;dsimp only at h';obtain⟨hk,h'⟩:=B8 h';rw[Aw,Bh]at hk;have bV:=Gq hk.1 (hU.pos u);have cS:=A0S hU u xs;subst hl;have ml:1000000<=rnO o.dst:=by unfold rnO;split<;>omega
 obtain⟨g',h1,h2⟩:=B3T (ls:=A3N E.U u xs) (N:=xs.length*E.U.size u) hU hr ml (w.alloc (.cells c e)) rfl rfl rfl rfl hc ⟨by show 0<(flat E.U u xs).length;omega,by show(flat E.U u xs).length<=_;omega⟩ λj lf hj=>by
  obtain⟨v,hv,e8⟩:=aJ j lf hj;obtain⟨q1,q2⟩:=e8.one hU (B1R hU hj);exact⟨v,hv,q1,q2,LRep.ofC e8 (C4e hU hj)⟩
 exact N4 af (hn _ _ _ _ h' (REL.setO h1 (e:=.one _) (A8R hk.2 h2 (Be _) (Be _)) rfl _ hd))
include hT in
theorem D7U{t:Ay}{x i:Az}(ag:o.op=.indexAddr t x i)(dE:isR (opl E s t x)=true)(h:I2 E o s k=some r)(hr:Rel E.U B g s a w)(hd:∀i,o.dst=some i->i<a.tmps.size/\B.np<=i)(hn:H4 E B o a k r next):o.wp P a w next Q:=by
 simp only[I2,ag]at h;obtain⟨d,off,hx,ho⟩:=B26 dE;rw[hx]at h;split at h
 ·rename_i u e d' jc k0 n ht mn hi;cases mn;obtain⟨hc,h⟩:=B8 h;simp only[Aw,decide_eq_true_eq]at hc;obtain⟨c1,c2,c3,c4⟩:=hc;rw[Bh]at c2;obtain⟨b,m,c,hG,hv,aZ,hm⟩:=B0n hr hx ho;obtain⟨cD,ie,z,bJ,ao,_,_,_⟩:=R9 hT ht;have ei:=U5 hr hi;have hs:=(F6 _ _).1 c3;have cB:(Do b 0 none).add (n.toNat*E.U.size u)=⟨b,n.toNat*rS off,none⟩:=by rw[Cg,hs,Bj]
  have cE:n<(rN off:Int):=by omega
  exact G7 (e:=.one (.ptr d (n.toNat*rS off))) (v:=.pointer (some ⟨b,n.toNat*rS off,none⟩)) hr hd hn h ⟨.pt _ _ _,λ_ _ _ he=>by(cases he),λd' o2 he=>by(cases he;exact⟨b,m,hG,.inl ⟨rfl,c4⟩⟩)⟩ rfl
   (by simp[Ax,ag,hv,ei,Hg,asIntOf,Cl cD,c1,cE,Bz,Cd,bJ,ao,cB])
 ·cases h
include hT in
theorem D7g{t:Ay}{x:Az}{lo hi mx:Option Az}(ag:o.op=.slice t x lo hi mx)(dE:isR (opl E s t x)=true)(h:I2 E o s k=some r)(hr:Rel E.U B g s a w)(hd:∀i,o.dst=some i->i<a.tmps.size/\B.np<=i)(hn:H4 E B o a k r next):o.wp P a w next Q:=by
 obtain⟨d,off,hx,ho⟩:=B26 dE
 match lo,hi,mx,ag with
 |none,some y,none,ag=>
  simp only[I2,ag]at h;rw[hx]at h;split at h
  ·rename_i u e d' jc k0 n ht mn hi;cases mn;obtain⟨hc,h⟩:=B8 h;simp only[Aw,decide_eq_true_eq]at hc;obtain⟨c1,c2⟩:=hc;have c2:=Di c2;obtain⟨b,m,c,hG,hv,aZ,hm⟩:=B0n hr hx ho;obtain⟨cD,_⟩:=R9 hT ht;have ei:=U5 hr hi;have e2:((n.toNat:Nat):Int)=n:=by omega
   have hb:=B2i P w true (rN off) c aZ none (some (.int k0 (n.toNat:Int))) none 0 n.toNat c (.inl ⟨rfl,rfl⟩) (.inr ⟨k0,rfl⟩) (.inl ⟨rfl,rfl⟩) (Cc _) (by omega) (Be _);rw[e2]at hb;have ha:∀m,(Do b 0 none).add (0*m)=⟨b,0,none⟩:=λm=>by rw[Cg];simp
   obtain⟨ie,z,bJ,ao,_⟩:=(R9 hT ht).2;exact G7 (e:=.one (.ptr d (A0p n.toNat (rT off) (rS off)))) (v:=.slice (some ⟨b,0,none⟩) n.toNat c) hr hd hn h (A8R (D3s c2) hG (by omega) hm) rfl
    (by simp[Ax,ag,hv,ei,He,Hf,Cl cD,hb,Bz,Cd,bJ,ao];intro _;exact ha 0)
  ·cases h
 |some _,_,_,ag=>simp only[I2,ag]at h;cases h
 |none,none,_,ag=>simp only[I2,ag]at h;cases h
 |none,some _,some _,ag=>simp only[I2,ag]at h;cases h
include hT in
theorem D1V{t:Ay}{x:Az}(ag:o.op=.load t x)(h:I2 E o s k=some r)(hr:Rel E.U B g s a w)(hd:∀i,o.dst=some i->i<a.tmps.size/\B.np<=i)(hn:H4 E B o a k r next):o.wp P a w next Q:=by
 simp only[I2,ag]at h;split at h
 ·rename_i u pl d off ht hx;split at h
  ·rename_i ls bc;obtain⟨hc,h⟩:=B8 h;rw[Aw]at hc;obtain⟨bM,aZ⟩:=hc;have aZ:=Di aZ;obtain⟨fs,ie,z,h1,_,h3,h4,_⟩:=A2S hT ht;have fT:=B5p (P:=P) h1 w;have bK:=H7 hr 0 x;rw[hx]at bK;obtain⟨bU,_,_⟩:=A2I hr bc;obtain⟨b,nb,hG,hv,bV,cW,aN⟩:=A64 bM bK bU;have rZ:∃cs:Nat->Value,∀j,j<E.U.size u->∃lf,ls[off+j]?=some lf/\w.cell? ⟨b,off+j,none⟩=some (cs j)/\(cs j).oneCell'=true/\(cs j).cells= #[cs j]/\LRep E.U w g lf (cs j):=
    ⟨λj=>(w.cell? ⟨b,off+j,none⟩).getD undef,λj hj=>by
     obtain⟨uu,u1,u2,u3,u4⟩:=aN (off+j) _ (Bl (by omega));refine⟨_,Bl (by omega),?_⟩;dsimp only;rw[u1];exact⟨rfl,u2,u3,u4⟩⟩
   obtain⟨cs,ct⟩:=rZ;have cK:(Fb ⟨b,off,none⟩ (E.U.size u)).run P w=.ok ((Dj (E.U.size u)).map cs).toArray w:=
    run_loadCells w _ _ cs λj hj=>by rw[Cg];obtain⟨_,_,q,_⟩:=ct j hj;exact q
   refine G7 (e:=.st ((ls.drop off).take (E.U.size u))) (v:=.agg ((Dj (E.U.size u)).map cs).toArray) hr hd hn h ⟨_,rfl,B1O (by simp;omega) (λj lf v h5 h6=>?_),λv hv=>?_⟩ rfl ?_
   ·rw[Cq,Fm]at h5;split at h5
    ·rename_i hj;obtain⟨lf',q1,_,_,_,q5⟩:=ct j hj;rw[q1]at h5;cases h5;rw[Cj,En hj]at h6;cases h6;exact q5
    ·cases h5
   ·obtain⟨j,hj,rfl⟩:=List.mem_map.1 hv;obtain⟨_,_,_,q3,q4,_⟩:=ct j (by simpa using hj);exact⟨q3,q4⟩
   ·simp[Ax,ag,hv,Fv,Dk,Ed,fT,Bz,Cd,h3,h4,cK]
  ·cases h
 ·cases h
include hT hU in
theorem D2R(hZ:∀t zs,E.zr t=some zs->A2h P E.U t zs){t:Ay}{ps:Array (Nat×Az)}(ag:o.op=.build t ps)(h:I2 E o s k=some r)(hr:Rel E.U B g s a w)(hd:∀i,o.dst=some i->i<a.tmps.size/\B.np<=i)(hn:H4 E B o a k r next):o.wp P a w next Q:=by
 simp only[I2,ag]at h;split at h
 ·rename_i u pl zs ht dG;split at h
  ·rename_i ls bc;obtain⟨fs,ie,z,h1,h2,h3,h4,h5,h6⟩:=A2S hT ht;obtain⟨vf,z',e1,e2,e3,e4,e5⟩:=hZ t zs dG;rw[h3]at e1;cases e1;rw[h5]at e3;cases e3;obtain⟨ba,p1,p2⟩:=A90 hU hr (λl v h=>C7L h) pl ps.toList _ ls z.cells bc (⟨e4,λj lf hj=>by
    obtain⟨uu,u1,u2,u3,u4,_⟩:=e5 j lf hj;exact⟨uu,u1,u2,u3,u4 w g⟩⟩:A6O E.U w g zs z.cells)
   have eH:P.built t (ps.map λ(i,x)=>(i,a.eval x)).toList=some ba:=by
    unfold Program.built;rw[h3,h1];dsimp only;rw[h5,h2];dsimp only;rw[Array.toList_map];exact p1
   have ao:=p2.size;refine G7 (e:=.st ls) (v:=.agg ba) hr hd hn h ⟨ba.toList,by simp,B1O (by simp[ao]) (λj lf u h1 h2=>?_),λu hu=>?_⟩ rfl (by simp[Ax,ag,run_build w t _ _ eH])
   ·obtain⟨uu,u1,_,_,u4⟩:=p2.at_ j lf h1;rw[Eu,u1]at h2;cases h2;exact u4
   ·obtain⟨j,hj,rfl⟩:=Gy hu;have bA:j<ls.length:=by simp at hj;omega
    obtain⟨uu,u1,u2,u3,u4⟩:=p2.at_ j _ (Bl bA);have h9:ba.toList[j]?=some uu:=by rw[Eu];exact u1
    rw[Bl hj]at h9;rw[Cn h9];exact⟨u2,u3⟩
  ·cases h
 ·cases h
include hT hU in
theorem D4g{c:Call}{t u:Ay}{x y:Az}(ag:o.op=.call c)(aq:c.callee=.builtin .append)(dz:c.argTypes.toList=[t,u])(au:c.args.toList=[x,y])(h:I2 E o s k=some r)
  (hr:Rel E.U B g s a w)(hd:∀i,o.dst=some i->i<a.tmps.size/\B.np<=i)(hn:H4 E B o a k r next):o.wp P a w next Q:=by
 simp only[I2,ag,aq,dz,au]at h;have af:∀{v':Value}{w':World},(Fy #[t,u] o.type #[a.eval x,a.eval y]).run P w=.ok v' w'->(Ax a.eval o).run P w=.ok (.value v') w':=λh1=>by
  simp[Ax,ag,Cm,aq,A0A dz,A0A au,invoke,builtin,h1]
 split at h
 ·rename_i t' e u' e' v m0 own ht hu hy;obtain⟨cD,i,z,hi,ao,lu,hz,dG⟩:=R9 hT ht;have sN:=(R9 hT hu).1;split at h
  ·rename_i m hm;obtain⟨ov,h⟩:=B8 h;rw[Bh]at ov;have po:=(H7 hr u y).1;rw[hy]at po;obtain⟨aV,cv⟩:=B6S (P:=P) hU (A4A hm po).1;have bV:=hU.pos t';have js:=hU.bpos t';have xd:0<m.length*E.U.size t':=Gq ov bV;have eI:∀w':World,w'.heap=w.heap->(Dn i.size m.length (a.eval y)).run P w'=.ok aV.toArray w':=λw' dL=>by
    rw[ao];exact cv.first w' dL
   have jR:∀(j:Nat)(lf:Leaf Ty den),(flat E.U t' m)[j]?=some lf->∃v,aV[j]?=some v/\v.oneCell'=true/\v.cells= #[v]/\LRep E.U w g lf v:=λj lf hj=>by
    obtain⟨v,v1,v2⟩:=cv.rep j lf hj;obtain⟨q1,q2⟩:=v2.one hU (B1R hU hj);exact⟨v,v1,q1,q2,LRep.ofC v2 (C4e hU hj)⟩
   have cS:=A0S hU t' m;split at h
   ·
    rename_i hx;obtain⟨be,h⟩:=B8 h;rw[Aw]at be;obtain⟨gf,be⟩:=be;have be:=A8x be;have bK:=H7 hr t x;rw[hx]at bK;have nc:a.eval x=.slice none 0 0:=by
     have:=bK.1;generalize a.eval x=v at this;cases this;rfl
    have hY:m.length<=140737488355328:=Ci (Fh _ js) be;have iY:=A9N (P:=P) w t u o.type e i z cD (.inl ⟨_,sN⟩) hi hz none 0 0 [] (λw' _=>by simp[Dn]) (a.eval y) m.length aV cv.len eI (by omega) (by omega) (by rw[lu];simpa using be);rw[<-nc]at iY;simp only[Bj]at iY;have aT:m.length<=Ca w m.length 0 e:=Fc _ _ _ _;have dO:m.length*E.U.size t'<=Ca w m.length 0 e*E.U.size t':=Co _ aT;have ml:1000000<=rnO o.dst:=by unfold rnO;split<;>omega
    obtain⟨g',h1,h2⟩:=B3T (ls:=A3N E.U t' m) (N:=Ca w m.length 0 e*E.U.size t') hU hr ml (c:=(#[]:Array Value)++aV.toArray++Dw z.cells (Ca w m.length 0 e - m.length)) (e:=e) (w.drew.alloc (.cells ((#[]:Array Value)++aV.toArray++Dw z.cells (Ca w m.length 0 e - m.length)) e)) rfl rfl rfl rfl
     (by
      simp only[Gc,Fj,Fa,dG,cv.nlen,List.length_nil,Bj, <-Cp];exact Co _ (by omega)) ⟨by show 0<(flat E.U t' m).length;omega,by show(flat E.U t' m).length<=_;omega⟩ λj lf hj=>by
     obtain⟨v,v1,v2⟩:=jR j lf hj;have ap:=I7 v1;exact⟨v,by rw[Dd (by simpa using ap)];simpa using v1,v2⟩
    exact N4 (af iY) (hn _ _ _ _ h (REL.setO h1 (e:=.one _) (A8R gf h2 aT (Be _)) rfl _ hd))
   ·
    rename_i d off hx;split at h
    ·rename_i ls bc;obtain⟨hc,h⟩:=B8 h;simp only[Aw]at hc;obtain⟨⟨ml,ho,aZ⟩,oC,gf,be⟩:=hc;have ml:=Di ml;have ho:=Di ho;have aZ:=Di aZ;have oC:=(F6 _ _).1 oC;have be:=A8x be;rw[oC]at aZ h;obtain⟨b,n,c0,hG,hv,zo,iJ⟩:=B0n hr hx ho;rw[oC]at iJ;generalize rN off=n0 at*;have hY:n0+m.length<=140737488355328:=Ci (Fh _ js) be;obtain⟨bU,aw,aL⟩:=A2I hr bc;obtain⟨b',n',lE,⟨cH,rq,_⟩,cW,aN⟩:=bU;rw[hG]at lE;cases lE;have bf:spare (g.G d)=some b:=by rw[hG];simp only[spare];rw[At (by omega)]
     obtain⟨a0,len,cap,eu,_,gJ⟩:=hr.tip d aw;rw[hG]at eu;cases eu;obtain⟨b',jc,c,e2,fz,ha,hb,r1,r2,r3⟩:=gJ.resolve_left (by omega);cases ha;rw[cW]at r1 r2;have aX:g.wm b=0:=by rw[r2]
     have cx:∃cI:Ai,cI.length=n0*E.U.size t'/\(∀w':World,w'.heap=w.heap->(Dn i.size n0 (.slice (some ⟨b,0,none⟩) n0 c0)).run P w'=.ok cI.toArray w')/\
       ∀(j:Nat) lf,(ls.take (n0*E.U.size t'))[j]?=some lf->∃v,cI[j]?=some v/\w.cell? ⟨b,j,none⟩=some v/\v.oneCell'=true/\v.cells= #[v]/\LRep E.U w g lf v:=by
      refine⟨(Dj (n0*E.U.size t')).map λj=>(w.cell? ⟨b,j,none⟩).getD undef,by simp,λw' dL=>?_,λj lf hj=>?_⟩
      ·rw[ao];refine Gg w' (E.U.size t') n0 ⟨b,0,none⟩ n0 c0 _ (by simp) (λj v hv=>?_);rw[Cj]at hv;have bA:j<n0*E.U.size t':=by
        rcases Da j (n0*E.U.size t')with h|h
        ·exact h
        ·rw[Du (by simpa using h)]at hv;cases hv
       rw[En bA]at hv;simp at hv;subst hv;obtain⟨u0,u1,_⟩:=aN j _ (Bl (by omega));rw[Cg,Bj,u1];exact(Cx (a:=⟨b,j,none⟩) (by rw[dL])).trans u1
      ·rw[Cq]at hj;split at hj
       ·rename_i bA;obtain⟨u0,u1,u2,u3,u4⟩:=aN j lf hj;exact⟨u0,by rw[Cj,En bA];simp[u1],u1,u2,u3,u4⟩
       ·cases hj
     obtain⟨cI,o1,o2,o3⟩:=cx;have fb:(ls.take (n0*E.U.size t')).length=n0*E.U.size t':=by simp;omega
     have iL:(ls.take (n0*E.U.size t')++A3N E.U t' m).length=(n0+m.length)*E.U.size t':=by rw[Gx,fb,Cp];show _+(flat E.U t' m).length=_;omega
     by_cases fW:c0<n0+m.length
     ·have iY:=A9N (P:=P) w t u o.type e i z cD (.inl ⟨_,sN⟩) hi hz (some ⟨b,0,none⟩) n0 c0 cI o2 (a.eval y) m.length aV cv.len eI fW (by omega) (by rw[lu];exact be);rw[<-hv]at iY;have aT:n0+m.length<=Ca w (n0+m.length) c0 e:=Fc _ _ _ _;have dO:(n0+m.length)*E.U.size t'<=Ca w (n0+m.length) c0 e*E.U.size t':=Co _ aT;obtain⟨g',h1,h2⟩:=B3T (ls:=ls.take (n0*E.U.size t')++A3N E.U t' m) (N:=Ca w (n0+m.length) c0 e*E.U.size t') hU hr ml (c:=cI.toArray++aV.toArray++Dw z.cells (Ca w (n0+m.length) c0 e - (n0+m.length))) (e:=e) (w.drew.alloc (.cells (cI.toArray++aV.toArray++Dw z.cells (Ca w (n0+m.length) c0 e - (n0+m.length))) e)) rfl rfl rfl rfl
       (by
        simp only[Gc,Fj,Fa,dG,cv.nlen,o1, <-Cp];exact Co _ (by omega)) ⟨by rw[iL,Cp];omega,by rw[iL];exact dO⟩ λj lf hj=>by
       by_cases bA:j<n0*E.U.size t'
       ·rw[Fp (by omega)]at hj;obtain⟨v,v1,_,v2⟩:=o3 j lf hj;have ap:=I7 v1;exact⟨v,by rw[Dd (by simp;omega),Dd (by simpa using ap)];simpa using v1,v2⟩
       ·rw[Fo (by omega),fb]at hj;obtain⟨v,v1,v2⟩:=jR _ lf hj;have ap:=I7 v1;exact⟨v,by rw[Dd (by simp;omega),Array.getElem?_append_right (by simp;omega)];simpa [o1]using v1,v2⟩
      exact N4 (af iY) (hn _ _ _ _ h (REL.setO h1 (e:=.one _) (A8R gf h2 aT (Be _)) rfl _ hd))
     ·have dY:n0+m.length<=c0:=by omega
      have dO:(n0+m.length)*E.U.size t'<=c0*E.U.size t':=Co _ dY;rw[Cp]at dO;obtain⟨s1,⟨c',s2,s3,s4,s5⟩,s6,s7,s8,s9,ju⟩:=A5i P b e2 fz aV (n0*E.U.size t') w c hb (by rw[cv.nlen];omega) (λj h1 h2=>by omega) cv.one;have iY:=A7I (P:=P) w t u o.type e i cD (.inl ⟨_,sN⟩) hi (some ⟨b,0,none⟩) n0 c0 (a.eval y) m.length aV cv.len (eI w rfl) (I5 w b (n0*E.U.size t') aV)
       (λa1 l8=>by
        have:a1=⟨b,0,none⟩:=(Cn l8).symm;subst this;rw[Cg,ao,Bj];exact s1 _ 0 (by simp) (Cc _)) (λh0=>by cases h0) dY
      rw[<-hv]at iY;generalize dL:I5 w b (n0*E.U.size t') aV=w' at*;have du:Ext w g.wm w' g.wm:=⟨A67 hb s2 s7,λk2 o2 mX=>by
       by_cases hk:k2=b
       ·subst hk;omega
       ·exact Cx (a:=⟨k2,o2,none⟩) (s7 k2 hk),λ_=>Be _⟩
      have h2:=hr.redo hU aw bf hb s2 s7 s6 s8 s9 ju du (λ_ _=>rfl) (.slice (some ⟨b,0,none⟩) 0 n) 1 ⟨_,_,_,rfl,Cc _,.inr ⟨b,0,c',e2,fz,rfl,s2,by rw[s3];exact r1,by rw[aX],r3⟩⟩ (λk2 hk=>by
       simp only[spare]at hk;split at hk
       ·cases hk
       ·exact(Cn hk).symm)
      have h3:=C1W (g:=g) (w:=w) (b:=b) (N:=n) (ls:=ls.take (n0*E.U.size t')++A3N E.U t' m) hU h2 du ⟨λe he=>by simp[Gh.put,he],λe he=>by simp[Gh.put,he]⟩ (by simp[Gh.put]) (by simp[Gh.put]) ml ⟨by rw[iL,Cp];omega,by rw[iL,Cp];omega⟩ λj lf hj=>by
       by_cases bA:j<n0*E.U.size t'
       ·rw[Fp (by omega)]at hj;obtain⟨v,v1,v0,v2⟩:=o3 j lf hj;refine⟨v,?_,v2⟩;simp only[Dg,hb]at v0;simp only[Dg,s2,s4 j (.inl bA)];exact v0
       ·rw[Fo (by omega),fb]at hj;obtain⟨v,v1,v2⟩:=jR _ lf hj;have:=s5 _ v v1;rw[show n0*E.U.size t'+(j - n0*E.U.size t')=j by omega]at this;exact⟨v,by simp[Dg,s2,this],v2⟩
      exact N4 (af iY) (hn _ _ _ _ h (REL.setO h3 (e:=.one _) (A8R gf (by simp[Gh.put]) dY iJ) rfl _ hd))
    ·cases h
   ·cases h
  ·cases h
 ·cases h
theorem C62:∀{ls:List (Leaf Ty den)},A1L ls=true->∀lf∈ls,lf.close=lf:=λh lf hl=>by
 obtain⟨h1,h2⟩:=A7y h lf hl;cases lf with
 |sl t x o=>
  cases o with
  |none=>rfl
  |some c=>exact absurd rfl (h1 t x c)
 |ptr d o=>exact absurd rfl (h2 d o)
 |_=>rfl
include hU in
theorem D5f(hS:∀f ls cs,E.TNg f ls=some (true,cs)->(∀args w,(Bn f args).run P w=.ok (.enter f args) w)/\A7a P E.U (λw1 m1=>Ext B.w B.wm w1 m1) f ls cs)
  {c:Call}{f:Bp}(ag:o.op=.call c)(aq:c.callee=.value (.func f))(h:I2 E o s k=some r)
  (hr:Rel E.U B g s a w)(hd:∀i,o.dst=some i->i<a.tmps.size/\B.np<=i)(hn:H4 E B o a k r next):o.wp P a w next Q:=by
 simp only[I2,ag,aq]at h;split at h
 ·rename_i i gd ls aO hT;obtain⟨jv,h'⟩:=B8 h;rw[Aw,Bh]at jv;obtain⟨rfl,zp⟩:=jv;obtain⟨aK,ck,bV,ja⟩:=hS f _ _ hT;have fk:(Ax a.eval o).run P w=.ok (.enter f (c.args.toList.map a.eval).toArray) w:=by
   simp[Ax,ag,Cm,aq,Ew,Ep,invoke,aK];apply Dz;simp
  have hc:=ja w g (c.args.toList.map a.eval) hr.ext hr.zero (LsRep.close (A5h hr c.argTypes.toList c.args.toList)) (λlf hl d=>by
   obtain⟨l0,rfl⟩:=A6e hl;exact A5L l0 d)
  unfold Cr;rw[fk,Dq];refine hc.mono ?_;rintro e w' ⟨b,g',rfl,hp,hb,cP,aN⟩;have dv:=hr.world hU (w':=w') (wm':=g'.wm) hp.os hp.tape hp.output hp.size hp.ext (λ_=>False) (λb e=>e.elim) (λ_ _ _ _=>.inl λe=>e) (λb e=>e.elim) (λb hb _=>hp.frame b hb (λe=>e)) hp.zero;have fo:∀k,spare (.slice (some ⟨b,0,none⟩) 0 ls.length)=some k->k=b:=λk hk=>by
   simp only[spare]at hk;split at hk
   ·cases hk
   ·exact(Cn hk).symm
  have h2:=dv.fresh hU (C6 (some i)) (.slice (some ⟨b,0,none⟩) 0 ls.length) 1 cP (λe k he av hs oR=>by
   cases fo k hs;have:=C0x (hr.tip e he) oR;omega) (λk hs=>by
   cases fo k hs;exact .inl (Ci hr.size hb))
  have h3:=h2.setBx (d:=C6 (some i)) (ls:=ls) (BoxOk.ex b (by simp[Gh.put]) bV (by simp[Gh.put]) λj lf hj=>by
   obtain⟨u,u1,u2,u3,u4⟩:=aN j lf hj;exact⟨u,u1,u2,u3,LRep.ofC u4 (C62 ck lf (Bq hj))⟩) (by simp only[St.fresh];rw[mem_cons];exact .inl rfl)
  refine hn _ _ _ _ h' (REL.setO h3 (e:=.one (.ptr (C6 (some i)) 0)) ⟨.pt _ _ _,λ_ _ _ he=>by(cases he),λd' o2 he=>by(cases he;exact⟨b,ls.length,by simp[Gh.put],.inl ⟨rfl,by decide⟩⟩)⟩ rfl _ hd)
 ·cases h
include hT hU in
theorem C7H(hZ:∀t zs,E.zr t=some zs->A2h P E.U t zs)(hS:∀f ls cs,E.TNg f ls=some (true,cs)->(∀args w,(Bn f args).run P w=.ok (.enter f args) w)/\A7a P E.U (λw1 m1=>Ext B.w B.wm w1 m1) f ls cs)
  (dE:Q7 E o s=true)(h:I2 E o s k=some r)(hr:Rel E.U B g s a w)(hd:∀i,o.dst=some i->i<a.tmps.size/\B.np<=i)(hn:H4 E B o a k r next):o.wp P a w next Q:=by
 cases ag:o.op with
 |assign x=>
  simp only[Q7,ag,Aw]at dE;simp only[I2,ag]at h;have nc:a.eval x=.slice none 0 0:=by
   have a7:=dE.1;unfold Y3 at a7;split at a7
   ·rfl
   ·cases a7
  exact G7 (e:=.one .nils) (v:=.slice none 0 0) hr hd hn h ⟨.nils,λ_ _ _ he=>by(cases he),λ_ _ he=>by(cases he)⟩ rfl (by simp[Ax,ag,nc])
 |build t ps=>exact D2R hT hU hZ ag h hr hd hn
 |buildSlice t n ps=>exact D2M hT hU ag h hr hd hn
 |indexAddr t x i=>exact D7U hT ag (by simpa only[Q7,ag]using dE) h hr hd hn
 |load t x=>exact D1V hT ag h hr hd hn
 |slice t x lo hi mx=>exact D7g hT ag (by simpa only[Q7,ag]using dE) h hr hd hn
 |call c=>
  have h0:=h;simp only[I2,ag]at h;split at h
  ·rename_i t x aq dz au;split at h
   ·rename_i u e d off ht hx;simp only[Q7,ag,aq,dz,au,hx,A9q,Fz]at dE;obtain⟨d',jc,mn,ho⟩:=B26 dE;cases mn;obtain⟨b,m,c0,hG,hv,aZ,hm⟩:=B0n hr hx ho;obtain⟨cD,_⟩:=R9 hT ht;exact G7 (e:=.one (.int .i64 (rN off))) hr hd hn h (LRep.int _ _) rfl (by simp[Ax,ag,Cm,aq,A0A dz,A0A au,invoke,builtin,hv,Fx,Cl cD,goInt])
   ·rename_i u e ht hx;have hv:a.eval x=.slice none 0 0:=by
     have:=(H7 hr t x).1;rw[hx]at this;generalize a.eval x=v at this;cases this;rfl
    obtain⟨cD,_⟩:=R9 hT ht;exact G7 (e:=.one (.int .i64 0)) hr hd hn h (LRep.int _ _) rfl (by simp[Ax,ag,Cm,aq,A0A dz,A0A au,invoke,builtin,hv,Fx,Cl cD,goInt])
   ·cases h
  ·rename_i t u x y aq dz au;exact D4g hT hU ag aq dz au h0 hr hd hn
  ·rename_i f _ _ aq;exact D5f hU hS ag aq h0 hr hd hn
  ·cases h
 |_=>simp only[I2,ag]at h;cases h
end
end Go.Aev
end
section
open Go.Lib
namespace Go.Aev
variable {Ty:Type}{den:Ty->Type}
structure Z4(P:Bf)(E:Env Ty den)(B:Bs):Prop where
 U:E.U.Ok
 np:B.np<=E.np
 tb:∀t,P8 P E.U t (E.tb t)
 zr:∀t zs,E.zr t=some zs->A2h P E.U t zs
 T:∀f ls r,E.T f ls=some (true,r)->(∀args w,(Bn f args).run P w=.ok (.enter f args) w)/\A1U P E.U (λw1 m1=>Ext B.w B.wm w1 m1) f ls r
 TB:∀f ls cs rs aR,E.TB f ls cs=some (rs,aR)->(∀args w,(Bn f args).run P w=.ok (.enter f args) w)/\Z1 P E.U (λw1 m1=>Ext B.w B.wm w1 m1) f ls cs rs aR
 TI:∀nm ls cs rs aR,E.TI nm ls cs=some (rs,aR)->A49 P E.U B nm ls cs rs aR
 TR:∀f ls cs rs,E.TR f ls cs=some rs->(∀args w,(Bn f args).run P w=.ok (.enter f args) w)/\Z1 P E.U (λw1 m1=>Ext B.w B.wm w1 m1) f ls cs rs cs
 TN:∀f ls cs,E.TNg f ls=some (true,cs)->(∀args w,(Bn f args).run P w=.ok (.enter f args) w)/\A7a P E.U (λw1 m1=>Ext B.w B.wm w1 m1) f ls cs
section
variable {E:Env Ty den}{B:Bs}{g:Gh}{s:St Ty den}{a:Act}{w:World}
variable {P:Bf}{R:Type}{o:Oper}{k:Ent Ty den->St Ty den->Option R}{r:R}{next:Act->World->Prop}{Q:Exit->Act->World->Prop}
theorem C6u(hE:Z4 P E B){x:Az}(ag:o.op=.assign x)(h:A8 E o s k=some r)(hr:Rel E.U B g s a w)(hd:∀i,o.dst=some i->i<a.tmps.size/\B.np<=i)(hn:H4 E B o a k r next):o.wp P a w next Q:=by
 simp only[A8,ag]at h;have af:(Ax a.eval o).run P w=.ok (.value (a.eval x)) w:=by simp[Ax,ag]
 cases a7:Y3 x with
 |false=>
  rw[a7]at h;exact G7 hr hd hn h (A3J hr _ _) (B3C _ _ _) af
 |true=>
  rw[a7]at h;simp only[Ap]at h;have nc:a.eval x=.slice none 0 0/\∃v,x=.const v/\v=.slice none 0 0:=by
   unfold Y3 at a7;split at a7
   ·exact⟨rfl,_,rfl,rfl⟩
   ·cases a7
  obtain⟨fq,v,hx,hv⟩:=nc;have ak:=H7 hr o.type x;split at h
  ·rename_i u l own hl;rw[hl]at ak;rw[fq]at ak af;have aj:l=[]:=by
    obtain⟨a0,cap,h1⟩:=ak.1.sl_inv;simp at h1;exact Fq h1.2.1.symm
   subst aj;have h2:=hr.fresh hE.U (C6 o.dst) (.slice none 0 0) (E.U.size u) ⟨_,_,_,rfl,Be _,.inl rfl⟩ (λ_ _ _ _ hs=>by simp[spare]at hs) (λ_ hs=>by simp[spare]at hs);refine N4 af (hn _ _ _ _ h (REL.setO h2 (e:=.one (.sl u [] (some (C6 o.dst)))) ⟨.nil _ _ _ _,λt1 l1 d1 he=>?_,λ_ _ he=>by(cases he)⟩ rfl _ hd));simp only[Leaf.sl.injEq,Bi]at he;obtain⟨rfl,_,rfl⟩:=he;exact⟨by simp[Gh.put],by simp[Gh.put],TyB.nil⟩
  ·exact G7 (e:=.one (opl E s o.type x)) hr hd hn h (show ERep _ _ _ (.one _) _ from ak) rfl af
theorem C25(hE:Z4 P E B)(h:A8 E o s k=some r)(hr:Rel E.U B g s a w)(hd:∀i,o.dst=some i->i<a.tmps.size/\B.np<=i)(hn:H4 E B o a k r next):o.wp P a w next Q:=by
 cases ag:o.op with
 |move x=>exact D1u ag h hr hd hn
 |assign x=>exact C6u hE ag h hr hd hn
 |makeInterface t x=>exact C92 hE.tb ag h hr hd hn
 |pick c x y=>exact D80 ag h hr hd hn
 |extract x i=>exact D0y ag h hr hd hn
 |binOp op t x y yt=>exact C9p hE.tb ag h hr hd hn
 |unOp op t x=>exact D8c ag h hr hd hn
 |convert src dst x=>exact D00 hE.tb hE.U ag h hr hd hn
 |indexAddr t x i=>exact C8C hE.tb hE.U ag h hr hd hn
 |index t x i=>exact C9o hE.tb ag h hr hd hn
 |load t x=>exact D8w hE.tb hE.U ag h hr hd hn
 |build t ps=>exact D0h hE.tb hE.U hE.zr ag h hr hd hn
 |alloc t=>exact D1U hE.U hE.zr ag h hr hd hn
 |box t x=>exact D7L hE.U hE.zr ag h hr hd hn
 |store t x y=>exact D6d hE.U hE.zr ag h hr hd hn
 |nilCheck x=>exact C9W ag h hr hd hn
 |fieldAddr t x i=>exact C7i hE.tb ag h hr hd hn
 |slice t x lo hi mx=>exact C9i hE.tb hE.U ag h hr hd hn
 |buildSlice t n ps=>exact D6A hE.tb hE.U ag h hr hd hn
 |makeSlice t l c=>exact D7u hE.tb hE.U ag h hr hd hn
 |range t x=>exact D5X hE.tb hE.U ag h hr hd hn
 |next x sa=>
  cases x with
  |tmp i=>
   cases sa with
   |true=>exact D12 ag h hr hE.U hd hn
   |false=>simp only[A8,ag]at h;cases h
  |_=>simp only[A8,ag]at h;cases h
 |call c=>
  have h0:=h;simp only[A8,ag]at h;cases aq:c.callee with
  |value x=>
   cases x with
   |func f=>
    rw[aq]at h;dsimp only at h;cases js:E.bp f with
    |none=>rw[js]at h;exact C7D hE.U hE.T ag aq h hr hd hn
    |some ps=>
     rw[js]at h;dsimp only at h;cases rz:E.ro f with
     |true=>
      rw[rz]at h;simp only[Ap]at h;obtain⟨e,he,h⟩:=C0h E h;exact C2m hE.U hE.T hE.TR ag aq he hr hd λv w' bO=>hn _ _ _ _ h bO
     |false=>rw[rz]at h;exact C9P hE.U hE.TB ag aq (D79 E h) hr hd hn
   |_=>rw[aq]at h;cases h
  |invoke x m=>rw[aq]at h;exact D3n hE.U hE.TI ag aq (B9U h) hr hd hn
  |builtin b=>rw[aq]at h;exact D3D hE.tb hE.U ag aq h hr hd hn
 |_=>simp only[A8,ag]at h;cases h
theorem A8Y(hE:Z4 P E B)(h:M3 E o s k=some r)(hr:Rel E.U B g s a w)(hd:∀i,o.dst=some i->i<a.tmps.size/\B.np<=i)(hn:H4 E B o a k r next):o.wp P a w next Q:=by
 unfold M3 at h;cases hc:E.rw&&Q7 E o s with
 |false=>rw[hc]at h;exact C25 hE h hr hd hn
 |true=>
  rw[hc]at h;rw[Aw]at hc;exact C7H hE.tb hE.U hE.zr hE.TN hc.2 h hr hd hn
theorem D58{a b c d e:Bool}(h:(a&&(b&&(c&&(d&&e))))=true):a=true/\b=true/\c=true/\d=true/\e=true:=by
 cases a<;>cases b<;>cases c<;>cases d<;>cases e<;>simp at h ⊢
theorem D4q{d:Nat}{y:Az}(h:B6y d y=true)(a:Act)(v:Value):(a.put (some d) v).eval y=a.eval y:=by
 cases y with
 |tmp t=>
  simp only[B6y,Bw]at h;have av:d≠t:=λe=>by rw[<-e,H3]at h;cases h
  show(a.tmps.setIfInBounds d v).getD t undef=a.tmps.getD t undef;rw[Bm,Bm,Hl,At av]
 |const v=>rfl
 |global g=>rfl
 |func f=>rfl
theorem C28(hE:Z4 P E B){o2:Oper}{d:Nat}{l:Leaf Ty den}(hb:B1D E o o2 s=some (d,l))(hr:Rel E.U B g s a w)(hd:∀i,o.dst=some i->i<a.tmps.size/\B.np<=i){K K2:Act->World->Prop}
  (h1:∀a1 w1,o2.wp P a1 w1 K2 Q->K a1 w1)(h2:∀a' w',REL E.U B (s.set d (.one l)) a' w'->a'.tmps.size=a.tmps.size->K2 a' w'):o.wp P a w K Q/\o2.guard=none:=by
 unfold B1D at hb;split at hb
 ·rename_i t d0 t2 d2 y ag aO sO;obtain⟨hc,aY⟩:=B8 hb;clear hb;obtain⟨c1,c2,c3,c4,c5⟩:=D58 hc;have e1:=(F6 _ _).1 c1;have e2:=(F6 _ _).1 c2;subst e1;subst e2;have je:o2.guard=none:=by simpa using c4
  have fj:o2.dst=none:=by simpa using c5
  refine⟨?_,je⟩;split at aY
  ·rename_i u pl u' x ht hy;split at aY
   ·rename_i x' cy;simp only[Bi,Bo]at aY;obtain⟨rfl,rfl⟩:=aY;obtain⟨rfl,ex⟩:=B1w cy;simp only at ex;subst ex;obtain⟨fs,ie,z,i1,i2,i3,i4,i5,i6⟩:=A2S hE.tb ht;have po:=H7 hr 0 y;rw[hy]at po;obtain⟨vs,ev,mP,cs,ct,eF⟩:=A9b po.1;have ck:=hE.U.len u' x;have ap:d0<a.tmps.size:=(hd d0 aO).1;have aW:∀v∈vs,v.oneCell'=true:=λv hv=>by
     obtain⟨j,hj,oV⟩:=Gy hv;have sP:j<(E.U.cells u' x).length:=by omega
     have h3:=ct j _ (Bl sP);rw[Bl hj]at h3;rw[<-oV,Cn h3];exact((eF j _ (Bl sP)).one hE.U (hE.U.solid u' x _ (List.getElem_mem sP))).1
    have af:(Ax a.eval o).run P w=.ok (.value (.pointer (some ⟨w.heap.size,0,none⟩))) (w.alloc (.cells z.cells t)):=by
     simp[Ax,ag,Hi,zeroValue,Cd,i3,i5,newVar,newRow]
    refine N4 af (h1 _ _ ?_);rw[aO];have lF:(a.put (some d0) (.pointer (some ⟨w.heap.size,0,none⟩))).eval y=.agg vs.toArray:=by rw[D4q c3,ev]
    have sQ:(a.put (some d0) (.pointer (some ⟨w.heap.size,0,none⟩))).eval (.tmp d0)=.pointer (some ⟨w.heap.size,0,none⟩):=by
     have:=B0Q a d0 d0 (.pointer (some ⟨w.heap.size,0,none⟩)) ap;rw[Au rfl]at this;exact this
    have sR:(w.alloc (.cells z.cells t)).heap[w.heap.size]?=some (.cells z.cells t (0,0)):=by
     have hp:(w.alloc (.cells z.cells t)).heap=w.heap.push (.cells z.cells t):=rfl;rw[hp];simp
    obtain⟨s1,⟨c',s2,s3,_,s5⟩,s6,s7,s8,s9,ju⟩:=A5i P w.heap.size t (0,0) vs 0 (w.alloc (.cells z.cells t)) z.cells sR (by omega) (λj _ _=>by simp) aW;have cO:=s1 ⟨w.heap.size,0,none⟩ 0 rfl (Be _);have cq:c'=vs.toArray:=by
     apply Hm;intro j;by_cases hj:j<vs.length
     ·have:=s5 j vs[j] (Bl hj);rw[Bj]at this;rw[this];simp[hj]
     ·rw[Gf (by omega),Gf (by simp;omega)]
    have iM:(I5 (w.alloc (.cells z.cells t)) w.heap.size 0 vs).heap=w.heap.push (.cells vs.toArray t (0,0)):=by
     apply Hm;intro j;by_cases hj:j=w.heap.size
     ·subst hj;rw[s2,cq];simp
     ·rw[s7 j hj];simp only[World.alloc,Dy,At hj]
    have bO:=hr.alloc hE.U (.cells vs.toArray t (0,0)) (E.U.size u') (I5 (w.alloc (.cells z.cells t)) w.heap.size 0 vs) iM s8 s9 ju;have hx:Ext w g.wm (I5 (w.alloc (.cells z.cells t)) w.heap.size 0 vs) (C7 g.wm w.heap.size (E.U.size u')):=by
     refine⟨A0Y iM,λb off ho=>?_,λb=>?_⟩
     ·rcases Da b w.heap.size with h2|h2
      ·exact Cx (a:=⟨b,off,none⟩) (by rw[iM,Dy,At (by show¬b=w.heap.size;omega)])
      ·rw[hr.zero b h2]at ho;omega
     ·unfold C7;by_cases hb:b=w.heap.size
      ·subst hb;rw[Au rfl,hr.zero _ (Be _)];exact Cc _
      ·rw[At hb];exact Be _
    have ak:CRep E.U (I5 (w.alloc (.cells z.cells t)) w.heap.size 0 vs) (C7 g.wm w.heap.size (E.U.size u')) (.elem u' x 0) (.pointer (some ⟨w.heap.size,0+0,none⟩)):=by
     refine .elem u' x 0 w.heap.size 0 cs (by simp[C7]) (λj lf hj=>?_) (λj lf hj=>(eF j lf hj).mono hE.U hx);have h3:=ct j lf hj;have bE:(I5 (w.alloc (.cells z.cells t)) w.heap.size 0 vs).heap[w.heap.size]?=some (.cells vs.toArray t (0,0)):=by rw[iM];simp
     have bA:=I7 h3;rw[Bl bA]at h3;simp[Dg,bE,bA,Cn h3]
    have ij:=bO.set (e:=.one (.elem u' x 0)) (v:=.pointer (some ⟨w.heap.size,0,none⟩)) ⟨ak,λ_ _ _ he=>by(cases he),λ_ _ he=>by(cases he)⟩ rfl d0 (hd d0 aO);unfold Cr;have pp:(Ax (a.put (some d0) (.pointer (some ⟨w.heap.size,0,none⟩))).eval o2).run P (w.alloc (.cells z.cells t))=.ok .skip (I5 (w.alloc (.cells z.cells t)) w.heap.size 0 vs):=by
     have ao:(Bz t).run P (w.alloc (.cells z.cells t))=.ok (E.U.size u') (w.alloc (.cells z.cells t)):=by simp[Bz,Cd,i3,i4]
     have jS:(Value.agg vs.toArray).cells=vs.toArray:=rfl;generalize w.alloc (.cells z.cells t)=w1 at ao cO ⊢;simp[Ax,sO,lF,sQ,Fu,Dk,storeVar,ao,jS,mP,cO]
    rw[pp,Ff,fj];exact h2 _ _ ⟨_,ij⟩ (by simp[Ev])
   ·cases aY
  ·cases aY
 ·cases hb
theorem A7N{m n:Nat}{d:Ak}(h:okd m n d=true):∀i,d=some i->i<n/\m<=i:=λi hi=>by
 subst hi;simp only[okd,Aw,Bh,Eh]at h;exact h
theorem D3X(E:Env Ty den)(ops:Array Oper)(o:Oper)(r:List Oper)(s:St Ty den)(k:St Ty den->Option R):A2s E ops (o::r) s k=bif okd E.np E.nt o.dst then match o.guard with
 |none=>bif O8 o.op&& !(mbO E o.dst)then(match r with
   |o2::r2=>(match B1D E o o2 s with
    |some (d,l)=>A2s E ops r2 (s.set d (.one l)) k
    |none=>none)
   |[]=>none)
  else M3 E o s λe s'=>A2s E ops r (s'.setO o.dst e) k
 |some (j,aM)=>match(ops[j]?).bind (·.dst)with
  |some g=>match s.get g with
   | .one (.bool b)=>bif b==aM
    then M3 E o (s.set g (.one (.bool aM))) λe s'=>A2s E ops r (s'.setO o.dst e) k
    else A2s E ops r ((s.set g (.one (.bool (!aM)))).setO o.dst (.one (.val undef))) k
   | .one (.val v)=>bif A4O v then A2s E ops r (s.setO o.dst (.one (.val undef))) k else none
   |_=>none
  |none=>none
 else none:=by cases r<;>rfl
theorem A8N(hE:Z4 P E B)(ops:Array Oper):∀(os:List Oper)(s:St Ty den)(a:Act)(w:World)(k:St Ty den->Option R),A2s E ops os s k=some r->REL E.U B s a w->a.tmps.size=E.nt->
  (∀s' a' w',k s'=some r->REL E.U B s' a' w'->a'.tmps.size=E.nt->Q .normal a' w')->De P ops Q os a w
 |[],s,a,w,k,h,hr,ao,hk=>wpList_nil (hk s a w h hr ao)
 |o::os,s,a,w,k,h,⟨g,hr⟩,ao,hk=>by
  rw[D3X]at h;obtain⟨aO,h⟩:=B8 h;have hd:∀i,o.dst=some i->i<a.tmps.size/\B.np<=i:=λi hi=>by rw[ao];have:=A7N aO i hi;exact⟨this.1,Ci hE.np this.2⟩
  have run:∀(s1:St Ty den)(g1:Gh),Rel E.U B g1 s1 a w->M3 E o s1 (λe s'=>A2s E ops os (s'.setO o.dst e) k)=some r->∀(K:Act->World->Prop),(∀a w,De P ops Q os a w->K a w)->o.wp P a w K Q:=by
   intro s1 g1 dv h1 K hK;refine A8Y hE h1 dv hd ?_;intro e s' v w' gM bO;exact hK _ _ (A8N hE ops os _ _ _ k gM bO (by rw[Z6];exact ao) hk)
  cases hg:o.guard with
  |none=>
   rw[hg]at h;dsimp only at h;cases eJ:O8 o.op&& !(mbO E o.dst)with
   |true=>
    rw[eJ]at h;simp only[Ap]at h
    match os,h with
    |[],h=>cases h
    |o2::vu,h=>
     dsimp only at h;split at h
     ·rename_i d l kW;refine Ey hg λK hK=>(C28 (K2:=λa1 w1=>De P ops Q vu a1 w1) hE kW hr hd (λa1 w1 hw=>hK _ _ (Ey ?_ λK2 xe=>?_)) (λa' w' bO pr=>?_)).1
      ·exact(C28 (K:=λ_ _=>True) (K2:=λ_ _=>True) (Q:=Q) hE kW hr hd (λ_ _ _=>trivial) (λ_ _ _ _=>trivial)).2
      ·exact Oper.wp_mono xe hw
      ·exact A8N hE ops vu _ a' w' k h bO (by rw[pr];exact ao) hk
     ·cases h
   |false=>
    rw[eJ]at h;exact Ey hg λK hK=>run s g hr h K hK
  |some jw=>
   obtain⟨j,aM⟩:=jw;rw[hg]at h;dsimp only at h;cases hj:(ops[j]?).bind (·.dst)with
   |none=>rw[hj]at h;cases h
   |some gd=>
    rw[hj]at h;dsimp only at h;split at h
    ·rename_i b lG;have aK:=hr.ent gd;rw[lG]at aK;have bh:a.tmps.getD gd undef=.bool b:=CRep.bool_inv aK.1;have ap:gd<a.tmps.size:=by
      rcases Da gd a.tmps.size with h1|h1
      ·exact h1
      ·rw[Bm,Gf h1]at bh;cases bh
     have aL:a.tmps[gd]?=some (.bool b):=by
      rw[Bm,Bx ap]at bh;rw[Bx ap];simpa using bh
     have hy:Ch ops a.tmps j=some b:=by
      unfold Ch;rw[hj];simp[aL]
     have ij:∀c:Bool,b=c->Rel E.U B g (s.set gd (.one (.bool c))) a w:=by
      intro c hc;exact hr.setSame (e:=.one (.bool c)) (by rw[bh,hc];exact LRep.bool c) rfl
     refine Ea λK hK=>?_;simp only[Cb,hg,hy];cases gN:(b==aM)with
     |true=>
      have pu:b=aM:=by simpa using gN
      rw[gN]at h;rw[Au (by simp[pu])];exact run _ g (ij aM pu) h K hK
     |false=>
      rw[gN]at h;have av:b≠aM:=by simpa using gN
      have vw:b= !aM:=by cases b<;>cases aM<;>simp_all
      rw[At (by simp[av])];refine hK _ _ (A8N hE ops os _ _ _ k h ?_ (by rw[Z6];exact ao) hk);exact REL.setO (ij _ vw) (e:=.one (.val undef)) ⟨.val _,λ_ _ _ he=>by(cases he),λ_ _ he=>by(cases he)⟩ rfl o.dst hd
    ·rename_i v pw;have aK:=hr.ent gd;rw[pw]at aK;have bh:a.tmps.getD gd undef=v:=by
      have h1:=aK.1;cases h1;rfl
     obtain⟨cQ,h⟩:=B8 h;have hy:∀b,Ch ops a.tmps j≠some b:=by
      intro b hb;unfold Ch at hb;rw[hj]at hb;simp only[Gn]at hb;rw[Bm]at bh;cases je:a.tmps[gd]? with
      |none=>rw[je]at hb;simp at hb
      |some u=>
       rw[je]at hb bh;simp at bh;subst bh;cases u<;>simp[A4O]at hb cQ
     refine Ea λK hK=>?_;simp only[Cb,hg];rw[At (by
      intro h1;exact hy aM (by simpa using h1))]
     refine hK _ _ (A8N hE ops os _ _ _ k h ?_ (by rw[Z6];exact ao) hk);exact REL.setO hr (e:=.one (.val undef)) ⟨.val _,λ_ _ _ he=>by(cases he),λ_ _ he=>by(cases he)⟩ rfl o.dst hd
    ·cases h
end
end Go.Aev
end
section
open Go.Lib
namespace Go.Aev
variable {Ty:Type}{den:Ty->Type}
section
variable {E:Env Ty den}{B:Bs}{g:Gh}{s:St Ty den}{a:Act}{w:World}
variable {P:Bf}{R:Type}{o:Oper}{r:R}
structure Sees(o:Oper)(s s2:St Ty den):Prop where
 tmp:∀t,Gp t∈o.op.operands.toList->s2.get t=s.get t
 bx:∀d ls,O6 s d=some ls->O6 s2 d=some ls
theorem Sees.opd{s2:St Ty den}(h:Sees o s s2){x:Az}(hx:x∈o.op.operands.toList)(ty:Ay):opd E s2 ty x=opd E s ty x:=by
 cases x with
 |tmp t=>simp only[Aev.opd,h.tmp t hx]
 |_=>rfl
theorem Sees.opl{s2:St Ty den}(h:Sees o s s2){x:Az}(hx:x∈o.op.operands.toList)(ty:Ay):opl E s2 ty x=opl E s ty x:=by
 simp only[Aev.opl,h.opd hx]
theorem Sees.args{s2:St Ty den}{c:Call}(ag:o.op=.call c)(h:Sees o s s2):∀(dp:List Ay)(xs:List Az),(∀x∈xs,x∈c.args.toList)->Q5 E s2 dp xs=Q5 E s dp xs:=by
 have cE:∀x∈c.args.toList,x∈o.op.operands.toList:=by
  intro x hx;rw[ag];simp only[Bb,Cu];cases c.callee<;>simp_all
 intro dp xs
 induction xs generalizing dp with
 |nil=>intro _;cases dp<;>rfl
 |cons x xs ih=>
  intro iH;cases dp with
  |nil=>simp only[Q5,h.opl (cE x (iH x (by simp))),ih [] (λy hy=>iH y (by simp[hy]))]
  |cons t ts=>simp only[Q5,h.opl (cE x (iH x (by simp))),ih ts (λy hy=>iH y (by simp[hy]))]
theorem I0{a b:Nat}{x:Option R}(h:(bif Ba a b then x else none)=some r):a=b/\x=some r:=by
 obtain⟨h1,h2⟩:=B8 h;exact⟨Cs h1,h2⟩
theorem B8v{s2:St Ty den}{d:Int}{b:Option Az}(h:Sees o s s2)(hb:∀x,b=some x->x∈o.op.operands.toList):V6 E s2 d b=V6 E s d b:=by
 cases b with
 |none=>rfl
 |some x=>simp only[V6,h.opl (hb x rfl)]
theorem C4D{cl:Leaf Ty den->Leaf Ty den}{s2:St Ty den}(h:Sees o s s2)(pl:List (Nat×Nat)):∀(ps:List (Nat×Az))(ls:List (Leaf Ty den)),(∀p∈ps,p.2∈o.op.operands.toList)->A1S E cl s2 pl ps ls=A1S E cl s pl ps ls
 |[],ls,_=>rfl
 |(j,x)::ps,ls,cE=>by
  simp only[A1S];rw[show opl E s2 0 x=opl E s 0 x from h.opl (cE (j,x) (by simp)) 0];cases pl[j]? with
  |none=>rfl
  |some q=>
   obtain⟨o1,n1⟩:=q;dsimp only;cases cellsOf E n1 (cl (opl E s 0 x))with
   |none=>rfl
   |some ys=>
    dsimp only;rw[C4D h pl ps _ (λp hp=>cE p (by simp[hp]))]
theorem D5p{t:Ay}{x:Az}(ag:o.op=.makeInterface t x){k1:Ent Ty den->Option R}(h:A8 E o s (λe s'=>bif Ba (R1 s'.live) (R1 s.live)then k1 e else none)=some r):
  ∃e,k1 e=some r/\∀s2:St Ty den,Sees o s s2->A8 E o s2 (λe s'=>some (e,s'))=some (e,s2):=by
 simp only[A8,ag]at h;split at h
 ·rename_i u pl u' y ht hx;split at h
  ·rename_i y' hy;refine⟨_,(I0 h).2,λs2 h2=>?_⟩;simp only[A8,ag,h2.opl (x:=x) (by simp[ag,Bb]),ht,hx,hy]
  ·cases h
 ·cases h
theorem D0b(hp:Q6 E o=true)(cQ:Q3 o=false)(lH:∀c f,o.op=.call c->c.callee≠ .value (.func f)){k1:Ent Ty den->Option R}(h:A8 E o s (λe s'=>bif Ba (R1 s'.live) (R1 s.live)then k1 e else none)=some r):
  ∃e,k1 e=some r/\∀s2:St Ty den,Sees o s s2->A8 E o s2 (λe s'=>some (e,s'))=some (e,s2):=by
 have aS:∀{x:Az},x∈o.op.operands.toList->∀s2:St Ty den,Sees o s s2->∀ty,opl E s2 ty x=opl E s ty x:=λhx s2 h2 ty=>h2.opl hx ty;cases ag:o.op with
 |move x=>
  simp only[A8,ag]at h;exact⟨_,(I0 h).2,λs2 h2=>by simp only[A8,ag,h2.opd (x:=x) (by simp[ag,Bb])]⟩
 |buildSlice t n ps=>simp only[Q3,ag]at cQ;cases cQ
 |makeInterface t x=>exact D5p ag h
 |assign x=>
  have a7:Y3 x=false:=by simpa only[Q3,ag]using cQ
  simp only[A8,ag,a7,Aq]at h;exact⟨_,(I0 h).2,λs2 h2=>by simp only[A8,ag,a7,Aq,h2.opd (x:=x) (by simp[ag,Bb])]⟩
 |pick c x y=>
  have hc:=λs2 h2=>aS (x:=c) (by simp[ag,Bb]) s2 h2;have hx:=λs2 h2=>aS (x:=x) (by simp[ag,Bb]) s2 h2;have hy:=λs2 h2=>aS (x:=y) (by simp[ag,Bb]) s2 h2;simp only[A8,ag]at h;split at h
  ·rename_i bN;exact⟨_,(I0 h).2,λs2 h2=>by simp only[A8,ag,hc s2 h2,hx s2 h2,hy s2 h2,bN]⟩
  ·rename_i bN;exact⟨_,(I0 h).2,λs2 h2=>by simp only[A8,ag,hc s2 h2,hx s2 h2,hy s2 h2,bN]⟩
  ·cases h
 |extract x i=>
  simp only[A8,ag]at h;have hx:=λs2 (h2:Sees o s s2)=>h2.opd (E:=E) (x:=x) (by simp[ag,Bb]) 0;split at h
  ·rename_i ls bN;split at h
   ·rename_i l hl;exact⟨_,(I0 h).2,λs2 h2=>by simp only[A8,ag,hx s2 h2,bN,hl]⟩
   ·cases h
  ·cases h
 |binOp op t x y yt=>
  have hx:=λs2 h2=>aS (x:=x) (by simp[ag,Bb]) s2 h2;have hy:=λs2 h2=>aS (x:=y) (by simp[ag,Bb]) s2 h2;simp only[A8,ag]at h;have cj:∀(l:Leaf Ty den),(bif Ba (R1 s.live) (R1 s.live)then k1 (.one l)else none)=some r->(∀s2,Sees o s s2->A8 E o s2 (λe s'=>some (e,s'))=some (.one l,s2))->∃e,k1 e=some r/\∀s2,Sees o s s2->A8 E o s2 (λe s'=>some (e,s'))=some (e,s2):=λl h1 h2=>⟨_,(I0 h1).2,h2⟩;split at h
  ·rename_i k0 a zq b gR jx;split at h
   ·obtain⟨hg,h⟩:=B8 h;exact cj _ h λs2 h2=>by simp only[A8,ag,hx s2 h2,hy s2 h2,gR,jx,hg,Ap]
   ·obtain⟨hg,h⟩:=B8 h;exact cj _ h λs2 h2=>by simp only[A8,ag,hx s2 h2,hy s2 h2,gR,jx,hg,Ap]
   ·obtain⟨hg,h⟩:=B8 h;exact cj _ h λs2 h2=>by simp only[A8,ag,hx s2 h2,hy s2 h2,gR,jx,hg,Ap]
   ·obtain⟨hg,h⟩:=B8 h;exact cj _ h λs2 h2=>by simp only[A8,ag,hx s2 h2,hy s2 h2,gR,jx,hg,Ap]
   ·rename_i n1 n2 n3 n4;obtain⟨hg,h⟩:=B8 h;split at h
    ·rename_i l hl;refine cj _ h λs2 h2=>?_;simp only[A8,ag,hx s2 h2,hy s2 h2,gR,jx];cases op<;>first
      |exact absurd rfl (by assumption)
      |(exfalso;first|exact n1 rfl|exact n2 rfl|exact n3 rfl|exact n4 rfl)
      |(simp only[hg,Ap,hl])
    ·cases h
  ·rename_i a b gR jx;split at h
   ·obtain⟨hg,h⟩:=B8 h;exact cj _ h λs2 h2=>by simp only[A8,ag,hx s2 h2,hy s2 h2,gR,jx,hg,Ap]
   ·exact cj _ h λs2 h2=>by simp only[A8,ag,hx s2 h2,hy s2 h2,gR,jx]
   ·exact cj _ h λs2 h2=>by simp only[A8,ag,hx s2 h2,hy s2 h2,gR,jx]
   ·cases h
  ·rename_i a b gR jx;split at h
   ·rename_i ht;split at h
    ·exact cj _ h λs2 h2=>by simp only[A8,ag,hx s2 h2,hy s2 h2,gR,jx,ht]
    ·exact cj _ h λs2 h2=>by simp only[A8,ag,hx s2 h2,hy s2 h2,gR,jx,ht]
    ·cases h
   ·cases h
  ·cases h
 |unOp op t x=>
  have hx:=λs2 h2=>aS (x:=x) (by simp[ag,Bb]) s2 h2;simp only[A8,ag]at h;split at h
  ·rename_i gR;exact⟨_,(I0 h).2,λs2 h2=>by simp only[A8,ag,hx s2 h2,gR]⟩
  ·rename_i gR;exact⟨_,(I0 h).2,λs2 h2=>by simp only[A8,ag,hx s2 h2,gR]⟩
  ·cases h
 |convert src dst x=>
  have hx:=λs2 h2=>aS (x:=x) (by simp[ag,Bb]) s2 h2;simp only[A8,ag]at h;split at h
  ·rename_i h1 h2 h3;exact⟨_,(I0 h).2,λs2 h4=>by simp only[A8,ag,hx s2 h4,h1,h2,h3]⟩
  ·rename_i h1 h2 h3;split at h
   ·rename_i h5 h6 h7;exact⟨_,(I0 h).2,λs2 h4=>by simp only[A8,ag,hx s2 h4,h1,h2,h3,h5,h6,h7]⟩
   ·rename_i h5 h6 h7;exact⟨_,(I0 h).2,λs2 h4=>by simp only[A8,ag,hx s2 h4,h1,h2,h3,h5,h6,h7]⟩
   ·cases h
  ·rename_i h1 h2 h3;simp only[Q6,ag,h2]at hp;cases hp
  ·rename_i h1 h2 h3;simp only[Q6,ag,h2]at hp;cases hp
  ·cases h
 |indexAddr t x i=>
  have hx:=λs2 h2=>aS (x:=x) (by simp[ag,Bb]) s2 h2;have hi:=λs2 h2=>aS (x:=i) (by simp[ag,Bb]) s2 h2;simp only[A8,ag]at h;split at h
  ·rename_i h1 h2 h3;split at h
   ·rename_i l' hl;split at h
    ·rename_i y hy;exact⟨_,(I0 h).2,λs2 h4=>by simp only[A8,ag,hx s2 h4,hi s2 h4,h1,h2,h3,hl,hy]⟩
    ·cases h
   ·cases h
  ·cases h
 |index t x i=>
  have hx:=λs2 h2=>aS (x:=x) (by simp[ag,Bb]) s2 h2;have hi:=λs2 h2=>aS (x:=i) (by simp[ag,Bb]) s2 h2;simp only[A8,ag]at h;split at h
  ·rename_i h1 h2 h3;split at h
   ·rename_i y hy;exact⟨_,(I0 h).2,λs2 h4=>by simp only[A8,ag,hx s2 h4,hi s2 h4,h1,h2,h3,hy]⟩
   ·cases h
  ·cases h
 |load t x=>
  have hx:=λs2 h2=>aS (x:=x) (by simp[ag,Bb]) s2 h2;simp only[A8,ag]at h;split at h
  ·cases h
  ·rename_i u eE;split at h
   ·rename_i u' y off fq;split at h
    ·rename_i y' hy;refine⟨_,(I0 h).2,λs2 h4=>?_⟩;simp only[A8,ag,hx s2 h4,fq,eE,hy]
    ·cases h
   ·cases h
  ·rename_i u pl eE;split at h
   ·rename_i u' y off fq;split at h
    ·rename_i y' hy;refine⟨_,(I0 h).2,λs2 h4=>?_⟩;simp only[A8,ag,hx s2 h4,fq,eE,hy]
    ·rename_i cY;split at h
     ·rename_i z hz;refine⟨_,(I0 h).2,λs2 h4=>?_⟩;simp only[A8,ag,hx s2 h4,fq,eE]
      revert cY
      generalize (bif Ba off 0 then R2 E.U u u' [y]else none)=xf;intro cY;cases xf with
      |none=>simp only[hz]
      |some l=>
       cases l with
       |nil=>simp only[hz]
       |cons y0 r=>
        cases r with
        |nil=>exact absurd rfl (cY y0)
        |cons y1 r=>simp only[hz]
     ·cases h
   ·rename_i d off fq;split at h
    ·rename_i ls bc;obtain⟨bM,h⟩:=B8 h;split at h
     ·rename_i z hz;refine⟨_,(I0 h).2,λs2 h4=>?_⟩;simp only[A8,ag,hx s2 h4,fq,eE,h4.bx d _ bc,bM,Ap,hz]
     ·cases h
    ·cases h
   ·cases h
  ·rename_i eE xg xh;split at h
   ·rename_i u y off fq;split at h
    ·rename_i l hl;refine⟨_,(I0 h).2,λs2 h4=>?_⟩;simp only[A8,ag,hx s2 h4,fq,hl]
    ·cases h
   ·rename_i d off fq;split at h
    ·rename_i ls bc;obtain⟨bM,h⟩:=B8 h;split at h
     ·rename_i l hl;refine⟨_,(I0 h).2,λs2 h4=>?_⟩;simp only[A8,ag,hx s2 h4,fq,h4.bx d _ bc,bM,Ap,hl]
     ·cases h
    ·cases h
   ·cases h
 |nilCheck x=>
  have hx:=λs2 h2=>aS (x:=x) (by simp[ag,Bb]) s2 h2;simp only[A8,ag]at h;split at h
  ·rename_i u y off fq;exact⟨_,(I0 h).2,λs2 h4=>by simp only[A8,ag,hx s2 h4,fq]⟩
  ·rename_i d off fq;obtain⟨bM,h⟩:=B8 h;exact⟨_,(I0 h).2,λs2 h4=>by simp only[A8,ag,hx s2 h4,fq,bM,Ap]⟩
  ·cases h
 |build t ps=>
  have jq:mbO E o.dst=false:=by simpa [Q6,ag]using hp
  simp only[A8,ag,jq,Aq]at h;split at h
  ·rename_i u pl eE;split at h
   ·rename_i zs dG;split at h
    ·rename_i ls bc;split at h
     ·rename_i x hx;refine⟨_,(I0 h).2,λs2 h4=>?_⟩;have h3:=C4D (E:=E) (cl:=Leaf.close) h4 pl ps.toList zs (λp hp=>by rw[ag];simp only[Bb];simp;exact⟨p.1,by simpa using hp⟩);simp only[A8,ag,jq,Aq,eE,dG,h3,bc,hx]
     ·cases h
    ·cases h
   ·cases h
  ·cases h
 |fieldAddr t x i=>
  have hx:=λs2 h2=>aS (x:=x) (by simp[ag,Bb]) s2 h2;simp only[A8,ag]at h;split at h
  ·rename_i v pl u y off eE fq;split at h
   ·rename_i o1 n1 iI;obtain⟨hg,h⟩:=B8 h;exact⟨_,(I0 h).2,λs2 h4=>by simp only[A8,ag,hx s2 h4,eE,fq,iI,hg,Ap]⟩
   ·cases h
  ·rename_i v pl d off eE fq;split at h
   ·rename_i o1 n1 iI;obtain⟨hg,h⟩:=B8 h;exact⟨_,(I0 h).2,λs2 h4=>by simp only[A8,ag,hx s2 h4,eE,fq,iI,hg,Ap]⟩
   ·cases h
  ·cases h
 |slice t x lo hi mx=>
  have hx:=λs2 h2=>aS (x:=x) (by simp[ag,Bb]) s2 h2;have e9:∀s2,Sees o s s2->∀d,V6 E s2 d lo=V6 E s d lo:=λs2 h2 d=>B8v h2 (λy hy=>by subst hy;simp[ag,Bb]);have jF:∀s2,Sees o s s2->∀d,V6 E s2 d hi=V6 E s d hi:=λs2 h2 d=>B8v h2 (λy hy=>by subst hy;simp[ag,Bb]);simp only[A8,ag]at h;split at h
  ·rename_i b h1 h2;split at h
   ·rename_i h3 h4;split at h
    ·rename_i r0 hr;exact⟨_,(I0 h).2,λs2 h6=>by simp only[A8,ag,hx s2 h6,e9 s2 h6,jF s2 h6,h1,h2,h3,h4,hr]⟩
    ·cases h
   ·cases h
  ·rename_i h1 h2;split at h
   ·rename_i l' hl;split at h
    ·rename_i h3 h4;split at h
     ·rename_i r0 hr;exact⟨_,(I0 h).2,λs2 h6=>by simp only[A8,ag,hx s2 h6,e9 s2 h6,jF s2 h6,h1,h2,hl,h3,h4,hr]⟩
     ·cases h
    ·rename_i m h3 h4;have hm:∀s2,Sees o s s2->∀ty,opl E s2 ty m=opl E s ty m:=λs2 h2=>aS (x:=m) (by simp[ag,Bb]) s2 h2;split at h
     ·rename_i h7;obtain⟨hg,h⟩:=B8 h;split at h
      ·rename_i r0 hr;exact⟨_,(I0 h).2,λs2 h6=>by simp only[A8,ag,hx s2 h6,e9 s2 h6,jF s2 h6,hm s2 h6,h1,h2,hl,h3,h4,h7,hg,Ap,hr]⟩
      ·cases h
     ·cases h
    ·cases h
   ·cases h
  ·cases h
 |call c=>
  simp only[A8,ag]at h;simp only[Q6,ag]at hp;split at hp
  ·rename_i f aq;exact absurd aq (lH c f ag)
  ·rename_i aq;rw[aq]at h;dsimp only at h;generalize fc:c.argTypes.toList=dp at h;generalize au:c.args.toList=args at h;unfold A1P at h;split at h<;>first|cases h;done|(rename_i hb;cases hb;done)|skip
   ·rename_i t x hb;have hx:=λs2 h2=>aS (x:=x) (by simp[ag,Bb,Cu,aq,au]) s2 h2;split at h
    ·rename_i h1 h2;exact⟨_,(I0 h).2,λs2 h6=>by simp only[A8,ag,aq,fc,au,A1P,hx s2 h6,h1,h2]⟩
    ·rename_i h1 h2;exact⟨_,(I0 h).2,λs2 h6=>by simp only[A8,ag,aq,fc,au,A1P,hx s2 h6,h1,h2]⟩
    ·cases h
  ·rename_i aq;rw[aq]at h;dsimp only at h;generalize fc:c.argTypes.toList=dp at h;generalize au:c.args.toList=args at h;unfold A1P at h;split at h<;>first|cases h;done|(rename_i hb;cases hb;done)|skip
   ·rename_i x y hb;have hx:=λs2 h2=>aS (x:=x) (by simp[ag,Bb,Cu,aq,au]) s2 h2;have hy:=λs2 h2=>aS (x:=y) (by simp[ag,Bb,Cu,aq,au]) s2 h2;split at h
    ·rename_i h1 h2;exact⟨_,(I0 h).2,λs2 h6=>by simp only[A8,ag,aq,fc,au,A1P,hx s2 h6,hy s2 h6,h1,h2]⟩
    ·cases h
  ·rename_i aq;rw[aq]at h;dsimp only at h;generalize fc:c.argTypes.toList=dp at h;generalize au:c.args.toList=args at h;unfold A1P at h;split at h<;>first|cases h;done|(rename_i hb;cases hb;done)|skip
   ·rename_i x y hb;have hx:=λs2 h2=>aS (x:=x) (by simp[ag,Bb,Cu,aq,au]) s2 h2;have hy:=λs2 h2=>aS (x:=y) (by simp[ag,Bb,Cu,aq,au]) s2 h2;split at h
    ·rename_i h1 h2;exact⟨_,(I0 h).2,λs2 h6=>by simp only[A8,ag,aq,fc,au,A1P,hx s2 h6,hy s2 h6,h1,h2]⟩
    ·cases h
  ·cases hp
 |_=>simp only[Q6,ag]at hp;cases hp
theorem C4V{s2:St Ty den}(h:Sees o s s2):Q7 E o s2=Q7 E o s:=by
 cases ag:o.op with
 |indexAddr t x i=>simp only[Q7,ag,h.opl (E:=E) (x:=x) (by simp[ag,Bb])]
 |slice t x lo hi mx=>simp only[Q7,ag,h.opl (E:=E) (x:=x) (by simp[ag,Bb])]
 |call c=>
  simp only[Q7,ag];cases aq:c.callee with
  |builtin b=>
   cases b<;>try rfl
   dsimp only;split
   ·rename_i t x ht hx;rw[h.opl (E:=E) (x:=x) (by simp[ag,Bb,Cu,aq,hx])]
   ·rfl
  |value x=>cases x<;>rfl
  |_=>rfl
 |_=>simp only[Q7,ag]
theorem D7v(hp:Q6 E o=true)(cQ:Q3 o=false)(lH:∀c f,o.op=.call c->c.callee≠ .value (.func f))(dE:Q7 E o s=true){k1:Ent Ty den->Option R}(h:I2 E o s (λe s'=>bif Ba (R1 s'.live) (R1 s.live)then k1 e else none)=some r):
  ∃e,k1 e=some r/\∀s2:St Ty den,Sees o s s2->I2 E o s2 (λe s'=>some (e,s'))=some (e,s2):=by
 have aS:∀{x:Az},x∈o.op.operands.toList->∀s2:St Ty den,Sees o s s2->∀ty,opl E s2 ty x=opl E s ty x:=λhx s2 h2 ty=>h2.opl hx ty;cases ag:o.op with
 |assign x=>
  simp only[Q3,ag]at cQ;simp only[Q7,ag,Aw]at dE;rw[dE.1]at cQ;cases cQ
 |build t ps=>
  simp only[Q6,ag]at hp;simp only[Q7,ag]at dE;rw[dE]at hp;cases hp
 |buildSlice t n ps=>simp only[Q3,ag]at cQ;cases cQ
 |indexAddr t x i=>
  simp only[I2,ag]at h;split at h
  ·rename_i h1 h2 h3;obtain⟨hc,h⟩:=B8 h;exact⟨_,(I0 h).2,λs2 h6=>by simp only[I2,ag,aS (x:=x) (by simp[ag,Bb]) s2 h6,aS (x:=i) (by simp[ag,Bb]) s2 h6,h1,h2,h3,hc,Ap]⟩
  ·cases h
 |load t x=>
  simp only[I2,ag]at h;split at h
  ·rename_i h1 h2;split at h
   ·rename_i hb;obtain⟨hc,h⟩:=B8 h;exact⟨_,(I0 h).2,λs2 h6=>by simp only[I2,ag,aS (x:=x) (by simp[ag,Bb]) s2 h6,h1,h2,h6.bx _ _ hb,hc,Ap]⟩
   ·cases h
  ·cases h
 |slice t x lo hi mx=>
  match lo,hi,mx,ag with
  |none,some y,none,ag=>
   simp only[I2,ag]at h;split at h
   ·rename_i h1 h2 h3;obtain⟨hc,h⟩:=B8 h;exact⟨_,(I0 h).2,λs2 h6=>by simp only[I2,ag,aS (x:=x) (by simp[ag,Bb]) s2 h6,aS (x:=y) (by simp[ag,Bb]) s2 h6,h1,h2,h3,hc,Ap]⟩
   ·cases h
  |some _,_,_,ag=>simp only[I2,ag]at h;cases h
  |none,none,_,ag=>simp only[I2,ag]at h;cases h
  |none,some _,some _,ag=>simp only[I2,ag]at h;cases h
 |call c=>
  simp only[I2,ag]at h;split at h
  ·rename_i t x aq dz au;split at h
   ·rename_i h1 h2;exact⟨_,(I0 h).2,λs2 h6=>by simp only[I2,ag,aq,dz,au,aS (x:=x) (by simp[ag,Bb,Cu,aq,au]) s2 h6,h1,h2]⟩
   ·rename_i h1 h2;exact⟨_,(I0 h).2,λs2 h6=>by simp only[I2,ag,aq,dz,au,aS (x:=x) (by simp[ag,Bb,Cu,aq,au]) s2 h6,h1,h2]⟩
   ·cases h
  ·rename_i aq _ _;simp only[Q6,ag,aq]at hp;cases hp
  ·rename_i aq;exact absurd aq (lH c _ ag)
  ·cases h
 |_=>simp only[I2,ag]at h;cases h
theorem C8O(hp:Q6 E o=true)(cQ:Q3 o=false)(lH:∀c f,o.op=.call c->c.callee≠ .value (.func f)){k1:Ent Ty den->Option R}(h:M3 E o s (λe s'=>bif Ba (R1 s'.live) (R1 s.live)then k1 e else none)=some r):
  ∃e,k1 e=some r/\∀s2:St Ty den,Sees o s s2->M3 E o s2 (λe s'=>some (e,s'))=some (e,s2):=by
 unfold M3 at h;cases hc:E.rw&&Q7 E o s with
 |false=>
  rw[hc]at h;obtain⟨e,h1,h2⟩:=D0b hp cQ lH h;exact⟨e,h1,λs2 h3=>by unfold M3;rw[C4V h3,hc];exact h2 s2 h3⟩
 |true=>
  rw[hc]at h;obtain⟨e,h1,h2⟩:=D7v hp cQ lH (by rw[Aw]at hc;exact hc.2) h;exact⟨e,h1,λs2 h3=>by unfold M3;rw[C4V h3,hc];exact h2 s2 h3⟩
def C0d(E:Env Ty den)(o:Oper)(s2:St Ty den)(e:Ent Ty den):Prop:=
 M3 E o s2 (λe s'=>some (e,s'))=some (e,s2)\/
  (Q3 o=true/\∃(u:Ty)(xs:List (den u)),e=.one (.sl u xs none)/\A8 E o s2 (λe s'=>some (e,s'))=some (.one (.sl u xs (some (C6 o.dst))),s2.fresh (C6 o.dst)))\/
  ∃c f,o.op=.call c/\c.callee=.value (.func f)/\A38 E f c.argTypes.toList c.args.toList s2=some e
theorem B8f{s2:St Ty den}(h:Sees o s s2):∀(ds:Aj)(cs:List (List (Leaf Ty den))),A1W s ds=some cs->A1W s2 ds=some cs
 |[],cs,hc=>hc
 |d::ds,cs,hc=>by
  simp only[A1W]at hc;split at hc
  ·rename_i ls fN h1 h2;simp only[A1W,h.bx d ls h1,B8f h ds fN h2];exact hc
  ·cases hc
theorem D1f{c:Call}{f:Bp}{e:Ent Ty den}(ag:o.op=.call c){s2:St Ty den}(h:Sees o s s2)(he:A38 E f c.argTypes.toList c.args.toList s=some e):A38 E f c.argTypes.toList c.args.toList s2=some e:=by
 have au:Q5 E s2 c.argTypes.toList c.args.toList=Q5 E s c.argTypes.toList c.args.toList:=h.args ag _ _ (λx hx=>hx);unfold A38 at he ⊢;dsimp only at he ⊢;rw[au];split at he
 ·exact he
 ·rename_i ps js;split at he
  ·rename_i ds iC;obtain⟨hn,he⟩:=B8 he;rw[hn,Ap];split at he
   ·rename_i cs ct;rw[B8f h ds cs ct];exact he
   ·cases he
  ·cases he
theorem C1J{s2:St Ty den}(h:Sees o s s2)(ty:Ay):∀(ps:List (Nat×Az))(i:Nat),(∀p∈ps,p.2∈o.op.operands.toList)->A2r E s2 ty i ps=A2r E s ty i ps
 |[],i,_=>rfl
 |(j,x)::ps,i,cE=>by
  simp only[A2r];rw[C1J h ty ps (i+1) (λp hp=>cE p (by simp[hp])),h.opl (cE (j,x) (by simp))]
theorem B9E{s2:St Ty den}(h:Sees o s s2)(u:Ty):∀(ps:List (Nat×Az))(i:Nat),(∀p∈ps,p.2∈o.op.operands.toList)->A3Z E u s2 i ps=A3Z E u s i ps
 |[],i,_=>rfl
 |(j,x)::ps,i,cE=>by
  simp only[A3Z];rw[B9E h u ps (i+1) (λp hp=>cE p (by simp[hp])),h.opl (cE (j,x) (by simp))]
theorem C7v(hp:Q6 E o=true){k1:Ent Ty den->Option R}(h:A36 E o s k1=some r):
  ∃e,k1 e=some r/\∀s2:St Ty den,Sees o s s2->C0d E o s2 e:=by
 by_cases hb:∃t n ps,o.op=.buildSlice t n ps
 ·obtain⟨t,n,ps,ag⟩:=hb;have jy:Q3 o=true:=by simp only[Q3,ag]
  simp only[A36,ag,A8]at h;split at h
  ·rename_i u e eE;split at h
   ·rename_i u2 mR;split at h
    ·rename_i xs iH;obtain⟨hg,h⟩:=B8 h;refine⟨_,h,λs2 h2=>.inr (.inl ⟨jy,u,xs,rfl,?_⟩)⟩;have h3:=B9E (E:=E) h2 u ps.toList 0 (λp hp=>by rw[ag];simp only[Bb];simp;exact⟨p.1,by simpa using hp⟩);simp only[A8,ag,eE,mR,h3,iH,hg,Ap]
    ·cases h
   ·rename_i mR;split at h
    ·rename_i ls bc;split at h
     ·rename_i xs iH;obtain⟨hg,h⟩:=B8 h;refine⟨_,h,λs2 h2=>.inr (.inl ⟨jy,u,xs,rfl,?_⟩)⟩;have h3:=C1J (E:=E) h2 e ps.toList 0 (λp hp=>by rw[ag];simp only[Bb];simp;exact⟨p.1,by simpa using hp⟩);simp only[A8,ag,eE,h3,bc,iH,hg,Ap]
     ·cases h
    ·cases h
  ·cases h
 by_cases dS:∃x,o.op=.assign x/\Y3 x=true
 ·obtain⟨x,ag,a7⟩:=dS;simp only[A36,ag,a7,Ap]at h;split at h
  ·rename_i u l own hl;refine⟨_,h,λs2 h2=>.inr (.inl ⟨by simp only[Q3,ag,a7],u,l,rfl,?_⟩)⟩;simp only[A8,ag,a7,Ap,h2.opl (E:=E) (x:=x) (by simp[ag,Bb]),hl]
  ·cases h
 by_cases vz:∃c f,o.op=.call c/\c.callee=.value (.func f)
 ·obtain⟨c,f,ag,aq⟩:=vz;simp only[A36,ag,aq]at h;obtain⟨e,he,h⟩:=C0h E h;exact⟨e,h,λs2 h2=>.inr (.inr ⟨c,f,ag,aq,D1f ag h2 he⟩)⟩
 ·have cQ:Q3 o=false:=by
   unfold Q3;split
   ·rename_i t n ps ag;exact absurd ⟨t,n,ps,ag⟩ hb
   ·rename_i x ag;cases hn:Y3 x with
    |false=>rfl
    |true=>exact absurd ⟨x,ag,hn⟩ dS
   ·rfl
  have lH:∀c f,o.op=.call c->c.callee≠ .value (.func f):=λc f h1 h2=>vz ⟨c,f,h1,h2⟩;have h':M3 E o s (λe s'=>bif Ba (R1 s'.live) (R1 s.live)then k1 e else none)=some r:=by
   unfold A36 at h;split at h
   ·rename_i bN;simp only[Q3,bN]at cQ;cases cQ
   ·rename_i x bN;have:Y3 x=false:=by simpa only[Q3,bN]using cQ
    rw[this]at h;exact h
   ·rename_i c bN;split at h
    ·rename_i f aq;exact absurd aq (lH _ _ bN)
    ·exact h
   ·exact h
  obtain⟨e,h1,h2⟩:=C8O hp cQ lH h';exact⟨e,h1,λs2 h3=>.inl (h2 s2 h3)⟩
theorem C5W(d:Nat)(e:Ent Ty den)(h:e.has d=false):e.strip d=e:=by
 have hl:∀l:Leaf Ty den,l.has d=false->l.strip d=l:=by
  intro l hl;cases l with
  |sl t x o=>
   cases o with
   |none=>rfl
   |some c=>simp only[Leaf.has]at hl;simp only[Leaf.strip,hl,Aq]
  |ptr e o=>simp only[Leaf.has]at hl;simp only[Leaf.strip,hl,Aq]
  |_=>rfl
 cases e with
 |one l=>simp only[Ent.strip,hl l h]
 |tup ls=>
  simp only[Ent.strip]
  congr 1
  simp only[Ent.has,Fs]at h
  conv=>rhs;rw[<-El ls]
  exact Em λl hm=>hl l (by simpa using h l hm)
 |iter c p=>rfl
 |st ls=>
  simp only[Ent.strip]
  congr 1
  simp only[Ent.has,Fs]at h
  conv=>rhs;rw[<-El ls]
  exact Em λl hm=>hl l (by simpa using h l hm)
 |bx d' ls=>
  simp only[Ent.has]at h;simp only[Ent.strip];cases hb:Ba d' d with
  |true=>rw[hb]at h;cases h
  |false=>
   rw[hb]at h;simp only[Aq,Fs]at h ⊢
   congr 1
   conv=>rhs;rw[<-El ls]
   exact Em λl hm=>hl l (by simpa using h l hm)
theorem B32(d:Nat):∀(fr:List (Nat×Ent Ty den)),A1e d fr=false->∀i,(look fr i).strip d=look fr i
 |[],_,i=>rfl
 |(j,e)::r,h,i=>by
  simp only[A1e]at h;cases he:e.has d with
  |true=>rw[he]at h;cases h
  |false=>
   rw[he]at h;simp only[look];cases Ba j i with
   |true=>exact C5W d e he
   |false=>exact B32 d r h i
theorem B0U{s:St Ty den}:∀{os:List Oper},A3b s os=true->∀o∈os,Q3 o=true->∀i,(s.get i).strip (C6 o.dst)=s.get i
 |[],_,o,ho=>by cases ho
 |x::os,h,o,ho=>by
  intro jy i;simp only[A3b]at h;rcases Bg.1 ho with rfl|ho
  ·rw[jy]at h;simp only[Ap,Aw,Bw]at h;exact B32 _ _ h.1 i
  ·cases hx:Q3 x with
   |true=>rw[hx]at h;simp only[Ap,Aw]at h;exact B0U h.2 o ho jy i
   |false=>rw[hx]at h;exact B0U h o ho jy i
theorem D1B(fr:List (Nat×Ent Ty den))(ds:Aj)(i:Nat):look (del fr ds) i=bif mem i ds then .one .any else look fr i:=by
 induction fr with
 |nil=>simp only[del,look];cases mem i ds<;>rfl
 |cons p fr ih=>
  obtain⟨j,x⟩:=p;simp only[del,look];cases hj:mem j ds with
  |true=>
   simp only[Ap];rw[ih];cases hb:Ba j i with
   |true=>
    have:=Cs hb;subst this;rw[hj];rfl
   |false=>rfl
  |false=>
   simp only[Aq,look];cases hb:Ba j i with
   |true=>
    have:=Cs hb;subst this;rw[hj];rfl
   |false=>simp only[Aq];exact ih
theorem A0c(s:St Ty den)(ds:Aj)(i:Nat):(s.dels ds).get i=bif mem i ds then .one .any else s.get i:=D1B s.fr ds i
theorem T5(s:St Ty den)(d:Ak)(e:Ent Ty den)(i:Nat):(s.setO d e).get i=if d=some i then e else s.get i:=by
 cases d with
 |none=>rfl
 |some j=>simp only[St.setO,K5,Bi]
def Gd(ops:Array Oper)(s:St Ty den)(o:Oper)(w:Bool):Prop:=
 match o.guard with
 |none=>w=true
 |some (j,aM)=>∃g,(ops[j]?).bind (·.dst)=some g/\((∃b,s.get g=.one (.bool b)/\w=(b==aM))\/(w=false/\∃v,s.get g=.one (.val v)/\A4O v=true))
structure Ran(E:Env Ty den)(ops:Array Oper)(s:St Ty den)(o:Oper):Prop where
 dst:okd E.np E.nt o.dst=true
 ran:(O8 o.op=false/\((Gd ops s o true/\∃e,(∀d,o.dst=some d->s.get d=e)/\∀s2:St Ty den,Sees o s s2->C0d E o s2 e)\/
  (Gd ops s o false/\∀d,o.dst=some d->s.get d=.one (.val undef))))\/(O8 o.op=true/\o.guard=none)
theorem A7X(h:Q6 E o=true):O8 o.op=false:=by
 unfold Q6 at h;unfold O8;split
 ·rename_i t he;rw[he]at h;cases h
 ·rfl
def F5:List Oper->Aj
 |[]=>[]
 |o::r=>match o.dst with
  |some d=>d::F5 r
  |none=>F5 r
def B46(ops:Array Oper):List Oper->Prop
 |[]=>True
 |o::r=>(∀t∈o.looksAt ops,mem t (F5 (o::r))=false)/\(∀d,o.dst=some d->mem d (F5 r)=false)/\B46 ops r
theorem D2V{s:St Ty den}{d:Ak}{e:Ent Ty den}{i:Nat}(h:d≠some i):(s.setO d e).get i=s.get i:=by rw[T5,At h]
theorem A72{o:Oper}{r:List Oper}{d:Nat}(h:o.dst=some d):mem d (F5 (o::r))=true:=by
 simp only[F5,h,mem,H3,Ap]
theorem A8b{o:Oper}{r:List Oper}{d:Nat}(h:mem d (F5 r)=true):mem d (F5 (o::r))=true:=by
 simp only[F5];cases o.dst with
 |none=>exact h
 |some e=>simp only[mem];cases Ba e d<;>simp[h]
theorem A01(s:St Ty den)(d:Ak)(e:Ent Ty den):(s.setO d e).live=s.live:=by cases d<;>rfl
theorem B97{ops:Array Oper}{o:Oper}{t:Nat}(h:Gp t∈o.op.operands.toList):t∈o.looksAt ops:=
 Ek _ (List.mem_filterMap.2 ⟨.tmp t,h,rfl⟩)
theorem C12{ops:Array Oper}{o:Oper}{j g:Nat}{aM:Bool}(hg:o.guard=some (j,aM))(hd:(ops[j]?).bind (·.dst)=some g):g∈o.looksAt ops:=
 Fl _ (by simp[hg,hd])
theorem C13{os:List Oper}{i:Nat}(h:mem i (F5 os)=true):∃o∈os,o.dst=some i:=by
 induction os with
 |nil=>cases h
 |cons o os ih=>
  simp only[F5]at h;split at h
  ·rename_i d hd;rw[mem_cons]at h;rcases h with rfl|h
   ·exact⟨o,by simp,hd⟩
   ·obtain⟨x,hx,jT⟩:=ih h;exact⟨x,by simp[hx],jT⟩
  ·obtain⟨x,hx,jT⟩:=ih h;exact⟨x,by simp[hx],jT⟩
theorem B1c{s s2:St Ty den}{d:Nat}(h:s2.get (bxi d)=s.get (bxi d)):O6 s2 d=O6 s d:=by unfold O6;rw[h]
theorem B8u(ops:Array Oper){pre:List Oper}(fe:pre=ops.toList.take (W5 E ops.toList))(jU:∀o∈pre,A0X E o=true)(bM:∀o∈pre,∀d,o.dst=some d->d<1000000):∀(os:List Oper)(s:St Ty den)(k:St Ty den->Option R),(∀o∈os,o∈pre)->B46 ops os->A0k E ops os s k=some r->
  ∃sF:St Ty den,(k sF=some r/\A3b sF pre=true)/\sF.live=s.live/\(∀i,mem i (F5 os)=false->sF.get i=s.get i)/\∀o∈os,Ran E ops sF o
 |[],s,k,_,_,h=>by
  simp only[A0k]at h;obtain⟨hn,h⟩:=B8 h;exact⟨s,⟨h,by rw[fe];exact hn⟩,rfl,λ_ _=>rfl,λ_ ho=>by(cases ho)⟩
 |o::os,s,k,cE,⟨l8,sS,xi⟩,h=>by
  simp only[A0k]at h;obtain⟨hd,h⟩:=B8 h;have jV:=λ(s1:St Ty den)(h1:A0k E ops os s1 k=some r)=>B8u ops fe jU bM os s1 k (λx hx=>cE x (by simp[hx])) xi h1;have nu:∀(s1 sF:St Ty den)(e:Ent Ty den),s1.live=s.live->(∀i,s1.get i=s.get i)->sF.live=(s1.setO o.dst e).live->(∀i,mem i (F5 os)=false->sF.get i=(s1.setO o.dst e).get i)->
    sF.live=s.live/\(∀i,mem i (F5 (o::os))=false->sF.get i=s.get i)/\(∀d,o.dst=some d->sF.get d=e):=by
   intro s1 sF e hl hg xj vA;refine⟨by rw[xj,A01,hl],λi hi=>?_,λd dM=>?_⟩
   ·have h1:mem i (F5 os)=false:=by
     cases h2:mem i (F5 os)with
     |false=>rfl
     |true=>rw[A8b h2]at hi;cases hi
    have h2:o.dst≠some i:=λhe=>by rw[A72 he]at hi;cases hi
    rw[vA i h1,D2V h2,hg]
   ·rw[vA d (sS d dM),T5,Au dM]
  have sT:∀{sF:St Ty den},sF.live=s.live->(∀i,mem i (F5 (o::os))=false->sF.get i=s.get i)->∀s2,Sees o sF s2->Sees o s s2:=λhl hg s2 h2=>
   ⟨λt ht=>(h2.tmp t ht).trans (hg t (l8 t (B97 ht))),λd ls bc=>h2.bx d ls ((B1c (hg (bxi d) (by
    cases hm:mem (bxi d) (F5 (o::os))with
    |false=>rfl
    |true=>
     obtain⟨x,hx,jT⟩:=C13 hm;have:=bM x (cE x hx) _ jT;exact absurd this (by show¬((1000000+d:Nat)<1000000);omega)))).trans bc)⟩
  have cL:∀(s1:St Ty den),s1.live=s.live->(∀i,s1.get i=s.get i)->Q6 E o=true->A36 E o s (λe=>A0k E ops os (s1.setO o.dst e) k)=some r->(∀sF:St Ty den,sF.live=s.live->(∀i,mem i (F5 (o::os))=false->sF.get i=s.get i)->Gd ops sF o true)->
    ∃sF:St Ty den,(k sF=some r/\A3b sF pre=true)/\sF.live=s.live/\(∀i,mem i (F5 (o::os))=false->sF.get i=s.get i)/\∀x∈o::os,Ran E ops sF x:=by
   intro s1 hl hg kX he jv;obtain⟨e,hk,er⟩:=C7v kX (k1:=λe=>A0k E ops os (s1.setO o.dst e) k) he;obtain⟨sF,h1,h2,h3,h4⟩:=jV _ hk;obtain⟨b1,b2,b3⟩:=nu s1 sF e hl hg h2 h3;refine⟨sF,h1,b1,b2,λx hx=>?_⟩;rcases Bg.1 hx with rfl|hx
   ·exact⟨hd,.inl ⟨A7X kX,.inl ⟨jv sF b1 b2,e,b3,λs2 h5=>er s2 (sT b1 b2 s2 h5)⟩⟩⟩
   ·exact h4 x hx
  have skip:∀(s1:St Ty den),s1.live=s.live->(∀i,s1.get i=s.get i)->Q6 E o=true->A0k E ops os (s1.setO o.dst (.one (.val undef))) k=some r->(∀sF:St Ty den,sF.live=s.live->(∀i,mem i (F5 (o::os))=false->sF.get i=s.get i)->Gd ops sF o false)->
    ∃sF:St Ty den,(k sF=some r/\A3b sF pre=true)/\sF.live=s.live/\(∀i,mem i (F5 (o::os))=false->sF.get i=s.get i)/\∀x∈o::os,Ran E ops sF x:=by
   intro s1 hl hg kX he jv;obtain⟨sF,h1,h2,h3,h4⟩:=jV _ he;obtain⟨b1,b2,b3⟩:=nu s1 sF _ hl hg h2 h3;refine⟨sF,h1,b1,b2,λx hx=>?_⟩;rcases Bg.1 hx with rfl|hx
   ·exact⟨hd,.inl ⟨A7X kX,.inr ⟨jv sF b1 b2,b3⟩⟩⟩
   ·exact h4 x hx
  cases hg:o.guard with
  |none=>
   rw[hg]at h;dsimp only at h;have dT:=jU o (cE o (by simp));cases eJ:O8 o.op with
   |true=>
    rw[eJ]at h;obtain⟨sF,h1,h2,h3,h4⟩:=jV _ h;obtain⟨b1,b2,b3⟩:=nu s sF _ rfl (λ_=>rfl) h2 h3;refine⟨sF,h1,b1,b2,λx hx=>?_⟩;rcases Bg.1 hx with rfl|hx
    ·exact⟨hd,.inr ⟨eJ,hg⟩⟩
    ·exact h4 x hx
   |false=>
    rw[eJ]at h;have kX:Q6 E o=true:=by simpa [A0X,A6I,eJ]using dT
    exact cL s rfl (λ_=>rfl) kX h (λsF _ _=>by simp[Gd,hg])
  |some jw=>
   obtain⟨j,aM⟩:=jw;rw[hg]at h;dsimp only at h;cases hj:(ops[j]?).bind (·.dst)with
   |none=>rw[hj]at h;cases h
   |some gd=>
    rw[hj]at h;dsimp only at h;have eK:=l8 gd (C12 hg hj);have kX:Q6 E o=true:=by
     have:=jU o (cE o (by simp));simpa [A0X,A6I,hg]using this
    split at h
    ·rename_i b lG;have cz:∀c:Bool,b=c->∀i,(s.set gd (.one (.bool c))).get i=s.get i:=λc hc i=>by
      rw[K5];split
      ·rename_i he;subst he;rw[lG,hc]
      ·rfl
     cases gN:(b==aM)with
     |true=>
      rw[gN]at h;exact cL _ (by rfl) (cz aM (by simpa using gN)) kX h (λsF _ px=>by
       simp only[Gd,hg];exact⟨gd,hj,.inl ⟨b,by rw[px gd eK,lG],gN.symm⟩⟩)
     |false=>
      rw[gN]at h;exact skip _ (by rfl) (cz _ (by cases b<;>cases aM<;>simp_all)) kX h (λsF _ px=>by
       simp only[Gd,hg];exact⟨gd,hj,.inl ⟨b,by rw[px gd eK,lG],gN.symm⟩⟩)
    ·rename_i v pw;obtain⟨cQ,h⟩:=B8 h;exact skip s rfl (λ_=>rfl) kX h (λsF _ px=>by
       simp only[Gd,hg];exact⟨gd,hj,.inr ⟨trivial,v,by rw[px gd eK,pw],cQ⟩⟩)
    ·cases h
def J0(listed:Array Bool):List (Nat×Nat)->Aj
 |[]=>[]
 |(d,j)::r=>bif listed.getD j false then J0 listed r else d::J0 listed r
theorem A0U{listed:Array Bool}{t:Nat}:∀{ps:List (Nat×Nat)},mem t (J0 listed ps)=true↔∃j,(t,j)∈ps/\listed.getD j false=false
 |[]=>by simp[J0,mem]
 |(d,j)::r=>by
  simp only[J0];have ih:=A0U (listed:=listed) (t:=t) (ps:=r);cases hl:listed.getD j false with
  |true=>
   simp only[Ap,ih,Bg,Bo];constructor
   ·rintro⟨m,h1,h2⟩;exact⟨m,.inr h1,h2⟩
   ·rintro⟨m,h1|h1,h2⟩
    ·rw[h1.2,hl]at h2;cases h2
    ·exact⟨m,h1,h2⟩
  |false=>
   simp only[Aq,mem_cons,ih,Bg,Bo];constructor
   ·rintro(h1|⟨m,h1,h2⟩)
    ·exact⟨j,.inl ⟨by rw[h1],rfl⟩,hl⟩
    ·exact⟨m,.inr h1,h2⟩
   ·rintro⟨m,h1|h1,h2⟩
    ·exact .inl (by rw[h1.1])
    ·exact .inr ⟨m,h1,h2⟩
theorem A2X{d j:Nat}:∀{os:List Oper}{i:Nat},(d,j)∈G5 i os↔i<=j/\∃o,os[j - i]?=some o/\o.dst=some d
 |[],i=>by simp[G5]
 |o::os,i=>by
  have ih:=A2X (d:=d) (j:=j) (os:=os) (i:=i+1);have ny:(i<=j/\∃x,(o::os)[j - i]?=some x/\x.dst=some d)↔((j=i/\o.dst=some d)\/(i+1<=j/\∃x,os[j - (i+1)]?=some x/\x.dst=some d)):=by
   rcases Eg j i with h|h|h
   ·constructor
    ·rintro⟨h1,_⟩;omega
    ·rintro(⟨h1,_⟩|⟨h1,_⟩)<;>omega
   ·subst h;simp;intro h;omega
   ·have e:j - i=(j - (i+1))+1:=by omega
    rw[e];simp only[Ha];constructor
    ·rintro⟨_,h2⟩;exact .inr ⟨h,h2⟩
    ·rintro(⟨h1,_⟩|⟨_,h2⟩)
     ·omega
     ·exact⟨by omega,h2⟩
  rw[ny];cases hd:o.dst with
  |none=>simp only[G5,hd,ih];simp
  |some e=>
   simp only[G5,hd,Bg,Bo,ih,Bi];constructor
   ·rintro(⟨h1,h2⟩|h)
    ·exact .inl ⟨h2,h1.symm⟩
    ·exact .inr h
   ·rintro(⟨h1,h2⟩|h)
    ·exact .inl ⟨h2.symm,h1⟩
    ·exact .inr h
theorem B0p:∀(os:List Oper)(i:Nat),(G5 i os).map (·.1)=F5 os
 |[],i=>rfl
 |o::os,i=>by
  simp only[G5,F5];cases o.dst with
  |none=>exact B0p os (i+1)
  |some d=>simp only[Gv,B0p os (i+1)]
structure B1n(E:Env Ty den)(ops:Array Oper)(m:Nat)(i:Nat)(o:Oper):Prop where
 pure:A0X E o=true
 low:∀t∈o.looksAt ops,t<1000000
 after:∀e∈o.after,e.on<i\/(gcE e=true/\e.on<m/\∃o',ops[e.on]?=some o'/\∀e'∈o'.after,txE e'=true)
 bound:∀t∈o.looksAt ops,∀j,(t,j)∈G5 0 (ops.toList.take m)->A7c o j=true
theorem C3V{ops:Array Oper}{m:Nat}{ps:List (Nat×Nat)}(fa:ps=G5 0 (ops.toList.take m)):∀{os:List Oper}{i:Nat},A8L E ops m ps i os=true->∀j o,os[j]?=some o->B1n E ops m (i+j) o
 |[],i,_,j,o,h=>by simp at h
 |x::os,i,h,0,o,ho=>by
  simp only[A8L,Aw]at h;simp only[List.getElem?_cons_zero,Bi]at ho;subst ho;have h1:=h.1;simp only[C0w,Aw,Ft]at h1;obtain⟨h1,h2,h3⟩:=h1;refine⟨h1,λt ht=>by simpa [Bh]using (h3 t ht).1,λe he=>?_,λt ht j hj=>?_⟩
  ·have:=h2 e (by simpa using he);simp only[B7y,Es,Aw,Bh]at this;refine this.imp id λh5=>⟨h5.1,h5.2.1,?_⟩;have h6:=h5.2.2;split at h6
   ·rename_i o' fX;exact⟨o',fX,λe' lr=>Ft.1 h6 e' (by simpa using lr)⟩
   ·cases h6
  ·have h4:=(h3 t ht).2 (t,j) (by rw[fa];exact hj);simpa [H3]using h4
 |x::os,i,h,j+1,o,ho=>by
  simp only[A8L,Aw]at h;have:=C3V fa h.2 j o (by simpa using ho);rwa [Gr,Nat.add_comm 1 j]at this
theorem B2b{o:Oper}{j:Nat}(h:A7c o j=true)(md:Cz):∃e∈o.after,e.on=j/\Ce md e=true:=by
 unfold A7c at h;obtain⟨e,he,h1⟩:=Dv.1 h;simp only[Aw]at h1;refine⟨e,by simpa using he,Cs h1.1,?_⟩;unfold Ce;have h2:=h1.2;split at h2<;>first|cases h2;done|skip
 split<;>first|rfl|(rename_i h3 _ _ h4;simp_all)
theorem B0x:∀{l:Aj},Y2 l=true->∀x r,l=x::r->mem x r=false/\Y2 r=true
 |[],_,x,r,h=>by cases h
 |y::l,h,x,r,he=>by
  cases he;simpa [Y2]using h
theorem C22{ops:Array Oper}{m:Nat}(gf:∀j o,(ops.toList.take m)[j]?=some o->B1n E ops m j o):∀(os:List Oper)(i:Nat),(∀j o,os[j]?=some o->(ops.toList.take m)[i+j]?=some o)->Y2 (F5 os)=true->B46 ops os
 |[],i,_,_=>trivial
 |o::os,i,cE,hn=>by
  have ho:=gf i o (cE 0 o rfl);refine⟨λt ht=>?_,λd hd=>?_,C22 gf os (i+1) (λj x hx=>by have:=cE (j+1) x (by simpa using hx);rwa [<-Gr,Nat.add_right_comm]at this) ?_⟩
  ·cases hm:mem t (F5 (o::os))with
   |false=>rfl
   |true=>
    exfalso;have fk:∀(l:List Oper),mem t (F5 l)=true->∃(j:Nat)(x:Oper),l[j]?=some x/\x.dst=some t:=by
     intro l
     induction l with
     |nil=>intro h;simp[F5,mem]at h
     |cons y l ih=>
      intro h;simp only[F5]at h;cases hy:y.dst with
      |none=>rw[hy]at h;obtain⟨j,x,h1,h2⟩:=ih h;exact⟨j+1,x,by simpa using h1,h2⟩
      |some d=>
       rw[hy]at h;rcases (mem_cons _ _ _).1 h with h1|h1
       ·exact⟨0,y,rfl,by rw[hy,h1]⟩
       ·obtain⟨j,x,h2,h3⟩:=ih h1;exact⟨j+1,x,by simpa using h2,h3⟩
    obtain⟨j,x,hx,jT⟩:=fk _ hm;have h1:=cE j x hx;have h2:=ho.bound t ht (i+j) (A2X.2 ⟨Cc _,x,by(rw[Dh];exact h1),jT⟩);obtain⟨e,he,dN,hb⟩:=B2b h2 .any;rcases ho.after e he with h3|⟨h3,_⟩
    ·omega
    ·unfold gcE at h3;unfold Ce at hb;split at h3
     ·rename_i bN;rw[bN]at hb;cases hb
     ·cases h3
  ·simp only[F5,hd]at hn;exact(B0x hn _ _ rfl).1
  ·simp only[F5]at hn;cases hd:o.dst with
   |none=>rw[hd]at hn;exact hn
   |some d=>rw[hd]at hn;exact(B0x hn _ _ rfl).2
theorem B1p{l:List Bool}:∀{i:Nat},l[i]?=some false->(l.set i true).count false+1=l.count false:=by
 induction l with
 |nil=>intro i h;simp at h
 |cons x l ih=>
  intro i h;cases i with
  |zero=>simp at h;subst h;simp
  |succ i=>
   have:=ih (i:=i) (by simpa using h);simp only[List.set_cons_succ,List.count_cons];omega
theorem A9V{ops:Array Oper}{o:Oper}{s:St Ty den}{gh:Gh}(hr:Rel E.U B gh s a w){b:Bool}(hg:Gd ops s o b):Cb o (Ch ops a.tmps)=b:=by
 unfold Gd at hg;unfold Cb;cases ho:o.guard with
 |none=>rw[ho]at hg;exact hg.symm
 |some jw=>
  obtain⟨j,aM⟩:=jw;rw[ho]at hg;dsimp only at hg ⊢;obtain⟨gd,hj,hc⟩:=hg;have aK:=hr.ent gd;unfold Ch;rw[hj];simp only[Gn];rcases hc with⟨c,hc,rfl⟩|⟨rfl,v,hv,cQ⟩
  ·rw[hc]at aK;have bh:a.tmps.getD gd undef=.bool c:=CRep.bool_inv aK.1;rw[Bm]at bh;cases je:a.tmps[gd]? with
   |none=>rw[je]at bh;cases bh
   |some u=>
    rw[je]at bh;simp at bh;subst bh;cases c<;>cases aM<;>rfl
  ·rw[hv]at aK;have bh:a.tmps.getD gd undef=v:=by
    have h1:=aK.1;cases h1;rfl
   rw[Bm]at bh;cases je:a.tmps[gd]? with
   |none=>rfl
   |some u=>
    rw[je]at bh;simp at bh;subst bh;cases u<;>first|rfl|(simp[A4O]at cQ;done)|(cases aM<;>rfl)
theorem REL.unname{U:UO Ty den}{s:St Ty den}{d:Ak}{nm:Nat}{u:Ty}{xs:List (den u)}{a:Act}{w:World}(h:REL U B ((s.fresh nm).setO d (.one (.sl u xs (some nm)))) a w)(cY:∀i,(s.get i).strip nm=s.get i):
  REL U B (s.setO d (.one (.sl u xs none))) a w:=by
 obtain⟨g,h⟩:=h;have hg:∀i,d≠some i->((s.fresh nm).setO d (.one (.sl u xs (some nm)))).get i=s.get i:=λi hi=>by
  rw[T5,At hi,A3I,cY]
 have aw:∀e,mem e (s.setO d (.one (.sl u xs none))).live=true->mem e ((s.fresh nm).setO d (.one (.sl u xs (some nm)))).live=true:=λe he=>by
  rw[A01]at he ⊢;show mem e (nm::rem nm s.live)=true;by_cases av:nm=e
  ·exact(mem_cons _ _ _).2 (.inl av)
  ·exact(mem_cons _ _ _).2 (.inr ((O1 nm e s.live).2 ⟨he,λh=>av h.symm⟩))
 refine⟨g,{h with ent:=λi=>?_,tip:=λe he=>h.tip e (aw e he),disj:=λe f b he hf=>h.disj e f b (aw e he) (aw f hf),mine:=λe b he=>h.mine e b (aw e he),iter:=λi c pos hc=>?_,idis:=λi j c p c' p' cn h1 h2=>?_,bxl:=λi e ls hc=>?_}⟩
 ·have h1:=h.ent i;by_cases hi:d=some i
  ·rw[T5,Au hi]at h1 ⊢;exact⟨h1.1.own none,λ_ _ _ e=>by(simp at e),λ_ _ e=>by(cases e)⟩
  ·rw[hg i hi]at h1;rw[T5,At hi];exact h1
 ·by_cases hi:d=some i
  ·rw[T5,Au hi]at hc;cases hc
  ·rw[T5,At hi]at hc;exact h.iter i c pos (by rw[hg i hi];exact hc)
 ·by_cases hi:d=some i
  ·rw[T5,Au hi]at h1;cases h1
  ·by_cases hj:d=some j
   ·rw[T5,Au hj]at h2;cases h2
   ·rw[T5,At hi]at h1;rw[T5,At hj]at h2;exact h.idis i j c p c' p' cn (by rw[hg i hi];exact h1) (by rw[hg j hj];exact h2)
 ·by_cases hi:d=some i
  ·rw[T5,Au hi]at hc;cases hc
  ·rw[T5,At hi]at hc;obtain⟨h1,h2⟩:=h.bxl i e ls (by rw[hg i hi];exact hc);refine⟨?_,h2⟩;rw[A01]at h1 ⊢;rcases (mem_cons _ _ _).1 h1 with h3|h3
   ·exfalso;have:=cY i;rw[hc, <-h3]at this;simp only[Ent.strip,H3,Ap]at this;cases this
   ·exact((O1 nm e s.live).1 h3).1
theorem A2M{i:Nat}{zs:List (Leaf Ty den)}{s:St Ty den}(j:Nat):(T2 i zs s).get j=if i=j then .one (.ptr (C6 (some i)) 0)else if bxi (C6 (some i))=j then .bx (C6 (some i)) zs else(s.get j).strip (C6 (some i)):=by
 unfold T2;rw[K5,K5,A3I]
structure D1P(P:Bf)(E:Env Ty den)(ops:Array Oper)(m:Nat)(sF:St Ty den)(ia i:Nat)(t:Ay)(zs:List (Leaf Ty den)):Prop where
 op:∃o,ops.toList[ia]?=some o/\o.op=.alloc t/\o.dst=some i/\o.guard=none
 lt:ia<m
 zr:E.zr t=some zs
 pos:0<zs.length
 oz:E.oz i=false
 closed:A1L zs=true
 no:∀j,(sF.get j).strip (C6 (some i))=sF.get j
 low:i<1000000
 one:∀j o,j<m->ops.toList[j]?=some o->O8 o.op=true->j=ia
 look:∀j o,j<m->ops.toList[j]?=some o->mem i (o.looksAt ops)=false
def stL(al:Option (Nat×Nat×List (Leaf Ty den)))(listed:Array Bool)(X:St Ty den):St Ty den:=match al with
 |none=>X
 |some (ia,i,zs)=>bif listed.getD ia false then T2 i zs X else X
def C40(P:Bf)(E:Env Ty den)(ops:Array Oper)(m:Nat)(sF:St Ty den)(al:Option (Nat×Nat×List (Leaf Ty den))):Prop:=match al with
 |none=>∀j o,j<m->ops.toList[j]?=some o->O8 o.op=false
 |some (ia,i,zs)=>∃t,D1P P E ops m sF ia i t zs
theorem D4V{e:Edge}(h:B1B e=true)(md:Cz):Ce md e=true:=by
 unfold B1B at h;unfold Ce;split at h<;>first|cases h;done|skip
 split<;>first|rfl|(rename_i h3 _ _ h4;simp_all)
def DC(md:Cz)(ops:Array Oper)(listed:Array Bool):Prop:=∀i o,listed.getD i false=true->ops[i]?=some o->∀e∈o.after,Ce md e=true->listed.getD e.on false=true
theorem B3e{md:Cz}{listed:Array Bool}(cl:List Aj)(ck:∀(k:Nat) c,cl[k]?=some c->listed.getD k false=true->∀j,mem j c=true->listed.getD j false=true):
  ∀(es:List Edge),(∀e∈es,Ce md e=true->listed.getD e.on false=true)->∀j,mem j (A4G cl es)=true->listed.getD j false=true
 |[],_,j,h=>by cases h
 |e::es,he,j,h=>by
  have ih:=B3e cl ck es (λe' h'=>he e' (by simp[h']));simp only[A4G]at h;cases hb:B1B e with
  |false=>rw[hb]at h;exact ih j h
  |true=>
   rw[hb]at h;simp only[Ap]at h;have h1:=he e (by simp) (D4V hb md);rcases (mem_cons _ _ _).1 h with rfl|h
   ·exact h1
   ·have nz:∀(x y:Aj),mem j (x++y)=true->mem j x=true\/mem j y=true:=by
     intro x y
     induction x with
     |nil=>exact λh=>.inr h
     |cons z x py=>
      intro h;rcases (mem_cons _ _ _).1 h with rfl|h
      ·exact .inl ((mem_cons _ _ _).2 (.inl rfl))
      ·exact(py h).imp (λh=>(mem_cons _ _ _).2 (.inr h)) id
    rcases nz _ _ h with h|h
    ·cases hg:cl[e.on]? with
     |none=>rw[Ck,hg]at h;cases h
     |some c=>
      rw[Ck,hg]at h;exact ck e.on c hg h1 j h
    ·exact ih j h
theorem B9M{fl l:Aj}:∀{n:Nat},B0c fl n l=true->∀j,j<n->mem j fl=false->mem j l=true
 |0,_,j,h,_=>by omega
 |n+1,h,j,hj,hf=>by
  simp only[B0c,Aw,Es]at h;by_cases vB:j=n
  ·subst vB;rcases h.1 with h|h
   ·exact h
   ·rw[hf]at h;cases h
  ·exact B9M h.2 j (by omega) hf
theorem B9s{md:Cz}{ops:Array Oper}{m:Nat}{fl:Aj}:∀(os:List Oper)(i:Nat)(cl:List Aj),cl.length=i->(∀j o,os[j]?=some o->ops.toList[i+j]?=some o)->B0h fl m i os cl=true->
  (∀(listed:Array Bool),DC md ops listed->∀(k:Nat) c,cl[k]?=some c->listed.getD k false=true->∀j,mem j c=true->listed.getD j false=true)->
  ∀(k:Nat) o,os[k]?=some o->(∀e∈o.after,e.on<i+k\/e.on<m)/\(m<=i+k->∀listed:Array Bool,DC md ops listed->(∀e∈o.after,Ce md e=true->listed.getD e.on false=true)->∀j,j<i+k->mem j fl=false->listed.getD j false=true)
 |[],i,cl,_,_,_,_,k,o,h=>by simp at h
 |x::os,i,cl,hl,cE,ht,ck,k,o,h=>by
  simp only[B0h,Aw,Ft]at ht;obtain⟨h1,h2,h3⟩:=ht;cases k with
  |zero=>
   simp at h;subst h;refine⟨λe he=>by have:=h1 e (by simpa using he);simp only[Es,Aw,Bh]at this;exact this.imp id (·.2),λhm listed jW eJ j hj sU=>?_⟩;simp only[Fi]at hm hj;have hb:Bu i m=false:=by
    cases hb:Bu i m with
    |false=>rfl
    |true=>
     have:i<m:=by simpa [Bh]using hb
     omega
   rw[hb]at h2;simp only[Ga]at h2;exact B3e cl (ck listed jW) _ (λe he=>eJ e (by simpa using he)) j (B9M h2 j hj sU)
  |succ k=>
   have:=B9s os (i+1) (cl++[A4G cl x.after.toList]) (by simp[hl]) (λj o hj=>by have:=cE (j+1) o (by simpa using hj);rwa [show i+(j+1)=i+1+j by omega]at this) h3 (λlisted jW k' c hc gM j hj=>by
    rw[List.getElem?_append]at hc;split at hc
    ·exact ck listed jW k' c hc gM j hj
    ·rename_i zt;have jf:k'=i:=by
      have:=I7 hc;simp at this;omega
     subst jf;simp[hl]at hc;subst hc;have hx:=cE 0 x rfl;rw[Fi]at hx;have du:ops[k']?=some x:=by simpa using hx
     exact B3e cl (ck listed jW) _ (λe he hb=>jW k' x gM du e (by simpa using he) hb) j hj) k o (by simpa using h)
   rw[show i+(k+1)=i+1+k by omega];exact this
theorem C7S{al:Option (Nat×Nat×List (Leaf Ty den))}{listed:Array Bool}{X Y:St Ty den}(h:X.live=Y.live):(stL al listed X).live=(stL al listed Y).live:=by
 cases al with
 |none=>exact h
 |some p=>
  obtain⟨ia,i,zs⟩:=p;simp only[stL];cases listed.getD ia false with
  |false=>exact h
  |true=>simp only[Ap,T2,St.set,St.fresh,h]
theorem C2I{U:UO Ty den}{al:Option (Nat×Nat×List (Leaf Ty den))}{listed:Array Bool}{X Y:St Ty den}(hr:REL U B (stL al listed X) a w)(hl:X.live=Y.live)(h:∀i,Y.get i=.one .any\/Y.get i=X.get i):REL U B (stL al listed Y) a w:=by
 obtain⟨g,hr⟩:=hr;have kV:=C7S (al:=al) (listed:=listed) hl;refine⟨g,hr.weaken (λj=>?_) (λd hd=>by rw[kV];exact hd) (λ_ d _ _ hd=>by rw[<-kV];exact hd)⟩;cases al with
 |none=>exact h j
 |some p=>
  obtain⟨ia,i,zs⟩:=p;simp only[stL];cases listed.getD ia false with
  |false=>exact h j
  |true=>
   simp only[Ap];rw[A2M,A2M];split
   ·exact .inr rfl
   ·split
    ·exact .inr rfl
    ·rcases h j with h1|h1
     ·left;rw[h1];rfl
     ·right;rw[h1]
theorem B9v{os:List Oper}(hn:Y2 (F5 os)=true):∀{i j d:Nat}{x y:Oper},os[i]?=some x->os[j]?=some y->x.dst=some d->y.dst=some d->i=j:=by
 induction os with
 |nil=>intro i j d x y h;simp at h
 |cons o os ih=>
  have mS:Y2 (F5 os)=true:=by
   simp only[F5]at hn;cases hd:o.dst with
   |none=>rw[hd]at hn;exact hn
   |some d=>rw[hd]at hn;exact(B0x hn _ _ rfl).2
  have mo:∀d,o.dst=some d->∀(j:Nat) y,os[j]?=some y->y.dst≠some d:=λd hd j y hy nA=>by
   simp only[F5,hd]at hn;have h1:=(B0x hn _ _ rfl).1;have h2:∀(l:List Oper)(j:Nat),l[j]?=some y->mem d (F5 l)=true:=by
    intro l
    induction l with
    |nil=>intro j h;simp at h
    |cons z l sV=>
     intro j h;cases j with
     |zero=>simp at h;subst h;exact A72 nA
     |succ j=>exact A8b (sV j (by simpa using h))
   rw[h2 os j hy]at h1;cases h1
  intro i j d x y hx hy jT nA;cases i with
  |zero=>
   simp at hx;subst hx;cases j with
   |zero=>rfl
   |succ j=>exact absurd nA (mo d jT j y (by simpa using hy))
  |succ i=>
   cases j with
   |zero=>simp at hy;subst hy;exact absurd jT (mo d nA i x (by simpa using hx))
   |succ j=>rw[ih mS (i:=i) (j:=j) (by simpa using hx) (by simpa using hy) jT nA]
theorem C5G(hE:Z4 P E B){ops:Array Oper}{md:Cz}{Q:Exit->Act->World->Prop}{m:Nat}(hm:m<=ops.size){sF:St Ty den}{al:Option (Nat×Nat×List (Leaf Ty den))}
  (gf:∀j o,(ops.toList.take m)[j]?=some o->B1n E ops m j o)(lJ:∀o∈ops.toList.take m,Ran E ops sF o)(cY:A3b sF (ops.toList.take m)=true)(ly:Y2 (F5 ops.toList)=true)
  (bM:∀o∈ops.toList,∀d,o.dst=some d->d<1000000)(eJ:C40 P E ops m sF al)
  {fl:Aj}(fb:∀(k:Nat) o,ops.toList[k]?=some o->(∀e∈o.after,e.on<k\/e.on<m)/\(m<=k->∀listed:Array Bool,DC md ops listed->(∀e∈o.after,Ce md e=true->listed.getD e.on false=true)->∀j,j<k->mem j fl=false->listed.getD j false=true))
  (hT:∀(fuel:Nat)(listed:Array Bool)(a:Act)(w:World),listed.size=ops.size->listed.toList.count false<=fuel->(∀j,listed.getD j false=true↔j<m)->REL E.U B (stL al listed sF) a w->a.tmps.size=E.nt->wpAny P md ops Q fuel listed a w):
  ∀(fuel:Nat)(listed:Array Bool)(a:Act)(w:World),listed.size=ops.size->listed.toList.count false<=fuel->DC md ops listed->(∀j,listed.getD j false=true->j<m)->(∀j,j<m->mem j fl=true->listed.getD j false=true)->REL E.U B (stL al listed (sF.dels (J0 listed (G5 0 (ops.toList.take m))))) a w->a.tmps.size=E.nt->
   wpAny P md ops Q fuel listed a w:=by
 have aL:∀{i:Nat}{o:Oper},ops[i]?=some o->ops.toList[i]?=some o:=λh=>by simpa using h
 have iN:∀{i:Nat}{o:Oper},i<m->ops[i]?=some o->(ops.toList.take m)[i]?=some o:=λhi h=>by rw[Cq,Au hi];exact aL h
 have nB:∀{listed:Array Bool}{i:Nat},listed.size=ops.size->i<ops.size->listed.getD i true=false->listed.getD i false=false/\listed.toList[i]?=some false:=λ{listed i} ao hi h=>by
  have h1:i<listed.size:=by omega
  rw[Bm,Bx h1]at h;simp at h;refine⟨?_,by rw[Eu,Bx h1,h]⟩;rw[Bm,Bx h1,h];rfl
 have iO:∀{listed:Array Bool}{i:Nat},listed.size=ops.size->i<ops.size->listed.getD i false=false->listed.getD i true=false:=λ{listed i} ao hi h=>by
  have h1:i<listed.size:=by omega
  rw[Bm,Bx h1]at h ⊢;simpa using h
 intro fuel
 induction fuel with
 |zero=>
  intro listed a w ao ff jW ap cS hr cZ;refine hT 0 listed a w ao ff (λj=>⟨ap j,λhj=>?_⟩) (C2I hr rfl λi=>?_) cZ
  ·cases hl:listed.getD j false with
   |true=>rfl
   |false=>
    exfalso;have h2:=(nB ao (by omega) (iO ao (by omega) hl)).2;have:=Eo.2 (Bq h2);omega
  ·right
   rw[A0c];cases dW:mem i (J0 listed (G5 0 (ops.toList.take m)))with
   |false=>rfl
   |true=>
    obtain⟨j,hj,hl⟩:=A0U.1 dW;obtain⟨_,o,ho,hd⟩:=A2X.1 hj;have kY:j<ops.size:=by
     have:=I7 ho;simp at this;omega
    exfalso;have h2:=(nB ao kY (iO ao kY hl)).2;have:=Eo.2 (Bq h2);omega
 |succ fuel ih=>
  intro listed a w ao ff jW ap cS hr cZ;by_cases bQ:∀j,j<m->listed.getD j false=true
  ·refine hT (fuel+1) listed a w ao ff (λj=>⟨ap j,bQ j⟩) (C2I hr rfl λi=>?_) cZ
   right
   rw[A0c];cases dW:mem i (J0 listed (G5 0 (ops.toList.take m)))with
   |false=>rfl
   |true=>
    obtain⟨j,hj,hl⟩:=A0U.1 dW;obtain⟨_,o,ho,hd⟩:=A2X.1 hj;have sW:j<m:=by
     have:=I7 ho;simp at this;omega
    rw[bQ j sW]at hl;cases hl
  ·
   have fk:∃j0,j0<m/\listed.getD j0 false=false:=by
    apply Classical.byContradiction;intro hc;refine bQ λj hj=>?_;cases hl:listed.getD j false with
    |true=>rfl
    |false=>exact absurd ⟨j,hj,hl⟩ hc
   obtain⟨j0,ot,cH⟩:=fk;refine⟨λeM=>?_,λi hi=>?_⟩
   ·exfalso;have bG:∀n j,j<=n->j<m->listed.getD j false=true:=by
     intro n
     induction n using Nat.strongRecOn with
     |_ n xk=>
      intro j vB sW;cases hl:listed.getD j false with
      |true=>rfl
      |false=>
       exfalso;have kY:j<ops.size:=by omega
       have ce:j∈Cy md ops listed:=by
        rw[Df];refine⟨iO ao kY hl,ops[j],Bx kY,λe he mV=>?_⟩;rcases (gf j ops[j] (iN sW (Bx kY))).after e he with h1|⟨h1,h2,o',h3,h4⟩
        ·exact xk e.on (by omega) e.on (Be _) (by omega)
        ·cases aZ:listed.getD e.on false with
         |true=>rfl
         |false=>
          exfalso;have ce:e.on∈Cy md ops listed:=by
           rw[Df];refine⟨iO ao (by omega) aZ,o',h3,λe' lr aY=>?_⟩;exfalso;have h5:=h4 e' lr;unfold txE at h5;unfold gcE at h1;unfold Ce at mV aY;split at h5
           ·rename_i bN;rw[bN]at aY;split at h1
            ·rename_i sX;rw[sX]at mV;cases md<;>first|(cases mV;done)|(cases aY;done)
            ·cases h1
           ·cases h5
          rw[eM]at ce;cases ce
       rw[eM]at ce;cases ce
    rw[bG j0 j0 (Be _) ot]at cH;cases cH
   ·obtain⟨gg,o,ho,eN⟩:=Df.1 hi;have sY:i<ops.size:=(Dc.1 ho).1;have jz:i<m:=by
     rcases Da i m with h|h
     ·exact h
     ·have jX:mem j0 fl=false:=by
       cases hf:mem j0 fl with
       |false=>rfl
       |true=>rw[cS j0 ot hf]at cH;cases cH
      have:=(fb i o (aL ho)).2 h listed jW eN j0 (by omega) jX;rw[this]at cH;cases cH
    have oD:o∈ops.toList.take m:=Bq (iN jz ho);have hO:=gf i o (iN jz ho);have hR:=lJ o oD;obtain⟨sZ,nC⟩:=nB ao sY gg;have pz:∀j,(listed.setIfInBounds i true).getD j false=false↔listed.getD j false=false/\j≠i:=by
     intro j;by_cases cn:i=j
     ·subst cn;have h1:i<listed.size:=by omega
      simp[h1]
     ·rw[Cv false cn];constructor
      ·exact λh=>⟨h,λe=>cn e.symm⟩
      ·exact λh=>h.1
    have dg:∀j,(listed.setIfInBounds i true).getD j false=true↔listed.getD j false=true\/j=i:=by
     intro j;by_cases cn:i=j
     ·subst cn;have h1:i<listed.size:=by omega
      simp[h1]
     ·rw[Cv false cn];constructor
      ·exact λh=>.inl h
      ·rintro(h|h)
       ·exact h
       ·exact absurd h.symm cn
    have pA:DC md ops (listed.setIfInBounds i true):=by
     intro j oj hj gi e he hb;rcases (dg j).1 hj with h|rfl
     ·exact(dg _).2 (.inl (jW j oj h gi e he hb))
     ·rw[ho]at gi;cases gi;exact(dg _).2 (.inl (eN e he hb))
    have nD:∀j,(listed.setIfInBounds i true).getD j false=true->j<m:=λj hj=>by
     rcases (dg j).1 hj with h|rfl
     ·exact ap j h
     ·exact jz
    have pC:∀j,j<m->mem j fl=true->(listed.setIfInBounds i true).getD j false=true:=λj hj hf=>(dg j).2 (.inl (cS j hj hf));have mq:(listed.setIfInBounds i true).toList.count false<=fuel:=by
     have:=B1p nC;rw[Et];omega
    have ta:∀t∈o.looksAt ops,mem t (J0 listed (G5 0 (ops.toList.take m)))=false:=by
     intro t ht;cases dW:mem t (J0 listed (G5 0 (ops.toList.take m)))with
     |false=>rfl
     |true=>
      exfalso;obtain⟨j,hj,hl⟩:=A0U.1 dW;obtain⟨e,he,rfl,hb⟩:=B2b (hO.bound t ht j hj) md;rw[eN e he hb]at hl;cases hl
    have hX:∀t,(sF.dels (J0 (listed.setIfInBounds i true) (G5 0 (ops.toList.take m)))).get t=.one .any\/((o.dst=some t/\(sF.dels (J0 (listed.setIfInBounds i true) (G5 0 (ops.toList.take m)))).get t=sF.get t)\/(o.dst≠some t/\(sF.dels (J0 (listed.setIfInBounds i true) (G5 0 (ops.toList.take m)))).get t=(sF.dels (J0 listed (G5 0 (ops.toList.take m)))).get t)):=by
     intro t;rw[A0c,A0c];cases dW:mem t (J0 (listed.setIfInBounds i true) (G5 0 (ops.toList.take m)))with
     |true=>left;rfl
     |false=>
      right
      simp only[Aq];by_cases hd:o.dst=some t
      ·exact .inl ⟨hd,trivial⟩
      ·right
       refine⟨hd,?_⟩;cases jY:mem t (J0 listed (G5 0 (ops.toList.take m)))with
       |false=>rfl
       |true=>
        exfalso;obtain⟨j,hj,hl⟩:=A0U.1 jY;have dP:j≠i:=by
         rintro rfl;obtain⟨_,o',fX,dM⟩:=A2X.1 hj;rw[Dh,iN jz ho]at fX;cases fX;exact hd dM
        have:mem t (J0 (listed.setIfInBounds i true) (G5 0 (ops.toList.take m)))=true:=A0U.2 ⟨j,hj,(pz j).2 ⟨hl,dP⟩⟩;rw[this]at dW;cases dW
    generalize rA:sF.dels (J0 listed (G5 0 (ops.toList.take m)))=X at hr hX;generalize nE:sF.dels (J0 (listed.setIfInBounds i true) (G5 0 (ops.toList.take m)))=X' at hX;have oE:X.live=sF.live:=by rw[<-rA];rfl
    have jh:X'.live=sF.live:=by rw[<-nE];rfl
    have vC:∀t,X.get t=.one .any\/X.get t=sF.get t:=λt=>by
     rw[<-rA,A0c];cases mem t (J0 listed (G5 0 (ops.toList.take m)))with
     |true=>left;rfl
     |false=>right;rfl
    have tc:∀t∈o.looksAt ops,X.get t=sF.get t:=λt ht=>by
     rw[<-rA,A0c,ta t ht];rfl
    have pD:∀d,X.get (bxi d)=sF.get (bxi d):=λd=>by
     rw[<-rA,A0c];cases dW:mem (bxi d) (J0 listed (G5 0 (ops.toList.take m)))with
     |false=>rfl
     |true=>
      obtain⟨j,hj,_⟩:=A0U.1 dW;obtain⟨_,o',fX,dM⟩:=A2X.1 hj;have:=bM o' (Dr (Bq fX)) _ dM;exact absurd this (by show¬((1000000+d:Nat)<1000000);omega)
    have hd:∀d,o.dst=some d->d<a.tmps.size/\B.np<=d:=λd hd=>by rw[cZ];have:=A7N hR.dst d hd;exact⟨this.1,Ci hE.np this.2⟩
    have pE:∀d,o.dst=some d->d<1000000:=bM o (Dr oD);obtain⟨g,hr⟩:=hr;have aS:o.guard=none\/True:=.inr trivial;have vD:∀t∈o.looksAt ops,(stL al listed X).get t=sF.get t:=by
     intro t ht;cases al with
     |none=>exact tc t ht
     |some p=>
      obtain⟨ia,ii,zs⟩:=p;obtain⟨ty,hA⟩:=eJ;simp only[stL];cases listed.getD ia false with
      |false=>exact tc t ht
      |true=>
       simp only[Ap];have av:ii≠t:=λe=>by
        have:=hA.look i o jz (aL ho);rw[e]at this;have h2:∀(l:Aj),t∈l->mem t l=true:=by
         intro l
         induction l with
         |nil=>intro h;cases h
         |cons x l sV=>
          intro h;rcases Bg.1 h with h|h
          ·exact(mem_cons _ _ _).2 (.inl h.symm)
          ·exact(mem_cons _ _ _).2 (.inr (sV h))
        rw[h2 _ ht]at this;cases this
       have e9:=hO.low t ht;rw[A2M,At av,At (λe=>by rw[<-e]at e9;exact absurd e9 (by show¬((1000000+C6 (some ii):Nat)<1000000);omega)),tc t ht,hA.no]
    have jZ:Sees o sF (stL al listed X):=by
     refine⟨λt ht=>vD t (B97 ht),λd ls bc=>?_⟩;cases al with
     |none=>rw[show stL none listed X=X from rfl,B1c (pD d)];exact bc
     |some p=>
      obtain⟨ia,ii,zs⟩:=p;obtain⟨ty,hA⟩:=eJ;simp only[stL];cases listed.getD ia false with
      |false=>simp only[Aq];rw[B1c (pD d)];exact bc
      |true=>
       simp only[Ap];have kW:sF.get (bxi d)=.bx d ls:=by
        unfold O6 at bc;split at bc
        ·rename_i e bL he;obtain⟨h1,h2⟩:=B8 bc;have:=(F6 _ _).1 h1;subst this;cases h2;exact he
        ·cases bc
       have ni:d≠C6 (some ii):=λe=>by
        have:=hA.no (bxi d);rw[kW,e]at this;simp only[Ent.strip,H3,Ap]at this;cases this
       have je:(T2 ii zs X).get (bxi d)=.bx d ls:=by
        have vE:=hA.low;rw[A2M,At (by unfold bxi;omega),At (by unfold bxi;omega),pD,hA.no,kW]
       unfold O6;rw[je];simp[H3]
    have jv:∀b,Gd ops sF o b->Cb o (Ch ops a.tmps)=b:=by
     intro b hb;refine A9V hr ?_;unfold Gd at hb ⊢;cases pF:o.guard with
     |none=>rw[pF]at hb;exact hb
     |some jw=>
      obtain⟨j,aM⟩:=jw;rw[pF]at hb;dsimp only at hb ⊢;obtain⟨gd,hj,hc⟩:=hb;refine⟨gd,hj,?_⟩;rw[vD gd (C12 pF hj)];exact hc
    have cU:O8 o.op=false->∀(e:Ent Ty den)(a':Act)(w':World),(∀d,o.dst=some d->sF.get d=e)->REL E.U B ((stL al listed X).setO o.dst e) a' w'->a'.tmps.size=E.nt->wpAny P md ops Q fuel (listed.setIfInBounds i true) a' w':=by
     intro dS e a' w' td ⟨g',bD⟩ ik;refine ih _ _ _ (by simp[ao]) mq pA nD pC ?_ ik;rw[nE];cases al with
     |none=>
      refine⟨g',bD.weaken (λt=>?_) (λd hd=>by rw[A01];show mem d X.live=true;rw[oE, <-jh];exact hd) (λ_ d _ _ h=>by rw[A01]at h;show mem d X'.live=true;rw[jh, <-oE];exact h)⟩;rw[T5];show X'.get t=_\/X'.get t=_;rcases hX t with h|⟨h1,h2⟩|⟨h1,h2⟩
      ·exact .inl h
      ·right;rw[Au h1,h2,td t h1]
      ·right;rw[At h1,h2];rfl
     |some p=>
      obtain⟨ia,ii,zs⟩:=p;obtain⟨ty,hA⟩:=eJ;have pG:i≠ia:=λe=>by
       subst e;obtain⟨oa,q1,q2,_⟩:=hA.op;rw[aL ho]at q1;cases q1;rw[q2]at dS;cases dS
      have cz:(listed.setIfInBounds i true).getD ia false=listed.getD ia false:=Cv false pG;simp only[stL]at bD ⊢;rw[cz];cases oF:listed.getD ia false with
      |false=>
       rw[oF]at bD;simp only[Aq]at bD ⊢;refine⟨g',bD.weaken (λt=>?_) (λd hd=>by rw[A01,oE, <-jh];exact hd) (λ_ d _ _ h=>by rw[A01,oE, <-jh]at h;exact h)⟩;rw[T5];rcases hX t with h|⟨h1,h2⟩|⟨h1,h2⟩
       ·exact .inl h
       ·right;rw[Au h1,h2,td t h1]
       ·right;rw[At h1,h2]
      |true=>
       rw[oF]at bD;simp only[Ap]at bD ⊢;have fV:(T2 ii zs X).live=(T2 ii zs X').live:=by simp only[T2,St.set,St.fresh,oE,jh]
       refine⟨g',bD.weaken (λt=>?_) (λd hd=>by rw[A01,fV];exact hd) (λ_ d _ _ h=>by rw[A01,fV]at h;exact h)⟩;have cC:o.dst≠some ii:=λe=>by
        obtain⟨oa,q1,_,q3,_⟩:=hA.op;exact pG (B9v ly (aL ho) q1 e q3)
       have xl:o.dst≠some (bxi (C6 (some ii))):=λe=>by
        have:=pE _ e;exact absurd this (by show¬((1000000+C6 (some ii):Nat)<1000000);omega)
       rw[T5,A2M,A2M];by_cases h1:ii=t
       ·right;rw[Au h1,At (by rw[<-h1];exact cC),Au h1]
       ·rw[At h1,At h1];by_cases h2:bxi (C6 (some ii))=t
        ·right;rw[Au h2,At (by rw[<-h2];exact xl),Au h2]
        ·rw[At h2,At h2];rcases hX t with h|⟨h3,h4⟩|⟨h3,h4⟩
         ·left;rw[h];rfl
         ·right;rw[Au h3,h4,hA.no,td t h3]
         ·right;rw[At h3,h4]
    unfold wpOp;rw[ho];dsimp only;rcases hR.ran with⟨dS,⟨h1,e,h2,h3⟩|⟨h1,h2⟩⟩|⟨nF,pF⟩
    ·rw[Au (jv true h1)];refine .inl ?_;have h4:=h3 (stL al listed X) jZ;rcases h4 with h4|⟨jy,u,xs,rfl,h4⟩|⟨c,f,ag,aq,h4⟩
     ·refine A8Y hE h4 hr hd ?_;intro e' s' v w' he bO;simp only[Bi,Bo]at he;obtain⟨rfl,rfl⟩:=he;exact cU dS _ _ _ h2 bO (by rw[Z6];exact cZ)
     ·refine C25 hE h4 hr hd ?_;intro e' s' v w' he bO;simp only[Bi,Bo]at he;obtain⟨rfl,rfl⟩:=he;refine cU dS _ _ _ h2 (REL.unname bO (λj=>?_)) (by rw[Z6];exact cZ);have vF:∀j,(X.get j).strip (C6 o.dst)=X.get j:=λj=>by
       rcases vC j with h|h
       ·rw[h];rfl
       ·rw[h];exact B0U cY o oD jy j
      cases al with
      |none=>exact vF j
      |some p=>
       obtain⟨ia,ii,zs⟩:=p;obtain⟨ty,hA⟩:=eJ;simp only[stL];cases listed.getD ia false with
       |false=>exact vF j
       |true=>
        simp only[Ap];have av:C6 (some ii)≠C6 o.dst:=λe=>by
         cases kZ:o.dst with
         |none=>rw[kZ]at e;have e2:100+ii=99:=e;omega
         |some dd=>
          rw[kZ]at e;have cC:dd=ii:=(Nat.add_left_cancel (show 100+ii=100+dd from e)).symm;obtain⟨oa,q1,q2,q3,_⟩:=hA.op;have:=B9v ly (aL ho) q1 (by rw[kZ,cC]) q3;subst this;rw[aL ho]at q1;cases q1;simp only[Q3,q2]at jy;cases jy
        rw[A2M];split
        ·simp only[Ent.strip,Leaf.strip,K0 av,Aq]
        ·split
         ·simp only[Ent.strip,K0 av,Aq]
          congr 1
          conv=>rhs;rw[<-El zs]
          exact Em λl hl=>by
           have:=A7y hA.closed l hl;cases l with
           |sl t x o=>cases o with
            |none=>rfl
            |some c=>exact absurd rfl (this.1 t x c)
           |ptr d o=>exact absurd rfl (this.2 d o)
           |_=>rfl
         ·rcases vC j with h|h
          ·rw[h];rfl
          ·rw[h,hA.no];exact B0U cY o oD jy j
     ·exact C2m hE.U hE.T hE.TR ag aq h4 hr hd λv w' bO=>cU dS _ _ _ h2 bO (by rw[Z6];exact cZ)
    ·rw[jv false h1];simp only[Gb,if_false];exact cU dS _ _ _ h2 (REL.setO hr (e:=.one (.val undef)) ⟨.val _,λ_ _ _ he=>by(cases he),λ_ _ he=>by(cases he)⟩ rfl o.dst hd) (by rw[Z6];exact cZ)
    ·
     have hw:Cb o (Ch ops a.tmps)=true:=by simp[Cb,pF]
     rw[Au hw];refine .inl ?_;cases al with
     |none=>rw[eJ i o jz (aL ho)]at nF;cases nF
     |some p=>
      obtain⟨ia,ii,zs⟩:=p;obtain⟨ty,hA⟩:=eJ;have vE:i=ia:=hA.one i o jz (aL ho) nF;subst vE;obtain⟨oa,q1,q2,q3,_⟩:=hA.op;rw[aL ho]at q1;cases q1;simp only[stL,sZ,Aq]at hr;have lF:M3 E o X (λe s'=>some (e,s'))=some (.one (.ptr (C6 (some ii)) 0),(X.fresh (C6 (some ii))).set (bxi (C6 (some ii))) (.bx (C6 (some ii)) zs)):=by
       simp only[M3,Q7,q2,Dx,Aq,A8,q3,hA.zr,hA.oz];rw[show Bu 0 zs.length=true by simpa [Bh]using hA.pos];rfl
      refine A8Y hE lF hr hd ?_;intro e' s' v w' he bO;simp only[Bi,Bo]at he;obtain⟨rfl,rfl⟩:=he;rw[q3]at bO;refine ih _ _ _ (by simp[ao]) mq pA nD pC ?_ (by rw[Z6];exact cZ);rw[nE,q3];simp only[stL];rw[show(listed.setIfInBounds i true).getD i false=true from(dg i).2 (.inr rfl)];simp only[Ap];obtain⟨g2,bO⟩:=bO;have fV:(T2 ii zs X').live=(T2 ii zs X).live:=by simp only[T2,St.set,St.fresh,oE,jh]
      refine⟨g2,bO.weaken (s':=T2 ii zs X') (λt=>?_) (λd hd=>by rw[fV]at hd;exact hd) (λ_ d _ _ h=>by rw[fV];exact h)⟩;show(T2 ii zs X').get t=_\/(T2 ii zs X').get t=(T2 ii zs X).get t;rw[A2M,A2M];by_cases h1:ii=t
      ·right;rw[Au h1,Au h1]
      ·rw[At h1,At h1];by_cases h2:bxi (C6 (some ii))=t
       ·right;rw[Au h2,Au h2]
       ·rw[At h2,At h2];rcases hX t with h|⟨h3,h4⟩|⟨h3,h4⟩
        ·left;rw[h];rfl
        ·rw[q3]at h3;exact absurd (Cn h3) h1
        ·right;rw[h4]
theorem B2W{ops:Array Oper}{oi:Oper}{i:Nat}:∀(os:List Oper)(j0:Nat),A6J ops oi i j0 os=true->∀(n:Nat) o,os[n]?=some o->j0+n≠i->A7c o i=true\/oi.apart ops o=true
 |[],j0,_,n,o,h,_=>by simp at h
 |x::os,j0,hf,n,o,h,av=>by
  simp only[A6J,Aw,Es]at hf;cases n with
  |zero=>
   simp at h;subst h;rcases hf.1 with h1|h1
   ·exact absurd ((F6 _ _).1 h1) (by simpa using av)
   ·exact h1
  |succ n=>exact B2W os (j0+1) hf.2 n o (by simpa using h) (by omega)
theorem C3M{ops:Array Oper}{m:Nat}{ds:Aj}:∀(os:List Oper)(i k:Nat),mem k (flL ops m ds i os)=true->∃o,i<=k/\os[k - i]?=some o/\(A0P ops m ds k o||tl1 ops m k o)=true
 |[],i,k,h=>by simp[flL,mem]at h
 |x::os,i,k,h=>by
  simp only[flL]at h;have anq:mem k (flL ops m ds (i+1) os)=true->∃o,i<=k/\(x::os)[k - i]?=some o/\(A0P ops m ds k o||tl1 ops m k o)=true:=λh=>by
   obtain⟨o,h1,h2,h3⟩:=C3M os (i+1) k h;exact⟨o,by omega,by rw[show k - i=(k - (i+1))+1 by omega];simpa using h2,h3⟩
  cases hc:(A0P ops m ds i x||tl1 ops m i x)with
  |false=>rw[hc]at h;exact anq h
  |true=>
   rw[hc]at h;simp only[Ap]at h;rcases (mem_cons _ _ _).1 h with h1|h1
   ·subst h1;exact⟨x,Be _,by simp,hc⟩
   ·exact anq h1
theorem B8A:∀{os:List Oper},A9B os=true->∀o∈os,∀cs b,o.op≠ .select cs b
 |[],_,o,h=>by cases h
 |x::os,h,o,ho=>by
  simp only[A9B,Aw]at h;rcases Bg.1 ho with rfl|ho
  ·intro cs b he;have:=h.1;rw[he]at this;cases this
  ·exact B8A h.2 o ho
theorem B5I(hE:Z4 P E B){ops:Array Oper}{md:Cz}{Q:Exit->Act->World->Prop}{m:Nat}{k:St Ty den->Option R}
  {fl:Aj}(fb:∀(k:Nat) o,ops.toList[k]?=some o->(∀e∈o.after,e.on<k\/e.on<m)/\(m<=k->∀listed:Array Bool,DC md ops listed->(∀e∈o.after,Ce md e=true->listed.getD e.on false=true)->∀j,j<k->mem j fl=false->listed.getD j false=true))
  (te:∀(k:Nat) o,ops.toList[k]?=some o->mem k fl=true->m<=k->(A33 o||A7g o)=true/\A6J ops o k (k+1) (ops.toList.drop (k+1))=true)(eg:∀(j:Nat)(o:Oper) cs b,ops[j]?=some o->o.op≠ .select cs b)
  (k9:∀c a d v w,Q (.panic c) (Ev a d v) w->Q (.panic c) a w)
  (hk:∀s' a' w',k s'=some r->REL E.U B s' a' w'->a'.tmps.size=E.nt->Q .normal a' w'):
  ∀(os:List Oper)(i:Nat)(s:St Ty den)(a:Act)(w:World)(fuel:Nat)(listed:Array Bool),ops.toList.drop i=os->listed.size=ops.size->listed.toList.count false<=fuel->(∀j,listed.getD j false=true↔j<i)->m<=i->i<=ops.size->
   V9 E ops os s k=some r->REL E.U B s a w->a.tmps.size=E.nt->wpAny P md ops Q fuel listed a w
 |[],i,s,a,w,fuel,listed,iP,ao,ff,hl,vG,xm,h,hr,cZ=>by
  simp only[V9]at h;have hi:ops.size<=i:=by
   have:=congrArg List.length iP;simp at this;omega
  have hQ:=hk s a w h hr cZ;have eM:Cy md ops listed=[]:=by
   cases xn:Cy md ops listed with
   |nil=>rfl
   |cons j l=>
    exfalso;have hj:j∈Cy md ops listed:=by rw[xn];simp
    obtain⟨gg,o,ho,_⟩:=Df.1 hj;have kY:=(Dc.1 ho).1;have:=(hl j).2 (by omega);have h1:j<listed.size:=by omega
    rw[Bm,Bx h1]at gg this;simp at gg this;rw[gg]at this;cases this
  cases fuel with
  |zero=>exact⟨eM,hQ⟩
  |succ fuel=>exact⟨λ_=>hQ,λj hj=>by rw[eM]at hj;cases hj⟩
 |o::os,i,s,a,w,fuel,listed,iP,ao,ff,hl,vG,xm,h,⟨g,hr⟩,cZ=>by
  have nG:ops.toList[i]?=some o:=by
   have:=congrArg (λl=>l[0]?) iP;simpa using this
  have gj:ops[i]?=some o:=by simpa using nG
  have xo:i<ops.size:=(Dc.1 gj).1;have pH:ops.toList.drop (i+1)=os:=by
   have h1:ops.toList.drop (i+1)=(ops.toList.drop i).drop 1:=by rw[Dm]
   rw[h1,iP];rfl
  have jW:DC md ops listed:=λj oj hj gi e he _=>by
   have h1:=(hl j).1 hj;exact(hl _).2 (by rcases (fb j oj (by simpa using gi)).1 e he with h2|h2<;>omega)
  have gg:listed.getD i false=false:=by
   cases hc:listed.getD i false with
   |false=>rfl
   |true=>have:=(hl i).1 hc;omega
  have mr:i<listed.size:=by omega
  have gm:listed.getD i true=false/\listed.toList[i]?=some false:=by
   rw[Bm,Bx mr]at gg ⊢;simp at gg;simp[gg,mr]
  have ce:i∈Cy md ops listed:=by
   rw[Df];exact⟨gm.1,o,gj,λe he _=>(hl _).2 (by rcases (fb i o nG).1 e he with h2|h2<;>omega)⟩
  have pI:mem i fl=false->∀j∈Cy md ops listed,j=i:=by
   intro rB j hj;obtain⟨pJ,oj,gi,tf⟩:=Df.1 hj;have kY:=(Dc.1 gi).1;rcases Eg j i with h1|h1|h1
   ·have:=(hl j).2 h1;have h2:j<listed.size:=by omega
    rw[Bm,Bx h2]at pJ this;simp at pJ this;rw[pJ]at this;cases this
   ·exact h1
   ·have:=(fb j oj (by simpa using gi)).2 (by omega) listed jW tf i h1 rB;rw[this]at gg;cases gg
  cases fuel with
  |zero=>
   have:=Eo.2 (Bq gm.2);omega
  |succ fuel=>
   cases rB:mem i fl with
   |true=>
    obtain⟨rh,ft⟩:=te i o nG rB vG;simp only[V9]at h;obtain⟨aO,h⟩:=B8 h;have hd:∀i,o.dst=some i->i<a.tmps.size/\B.np<=i:=λi hi=>by rw[cZ];have:=A7N aO i hi;exact⟨this.1,Ci hE.np this.2⟩
    have pK:o.guard=none:=by
     rcases Er.1 rh with h5|h5
     ·simp only[A33,Aw,Fe]at h5;exact h5.1
     ·simp only[A7g,Aw,Fe]at h5;exact h5.1
    rw[pK]at h;dsimp only at h;obtain⟨v,hv⟩:∃v,∀w':World,(Ax a.eval o).run P w'=.ok (.value v) w':=by
     rcases Er.1 rh with h5|h5
     ·simp only[A33,Aw]at h5;obtain⟨_,h5⟩:=h5;split at h5
      ·rename_i t ag;exact⟨_,λw'=>by simp[Ax,ag];rfl⟩
      ·cases h5
     ·simp only[A7g,Aw]at h5;obtain⟨_,h5⟩:=h5;split at h5
      ·rename_i t ix ag;simp only[M3,Q7,ag,Dx,Aq,A8]at h;split at h
       ·rename_i ls hx;split at h
        ·rename_i l eU;have he:=A3J hr 0 (.tmp t);rw[hx]at he;obtain⟨vs,xp,mN⟩:=he;obtain⟨v,e8,ak⟩:=mN.get eU;exact⟨v,λw'=>by simp[Ax,ag,xp,Hh,e8]⟩
        ·cases h
       ·cases h
      ·cases h5
    have cU:∀(s':St Ty den)(a':Act)(w':World),V9 E ops os s' k=some r->REL E.U B s' a' w'->a'.tmps.size=E.nt->wpAny P md ops Q fuel (listed.setIfInBounds i true) a' w':=by
     intro s' a' w' h' bD ik;refine B5I hE fb te eg k9 hk os (i+1) s' a' w' fuel _ pH (by simp[ao]) ?_ (λx=>?_) (by omega) (by omega) h' bD ik
     ·have:=B1p gm.2;rw[Et];omega
     ·by_cases hx:i=x
      ·subst hx;simp[mr]
      ·rw[Cv false hx,hl];omega
    have af:o.wp P a w (wpAny P md ops Q fuel (listed.setIfInBounds i true)) Q:=by
     refine A8Y hE h hr hd ?_;intro e s' v w' gM bO;exact cU _ _ _ gM bO (by rw[Z6];exact cZ)
    unfold Cr at af;rw[hv w]at af;refine wpAny_first gj eg (λc a w h=>k9 c a _ _ w h) fuel listed a w (λj oj hj av lK cY=>?_) ce (.inl ⟨by simp[Cb,pK],hv⟩) af;have dP:i<j:=by
     rcases Eg j i with h6|h6|h6
     ·have:=(hl j).2 h6;have h7:j<listed.size:=by have:=(Dc.1 hj).1;omega
      rw[Bm,Bx h7]at lK this;simp at lK this;rw[lK]at this;cases this
     ·exact absurd h6 av
     ·exact h6
    rcases B2W (ops.toList.drop (i+1)) (i+1) ft (j - (i+1)) oj (by rw[Fm,show i+1+(j - (i+1))=j by omega];simpa using hj) (by omega)with h6|h6
    ·obtain⟨e,he,dN,hb⟩:=B2b h6 md;exact absurd dN (cY e he hb)
    ·exact h6
   |false=>
   refine⟨λhn=>by rw[hn]at ce;(cases ce),λj hj=>?_⟩;have dP:=pI rB j hj;subst dP;simp only[V9]at h;obtain⟨aO,h⟩:=B8 h;have hd:∀i,o.dst=some i->i<a.tmps.size/\B.np<=i:=λi hi=>by rw[cZ];have:=A7N aO i hi;exact⟨this.1,Ci hE.np this.2⟩
   have cU:∀(s':St Ty den)(a':Act)(w':World),V9 E ops os s' k=some r->REL E.U B s' a' w'->a'.tmps.size=E.nt->wpAny P md ops Q fuel (listed.setIfInBounds j true) a' w':=by
    intro s' a' w' h' bD ik;refine B5I hE fb te eg k9 hk os (j+1) s' a' w' fuel _ pH (by simp[ao]) ?_ (λx=>?_) (by omega) (by omega) h' bD ik
    ·have:=B1p gm.2;rw[Et];omega
    ·by_cases hx:j=x
     ·subst hx;simp[mr]
     ·rw[Cv false hx,hl];omega
   have run:∀(s1:St Ty den)(g1:Gh),Rel E.U B g1 s1 a w->M3 E o s1 (λe s'=>V9 E ops os (s'.setO o.dst e) k)=some r->o.wp P a w (wpAny P md ops Q fuel (listed.setIfInBounds j true)) Q:=by
    intro s1 g1 dv h1;refine A8Y hE h1 dv hd ?_;intro e s' v w' gM bO;exact cU _ _ _ gM bO (by rw[Z6];exact cZ)
   have skip:∀(s1:St Ty den)(g1:Gh),Rel E.U B g1 s1 a w->V9 E ops os (s1.setO o.dst (.one (.val undef))) k=some r->wpAny P md ops Q fuel (listed.setIfInBounds j true) (a.put o.dst undef) w:=λs1 g1 dv h1=>
    cU _ _ _ h1 (REL.setO dv (e:=.one (.val undef)) ⟨.val _,λ_ _ _ he=>by(cases he),λ_ _ he=>by(cases he)⟩ rfl o.dst hd) (by rw[Z6];exact cZ)
   unfold wpOp;rw[gj];dsimp only;cases hg:o.guard with
   |none=>
    rw[hg]at h;rw[show Cb o (Ch ops a.tmps)=true by simp[Cb,hg],Au rfl];exact .inl (run s g hr h)
   |some jw=>
    obtain⟨jg,aM⟩:=jw;rw[hg]at h;dsimp only at h;cases nH:(ops[jg]?).bind (·.dst)with
    |none=>rw[nH]at h;cases h
    |some gd=>
     rw[nH]at h;dsimp only at h;split at h
     ·rename_i b lG;have ij:∀c:Bool,b=c->Rel E.U B g (s.set gd (.one (.bool c))) a w:=λc hc=>by
       have aK:=hr.ent gd;rw[lG]at aK;exact hr.setSame (e:=.one (.bool c)) (by rw[<-hc];exact aK) rfl
      cases gN:(b==aM)with
      |true=>
       rw[gN]at h;rw[A9V hr (b:=true) (by simp only[Gd,hg];exact⟨gd,nH,.inl ⟨b,lG,gN.symm⟩⟩),Au rfl];exact .inl (run _ g (ij aM (by simpa using gN)) h)
      |false=>
       rw[gN]at h;rw[A9V hr (b:=false) (by simp only[Gd,hg];exact⟨gd,nH,.inl ⟨b,lG,gN.symm⟩⟩)];simp only[Gb,if_false];exact skip _ g (ij _ (by cases b<;>cases aM<;>simp_all)) h
     ·rename_i v pw;obtain⟨cQ,h⟩:=B8 h;rw[A9V hr (b:=false) (by simp only[Gd,hg];exact⟨gd,nH,.inr ⟨trivial,v,pw,cQ⟩⟩)];simp only[Gb,if_false];exact skip s g hr h
     ·cases h
theorem C4l:∀(os:List Oper)(i:Nat),match A0y i os with
  |none=>∀(j:Nat) o,os[j]?=some o->O8 o.op=false\/o.dst=none
  |some (ia,d,t)=>i<=ia/\(∃o,os[ia - i]?=some o/\o.op=.alloc t/\o.dst=some d)/\∀(j:Nat) o,j<ia - i->os[j]?=some o->O8 o.op=false\/o.dst=none
 |[],i=>by simp[A0y]
 |x::os,i=>by
  have ih:=C4l os (i+1);have go:(O8 x.op=false\/x.dst=none)->A0y i (x::os)=A0y (i+1) os->(match A0y i (x::os)with
    |none=>∀(j:Nat) o,(x::os)[j]?=some o->O8 o.op=false\/o.dst=none
    |some (ia,d,t)=>i<=ia/\(∃o,(x::os)[ia - i]?=some o/\o.op=.alloc t/\o.dst=some d)/\∀(j:Nat) o,j<ia - i->(x::os)[j]?=some o->O8 o.op=false\/o.dst=none):=by
   intro hx he;rw[he];cases ha:A0y (i+1) os with
   |none=>
    rw[ha]at ih;intro j o ho;cases j with
    |zero=>simp at ho;subst ho;exact hx
    |succ j=>exact ih j o (by simpa using ho)
   |some p=>
    obtain⟨ia,d,t⟩:=p;rw[ha]at ih;obtain⟨h1,⟨o,h2,h3,h4⟩,h5⟩:=ih;refine⟨by omega,⟨o,?_,h3,h4⟩,λj o hj ho=>?_⟩
    ·rw[show ia - i=ia - (i+1)+1 by omega];simpa using h2
    ·cases j with
     |zero=>simp at ho;subst ho;exact hx
     |succ j=>exact h5 j o (by omega) (by simpa using ho)
  cases ag:x.op with
  |alloc t=>
   cases hd:x.dst with
   |none=>exact go (.inr hd) (by simp only[A0y,ag,hd])
   |some d=>
    simp only[A0y,ag,hd];exact⟨Be _,⟨x,by simp,ag,hd⟩,λj o hj=>by omega⟩
  |_=>exact go (.inl (by rw[ag];rfl)) (by simp only[A0y,ag])
theorem C24:∀{os:List Oper},B1h os=true->∀(j:Nat) o,os[j]?=some o->O8 o.op=false
 |[],_,j,o,h=>by simp at h
 |x::os,hn,j,o,h=>by
  simp only[B1h,Aw,Bw]at hn;cases j with
  |zero=>simp at h;subst h;exact hn.1
  |succ j=>exact C24 hn.2 j o (by simpa using h)
theorem C0u{ops:Array Oper}{i:Nat}:∀{os:List Oper},B2d ops i os=true->∀(j:Nat) o,os[j]?=some o->mem i (o.looksAt ops)=false
 |[],_,j,o,h=>by simp at h
 |x::os,hn,j,o,h=>by
  simp only[B2d,Aw,Bw]at hn;cases j with
  |zero=>simp at h;subst h;exact hn.1
  |succ j=>exact C0u hn.2 j o (by simpa using h)
theorem C3Z:∀(os:List Oper),W5 E os<=os.length/\∀o∈os.take (W5 E os),A0X E o=true
 |[]=>⟨Be _,λo h=>by simp at h⟩
 |x::os=>by
  obtain⟨h1,h2⟩:=C3Z os;simp only[W5];cases hc:A0X E x with
  |false=>simp
  |true=>
   simp only[Ap,Ct,Gt,Bg];refine⟨by omega,λo ho=>?_⟩;rcases ho with rfl|ho
   ·exact hc
   ·exact h2 o ho
theorem B9y(hE:Z4 P E B){ops:Array Oper}{md:Cz}{Q:Exit->Act->World->Prop}{m:Nat}{sF:St Ty den}
  (lJ:∀o∈ops.toList.take m,Ran E ops sF o)(bM:∀o∈ops.toList,∀d,o.dst=some d->d<1000000)(ly:Y2 (F5 ops.toList)=true)(eg:∀(j:Nat)(o:Oper) cs b,ops[j]?=some o->o.op≠ .select cs b)
  (k9:∀c a d v w,Q (.panic c) (Ev a d v) w->Q (.panic c) a w){w:World}:
  ∀(oG:Aj)(fuel:Nat)(listed:Array Bool)(a:Act),listed.size=ops.size->listed.toList.count false<=fuel->(∀i∈oG,∃o,ops.toList[i]?=some o/\A0P ops m (F5 (ops.toList.take m)) i o=true)->oG.Nodup->(∀i∈oG,listed.getD i false=false)->
   REL E.U B (sF.dels (J0 listed (G5 0 (ops.toList.take m)))) a w->a.tmps.size=E.nt->
   (∀(fuel:Nat)(cR:Array Bool)(a':Act),cR.size=ops.size->cR.toList.count false<=fuel->(∀j,cR.getD j false=true↔(listed.getD j false=true\/j∈oG))->REL E.U B (sF.dels (J0 cR (G5 0 (ops.toList.take m)))) a' w->a'.tmps.size=E.nt->wpAny P md ops Q fuel cR a' w)->
   wpAny P md ops Q fuel listed a w
 |[],fuel,listed,a,ao,ff,_,_,_,hr,cZ,hK=>hK fuel listed a ao ff (λj=>by simp) hr cZ
 |i::oG,fuel,listed,a,ao,ff,cS,pL,gg,hr,cZ,hK=>by
  obtain⟨o,nG,hp⟩:=cS i (by simp);simp only[A0P,Aw]at hp;obtain⟨jz,mO,a7,ft,eK⟩:=hp;have jz:i<m:=by simpa [Bh]using jz
  have gj:ops[i]?=some o:=by simpa using nG
  have mr:i<listed.size:=by have:=(Dc.1 gj).1;omega
  have tg:=gg i (by simp);have gm:listed.getD i true=false/\listed.toList[i]?=some false:=by
   rw[Bm,Bx mr]at tg ⊢;simp at tg;simp[tg,mr]
  cases fuel with
  |zero=>
   have:=Eo.2 (Bq gm.2);omega
  |succ fuel=>
  simp only[A33,Aw,Fe]at mO;obtain⟨pK,mO⟩:=mO;split at mO
  ·rename_i t ag;have eN:∀e,e∉o.after:=λe he=>by
    have:e∈o.after.toList:=by simpa using he
    cases hl:o.after.toList with
    |nil=>rw[hl]at this;cases this
    |cons y l=>rw[hl]at a7;cases a7
   have hv:∀w':World,(Ax a.eval o).run P w'=.ok (.value (a.eval (.tmp t))) w':=λw'=>by simp[Ax,ag]
   have ce:i∈Cy md ops listed:=by
    rw[Df];exact⟨gm.1,o,gj,λe he=>absurd he (eN e)⟩
   refine wpAny_first gj eg (λc a w h=>k9 c a _ _ w h) fuel listed a w (λj oj hj av lK cY=>?_) ce (.inl ⟨by simp[Cb,pK],hv⟩) ?_
   ·rcases B2W ops.toList 0 ft j oj (by simpa using hj) (by omega)with h6|h6
    ·obtain⟨e,he,dN,hb⟩:=B2b h6 md;exact absurd dN (cY e he hb)
    ·exact h6
   ·have dg:∀j,(listed.setIfInBounds i true).getD j false=true↔listed.getD j false=true\/j=i:=by
     intro j;by_cases cn:i=j
     ·subst cn;simp[mr]
     ·rw[Cv false cn];constructor
      ·exact λh=>.inl h
      ·rintro(h|h)
       ·exact h
       ·exact absurd h.symm cn
    have oD:o∈ops.toList.take m:=by
     refine Bq (i:=i) ?_;rw[Cq,Au jz];exact nG
    have hR:=lJ o oD;have hd:∀d,o.dst=some d->d<a.tmps.size/\B.np<=d:=λd hd=>by rw[cZ];have:=A7N hR.dst d hd;exact⟨this.1,Ci hE.np this.2⟩
    obtain⟨g,hr⟩:=hr;have vH:=hr;generalize hX:sF.dels (J0 listed (G5 0 (ops.toList.take m)))=X at hr;have xq:X.get t=sF.get t:=by
     rw[<-hX,A0c];cases dW:mem t (J0 listed (G5 0 (ops.toList.take m)))with
     |false=>rfl
     |true=>
      exfalso;obtain⟨j,hj,_⟩:=A0U.1 dW;obtain⟨_,o',fX,dM⟩:=A2X.1 hj;simp only[C34,ag,Bw]at eK;have:mem t (F5 (ops.toList.take m))=true:=by
       have cE:=Bq fX;clear eK;generalize ops.toList.take m=os at cE
       induction os with
       |nil=>cases cE
       |cons x os ih=>
        rcases Bg.1 cE with rfl|h3
        ·exact A72 dM
        ·exact A8b (ih h3)
      rw[this]at eK;cases eK
    have pD:∀d,X.get (bxi d)=sF.get (bxi d):=λd=>by
     rw[<-hX,A0c];cases dW:mem (bxi d) (J0 listed (G5 0 (ops.toList.take m)))with
     |false=>rfl
     |true=>
      obtain⟨j,hj,_⟩:=A0U.1 dW;obtain⟨_,o',fX,dM⟩:=A2X.1 hj;have:=bM o' (Dr (Bq fX)) _ dM;exact absurd this (by show¬((1000000+d:Nat)<1000000);omega)
    have jZ:Sees o sF X:=by
     refine⟨λt' dF=>?_,λd ls bc=>by rw[B1c (pD d)];exact bc⟩;rw[ag]at dF;simp only[Bb]at dF;have:t'=t:=by simpa using dF
     rw[this];exact xq
    have aK:∀d,o.dst=some d->sF.get d=opd E X o.type (.tmp t):=λd kZ=>by
     rcases hR.ran with⟨_,⟨_,e,he,ms⟩|⟨jv,_⟩⟩|⟨eJ,_⟩
     ·rw[he d kZ];rcases ms X jZ with h7|⟨h7,_⟩|⟨_,_,h7,_⟩
      ·simp only[M3,Q7,ag,Dx,Aq,A8,Bi,Bo]at h7;exact h7.1.symm
      ·simp only[Q3,ag]at h7;cases h7
      ·rw[ag]at h7;cases h7
     ·simp only[Gd,pK]at jv;cases jv
     ·rw[ag]at eJ;cases eJ
    have nI:=REL.setO hr (A3J hr o.type (.tmp t)) (B3C _ _ _) o.dst hd;refine B9y hE lJ bM ly eg k9 oG fuel _ _ (by simp[ao]) ?_ (λj hj=>cS j (by simp[hj])) (Gu.1 pL).2 (λj hj=>?_) ?_ (by rw[Z6];exact cZ) (λpM cR a' h1 h2 h3 h4 h5=>hK pM cR a' h1 h2 (λj=>?_) h4 h5)
    ·have:=B1p gm.2;rw[Et];omega
    ·have dP:i≠j:=λe=>(Gu.1 pL).1 (by rw[e];exact hj);rw[Cv false dP];exact gg j (by simp[hj])
    ·obtain⟨g',nI⟩:=nI;refine⟨g',nI.weaken (λt'=>?_) (λd fj=>by rw[A01, <-hX];exact fj) (λ_ d _ _ h=>by rw[A01, <-hX]at h;exact h)⟩;rw[A0c];cases dW:mem t' (J0 (listed.setIfInBounds i true) (G5 0 (ops.toList.take m)))with
     |true=>left;rfl
     |false=>
      right
      simp only[Aq];rw[T5];by_cases kZ:o.dst=some t'
      ·rw[Au kZ];exact aK t' kZ
      ·rw[At kZ, <-hX,A0c];cases jY:mem t' (J0 listed (G5 0 (ops.toList.take m)))with
       |false=>rfl
       |true=>
        exfalso;obtain⟨j,hj,hl⟩:=A0U.1 jY;have dP:j≠i:=by
         rintro rfl;obtain⟨_,o',fX,dM⟩:=A2X.1 hj;rw[Dh,Cq,Au jz,nG]at fX;cases fX;exact kZ dM
        have:mem t' (J0 (listed.setIfInBounds i true) (G5 0 (ops.toList.take m)))=true:=A0U.2 ⟨j,hj,by rw[Cv false (Ne.symm dP)];exact hl⟩;rw[this]at dW;cases dW
    ·rw[h3 j,dg j];simp only[Bg];constructor
     ·rintro((h|h)|h)
      ·exact .inl h
      ·exact .inr (.inl h)
      ·exact .inr (.inr h)
     ·rintro(h|h|h)
      ·exact .inl (.inl h)
      ·exact .inl (.inr h)
      ·exact .inr h
  ·cases mO
def L7(Q:Exit->Act->World->Prop):Exit->Act->World->Prop
 | .normal,a,w=>Q .normal a w
 |_,_,_=>False
theorem C50(hE:Z4 P E B){Q:Exit->Act->World->Prop}(id:Nat)(ops:Array Oper)(s:St Ty den)(a:Act)(w:World)(k:St Ty den->Option R)
  (h:B5T E ops s k=some r)(hr:REL E.U B s a w)(ao:a.tmps.size=E.nt)
  (hk:∀s' a' w',k s'=some r->REL E.U B s' a' w'->a'.tmps.size=E.nt->Q .normal a' w'):(Code.region id ops true).wp P Q a w:=by
 refine Code.wp_mono (Q:=L7 Q) (λe a w h=>by cases e<;>first|exact h|exact h.elim) ?_;have k9:∀c a d v w,L7 Q (.panic c) (Ev a d v) w->L7 Q (.panic c) a w:=λ_ _ _ _ _ h=>h.elim;have hk:∀s' a' w',k s'=some r->REL E.U B s' a' w'->a'.tmps.size=E.nt->L7 Q .normal a' w':=hk;generalize L7 Q=Q0 at k9 hk ⊢;unfold B5T at h;obtain⟨gf,h⟩:=B8 h;obtain⟨nJ,dT⟩:=C3Z (E:=E) ops.toList;generalize hm:W5 E ops.toList=m at h gf nJ dT;simp only[C1S,Aw]at gf;obtain⟨pN,iQ,jI,mS,jK⟩:=gf;have eg:∀(j:Nat)(o:Oper) cs b,ops[j]?=some o->o.op≠ .select cs b:=λj o cs b ho=>B8A jK o (Bq (i:=j) (by simpa using ho)) cs b;have bQ:∀j o,(ops.toList.take m)[j]?=some o->B1n E ops m j o:=λj o ho=>by
  have:=C3V rfl pN j o ho;rwa [Bj]at this
 rw[B0p]at jI mS h iQ;have pO:∀k,mem k (flL ops m (F5 (ops.toList.take m)) 0 ops.toList)=true->∃o,ops.toList[k]?=some o/\(A0P ops m (F5 (ops.toList.take m)) k o||tl1 ops m k o)=true:=λk hk=>by
  obtain⟨o,_,h2,h3⟩:=C3M _ _ _ hk;rw[Dh]at h2;exact⟨o,h2,h3⟩
 generalize cS:flL ops m (F5 (ops.toList.take m)) 0 ops.toList=fl at iQ pO;have bM:∀o∈ops.toList,∀d,o.dst=some d->d<1000000:=λo ho d hd=>by
  have bG:∀(l:Aj),A93 l=true->mem d l=true->d<1000000:=by
   intro l
   induction l with
   |nil=>intro _ h;cases h
   |cons x l ih=>
    intro h1 h2;simp only[A93,Aw]at h1;rw[mem_cons]at h2;rcases h2 with rfl|h2
    ·simpa [Bh]using h1.1
    ·exact ih h1.2 h2
  refine bG _ mS ?_;clear h jI mS pN iQ bQ dT nJ hm pO cS jK;generalize ops.toList=os at ho
  induction os with
  |nil=>cases ho
  |cons x os ih=>
   rcases Bg.1 ho with rfl|ho
   ·exact A72 hd
   ·exact A8b (ih ho)
 have vI:Y2 (F5 (ops.toList.take m))=true:=by
  have bG:∀(os:List Oper)(m:Nat),Y2 (F5 os)=true->Y2 (F5 (os.take m))=true:=by
   intro os
   induction os with
   |nil=>intro m h;simpa using h
   |cons x os ih=>
    intro m h;cases m with
    |zero=>rfl
    |succ m=>
     simp only[Gt,F5]at h ⊢;cases hd:x.dst with
     |none=>rw[hd]at h;exact ih m h
     |some d=>
      rw[hd]at h;simp only[Y2,Aw,Bw]at h ⊢;refine⟨?_,ih m h.2⟩;cases vJ:mem d (F5 (os.take m))with
      |false=>rfl
      |true=>
       obtain⟨y,hy,nA⟩:=C13 vJ;have:mem d (F5 os)=true:=by
        have vK:=Dr hy;clear ih h vJ hy
        induction os with
        |nil=>cases vK
        |cons z os xr=>
         rcases Bg.1 vK with rfl|h3
         ·exact A72 nA
         ·exact A8b (xr h3)
       rw[h.1]at this;cases this
  exact bG _ m jI
 have fb:∀md,∀(k:Nat) o,ops.toList[k]?=some o->(∀e∈o.after,e.on<k\/e.on<m)/\(m<=k->∀listed:Array Bool,DC md ops listed->(∀e∈o.after,Ce md e=true->listed.getD e.on false=true)->∀j,j<k->mem j fl=false->listed.getD j false=true):=λmd k o ho=>by
  have:=B9s (md:=md) (ops:=ops) (m:=m) (fl:=fl) ops.toList 0 [] rfl (λj o hj=>by rw[Bj];exact hj) iQ (λ_ _ k c h=>by simp at h) k o ho;rw[Bj]at this;exact this
 obtain⟨sF,⟨h1,cY⟩,h2,h3,h4⟩:=B8u ops (by rw[hm]) dT (λo ho=>bM o (Dr ho)) (ops.toList.take m) _ _ (λ_ h=>h) (C22 (m:=m) bQ (ops.toList.take m) 0 (λj o hj=>by rw[Bj];exact hj) vI) h;have th:∃al:Option (Nat×Nat×List (Leaf Ty den)),C40 P E ops m sF al/\V9 E ops (ops.toList.drop m) (match al with|none=>sF|some (_,i,zs)=>T2 i zs sF) k=some r:=by
  have fo:=C4l (ops.toList.take m) 0;cases vL:A0y 0 (ops.toList.take m)with
  |none=>
   rw[vL]at h1 fo;refine⟨none,λj o hj ho=>?_,h1⟩;have ms:(ops.toList.take m)[j]?=some o:=by rw[Cq,Au hj];exact ho
   rcases fo j o ms with h5|h5
   ·exact h5
   ·cases pG:O8 o.op with
    |false=>rfl
    |true=>
     have:=dT o (Bq ms);simp only[A0X,A6I,pG,h5,mbO,Dx,Fz]at this;exact absurd (A7X this) (by rw[pG];simp)
  |some p=>
   obtain⟨ia,i,t⟩:=p;rw[vL]at h1 fo;dsimp only at h1 fo;obtain⟨_,⟨o,h5,h6,h7⟩,h8⟩:=fo;rw[Dh]at h5 h8;have pP:ia<m:=by
    have:=I7 h5;simp at this;omega
   have mX:ops.toList[ia]?=some o:=by rw[Cq,Au pP]at h5;exact h5
   split at h1
   ·rename_i zs dG;obtain⟨hc,h1⟩:=B8 h1;simp only[Aw,Bw,Bh]at hc;obtain⟨c1,c2,c3,c4,c5,c6⟩:=hc;refine⟨some (ia,i,zs),⟨t,⟨o,mX,h6,h7,?_⟩,pP,dG,c3,c6,c4,λj=>B32 _ _ c5 j,bM o (Bq mX) i h7,λj oj hj gi oH=>?_,λj oj hj gi=>?_⟩,h1⟩
    ·have:=dT o (Bq h5);have dS:Q6 E o=false:=by
      cases hp:Q6 E o with
      |false=>rfl
      |true=>have:=A7X hp;rw[h6]at this;cases this
     simp only[A0X,dS,Ga,A6I,Aw]at this;simpa using this.2.1
    ·have ms:(ops.toList.take m)[j]?=some oj:=by rw[Cq,Au hj];exact gi
     rcases Eg j ia with h9|h9|h9
     ·rcases h8 j oj h9 ms with fg|fg
      ·rw[fg]at oH;cases oH
      ·have:=dT oj (Bq ms);simp only[A0X,A6I,oH,fg,mbO,Dx,Fz]at this;exact absurd (A7X this) (by rw[oH];simp)
     ·exact h9
     ·have:=C24 c1 (j - (ia+1)) oj (by rw[Fm,show ia+1+(j - (ia+1))=j by omega];exact ms);rw[this]at oH;cases oH
    ·exact C0u c2 j oj (by rw[Cq,Au hj];exact gi)
   ·cases h1
 obtain⟨al,eJ,hT⟩:=th;obtain⟨g,hr⟩:=hr;have dv:REL E.U B (stL al (Br ops.size false) (sF.dels (J0 (Br ops.size false) (G5 0 (ops.toList.take m))))) a {w with drawn:=w.drawn+1}:=by
  have cO:stL al (Br ops.size false) (sF.dels (J0 (Br ops.size false) (G5 0 (ops.toList.take m))))=sF.dels (J0 (Br ops.size false) (G5 0 (ops.toList.take m))):=by
   cases al with
   |none=>rfl
   |some p=>
    obtain⟨ia,i,zs⟩:=p;have:(Br ops.size false).getD ia false=false:=by
     rw[Bm,Ge];split<;>rfl
    simp only[stL,this,Aq]
  rw[cO];have ea:=hr.drew hE.U;refine⟨g,Rel.weaken ea (λi=>?_) (λd hd=>?_) (λi d ls _ hd=>by
   show mem d sF.live=true;have h5:sF.live=s.live:=h2;rw[h5];exact hd)⟩
  ·rw[A0c];have ce:mem i (J0 (Br ops.size false) (G5 0 (ops.toList.take m)))=mem i (F5 (ops.toList.take m)):=by
    rw[<-B0p (ops.toList.take m) 0];generalize G5 0 (ops.toList.take m)=ps
    induction ps with
    |nil=>rfl
    |cons p ps ih=>
     obtain⟨d,j⟩:=p;have:(Br ops.size false).getD j false=false:=by
      rw[Bm,Ge];split<;>rfl
     simp only[J0,this,Aq,mem,Gv,ih]
   rw[ce];cases jY:mem i (F5 (ops.toList.take m))with
   |true=>left;rfl
   |false=>
    right
    simp only[Aq];rw[h3 i jY,A0c,jY];rfl
  ·have h5:sF.live=s.live:=h2;have h6:(sF.dels (J0 (Br ops.size false) (G5 0 (ops.toList.take m)))).live=sF.live:=rfl;rw[h6,h5]at hd;exact hd
 have pQ:m<=ops.size:=by simpa using nJ
 have jX:∀i,(Br ops.size false).getD i false=false:=λi=>by
  rw[Bm,Ge];split<;>rfl
 have pS:∀(listed:Array Bool)(X:St Ty den),(∀j,listed.getD j false=true->j∈(Dj m).filter λi=>mem i fl)->stL al listed X=X:=λlisted X hl=>by
  cases al with
  |none=>rfl
  |some p=>
   obtain⟨ia,i,zs⟩:=p;obtain⟨t,hA⟩:=eJ;have:listed.getD ia false=false:=by
    cases oF:listed.getD ia false with
    |false=>rfl
    |true=>
     exfalso;have h5:=hl ia oF;simp only[Ej,Ei]at h5;obtain⟨o,h6,h7⟩:=pO ia h5.2;obtain⟨oa,q1,q2,_⟩:=hA.op;have xt:oa=o:=by rw[q1]at h6;exact Cn h6
     subst xt;have dx:A33 oa=false:=by
      unfold A33;split
      ·rename_i t he;rw[he]at q2;cases q2
      ·simp
     have aU:A7g oa=false:=by
      unfold A7g;split
      ·rename_i t he;rw[he]at q2;cases q2
      ·simp
     simp[A0P,tl1,dx,aU]at h7
   simp only[stL,this,Aq]
 have mu:∀i,i∈(Dj m).filter (λi=>mem i fl)->∃o,ops.toList[i]?=some o/\A0P ops m (F5 (ops.toList.take m)) i o=true:=λi hi=>by
  simp only[Ej,Ei]at hi;obtain⟨o,h6,h7⟩:=pO i hi.2;refine⟨o,h6,?_⟩;rcases Er.1 h7 with h8|h8
  ·exact h8
  ·exfalso;simp only[tl1,Aw]at h8;have:=Di h8.1;omega
 have fY:=λmd=>B9y (B:=B) (md:=md) (Q:=Q0) hE h4 bM jI eg k9 ((Dj m).filter λi=>mem i fl) ops.size (Br ops.size false) a (by simp) (by simp) mu (List.nodup_range.filter _) (λi _=>jX i) (by
   have:=dv;rw[pS _ _ (λj hj=>by rw[jX]at hj;cases hj)]at this;exact this) ao (λpT lM a0 tj pU cH vH tk=>
  C5G (B:=B) (md:=md) (Q:=Q0) (fl:=fl) hE pQ bQ h4 cY jI bM eJ (fb md) (λfuel listed a' w' bc ff hl bD ik=>
   B5I hE (fb md) (λk o ho xu jy=>by
    obtain⟨o',h6,h7⟩:=pO k xu;rw[ho]at h6;cases h6;rcases Er.1 h7 with h8|h8
    ·exfalso;simp only[A0P,Aw,Bh]at h8;omega
    ·simp only[tl1,Aw]at h8;exact h8.2) eg k9 hk (ops.toList.drop m) m (stL al listed sF) a' w' fuel listed rfl bc ff hl (Be _) pQ (by
    cases al with
    |none=>exact hT
    |some p=>
     obtain⟨ia,i,zs⟩:=p;obtain⟨t,hA⟩:=eJ;simp only[stL,(hl ia).2 hA.lt,Ap];exact hT) bD ik) pT lM a0 _ tj pU (λi o hi ho e he _=>by
    rcases (cH i).1 hi with h5|h5
    ·rw[jX]at h5;cases h5
    ·obtain⟨o',h6,h7⟩:=mu i h5;have mX:ops.toList[i]?=some o:=by simpa using ho
     rw[mX]at h6;cases h6;simp only[A0P,Aw]at h7;exfalso;have h8:e∈o.after.toList:=by simpa using he
     have h9:=h7.2.2.1;cases hl:o.after.toList with
     |nil=>rw[hl]at h8;cases h8
     |cons y l=>rw[hl]at h9;cases h9) (λi hi=>by
    rcases (cH i).1 hi with h5|h5
    ·rw[jX]at h5;cases h5
    ·simp only[Ej,Ei]at h5;exact h5.1) (λj hj sU=>(cH j).2 (.inr (by simp only[Ej,Ei];exact⟨hj,sU⟩))) (by
    rw[pS _ _ (λj hj=>by
     rcases (cH j).1 hj with h5|h5
     ·rw[jX]at h5;cases h5
     ·exact h5)]
    exact vH) tk)
 refine wp_region_draw λt=>?_;unfold Region.schedule;split
 ·exact Ez _ _ _ _ _ (fY .any)
 ·split
  ·exact Ez _ _ _ _ _ (fY .text)
  ·exact Ez _ _ _ _ _ (fY .gc)
end
end Go.Aev
end
section
open Go.Lib
namespace Go.Aev
variable {Ty:Type}{den:Ty->Type}
section
variable {E:Env Ty den}{B:Bs}{g:Gh}{s:St Ty den}{a:Act}{w:World}
variable {P:Bf}{R:Type}{o:Oper}{k:Ent Ty den->St Ty den->Option R}{r:R}{next:Act->World->Prop}{Q:Exit->Act->World->Prop}
def B7G:Ex->Exit
 | .normal=>.normal
 | .exit id=>.exit id
 | .ret=>.ret
def B4D(E:Env Ty den)(B:Bs)(k:Ex->St Ty den->Option R)(r:R)(Q:Exit->Act->World->Prop):Prop:=
 ∀e s a w,k e s=some r->REL E.U B s a w->a.tmps.size=E.nt->Q (B7G e) a w
theorem B82{c:Code}{body:St Ty den->(Ex->St Ty den->Option R)->Option R}
  (mw:∀(s:St Ty den)(a:Act)(w:World)(k:Ex->St Ty den->Option R)(Q:Exit->Act->World->Prop),body s k=some r->REL E.U B s a w->a.tmps.size=E.nt->B4D E B k r Q->c.wp P Q a w):
  ∀(n:Nat)(s:St Ty den)(a:Act)(w:World)(k:Ex->St Ty den->Option R)(Q:Exit->Act->World->Prop),D1 body n s k=some r->REL E.U B s a w->a.tmps.size=E.nt->B4D E B k r Q->
   ∀(b:Frame)(kk:List Item)(cs:List Frame),∃e a' w',Q e a' w'/\Arrives P (lone (b.at a (.code c::.inLoop c::kk)) cs w) b kk cs e a' w'
 |0,s,a,w,k,Q,h,hr,ao,hm,b,kk,cs=>by cases h
 |n+1,s,a,w,k,Q,h,hr,ao,hm,b,kk,cs=>by
  simp only[D1]at h;have h1:=mw s a w _ (λe a' w'=>match e with
   | .normal=>∀(b:Frame)(kk:List Item)(cs:List Frame),∃e vM pV,Q e vM pV/\Arrives P (lone (b.at a' (.code c::.inLoop c::kk)) cs w') b kk cs e vM pV
   |e=>Q e a' w') h hr ao (λe s' a' w' hk bD bW=>by
    cases e with
    |normal=>exact B82 mw n s' a' w' k Q hk bD bW hm
    |exit id=>exact hm _ _ _ _ hk bD bW
    |ret=>exact hm _ _ _ _ hk bD bW)
  obtain⟨e,a₁,w₁,hq,cw⟩:=h1 b (.inLoop c::kk) cs;cases e with
  |normal=>
   obtain⟨e₂,a₂,w₂,xv,pW⟩:=hq b kk cs;exact⟨e₂,a₂,w₂,xv,.of_steps (Steps.trans cw (.one step_inLoop)) pW⟩
  |exit id=>exact⟨_,a₁,w₁,hq,.pass (x:=.inLoop c) rfl (λ_ _=>.inl (by simp)) cw⟩
  |goto l=>exact⟨_,a₁,w₁,hq,.pass (x:=.inLoop c) rfl (λ_ _=>.inl (by simp)) cw⟩
  |ret=>exact⟨_,a₁,w₁,hq,.pass (x:=.inLoop c) rfl (λ_ _=>.inl (by simp)) cw⟩
  |panic ch=>exact⟨_,a₁,w₁,hq,.pass (x:=.inLoop c) rfl (λ_ _=>.inl (by simp)) cw⟩
  |outgrown=>exact⟨_,a₁,w₁,hq,.pass (x:=.inLoop c) rfl (λ_ _=>.inl (by simp)) cw⟩
theorem B93(hE:Z4 P E B)(n:Nat):∀(c:Code)(s:St Ty den)(a:Act)(w:World)(k:Ex->St Ty den->Option R)(Q:Exit->Act->World->Prop),B1 E n c s k=some r->REL E.U B s a w->a.tmps.size=E.nt->B4D E B k r Q->c.wp P Q a w:=by
 intro c
 induction c with
 |skip=>intro s a w k Q h hr ao hm;exact wp_skip (hm .normal s a w h hr ao)
 |region id ops tl=>
  intro s a w k Q h hr ao hm;cases tl with
  |true=>
   simp only[B1]at h;exact C50 hE id ops s a w _ h hr ao (λs' a' w' hk ⟨g',bD⟩ bW=>hm .normal _ _ _ hk ⟨g',bD.clean _⟩ bW)
  |false=>
   simp only[B1]at h;exact wp_region_list (A8N hE ops ops.toList s a w _ h hr ao (λs' a' w' hk ⟨g',bD⟩ bW=>hm .normal _ _ _ hk ⟨g',bD.clean _⟩ bW))
 |seq x y py tn=>
  intro s a w k Q h hr ao hm;simp only[B1]at h;refine wp_seq (py s a w _ _ h hr ao ?_);intro e s' a' w' hk bD bW;cases e with
  |normal=>exact tn s' a' w' k Q hk bD bW hm
  |exit id=>exact hm _ _ _ _ hk bD bW
  |ret=>exact hm _ _ _ _ hk bD bW
 |cond c x y py tn=>
  intro s a w k Q h hr ao hm;obtain⟨g,hr⟩:=hr;simp only[B1]at h;split at h
  ·rename_i t hc;have vN:=A7b hr hc;cases t with
   |true=>exact wp_cond_true vN (py s a w k Q h ⟨g,hr⟩ ao hm)
   |false=>exact wp_cond_false vN (tn s a w k Q h ⟨g,hr⟩ ao hm)
  ·cases h
 |block id c ih=>
  intro s a w k Q h hr ao hm;simp only[B1]at h;refine wp_block (ih s a w _ _ h hr ao ?_);intro e s' a' w' hk bD bW;cases e with
  |normal=>exact hm .normal _ _ _ hk bD bW
  |ret=>exact hm .ret _ _ _ hk bD bW
  |exit j=>
   simp only[A5]at hk;simp only[B7G,Exit.inBlock];cases hj:Ba j id with
   |true=>
    rw[hj]at hk;rw[Au ((F6 j id).1 hj)];exact hm .normal _ _ _ hk bD bW
   |false=>
    rw[hj]at hk;rw[At (λe=>by rw[(F6 j id).2 e]at hj;cases hj)];exact hm (.exit j) _ _ _ hk bD bW
 |loop c ih=>
  intro s a w k Q h hr ao hm;simp only[B1]at h;intro b kk cs;obtain⟨g,hr⟩:=hr;obtain⟨e,a',w',hq,cw⟩:=B82 (c:=c) (λs a w k Q h hr ao hm=>ih _ a w _ Q h hr ao (λe s' a' w' hk ⟨g',bD⟩ bW=>by
   cases e with
   |normal=>exact hm .normal _ _ _ hk ⟨g',bD.clean _⟩ bW
   |exit id=>exact hm _ _ _ _ hk ⟨g',bD⟩ bW
   |ret=>exact hm _ _ _ _ hk ⟨g',bD⟩ bW)) n _ a w k Q h ⟨g,hr.clean _⟩ ao hm b kk cs
  exact⟨e,a',w',hq,.of_steps (.one step_loop) cw⟩
 |exit id=>intro s a w k Q h hr ao hm;exact wp_exit (hm (.exit id) s a w h hr ao)
 |ret=>intro s a w k Q h hr ao hm;exact wp_ret (hm .ret s a w h hr ao)
 |rangeFunc f p x y=>intro s a w k Q h;simp only[B1]at h;cases h
 |scope c=>intro s a w k Q h;simp only[B1]at h;cases h
 |label l=>intro s a w k Q h;simp only[B1]at h;cases h
 |goto l=>intro s a w k Q h;simp only[B1]at h;cases h
 |refuse wy=>intro s a w k Q h;simp only[B1]at h;cases h
end
end Go.Aev
end
section
open Go.Lib
namespace Go.Aev
variable {Ty:Type}{den:Ty->Type}
section
variable {U:UO Ty den}{B:Bs}{g:Gh}{s:St Ty den}{a:Act}{w:World}
variable {E:Env Ty den}{P:Bf}
theorem A28:∀(ls:List (Leaf Ty den))(k i:Nat),look (A4D k ls) i=if h:k<=i/\i - k<ls.length then .one ls[i - k]else .one .any
 |[],k,i=>by simp[A4D,look]
 |l::ls,k,i=>by
  simp only[A4D,look];by_cases h:k=i
  ·subst h;simp[H3]
  ·rw[K0 h];simp only[Aq];rw[A28 ls (k+1) i];by_cases h1:k+1<=i/\i - (k+1)<ls.length
   ·rw[dif_pos h1,dif_pos (by simp;omega)]
    congr 1
    have:i - k=(i - (k+1))+1:=by omega
    simp[this]
   ·rw[dif_neg h1,dif_neg (by simp;omega)]
structure EnvI(P:Bf)(E:Env Ty den)(I:Inv):Prop where
 U:E.U.Ok
 tb:∀t,P8 P E.U t (E.tb t)
 zr:∀t zs,E.zr t=some zs->A2h P E.U t zs
 T:∀f ls r,E.T f ls=some (true,r)->(∀args w,(Bn f args).run P w=.ok (.enter f args) w)/\A1U P E.U I f ls r
 TB:∀f ls cs rs aR,E.TB f ls cs=some (rs,aR)->(∀args w,(Bn f args).run P w=.ok (.enter f args) w)/\Z1 P E.U I f ls cs rs aR
 TI:∀(w:World)(m:Nat->Nat),I w m->∀nm ls cs rs aR,E.TI nm ls cs=some (rs,aR)->A49 P E.U ⟨w,m,λ_=>False,0,λ_=>undef⟩ nm ls cs rs aR
 TR:∀f ls cs rs,E.TR f ls cs=some rs->(∀args w,(Bn f args).run P w=.ok (.enter f args) w)/\Z1 P E.U I f ls cs rs cs
 mono:∀w m w' m',I w m->Ext w m w' m'->I w' m'
 dcx:A3q E.U
 TN:∀f ls cs,E.TNg f ls=some (true,cs)->(∀args w,(Bn f args).run P w=.ok (.enter f args) w)/\A7a P E.U I f ls cs
theorem EnvI.at{I:Inv}(eA:EnvI P E I){B:Bs}(hI:I B.w B.wm)(rX:B.np<=E.np):Z4 P E B:=
 ⟨eA.U,rX,eA.tb,eA.zr,λf' bL r' h'=>by
  obtain⟨h1,h2⟩:=eA.T f' bL r' h';exact⟨h1,λw1 g1 iR hx=>h2 w1 g1 iR (eA.mono _ _ _ _ hI hx)⟩,λf' bL fN pX o5 h'=>by
  obtain⟨h1,h2⟩:=eA.TB f' bL fN pX o5 h';exact⟨h1,λw1 g1 iR ji hx=>h2 w1 g1 iR ji (eA.mono _ _ _ _ hI hx)⟩,λnm bL fN pX o5 h'=>eA.TI _ _ hI nm bL fN pX o5 h',λf' bL fN pX h'=>by
  obtain⟨h1,h2⟩:=eA.TR f' bL fN pX h';exact⟨h1,λw1 g1 iR ji hx=>h2 w1 g1 iR ji (eA.mono _ _ _ _ hI hx)⟩,λf' bL fN h'=>by
  obtain⟨h1,h2,h3,h4⟩:=eA.TN f' bL fN h';exact⟨h1,h2,h3,λw1 g1 iR hx=>h4 w1 g1 iR (eA.mono _ _ _ _ hI hx)⟩⟩
theorem C45{I:Inv}(eA:EnvI P E I){f:Bp}{fn:Func}(hf:P.funcs[f]?=some fn)(cZ:E.nt=fn.ntmps){w:World}{g:Gh}{ls:List (Leaf Ty den)}{vs:Ai}(hI:I w g.wm)(hz:∀b,w.heap.size<=b->g.wm b=0)(ak:LsRep E.U w g ls vs)(cP:O0 ls=true->Tip w g.wm (g.G 0) (g.Gs 0))
  {c:Code}(hb:fn.body=some c)(aZ:ls.length<=E.nt){n:Nat}{R:Type}{kk:Ex->St Ty den->Option R}{r:R}(hn:B1 E n c (A1q ls) kk=some r){Rr:Ending->World->Prop}
  (cj:∀e s' a' w' g',kk e s'=some r->Rel E.U ⟨w,g.wm,λb=>O0 ls=true/\spare (g.G 0)=some b,0,λ_=>undef⟩ g' s' a' w'->(e=.normal\/e=.ret)/\∃v,(Ec fn a'.tmps).run P w'=.ok v w'/\Rr (.returned v) w'):Calls P f vs.toArray w Rr:=by
 have hE:Z4 P E ⟨w,g.wm,λb=>O0 ls=true/\spare (g.G 0)=some b,0,λ_=>undef⟩:=eA.at hI (Cc _);have aj:=ak.length;refine calls_of_wp hf hb ?_;refine B93 (B:=⟨w,g.wm,λb=>O0 ls=true/\spare (g.G 0)=some b,0,λ_=>undef⟩) hE n c _ _ _ _ _ hn ⟨g,?_⟩ (by simp;omega) ?_
 ·refine{os:=rfl,tape:=rfl,output:=rfl,size:=Be _,frame:=λb _ _=>⟨rfl,rfl⟩,ext:=Ext.refl _ _,zero:=hz,ent:=λi=>?_,tip:=λd hd=>?_,disj:=λd e b hd he av=>?_,mine:=λd b hd hs=>?_,iter:=λi c p h=>?_,idis:=λi j c p c' p' _ h=>?_,defers:=rfl,bxl:=λi d l h=>?_,pin:=λi hi=>absurd hi (Nat.not_lt_zero i)}
  ·simp only[A1q,St.get,A28,Cc,Dh,true_and];split
   ·rename_i hi;obtain⟨v,hv,cT⟩:=ak.get (Bl hi);have co:i<vs.length:=by omega
    have:(vs.toArray++Br (fn.ntmps - vs.toArray.size) undef).getD i undef=v:=by
     rw[Bm,Dd (by simpa using co)];simp[hv]
    rw[this];exact cT
   ·exact ERep.any _ _ _
  ·simp only[A1q]at hd;cases ho:O0 ls with
   |false=>rw[ho]at hd;cases hd
   |true=>
    rw[ho]at hd;simp only[Ap,mem_cons]at hd;rcases hd with rfl|hd
    ·exact cP ho
    ·cases hd
  ·simp only[A1q]at hd he;cases ho:O0 ls with
   |false=>rw[ho]at hd;cases hd
   |true=>
    rw[ho]at hd he;simp only[Ap,mem_cons]at hd he;rcases hd with rfl|hd
    ·rcases he with rfl|he
     ·exact absurd rfl av
     ·cases he
    ·cases hd
  ·simp only[A1q]at hd;cases ho:O0 ls with
   |false=>rw[ho]at hd;cases hd
   |true=>
    rw[ho]at hd;simp only[Ap,mem_cons]at hd;rcases hd with rfl|hd
    ·exact .inr ⟨rfl,hs⟩
    ·cases hd
  ·simp only[A1q,St.get,A28]at h;split at h<;>cases h
  ·simp only[A1q,St.get,A28]at h;split at h<;>cases h
  ·simp only[A1q,St.get,A28]at h;split at h<;>cases h
 ·intro e s' a' w' hk ⟨g',bD⟩ bW;obtain⟨he,v,h1,h2⟩:=cj e s' a' w' g' hk bD;rcases he with rfl|rfl
  ·exact⟨bD.defers,v,h1,h2⟩
  ·exact⟨bD.defers,v,h1,h2⟩
theorem A9j{I:Inv}(eA:EnvI P E I){f:Bp}{fn:Func}(hf:P.funcs[f]?=some fn)(cZ:E.nt=fn.ntmps)(eO:∀args w,(Bn f args).run P w=.ok (.enter f args) w)
  {S:List (Leaf Ty den)->Option (Ent Ty den)}(hS:∀ls r,S ls=some r->∃n,A3 E n fn ls=some r):Sound P E.U I f S:=by
 refine⟨eO,λls r bc w g vs hI hz ak cP dx=>?_⟩;obtain⟨n,hn⟩:=hS ls r bc;unfold A3 at hn;cases hb:fn.body with
 |none=>rw[hb]at hn;cases hn
 |some c=>
  rw[hb]at hn;obtain⟨aZ,hn⟩:=B8 hn;refine C45 eA hf cZ hI hz ak cP hb (by simpa [Eh]using aZ) hn λe s' a' w' g' hk bD=>?_;have cL:B1i E fn.results.toList s'=some r->∃v,(Ec fn a'.tmps).run P w'=.ok v w'/\(λe w'=>∃v g',e=Fw v/\Post E.U ⟨w,g.wm,λb=>O0 ls=true/\spare (g.G 0)=some b,0,λ_=>undef⟩ g' r v w') (.returned v) w':=λhp=>by
   obtain⟨v,h1,g2,h2⟩:=D8T (P:=P) eA.tb eA.U eA.dcx hp bD;exact⟨v,h1,v,g2,rfl,h2⟩
  cases e with
  |normal=>exact⟨.inl rfl,cL hk⟩
  |ret=>exact⟨.inr rfl,cL hk⟩
  |exit id=>cases hk
theorem D3p{I:Inv}(eA:EnvI P E I){f:Bp}{fn:Func}(hf:P.funcs[f]?=some fn)(cZ:E.nt=fn.ntmps){n:Nat}{ls cs:List (Leaf Ty den)}(hn:B4c E n fn ls=some cs)(ho:O0 ls=false):A7a P E.U I f ls cs:=by
 unfold B4c at hn;cases hb:fn.body with
 |none=>rw[hb]at hn;cases hn
 |some c=>
  rw[hb]at hn;obtain⟨aZ,hn⟩:=B8 hn;split at hn
  ·rename_i lD fy;obtain⟨lN,hn⟩:=B8 hn;cases hn;rw[Aw,Bh]at lN;refine⟨lN.1,lN.2,λw g vs hI hz ak dx=>?_⟩;refine C45 eA hf cZ hI hz ak (λh=>by rw[ho]at h;cases h) hb (by simpa [Eh]using aZ) fy λe s' a' w' g' hk bD=>?_;have cL:∀h:(match fn.results.toList with
     |[.tmp t]=>match s'.get t with
      | .one (.ptr d o)=>bif Ba o 0&&Bu d 1000000 then O6 s' d else none
      |_=>none
     |_=>none)=some cs,∃v,(Ec fn a'.tmps).run P w'=.ok v w'/\(λe w'=>∃b g',e=Fw (.pointer (some ⟨b,0,none⟩))/\Post E.U ⟨w,g.wm,λ_=>False,0,λ_=>undef⟩ g' (.one .any) (.pointer (some ⟨b,0,none⟩)) w'/\w.heap.size<=b/\
      Tip w' g'.wm (.slice (some ⟨b,0,none⟩) 0 cs.length) 1/\∀(j:Nat) lf,cs[j]?=some lf->∃u,w'.cell? ⟨b,j,none⟩=some u/\u.oneCell'=true/\u.cells= #[u]/\CRep E.U w' g'.wm lf u) (.returned v) w':=λh=>by
    split at h
    ·rename_i t ht;split at h
     ·rename_i d o hg;obtain⟨hc,h'⟩:=B8 h;rw[Aw]at hc;have:=(F6 _ _).1 hc.1;subst this;obtain⟨bU,aw,_⟩:=A2I bD h';have aK:=bD.ent t;rw[hg]at aK;obtain⟨b,n,hG,hv,⟨h0,h1,h2⟩,cW,aN⟩:=A64 (by decide) aK bU;cases h2 hc.2;have af:=A83 P fn a' w' [.tmp t] ht (vs:=[a'.tmps.getD t undef]) (λf hf=>by simp[hf.tmp]);simp only[V4,List.length_singleton,dif_pos,List.getElem_cons_zero]at af;rw[hv]at af;have bf:spare (g'.G d)=some b:=by rw[hG];simp only[spare];rw[At (by omega)]
      have cP:=bD.tip d aw;rw[hG,cW]at cP;refine⟨_,af,b,g',rfl,{os:=bD.os,tape:=bD.tape,output:=bD.output,size:=bD.size,frame:=λk hk _=>bD.frame k hk (λh=>by have:=h.1;rw[ho]at this;cases this),ext:=bD.ext,zero:=bD.zero,rep:=LRep.any _,nit:=rfl,tip:=λd hd=>(by cases hd),disj:=λd _ _ hd=>(by cases hd),mine:=λd _ hd=>(by cases hd)},?_,cP,λj lf hj=>?_⟩
      ·rcases bD.mine d b aw bf with h|h
       ·exact h
       ·have:=h.1;rw[ho]at this;cases this
      ·obtain⟨u,u1,u2,u3,u4⟩:=aN j lf hj;exact⟨u,u1,u2,u3,u4.1⟩
     ·cases h
    ·cases h
   cases e with
   |normal=>exact⟨.inl rfl,cL hk⟩
   |ret=>exact⟨.inr rfl,cL hk⟩
   |exit id=>cases hk
  ·cases hn
theorem A8l{d:Nat}:∀{ls:List (Leaf Ty den)},mem d (A0v ls)=true->M4 ls d
 |[],h=>by cases h
 |l::ls,h=>by
  have lO:mem d (A0v ls)=true->M4 (l::ls) d:=λh=>by
   obtain⟨lf,h1,h2⟩:=A8l h;exact⟨lf,by simp[h1],h2⟩
  cases l with
  |sl t x o=>
   cases o with
   |none=>exact lO h
   |some e=>
    simp only[A0v,mem_cons]at h;rcases h with h|h
    ·exact⟨.sl t x (some e),by simp,by simp[Leaf.has,h,H3]⟩
    ·exact lO h
  |ptr e o=>
   simp only[A0v,mem_cons]at h;rcases h with h|h
   ·exact⟨.ptr e o,by simp,by simp[Leaf.has,h,H3]⟩
   ·exact lO h
  |_=>exact lO h
theorem C2W{d:Nat}:∀{ls:List (Leaf Ty den)},M4 ls d->mem d (A0v ls)=true
 |[],⟨lf,h,_⟩=>by simp at h
 |l::ls,⟨lf,h,hd⟩=>by
  simp only[Bg]at h;rcases h with rfl|h
  ·rcases (Leaf.has_iff d _).1 hd with⟨t,x,rfl⟩|⟨o,rfl⟩
   ·exact(mem_cons _ _ _).2 (.inl rfl)
   ·exact(mem_cons _ _ _).2 (.inl rfl)
  ·have ih:=C2W ⟨lf,h,hd⟩;cases l with
   |sl t x o=>
    cases o with
    |none=>exact ih
    |some e=>simp only[A0v,mem_cons];exact .inr ih
   |ptr e o=>simp only[A0v,mem_cons];exact .inr ih
   |_=>exact ih
theorem A9i:∀(rs:List ResultVar)(j:Nat)(s:St Ty den),(∀c d,(c,d)∈F1 j s rs->c<=j+rs.length/\mem d (K1 s rs).live=false)/\(∀e,mem e (K1 s rs).live=true->mem e s.live=true)
 |[],j,s=>⟨λc d h=>by simp[F1]at h,λ_ h=>h⟩
 | .cell _ _::r,j,s=>by
  obtain⟨h1,h2⟩:=A9i r (j+1) s;simp only[F1,K1];exact⟨λc d h=>by obtain⟨k1,k2⟩:=h1 c d h;exact⟨by simp only[Ct];omega,k2⟩,h2⟩
 | .tmp t::r,j,s=>by
  have skip:∀(s':St Ty den),(∀e,mem e s'.live=true->mem e s.live=true)->F1 j s (.tmp t::r)=F1 (j+1) s' r->K1 s (.tmp t::r)=K1 s' r->
    (∀c d,(c,d)∈F1 j s (.tmp t::r)->c<=j+(ResultVar.tmp t::r).length/\mem d (K1 s (.tmp t::r)).live=false)/\(∀e,mem e (K1 s (.tmp t::r)).live=true->mem e s.live=true):=by
   intro s' hl he hS;obtain⟨h1,h2⟩:=A9i r (j+1) s';rw[he,hS];exact⟨λc d h=>by obtain⟨k1,k2⟩:=h1 c d h;exact⟨by simp only[Ct];omega,k2⟩,λe h=>hl e (h2 e h)⟩
  cases hg:s.get t with
  |one l=>
   cases l with
   |sl t0 x o=>
    cases o with
    |none=>exact skip s (λ_ h=>h) (by simp only[F1,hg]) (by simp only[K1,hg])
    |some d=>
     cases hm:mem d s.live with
     |false=>exact skip (s.kill d) (λ_ h=>(A3e.1 h).1) (by simp only[F1,hg,hm,Aq]) (by simp only[K1,hg])
     |true=>
      obtain⟨h1,h2⟩:=A9i r (j+1) (s.kill d);have he:F1 j s (.tmp t::r)=(bif Ba d 0 then 0 else j+1,d)::F1 (j+1) (s.kill d) r:=by simp only[F1,hg,hm,Ap]
      have hS:K1 s (.tmp t::r)=K1 (s.kill d) r:=by simp only[K1,hg]
      rw[he,hS];refine⟨λc d' h=>?_,λe h=>(A3e.1 (h2 e h)).1⟩;simp only[Bg,Bo]at h;rcases h with⟨rfl,rfl⟩|h
      ·refine⟨?_,?_⟩
       ·cases Ba d' 0<;>simp only[Ap,Aq,Ct]<;>omega
       ·cases h5:mem d' (K1 (s.kill d') r).live with
        |false=>rfl
        |true=>exact absurd rfl (A3e.1 (h2 _ h5)).2
      ·obtain⟨k1,k2⟩:=h1 c d' h;exact⟨by simp only[Ct];omega,k2⟩
   |_=>exact skip s (λ_ h=>h) (by simp only[F1,hg]) (by simp only[K1,hg])
  |tup ls=>exact skip s (λ_ h=>h) (by simp only[F1,hg]) (by simp only[K1,hg])
  |st ls=>exact skip s (λ_ h=>h) (by simp only[F1,hg]) (by simp only[K1,hg])
  |iter c p=>exact skip s (λ_ h=>h) (by simp only[F1,hg]) (by simp only[K1,hg])
  |bx d' ls=>exact skip s (λ_ h=>h) (by simp only[F1,hg]) (by simp only[K1,hg])
theorem C0M:∀(cs:List (List (Leaf Ty den)))(bP:List (Nat×Ai))(kk:Nat)(s:St Ty den),Rel U B g s a w->Z3 w g (O3 kk cs.length) cs bP->LsRep U w g (G4 kk cs) (A0f bP)->(∀i,i<cs.length->mem (C0 (kk+i)) s.live=true)->
  Rel U B g (B56 kk s cs) a w
 |[],[],kk,s,hr,_,_,_=>hr
 |c::cs,(b,us)::bP,kk,s,hr,hb,hl,hm=>by
  obtain⟨⟨b1,b2,b3,b4,b5⟩,aY⟩:=hb;obtain⟨h1,h2⟩:=LsRep.split hl.2 b2.symm;exact C0M cs bP (kk+1) _ (hr.setBx (B3R b1 b2 b3 b4 b5 h1) (hm 0 (by simp))) aY h2 λi hi=>by
   have:=hm (i+1) (by simpa using hi);rw[show kk+(i+1)=kk+1+i by omega]at this;exact this
 |[],_::_,_,_,_,h,_,_=>h.elim
 |_::_,[],_,_,_,h,_,_=>h.elim
theorem C4z:∀{ps:Aj}{kk:Nat},pinned E s kk ps=true->∀{i p:Nat},ps[i]?=some p->s.get p=.one (.ptr (C0 (kk+i)) 0)/\p<E.np
 |[],_,_,i,p,h=>by simp at h
 |q::ps,kk,h,i,p,hp=>by
  simp only[pinned,Aw]at h;cases i with
  |zero=>
   simp at hp;subst hp;have h1:=h.1;split at h1
   ·rename_i d hd;simp only[Aw,Bh]at h1;have:=(F6 _ _).1 h1.1;subst this;exact⟨hd,h1.2⟩
   ·cases h1
  |succ i=>
   have:=C4z h.2 (i:=i) (p:=p) (by simpa using hp);rw[show kk+(i+1)=kk+1+i by omega];exact this
theorem B7R{args:List (Leaf Ty den)}:∀{ps:Aj}{kk:Nat},A9s args kk ps=true->∀{i p:Nat},ps[i]?=some p->args[p]?=some (.ptr (C0 (kk+i)) 0)
 |[],_,_,i,p,h=>by simp at h
 |q::ps,kk,h,i,p,hp=>by
  simp only[A9s,Aw]at h;cases i with
  |zero=>
   simp at hp;subst hp;have h1:=h.1;split at h1
   ·rename_i d hd;have:=(F6 _ _).1 h1;subst this;exact hd
   ·cases h1
  |succ i=>
   have:=B7R h.2 (i:=i) (p:=p) (by simpa using hp);rw[show kk+(i+1)=kk+1+i by omega];exact this
theorem B4j:∀{ds:Aj}{cs:List (List (Leaf Ty den))}{bP:List (Nat×Ai)},Z3 w g ds cs bP->ds.length=bP.length/\cs.length=bP.length/\∀{i d:Nat}{c:List (Leaf Ty den)},ds[i]?=some d->cs[i]?=some c->∃(b:Nat)(us:Ai),bP[i]?=some (b,us)/\g.G d=.slice (some ⟨b,0,none⟩) 0 us.length/\us.length=c.length
 |[],[],[],_=>⟨rfl,rfl,λh=>by simp at h⟩
 |x::ds,c::cs,(b,us)::bP,hb=>by
  obtain⟨h1,h2,h3⟩:=B4j hb.2;refine⟨by simp[h1],by simp[h2],λ{i d c'} hd hc=>?_⟩;cases i with
  |zero=>simp at hd hc;subst hd hc;exact⟨b,us,rfl,hb.1.1,hb.1.2.1⟩
  |succ i=>simpa using h3 (i:=i) (by simpa using hd) (by simpa using hc)
 |[],[],_::_,h=>h.elim
 |[],_::_,bP,h=>by cases bP<;>exact h.elim
 |_::_,[],bP,h=>by cases bP<;>exact h.elim
 |_::_,_::_,[],h=>h.elim
theorem C2Y:∀{cs aR:List (List (Leaf Ty den))},B1Y cs aR=true->cs.length=aR.length/\∀{i:Nat}{c c':List (Leaf Ty den)},cs[i]?=some c->aR[i]?=some c'->c.length=c'.length
 |[],[],_=>⟨rfl,λh=>by simp at h⟩
 |a::r,b::r',h=>by
  simp only[B1Y,Aw]at h;obtain⟨h1,h2⟩:=C2Y h.2;refine⟨by simp[h1],λ{i c c'} hc cq=>?_⟩;cases i with
  |zero=>simp at hc cq;subst hc cq;exact(F6 _ _).1 h.1
  |succ i=>exact h2 (i:=i) (by simpa using hc) (by simpa using cq)
 |[],_::_,h=>by cases h
 |_::_,[],h=>by cases h
theorem B8j:∀(n kk:Nat),A0e (O3 kk n)=true
 |0,_=>rfl
 |n+1,kk=>by
  simp only[O3,A0e,Aw,Bw];refine⟨?_,B8j n (kk+1)⟩;have:∀(n k2:Nat),kk<k2->mem (C0 kk) (O3 k2 n)=false:=by
   intro n
   induction n with
   |zero=>intro _ _;rfl
   |succ n ih=>
    intro k2 hk;simp only[O3,mem];rw[K0 (by unfold C0;omega)];exact ih (k2+1) (by omega)
  exact this n (kk+1) (by omega)
theorem B88:∀(n kk:Nat),(O3 kk n).length=n
 |0,_=>rfl
 |n+1,kk=>by simp[O3,B88 n]
theorem B2J{I:Inv}(eA:EnvI P E I){f:Bp}{fn:Func}{ps:Aj}(hf:P.funcs[f]?=some fn)(cZ:E.nt=fn.ntmps)(eO:∀args w,(Bn f args).run P w=.ok (.enter f args) w)
  {S:List (Leaf Ty den)->List (List (Leaf Ty den))->Option (List (Leaf Ty den)×List (List (Leaf Ty den)))}(hS:∀ls cs r,S ls cs=some r->∃n,C8 E n fn ps ls cs=some r):D4 P E.U I f S:=by
 refine⟨eO,λls cs rs aR bc w g vs bP hI hz ak pY my cP pZ dx=>?_⟩;obtain⟨n,hn⟩:=hS ls cs _ bc;unfold C8 at hn;cases hb:fn.body with
 |none=>rw[hb]at hn;cases hn
 |some c=>
  rw[hb]at hn;obtain⟨lN,hn⟩:=B8 hn;simp only[Aw,Eh,Bh]at lN;obtain⟨aZ,xw,iI,ck⟩:=lN;have iI:=(F6 _ _).1 iI;have aj:=ak.length;generalize hB:(⟨w,g.wm,λb=>∃d,M4 (G4 0 cs) d/\spare (g.G d)=some b,E.np,λi=>(vs.toArray++Br (fn.ntmps - vs.toArray.size) undef).getD i undef⟩:Bs)=B0;have hE:Z4 P E B0:=eA.at (by rw[<-hB];exact hI) (by rw[<-hB];exact Be _);refine calls_of_wp hf hb ?_;have bO:Rel E.U B0 g {fr:=A4D 0 ls,live:=A0v (G4 0 cs)} {tmps:=vs.toArray++Br (fn.ntmps - vs.toArray.size) undef,defers:=[]} w:=by
   subst hB;refine{os:=rfl,tape:=rfl,output:=rfl,size:=Be _,frame:=λb _ _=>⟨rfl,rfl⟩,ext:=Ext.refl _ _,zero:=hz,ent:=λi=>?_,tip:=λd hd=>cP d (A8l hd),disj:=λd e b hd he av=>pZ d e b (A8l hd) (A8l he) av,mine:=λd b hd hs=>.inr ⟨d,A8l hd,hs⟩,iter:=λi c p h=>?_,idis:=λi j c p c' p' _ h=>?_,defers:=rfl,bxl:=λi d l h=>?_,pin:=λi hi=>rfl}
   ·simp only[St.get,A28,Cc,Dh,true_and];split
    ·rename_i hi;obtain⟨v,hv,cT⟩:=ak.get (Bl hi);have co:i<vs.length:=by omega
     have:(vs.toArray++Br (fn.ntmps - vs.toArray.size) undef).getD i undef=v:=by
      rw[Bm,Dd (by simpa using co)];simp[hv]
     rw[this];exact cT
    ·exact ERep.any _ _ _
   ·simp only[St.get,A28]at h;split at h<;>cases h
   ·simp only[St.get,A28]at h;split at h<;>cases h
   ·simp only[St.get,A28]at h;split at h<;>cases h
  have p8:=C0M cs bP 0 _ bO my pY (λi hi=>C2W (A6U cs 0 i hi));refine B93 (B:=B0) hE n c _ _ _ _ _ hn ⟨g,p8⟩ (by simp;omega) ?_;intro e s' a' w' hk ⟨g',bD⟩ bW;have cj:J3 E fn.results.toList ps cs .normal s'=some (rs,aR)->a'.defers=[]/\∃v,(Ec fn a'.tmps).run P w'=.ok v w'/\(λe w'=>∃g' rv dD,e=Fw (V4 rv)/\rs.length=rv.length/\
   Post E.U ⟨w,g.wm,λb=>∃d,M4 (G4 0 cs) d/\spare (g.G d)=some b,0,λ_=>undef⟩ g' (.tup (rs++G4 0 aR)) (.tuple (rv++A0f dD).toArray) w'/\
   Z3 w' g' (O3 0 cs.length) aR dD/\dD.map (λp=>(p.1,p.2.length))=bP.map (λp=>(p.1,p.2.length))) (.returned v) w':=λhp=>by
   simp only[J3]at hp;split at hp
   case h_2=>cases hp
   rename_i vO fN s1 xx xy;obtain⟨lN,hp⟩:=B8 hp;simp only[Bi,Bo]at hp;obtain⟨rfl,rfl⟩:=hp;simp only[Aw,Bh]at lN;obtain⟨cz,toq,aw,w6⟩:=lN;obtain⟨iR,q1,q2,q3⟩:=B0A (P:=P) hE.tb hE.U eA.dcx _ 0 s' vO xx bD;obtain⟨ji,N,p1,p2,p3,p4,p5,p6,p7⟩:=B3o hE.U _ 0 _ fN s1 xy q3;obtain⟨n1,n2⟩:=A89 fn.results.toList 0 s';obtain⟨n3,n4⟩:=A9i fn.results.toList 0 s';have oP:=B88 cs.length 0;have aW:=C3B (s:=K1 s' fn.results.toList) (B8j cs.length 0) (by rw[oP];exact ck) p4 p5 aw;have j8:∀c d,(c,d)∈K7 0 (O3 0 cs.length)++N->mem d (K1 s' fn.results.toList).live=true/\900000<=c:=λc d mi=>by
    rw[Cf]at mi;rcases mi with h1|h1
    ·obtain⟨i,_,_,h3,h4⟩:=A3p _ 0 _ h1;exact⟨p6 _ (A8A aw h4),by(have jd:c=C0 i:=h3);rw[jd];unfold C0;omega⟩
    ·obtain⟨⟨i,j,_,_,h3⟩,h4,_⟩:=p5 _ h1;exact⟨h4,by(have jd:c=bo (C0 i) j:=h3);rw[jd];unfold bo;omega⟩
   have bQ:OneOne (F1 0 s' fn.results.toList++(K7 0 (O3 0 cs.length)++N)):=OneOne.append n2 aW λp hp q hq=>by
    obtain⟨h1,h2⟩:=n3 p.1 p.2 hp;obtain⟨h3,h4⟩:=j8 q.1 q.2 hq;refine⟨by omega,λe=>?_⟩;rw[e,h3]at h2;cases h2
   have cf:=B2K bD bQ (λc d mi=>by
    rw[Cf]at mi;rcases mi with h1|h1
    ·exact(n1 c d h1).1
    ·exact n4 _ (j8 c d h1).1) ((q1.mono λp hp=>Ek _ hp).append (p2.mono λp hp=>Fl _ hp)) (r:=.tup (vO++G4 0 fN)) (v:=.tuple (iR++A0f ji).toArray) (λc=>by simp only[Ent.has,Dv]) rfl (λzu tp=>⟨_,rfl,tp⟩)
   obtain⟨z1,z2⟩:=C2Y cz;have jj:=A92 bQ _ _ _ 0 p3 (λp hp=>Fl _ (Ek _ hp));refine⟨bD.defers,_,A83 P fn a' w' _ rfl q2,_,iR,ji,rfl,q1.length,?_,by rw[z1];exact jj,?_⟩
   ·subst hB;exact{os:=cf.os,tape:=cf.tape,output:=cf.output,size:=cf.size,frame:=cf.frame,ext:=cf.ext,zero:=cf.zero,rep:=cf.rep,nit:=cf.nit,tip:=cf.tip,disj:=cf.disj,mine:=cf.mine}
   ·obtain⟨x1,x2,x3⟩:=B4j my;obtain⟨y1,y2,y3⟩:=B4j p3;apply Hb;intro i;rw[Cj,Cj];rcases Da i cs.length with hi|hi
    ·have mz:=A8I cs.length 0 i hi;rw[Bj]at mz;obtain⟨b,us,e1,e2,e3⟩:=x3 mz (Bl hi);obtain⟨b',vn,sB,xz,zv⟩:=y3 mz (Bl (show i<fN.length by omega));have fV:=z2 (Bl hi) (Bl (show i<fN.length by omega));have vP:i<ps.length:=by omega
     obtain⟨f1,f2⟩:=C4z toq (Bl vP);rw[Bj]at f1;have f3:=bD.ent ps[i];rw[f1]at f3;obtain⟨b2,zw,f4,f5⟩:=f3.2.2 _ _ rfl;have f6:=bD.pin ps[i] (by subst hB;exact f2);rw[f5.at (by decide)]at f6;have f7:=B7R xw (Bl vP);rw[Bj]at f7;obtain⟨v0,f8,f9⟩:=ak.get f7;obtain⟨b3,zx,f10,f11⟩:=f9.2.2 _ _ rfl;have f12:(Value.pointer (some ⟨b2,0,none⟩))=v0:=by
      rw[f6];subst hB;have mP:=I7 f8;show(vs.toArray++Br (fn.ntmps - vs.toArray.size) undef).getD ps[i] undef=v0;rw[Bm,Dd (by simpa using mP)];simp[f8]
     rw[f11.at (by decide)]at f12;rw[e2]at f10;rw[xz]at f4;simp only[Gl,Bi,Hn]at f10 f4;simp only[Ho,Bi,Hn]at f12;rw[e1,sB];simp only[Ee,Bi,Bo];exact⟨by rw[f4.1.1,f12.1, <-f10.1.1],by omega⟩
    ·rw[Du (by omega),Du (by omega)]
  cases e with
  |normal=>exact cj hk
  |ret=>exact cj hk
  |exit id=>cases hk
end
end Go.Aev
end
section
namespace Go.Aev
structure A7 where
 line:Int
 col:Int
structure A7n where
 name:Ab
 index:Int
 item:Bool
structure A0 where
 kind:Int
 pos:A7
 from_:Int
 to_:Int
 text:Ab
 value:Ab
abbrev Ah:=List A0
structure I4 where
 name:Ab
 wrap:Ab
structure G3 where
 has:Bool
 block:Bool
 text:Ab
structure E2 where
 name:Ab
 pos:A7
structure A0F where
 kind:Int
 pos:List A7
 path:List A7n
structure B5 where
 name:Ab
 choices:List Ag
abbrev An:=List B5
structure G1 where
 sym:Ab
 kids:Aa
 tok:Int
structure A2f where
 nodes:List G1
 toks:Ah
inductive LitT where
 |mk (kind:Int) (text:Ab) (block:Bool) (items:List LitT) (fields:List (Ab×LitT×A7)) (pos:A7)
abbrev LfT:=Ab×LitT×A7
abbrev LfT.name(x:LfT):Ab:=x.1
abbrev LfT.value(x:LfT):LitT:=x.2.1
abbrev LfT.pos(x:LfT):A7:=x.2.2
namespace LitT
def kind:LitT->Int|mk a _ _ _ _ _=>a
def text:LitT->Ab|mk _ a _ _ _ _=>a
def block:LitT->Bool|mk _ _ a _ _ _=>a
def items:LitT->List LitT|mk _ _ _ a _ _=>a
def fields:LitT->List LfT|mk _ _ _ _ a _=>a
def pos:LitT->A7|mk _ _ _ _ _ a=>a
theorem eta(x:LitT):LitT.mk x.kind x.text x.block x.items x.fields x.pos=x:=by cases x;rfl
end LitT
structure H0 where
 name:Ab
 value:LitT
 pos:A7
structure D0 where
 name:Ab
 args:List H0
 pos:A7
structure VdT where
 name:Ab
 type_:I4
 hasDefault:Bool
 dflt:LitT
 dirs:List D0
 pos:A7
structure RdT where
 op:Int
 type_:Ab
 pos:A7
structure P0 where
 note:G3
 name:Ab
 dirs:List D0
 pos:A7
structure IvT where
 note:G3
 name:Ab
 type_:I4
 hasDefault:Bool
 dflt:LitT
 dirs:List D0
 pos:A7
structure FdT where
 note:G3
 name:Ab
 args:List IvT
 type_:I4
 dirs:List D0
 pos:A7
inductive SelT where
 |mk (kind:Int) (alias_ name on_:Ab) (args:List H0) (dirs:List D0) (sels:List SelT) (pos:A7)
namespace SelT
def kind:SelT->Int|mk a _ _ _ _ _ _ _=>a
def alias_:SelT->Ab|mk _ a _ _ _ _ _ _=>a
def name:SelT->Ab|mk _ _ a _ _ _ _ _=>a
def on_:SelT->Ab|mk _ _ _ a _ _ _ _=>a
def args:SelT->List H0|mk _ _ _ _ a _ _ _=>a
def dirs:SelT->List D0|mk _ _ _ _ _ a _ _=>a
def sels:SelT->List SelT|mk _ _ _ _ _ _ a _=>a
def pos:SelT->A7|mk _ _ _ _ _ _ _ a=>a
theorem eta(x:SelT):SelT.mk x.kind x.alias_ x.name x.on_ x.args x.dirs x.sels x.pos=x:=by cases x;rfl
end SelT
structure A6A where
 kind:Int
 name:Ab
 on_:Ab
 short:Bool
 vars:List VdT
 dirs:List D0
 sels:List SelT
 pos:A7
structure A8O where
 defs:List A6A
structure A6 where
 kind:Int
 extd:Bool
 note:G3
 name:Ab
 ifaces:List E2
 dirs:List D0
 fields:List FdT
 inputs:List IvT
 members:List E2
 values:List P0
 roots:List RdT
 repeatable:Bool
 places:List E2
 pos:A7
structure B5Y where
 toks:Ah
 at_:Int
 nest:Int
 limit:Int
 kind:Int
structure B5v where
 toks:Ah
 at_:Int
structure B2Z where
 b:Aa
structure B4P where
 buf:Aa
inductive PartT where
 |sel (x:SelT)|root (x:RdT)|field (x:FdT)|value (x:P0)|input (x:IvT)
abbrev Al:=List PartT
inductive Ty6 where|i32|u8|i64|rs|str|strs|part|pos|tok|lit|lf|arg|dir|vd|sel|dfn|doc|note|named|iv|fd|vald|rd|sys|fault|step|tref|rule|node|tree|node0|lit0|cur|rdr|out|page
 deriving DecidableEq
abbrev A4:Ty6->Type
 | .i32=>Int
 | .u8=>Int
 | .i64=>Int
 | .rs=>Aa
 | .str=>Ab
 | .strs=>Ag
 | .part=>PartT
 | .pos=>A7
 | .tok=>A0
 | .lit=>LitT
 | .lf=>LfT
 | .arg=>H0
 | .dir=>D0
 | .vd=>VdT
 | .sel=>SelT
 | .dfn=>A6A
 | .doc=>A8O
 | .note=>G3
 | .named=>E2
 | .iv=>IvT
 | .fd=>FdT
 | .vald=>P0
 | .rd=>RdT
 | .sys=>A6
 | .fault=>A0F
 | .step=>A7n
 | .tref=>I4
 | .rule=>B5
 | .node=>G1
 | .tree=>A2f
 | .node0=>G1
 | .lit0=>LitT
 | .cur=>B5Y
 | .rdr=>B5v
 | .out=>B2Z
 | .page=>B4P
abbrev L6:=Leaf Ty6 A4
abbrev Ae:=List L6
abbrev Ao:=List Ae
abbrev E6:=Ent Ty6 A4
abbrev Ad:=Option E6
abbrev S6:=St Ty6 A4
def A0M:(t:Ty6)->A4 t->Ae
 | .i32,(n:Int)=>[.int .i32 n]
 | .u8,(n:Int)=>[.int .u8 n]
 | .i64,(n:Int)=>[.int .i64 n]
 | .rs,(l:Aa)=>[.sl .i32 l none]
 | .str,(s:Ab)=>[.str s]
 | .strs,(l:Ag)=>[.sl .str l none]
 | .part,(p:PartT)=>[match p with| .sel x=>.ifc 238 .sel x| .root x=>.ifc 254 .rd x| .field x=>.ifc 255 .fd x| .value x=>.ifc 258 .vald x| .input x=>.ifc 259 .iv x]
 | .pos,(x:A7)=>[.int .i64 x.line,.int .i64 x.col]
 | .tok,(x:A0)=>[.int .i64 x.kind,.int .i64 x.pos.line,.int .i64 x.pos.col,.int .i64 x.from_,.int .i64 x.to_,.str x.text,.str x.value]
 | .lit,(x:LitT)=>[.int .i64 x.kind,.str x.text,.bool x.block,.sl .lit x.items none,.sl .lf x.fields none,.int .i64 x.pos.line,.int .i64 x.pos.col]
 | .lf,(x:LfT)=>[.str x.name,.int .i64 x.value.kind,.str x.value.text,.bool x.value.block,.sl .lit x.value.items none,.sl .lf x.value.fields none,.int .i64 x.value.pos.line,.int .i64 x.value.pos.col,.int .i64 x.pos.line,.int .i64 x.pos.col]
 | .arg,(x:H0)=>[.str x.name,.int .i64 x.value.kind,.str x.value.text,.bool x.value.block,.sl .lit x.value.items none,.sl .lf x.value.fields none,.int .i64 x.value.pos.line,.int .i64 x.value.pos.col,.int .i64 x.pos.line,.int .i64 x.pos.col]
 | .dir,(x:D0)=>[.str x.name,.sl .arg x.args none,.int .i64 x.pos.line,.int .i64 x.pos.col]
 | .vd,(x:VdT)=>[.str x.name,.str x.type_.name,.str x.type_.wrap,.bool x.hasDefault,.int .i64 x.dflt.kind,.str x.dflt.text,.bool x.dflt.block,.sl .lit x.dflt.items none,.sl .lf x.dflt.fields none,.int .i64 x.dflt.pos.line,.int .i64 x.dflt.pos.col,.sl .dir x.dirs none,.int .i64 x.pos.line,.int .i64 x.pos.col]
 | .sel,(x:SelT)=>[.int .i64 x.kind,.str x.alias_,.str x.name,.str x.on_,.sl .arg x.args none,.sl .dir x.dirs none,.sl .sel x.sels none,.int .i64 x.pos.line,.int .i64 x.pos.col]
 | .dfn,(x:A6A)=>[.int .i64 x.kind,.str x.name,.str x.on_,.bool x.short,.sl .vd x.vars none,.sl .dir x.dirs none,.sl .sel x.sels none,.int .i64 x.pos.line,.int .i64 x.pos.col]
 | .doc,(x:A8O)=>[.sl .dfn x.defs none]
 | .note,(x:G3)=>[.bool x.has,.bool x.block,.str x.text]
 | .named,(x:E2)=>[.str x.name,.int .i64 x.pos.line,.int .i64 x.pos.col]
 | .iv,(x:IvT)=>[.bool x.note.has,.bool x.note.block,.str x.note.text,.str x.name,.str x.type_.name,.str x.type_.wrap,.bool x.hasDefault,.int .i64 x.dflt.kind,.str x.dflt.text,.bool x.dflt.block,.sl .lit x.dflt.items none,.sl .lf x.dflt.fields none,.int .i64 x.dflt.pos.line,.int .i64 x.dflt.pos.col,.sl .dir x.dirs none,.int .i64 x.pos.line,.int .i64 x.pos.col]
 | .fd,(x:FdT)=>[.bool x.note.has,.bool x.note.block,.str x.note.text,.str x.name,.sl .iv x.args none,.str x.type_.name,.str x.type_.wrap,.sl .dir x.dirs none,.int .i64 x.pos.line,.int .i64 x.pos.col]
 | .vald,(x:P0)=>[.bool x.note.has,.bool x.note.block,.str x.note.text,.str x.name,.sl .dir x.dirs none,.int .i64 x.pos.line,.int .i64 x.pos.col]
 | .rd,(x:RdT)=>[.int .i64 x.op,.str x.type_,.int .i64 x.pos.line,.int .i64 x.pos.col]
 | .sys,(x:A6)=>[.int .i64 x.kind,.bool x.extd,.bool x.note.has,.bool x.note.block,.str x.note.text,.str x.name,.sl .named x.ifaces none,.sl .dir x.dirs none,.sl .fd x.fields none,.sl .iv x.inputs none,.sl .named x.members none,.sl .vald x.values none,.sl .rd x.roots none,.bool x.repeatable,.sl .named x.places none,.int .i64 x.pos.line,.int .i64 x.pos.col]
 | .fault,(x:A0F)=>[.int .i64 x.kind,.sl .pos x.pos none,.sl .step x.path none]
 | .step,(x:A7n)=>[.str x.name,.int .i64 x.index,.bool x.item]
 | .tref,(x:I4)=>[.str x.name,.str x.wrap]
 | .rule,(x:B5)=>[.str x.name,.sl .strs x.choices none]
 | .node,(x:G1)=>[.str x.sym,.sl .i64 x.kids none,.int .i64 x.tok]
 | .tree,(x:A2f)=>[.sl .node x.nodes none,.sl .tok x.toks none]
 | .node0,(x:G1)=>[.str x.sym,.nils,.int .i64 x.tok]
 | .lit0,(x:LitT)=>[.int .i64 x.kind,.str x.text,.bool x.block,.nils,.nils,.int .i64 x.pos.line,.int .i64 x.pos.col]
 | .cur,(x:B5Y)=>[.sl .tok x.toks none,.int .i64 x.at_,.int .i64 x.nest,.int .i64 x.limit,.int .i64 x.kind]
 | .rdr,(x:B5v)=>[.sl .tok x.toks none,.int .i64 x.at_]
 | .out,(x:B2Z)=>[.sl .u8 x.b none]
 | .page,(x:B4P)=>[.elem .i64 (0:Int) 0,.sl .u8 x.buf none]
def B9A:Ae->Option PartT
 |[.ifc 238 .sel x]=>some (PartT.sel x)
 |[.ifc 254 .rd x]=>some (PartT.root x)
 |[.ifc 255 .fd x]=>some (PartT.field x)
 |[.ifc 258 .vald x]=>some (PartT.value x)
 |[.ifc 259 .iv x]=>some (PartT.input x)
 |_=>none
def C2f:Ae->Option (Int)
 |[.int .i32 n]=>some n
 |_=>none
def C21:Ae->Option (Int)
 |[.int .u8 n]=>some n
 |_=>none
def C3k:Ae->Option (Int)
 |[.int .i64 n]=>some n
 |_=>none
def B9T:Ae->Option Aa
 |[.sl .i32 n none]=>some n
 |_=>none
def C3F:Ae->Option Ab
 |[.str n]=>some n
 |_=>none
def C0B:Ae->Option Ag
 |[.sl .str n none]=>some n
 |_=>none
def B8t:Ae->Option A7
 |[.int .i64 v1,.int .i64 v2]=>some (⟨v1,v2⟩:A7)
 |_=>none
def C2y:Ae->Option A0
 |[.int .i64 v1,.int .i64 v2,.int .i64 v3,.int .i64 v4,.int .i64 v5,.str v6,.str v7]=>some (⟨v1,⟨v2,v3⟩,v4,v5,v6,v7⟩:A0)
 |_=>none
def B70:Ae->Option LitT
 |[.int .i64 v1,.str v2,.bool v3,.sl .lit v4 none,.sl .lf v5 none,.int .i64 v6,.int .i64 v7]=>some (⟨v1,v2,v3,v4,v5,⟨v6,v7⟩⟩:LitT)
 |_=>none
def C4a:Ae->Option LfT
 |[.str v1,.int .i64 v2,.str v3,.bool v4,.sl .lit v5 none,.sl .lf v6 none,.int .i64 v7,.int .i64 v8,.int .i64 v9,.int .i64 ka]=>some (⟨v1,⟨v2,v3,v4,v5,v6,⟨v7,v8⟩⟩,⟨v9,ka⟩⟩:LfT)
 |_=>none
def C4y:Ae->Option H0
 |[.str v1,.int .i64 v2,.str v3,.bool v4,.sl .lit v5 none,.sl .lf v6 none,.int .i64 v7,.int .i64 v8,.int .i64 v9,.int .i64 ka]=>some (⟨v1,⟨v2,v3,v4,v5,v6,⟨v7,v8⟩⟩,⟨v9,ka⟩⟩:H0)
 |_=>none
def B8M:Ae->Option D0
 |[.str v1,.sl .arg v2 none,.int .i64 v3,.int .i64 v4]=>some (⟨v1,v2,⟨v3,v4⟩⟩:D0)
 |_=>none
def C4X:Ae->Option VdT
 |[.str v1,.str v2,.str v3,.bool v4,.int .i64 v5,.str v6,.bool v7,.sl .lit v8 none,.sl .lf v9 none,.int .i64 ka,.int .i64 p9,.sl .dir qa none,.int .i64 qc,.int .i64 qe]=>some (⟨v1,⟨v2,v3⟩,v4,⟨v5,v6,v7,v8,v9,⟨ka,p9⟩⟩,qa,⟨qc,qe⟩⟩:VdT)
 |_=>none
def B8y:Ae->Option SelT
 |[.int .i64 v1,.str v2,.str v3,.str v4,.sl .arg v5 none,.sl .dir v6 none,.sl .sel v7 none,.int .i64 v8,.int .i64 v9]=>some (⟨v1,v2,v3,v4,v5,v6,v7,⟨v8,v9⟩⟩:SelT)
 |_=>none
def B9K:Ae->Option A6A
 |[.int .i64 v1,.str v2,.str v3,.bool v4,.sl .vd v5 none,.sl .dir v6 none,.sl .sel v7 none,.int .i64 v8,.int .i64 v9]=>some (⟨v1,v2,v3,v4,v5,v6,v7,⟨v8,v9⟩⟩:A6A)
 |_=>none
def C07:Ae->Option A8O
 |[.sl .dfn v1 none]=>some (⟨v1⟩:A8O)
 |_=>none
def C18:Ae->Option G3
 |[.bool v1,.bool v2,.str v3]=>some (⟨v1,v2,v3⟩:G3)
 |_=>none
def C1z:Ae->Option E2
 |[.str v1,.int .i64 v2,.int .i64 v3]=>some (⟨v1,⟨v2,v3⟩⟩:E2)
 |_=>none
def C23:Ae->Option IvT
 |[.bool v1,.bool v2,.str v3,.str v4,.str v5,.str v6,.bool v7,.int .i64 v8,.str v9,.bool ka,.sl .lit p9 none,.sl .lf qa none,.int .i64 qc,.int .i64 qe,.sl .dir tq none,.int .i64 tr,.int .i64 tu]=>some (⟨⟨v1,v2,v3⟩,v4,⟨v5,v6⟩,v7,⟨v8,v9,ka,p9,qa,⟨qc,qe⟩⟩,tq,⟨tr,tu⟩⟩:IvT)
 |_=>none
def C3p:Ae->Option FdT
 |[.bool v1,.bool v2,.str v3,.str v4,.sl .iv v5 none,.str v6,.str v7,.sl .dir v8 none,.int .i64 v9,.int .i64 ka]=>some (⟨⟨v1,v2,v3⟩,v4,v5,⟨v6,v7⟩,v8,⟨v9,ka⟩⟩:FdT)
 |_=>none
def B8E:Ae->Option P0
 |[.bool v1,.bool v2,.str v3,.str v4,.sl .dir v5 none,.int .i64 v6,.int .i64 v7]=>some (⟨⟨v1,v2,v3⟩,v4,v5,⟨v6,v7⟩⟩:P0)
 |_=>none
def C2K:Ae->Option RdT
 |[.int .i64 v1,.str v2,.int .i64 v3,.int .i64 v4]=>some (⟨v1,v2,⟨v3,v4⟩⟩:RdT)
 |_=>none
def C01:Ae->Option A6
 |[.int .i64 v1,.bool v2,.bool v3,.bool v4,.str v5,.str v6,.sl .named v7 none,.sl .dir v8 none,.sl .fd v9 none,.sl .iv ka none,.sl .named p9 none,.sl .vald qa none,.sl .rd qc none,.bool qe,.sl .named tq none,.int .i64 tr,.int .i64 tu]=>some (⟨v1,v2,⟨v3,v4,v5⟩,v6,v7,v8,v9,ka,p9,qa,qc,qe,tq,⟨tr,tu⟩⟩:A6)
 |_=>none
def C3x:Ae->Option A0F
 |[.int .i64 v1,.sl .pos v2 none,.sl .step v3 none]=>some (⟨v1,v2,v3⟩:A0F)
 |_=>none
def C4P:Ae->Option A7n
 |[.str v1,.int .i64 v2,.bool v3]=>some (⟨v1,v2,v3⟩:A7n)
 |_=>none
def C4B:Ae->Option I4
 |[.str v1,.str v2]=>some (⟨v1,v2⟩:I4)
 |_=>none
def B99:Ae->Option B5
 |[.str v1,.sl .strs v2 none]=>some (⟨v1,v2⟩:B5)
 |_=>none
def B9g:Ae->Option G1
 |[.str v1,.sl .i64 v2 none,.int .i64 v3]=>some (⟨v1,v2,v3⟩:G1)
 |_=>none
def B9z:Ae->Option G1
 |[.str v1,.nils,.int .i64 v3]=>some (⟨v1,[],v3⟩:G1)
 |_=>none
def B7j:Ae->Option LitT
 |[.int .i64 v1,.str v2,.bool v3,.nils,.nils,.int .i64 v6,.int .i64 v7]=>some (⟨v1,v2,v3,[],[],⟨v6,v7⟩⟩:LitT)
 |_=>none
def C5m:Ae->Option A2f
 |[.sl .node v1 none,.sl .tok v2 none]=>some (⟨v1,v2⟩:A2f)
 |_=>none
def B50:(t:Ty6)->Ae->Option (A4 t)
 | .part,ls=>B9A ls
 | .i32,ls=>C2f ls
 | .u8,ls=>C21 ls
 | .i64,ls=>C3k ls
 | .rs,ls=>B9T ls
 | .str,ls=>C3F ls
 | .strs,ls=>C0B ls
 | .pos,ls=>B8t ls
 | .tok,ls=>C2y ls
 | .lit,ls=>B70 ls
 | .lf,ls=>C4a ls
 | .arg,ls=>C4y ls
 | .dir,ls=>B8M ls
 | .vd,ls=>C4X ls
 | .sel,ls=>B8y ls
 | .dfn,ls=>B9K ls
 | .doc,ls=>C07 ls
 | .note,ls=>C18 ls
 | .named,ls=>C1z ls
 | .iv,ls=>C23 ls
 | .fd,ls=>C3p ls
 | .vald,ls=>B8E ls
 | .rd,ls=>C2K ls
 | .sys,ls=>C01 ls
 | .fault,ls=>C3x ls
 | .step,ls=>C4P ls
 | .tref,ls=>C4B ls
 | .rule,ls=>B99 ls
 | .node,ls=>B9g ls
 | .tree,ls=>C5m ls
 | .node0,ls=>B9z ls
 | .lit0,ls=>B7j ls
 |_,_=>none
theorem C6k(t:Ty6)(ls:Ae)(x:A4 t)(h:B50 t ls=some x):A0M t x=ls:=by
 cases t<;>unfold B50 at h<;>dsimp only at h<;>first
  |(cases h;done)
  |(first|unfold B9A at h|unfold C2f at h|unfold C21 at h|unfold C3k at h|unfold B9T at h|unfold C3F at h|unfold C0B at h|unfold B8t at h|unfold C2y at h|unfold B70 at h|unfold C4a at h|unfold C4y at h|unfold B8M at h|unfold C4X at h|unfold B8y at h|unfold B9K at h|unfold C07 at h|unfold C18 at h|unfold C1z at h|unfold C23 at h|unfold C3p at h|unfold B8E at h|unfold C2K at h|unfold C01 at h|unfold C3x at h|unfold C4P at h|unfold C4B at h|unfold B99 at h|unfold B9g at h|unfold B9z at h|unfold B7j at h|unfold C5m at h)<;>split at h<;>first|(cases h;done)|(cases h;rfl)
def B2z:(t:Ty6)->Option (Ab->List (A4 t))
 | .u8=>some λb=>b.map λc=>(c.toNat:Int)
 |_=>none
def B2H:(t:Ty6)->Option (List (A4 t)->Ab)
 | .u8=>some λ(l:Aa)=>l.map λn=>Gm n.toNat
 |_=>none
def B6C:(t:Ty6)->Option (Aa->List (A4 t))
 | .i32=>some λb=>b
 |_=>none
def B3k:(t:Ty6)->Option (List (A4 t)->Aa)
 | .i32=>some λ(l:Aa)=>l
 |_=>none
def C8B:Ty6->Nat
 | .pos=>2
 | .tok=>7
 | .lit=>7
 | .lf=>10
 | .arg=>10
 | .dir=>4
 | .vd=>14
 | .sel=>9
 | .dfn=>9
 | .doc=>1
 | .note=>3
 | .named=>3
 | .iv=>17
 | .fd=>10
 | .vald=>7
 | .rd=>4
 | .sys=>17
 | .fault=>3
 | .step=>3
 | .tref=>2
 | .rule=>2
 | .node=>3
 | .tree=>2
 | .node0=>3
 | .lit0=>7
 | .cur=>5
 | .rdr=>2
 | .out=>1
 | .page=>2
 |_=>1
def C8K:Ty6->Nat
 | .i32=>4| .u8=>1| .i64=>8| .rs=>24| .str=>16| .strs=>24| .part=>16
 | .pos=>16
 | .tok=>72
 | .lit=>96
 | .lf=>128
 | .arg=>128
 | .dir=>56
 | .vd=>192
 | .sel=>144
 | .dfn=>136
 | .doc=>24
 | .note=>24
 | .named=>32
 | .iv=>216
 | .fd=>136
 | .vald=>80
 | .rd=>40
 | .sys=>272
 | .fault=>56
 | .step=>32
 | .tref=>32
 | .rule=>40
 | .node=>48
 | .tree=>48
 | .node0=>48
 | .lit0=>96
 | .cur=>56
 | .rdr=>32
 | .out=>24
 | .page=>32
def C9l:Ty6->Option Ay
 | .u8=>some 5
 |_=>none
def slX(t:Ty6):L6->Option (List (A4 t))
 | .nils=>some []
 | .sl u l none=>(if h:u=t then some (h ▸ l)else none)
 |_=>none
def A7k(x:LitT):LitT:=⟨x.kind,x.text,x.block,[],[],x.pos⟩
def B4V:L6->Option (List LitT)
 | .sl .lit0 l none=>some (Ds A7k l)
 |l=>slX .lit l
def B3H:(t:Ty6)->Ae->Option (A4 t)
 | .node,[.str v1,k,.int .i64 v3]=>(slX .i64 k).map λv2=>(⟨v1,v2,v3⟩:G1)
 | .lit,[.int .i64 v1,.str v2,.bool v3,a,b,.int .i64 v6,.int .i64 v7]=>match B4V a,slX .lf b with
  |some v4,some v5=>some (⟨v1,v2,v3,v4,v5,⟨v6,v7⟩⟩:LitT)
  |_,_=>none
 |_,_=>none
def U6:UO Ty6 A4 where
 deq:=inferInstance
 cells:=A0M
 dec:=B50
 ofBytes:=B2z
 toBytes:=B2H
 ofRunes:=B6C
 toRunes:=B3k
 size:=C8B
 bytes:=C8K
 bty:=109
 ety:=C9l
 dcx:=B3H
theorem C3W(l:Aa):l.flatMap (λn=>[(.int .i32 n:L6)])=l.map λn=>.int .i32 n:=by
 induction l with
 |nil=>rfl
 |cons x l ih=>simp[ih]
theorem B0s(l:Aa):l.flatMap (λn=>[(.int .u8 n:L6)])=l.map λn=>.int .u8 n:=by
 induction l with
 |nil=>rfl
 |cons x l ih=>simp[ih]
theorem u6_ok:(U6).Ok where
 pos:=λt=>by cases t<;>decide
 bpos:=λt=>by cases t<;>decide
 len:=λt x=>by cases t<;>rfl
 dec:=λt ls x h=>by
  exact C6k t ls x h
 ofBytes:=λt f h=>by
  cases t<;>simp only[U6,B2z,Bi,reduceCtorEq]at h;subst h;intro b;refine⟨Gw ..,?_⟩;show List.flatMap (A0M .u8) _=_;have h2:=B0s (b.map λc=>(c.toNat:Int));simp only[List.map_map]at h2;exact h2
 ofRunes:=λt f h=>by
  cases t<;>simp only[U6,B6C,reduceCtorEq]at h;cases h;intro b;exact⟨rfl,C3W b⟩
 toRunes:=λt f h=>by
  cases t<;>simp only[U6,B3k,reduceCtorEq]at h;cases h;intro l;exact C3W l
 toBytes:=λt f h=>by
  cases t<;>simp only[U6,B2H,Bi,reduceCtorEq]at h;cases h;intro l;exact⟨l,B0s l,rfl⟩
 ofBytes1:=λt f h=>by cases t<;>first|rfl|(simp only[U6,B2z,reduceCtorEq]at h;done)
 ofRunes1:=λt f h=>by cases t<;>first|rfl|(simp only[U6,B6C,reduceCtorEq]at h;done)
 toRunes1:=λt f h=>by cases t<;>first|rfl|(simp only[U6,B3k,reduceCtorEq]at h;done)
 toBytes1:=λt f h=>by cases t<;>first|rfl|(simp only[U6,B2H,reduceCtorEq]at h;done)
 solid:=λt x lf h=>by
  have bG:∀l∈A0M t x,A7t l=true:=by
   cases t<;>first
    |(intro l hl;have eU:=Fk.1 hl;subst eU;cases x<;>rfl)
    |(intro l hl;simp only[A0M,Bg,Dl,or_false]at hl;rcases hl with rfl;rfl)
    |(intro l hl;simp only[A0M,Bg,Dl,or_false]at hl;rcases hl with rfl|hl<;>first|rfl|(repeat (first|(rcases hl with rfl|hl<;>first|rfl|skip)|(subst hl;rfl))))
  exact C2k (bG lf h)
 closed:=λt x lf h=>by
  have bG:∀l∈A0M t x,l.close=l:=by
   cases t<;>first
    |(intro l hl;have eU:=Fk.1 hl;subst eU;cases x<;>rfl)
    |(intro l hl;simp only[A0M,Bg,Dl,or_false]at hl;rcases hl with rfl;rfl)
    |(intro l hl;simp only[A0M,Bg,Dl,or_false]at hl;rcases hl with rfl|hl<;>first|rfl|(repeat (first|(rcases hl with rfl|hl<;>first|rfl|skip)|(subst hl;rfl))))
  exact bG lf h
theorem B7c{t:Ty6}{l:L6}{x:List (A4 t)}(h:slX t l=some x){w:World}{wm:Nat->Nat}{v:Value}(hc:CRep U6 w wm l v):CRep U6 w wm (.sl t x none) v:=by
 unfold slX at h;split at h
 ·cases h;cases hc;exact .nil _ _ _ _
 ·split at h
  ·rename_i e;subst e;cases h;exact hc
  ·cases h
 ·cases h
theorem B20:∀(xs:List LitT)(j:Nat)(lf:L6),(flat U6 .lit (Ds A7k xs))[j]?=some lf->∃mg,(flat U6 .lit0 xs)[j]?=some mg/\∀(w:World)(wm:Nat->Nat) v,CRep U6 w wm mg v->CRep U6 w wm lf v
 |[],j,lf,h=>by simp[flat]at h
 |x::xs,j,lf,h=>by
  have e1:flat U6 .lit (Ds A7k (x::xs))=A0M .lit (A7k x)++flat U6 .lit (Ds A7k xs):=rfl;have e2:flat U6 .lit0 (x::xs)=A0M .lit0 x++flat U6 .lit0 xs:=rfl;rw[e1]at h;rw[e2]
  match j,h with
  |0,h|1,h|2,h|5,h|6,h=>cases h;exact⟨_,rfl,λ_ _ _ h=>h⟩
  |3,h|4,h=>cases h;exact⟨_,rfl,λ_ _ v h=>by cases h;exact .nil _ _ _ _⟩
  |j+7,h=>exact B20 xs j lf h
theorem D0O{l:L6}{x:List LitT}(h:B4V l=some x){w:World}{wm:Nat->Nat}{v:Value}(hc:CRep U6 w wm l v):CRep U6 w wm (.sl .lit x none) v:=by
 unfold B4V at h;split at h
 ·rename_i l0;cases h;cases hc with
  |nil t own a cap=>exact .nil _ _ _ _
  |sl t l own b off cap cs aT aX hc hr=>
   have:=CRep.sl (U:=U6) (w:=w) (wm:=wm) .lit (Ds A7k l0) none b off cap cs (by simpa using aT) (by rw[Gw];exact aX) (λj lf hj=>by
    obtain⟨mg,h1,h2⟩:=B20 l0 j lf hj;exact hc j mg h1) (λj lf hj=>by
    obtain⟨mg,h1,h2⟩:=B20 l0 j lf hj;exact h2 _ _ _ (hr j mg h1))
   simpa using this
 ·exact B7c h hc
theorem B0g:A3q U6:=λt ls x h=>by
 change B3H t ls=some x at h;unfold B3H at h;split at h
 ·rename_i v1 k v3;obtain⟨v2,h2,rfl⟩:=Dp.1 h;refine⟨rfl,λw wm cs hc j lf hj=>?_⟩
  match j,hj with
  |0,hj=>cases hj;exact hc 0 _ rfl
  |1,hj=>cases hj;exact B7c h2 (hc 1 _ rfl)
  |2,hj=>cases hj;exact hc 2 _ rfl
 ·rename_i v1 v2 v3 a b v6 v7;split at h
  ·rename_i v4 v5 h4 h5;cases h;refine⟨rfl,λw wm cs hc j lf hj=>?_⟩
   match j,hj with
   |0,hj=>cases hj;exact hc 0 _ rfl
   |1,hj=>cases hj;exact hc 1 _ rfl
   |2,hj=>cases hj;exact hc 2 _ rfl
   |3,hj=>cases hj;exact D0O h4 (hc 3 _ rfl)
   |4,hj=>cases hj;exact B7c h5 (hc 4 _ rfl)
   |5,hj=>cases hj;exact hc 5 _ rfl
   |6,hj=>cases hj;exact hc 6 _ rfl
  ·cases h
 ·cases h
end Go.Aev
end
namespace Go.Aev
open Go.Proofs
theorem B34{Ty:Type}{den:Ty->Type}{P:Bf}{U:UO Ty den}{t e:Ay}{u:Ty}(h1:P.underlying t=some (.slice e))
  (h2:(match P.info? e with
   |some i=>Ba i.size (U.size u)&&(Ba i.bytes (U.bytes u)&&(match i.zero with|some z=>Ba z.cells.size (U.size u)|none=>false))
   |none=>false)=true) (h3:(match U.ety u with|some e'=>Ba e' e|none=>true)=true):P8 P U t (.slice u e):=by
 refine⟨⟨h1,?_⟩,λe' he=>by rw[he]at h3;exact Cs h3⟩;split at h2
 ·rename_i i hi;simp only[Aw,Nat.beq_eq]at h2;obtain⟨h3,h4,h5⟩:=h2;split at h5
  ·rename_i z hz;exact⟨i,z,hi,h3,h4,hz,Cs h5⟩
  ·cases h5
 ·cases h2
def B8c(P:Bf)(t:Ay):Option (List (Nat×Nat)):=match P.underlying t with
 |some (.struct fs)=>fs.toList.mapM (λf=>(P.info? f.type).map λi=>(f.offset,i.size))
 |_=>none
theorem B49{Ty:Type}{den:Ty->Type}{P:Bf}{U:UO Ty den}{t:Ay}{u:Ty}{pl:List (Nat×Nat)}(h0:B8c P t=some pl)
  (h2:(match P.info? t with
   |some i=>Ba i.size (U.size u)&&(match i.zero with|some z=>Ba z.cells.size (U.size u)|none=>false)
   |none=>false)=true):P8 P U t (.struct u pl):=by
 unfold B8c at h0;split at h0
 ·rename_i fs h1;split at h2
  ·rename_i i hi;simp only[Aw,Nat.beq_eq]at h2;obtain⟨h3,h5⟩:=h2;split at h5
   ·rename_i z hz;exact⟨fs,i,z,h1,h0,hi,h3,hz,Cs h5⟩
   ·cases h5
  ·cases h2
 ·cases h0
theorem D5V{Ty:Type}{den:Ty->Type}{P:Bf}{U:UO Ty den}{t:Ay}{u:Ty}(h:(match P.underlying t with|some (.interface _)=>true|_=>false)=true)(hs:U.size u=1):P8 P U t (.iface u):=by
 split at h
 ·rename_i m hm;exact⟨⟨m,hm⟩,hs⟩
 ·cases h
def zm{Ty:Type}{den:Ty->Type}:Leaf Ty den->Value->Bool
 | .int k n,.int k' n'=>decide (k=k')&&decide (n=n')
 | .bool b,.bool b'=>b==b'
 | .str s,.string b=>s==b.data.toList
 | .sl _ [] none,.slice none 0 0=>true
 | .nils,.slice none 0 0=>true
 | .val (.pointer none),.pointer none=>true
 | .val .nilIface,.nilIface=>true
 |_,_=>false
def zms{Ty:Type}{den:Ty->Type}:List (Leaf Ty den)->Ai->Bool
 |[],[]=>true
 |l::ls,v::vs=>zm l v&&zms ls vs
 |_,_=>false
theorem D8V{Ty:Type}{den:Ty->Type}{U:UO Ty den}{lf:Leaf Ty den}{u:Value}(h:zm lf u=true):u.oneCell'=true/\u.cells= #[u]/\(∀(w:World)(g:Gh),LRep U w g lf u)/\∀t,lf=.sl t [] none->u=.slice none 0 0:=by
 unfold zm at h;split at h
 ·rename_i k n k' n';simp only[Aw,decide_eq_true_eq]at h;obtain⟨rfl,rfl⟩:=h;exact⟨rfl,rfl,λw g=>LRep.int _ _,λt e=>by cases e⟩
 ·rename_i b b';simp only[beq_iff_eq]at h;subst h;exact⟨rfl,rfl,λw g=>LRep.bool _,λt e=>by cases e⟩
 ·rename_i s b;simp only[beq_iff_eq]at h;subst h;exact⟨rfl,rfl,λw g=>by have:=LRep.str (U:=U) (w:=w) (g:=g) b.data.toList;rw[C1L]at this;exact this,λt e=>by cases e⟩
 ·exact⟨rfl,rfl,λw g=>⟨.nil _ _ _ _,λ_ _ _ e=>by(cases e),λ_ _ e=>by(cases e)⟩,λ_ _=>rfl⟩
 ·exact⟨rfl,rfl,λw g=>⟨.nils,λ_ _ _ e=>by(cases e),λ_ _ e=>by(cases e)⟩,λt e=>by cases e⟩
 ·exact⟨rfl,rfl,λw g=>⟨.val _,λ_ _ _ e=>by(cases e),λ_ _ e=>by(cases e)⟩,λt e=>by cases e⟩
 ·exact⟨rfl,rfl,λw g=>⟨.val _,λ_ _ _ e=>by(cases e),λ_ _ e=>by(cases e)⟩,λt e=>by cases e⟩
 ·cases h
theorem B9c{Ty:Type}{den:Ty->Type}:∀{ls:List (Leaf Ty den)}{vs:Ai},zms ls vs=true->ls.length=vs.length/\∀(j:Nat) lf,ls[j]?=some lf->∃u,vs[j]?=some u/\zm lf u=true
 |[],[],_=>⟨rfl,λj lf h=>by simp at h⟩
 |l::ls,v::vs,h=>by
  simp only[zms,Aw]at h;obtain⟨h1,h2⟩:=B9c h.2;refine⟨by simp[h1],λj lf hj=>?_⟩;cases j with
  |zero=>simp at hj;subst hj;exact⟨v,rfl,h.1⟩
  |succ j=>simpa using h2 j lf (by simpa using hj)
 |[],_::_,h=>by cases h
 |_::_,[],h=>by cases h
theorem B4Z{Ty:Type}{den:Ty->Type}{P:Bf}{U:UO Ty den}{t:Ay}{zs:List (Leaf Ty den)}
  (h:(match P.info? t with
   |some i=>Ba i.size zs.length&&(match i.zero with|some z=>zms zs z.cells.toList|none=>false)
   |none=>false)=true):A2h P U t zs:=by
 split at h
 ·rename_i i hi;simp only[Aw]at h;obtain⟨h1,h2⟩:=h;split at h2
  ·rename_i z hz;obtain⟨h3,h4⟩:=B9c h2;refine⟨i,z,hi,Cs h1,hz,by rw[h3];simp,λj lf hj=>?_⟩;obtain⟨u,h5,h6⟩:=h4 j lf hj;obtain⟨a1,a2,a3,a4⟩:=D8V (U:=U) h6;exact⟨u,by rw[<-Eu];exact h5,a1,a2,a3,a4⟩
  ·cases h2
 ·cases h
def tb6(t:Ay):TK Ty6:=
 match t with
 |3=>.int .i64
 |4=>.bool
 |5=>.int .u8
 |6=>.int .u8
 |9=>.str
 |21=>.int .i32
 |22=>.slice .u8 5
 |24=>.slice .dfn 76
 |25=>.struct .doc [(0,1)]
 |26=>.struct .doc [(0,1)]
 |27=>.int .i64
 |28=>.slice .pos 44
 |29=>.slice .step 334
 |30=>.struct .fault [(0,1),(1,1),(2,1)]
 |31=>.struct .fault [(0,1),(1,1),(2,1)]
 |36=>.slice .sys 88
 |40=>.int .i64
 |41=>.slice .lit 46
 |42=>.slice .lf 142
 |43=>.struct .pos [(0,1),(1,1)]
 |44=>.struct .pos [(0,1),(1,1)]
 |45=>.struct .lit [(0,1),(1,1),(2,1),(3,1),(4,1),(5,2)]
 |46=>.struct .lit [(0,1),(1,1),(2,1),(3,1),(4,1),(5,2)]
 |50=>.struct .tref [(0,1),(1,1)]
 |51=>.struct .tref [(0,1),(1,1)]
 |57=>.struct .arg [(0,1),(1,7),(8,2)]
 |58=>.struct .arg [(0,1),(1,7),(8,2)]
 |59=>.slice .arg 58
 |60=>.struct .dir [(0,1),(1,1),(2,2)]
 |61=>.struct .dir [(0,1),(1,1),(2,2)]
 |62=>.slice .dir 61
 |63=>.struct .note [(0,1),(1,1),(2,1)]
 |64=>.struct .note [(0,1),(1,1),(2,1)]
 |65=>.struct .iv [(0,3),(3,1),(4,2),(6,1),(7,7),(14,1),(15,2)]
 |66=>.struct .iv [(0,3),(3,1),(4,2),(6,1),(7,7),(14,1),(15,2)]
 |67=>.int .i64
 |68=>.slice .sel 70
 |69=>.struct .sel [(0,1),(1,1),(2,1),(3,1),(4,1),(5,1),(6,1),(7,2)]
 |70=>.struct .sel [(0,1),(1,1),(2,1),(3,1),(4,1),(5,1),(6,1),(7,2)]
 |71=>.int .i64
 |72=>.struct .vd [(0,1),(1,2),(3,1),(4,7),(11,1),(12,2)]
 |73=>.struct .vd [(0,1),(1,2),(3,1),(4,7),(11,1),(12,2)]
 |74=>.slice .vd 73
 |75=>.struct .dfn [(0,1),(1,1),(2,1),(3,1),(4,1),(5,1),(6,1),(7,2)]
 |76=>.struct .dfn [(0,1),(1,1),(2,1),(3,1),(4,1),(5,1),(6,1),(7,2)]
 |77=>.int .i64
 |78=>.slice .iv 66
 |79=>.struct .fd [(0,3),(3,1),(4,1),(5,2),(7,1),(8,2)]
 |80=>.struct .fd [(0,3),(3,1),(4,1),(5,2),(7,1),(8,2)]
 |81=>.slice .fd 80
 |82=>.struct .named [(0,1),(1,2)]
 |83=>.struct .named [(0,1),(1,2)]
 |84=>.slice .named 83
 |85=>.slice .vald 257
 |86=>.slice .rd 253
 |87=>.struct .sys [(0,1),(1,1),(2,3),(5,1),(6,1),(7,1),(8,1),(9,1),(10,1),(11,1),(12,1),(13,1),(14,1),(15,2)]
 |88=>.struct .sys [(0,1),(1,1),(2,3),(5,1),(6,1),(7,1),(8,1),(9,1),(10,1),(11,1),(12,1),(13,1),(14,1),(15,2)]
 |93=>.slice .tok 102
 |95=>.slice .node 153
 |96=>.struct .tree [(0,1),(1,1)]
 |97=>.struct .tree [(0,1),(1,1)]
 |100=>.int .i64
 |101=>.struct .tok [(0,1),(1,2),(3,1),(4,1),(5,1),(6,1)]
 |102=>.struct .tok [(0,1),(1,2),(3,1),(4,1),(5,1),(6,1)]
 |106=>.struct .page [(0,1),(1,1)]
 |107=>.struct .page [(0,1),(1,1)]
 |108=>.struct .page [(0,2)]
 |109=>.struct .page [(0,2)]
 |114=>.struct .out [(0,1)]
 |115=>.struct .out [(0,1)]
 |120=>.slice .rule 180
 |122=>.slice .str 9
 |125=>.struct .rdr [(0,1),(1,1)]
 |126=>.struct .rdr [(0,1),(1,1)]
 |142=>.struct .lf [(0,1),(1,7),(8,2)]
 |145=>.slice .i32 21
 |151=>.slice .i64 3
 |152=>.struct .node [(0,1),(1,1),(2,1)]
 |153=>.struct .node [(0,1),(1,1),(2,1)]
 |166=>.slice .part 236
 |178=>.slice .strs 122
 |179=>.struct .rule [(0,1),(1,1)]
 |180=>.struct .rule [(0,1),(1,1)]
 |195=>.struct .cur [(0,1),(1,1),(2,1),(3,1),(4,1)]
 |196=>.struct .cur [(0,1),(1,1),(2,1),(3,1),(4,1)]
 |203=>.int .u64
 |236=>.iface .part
 |238=>.struct .sel [(0,1),(1,1),(2,1),(3,1),(4,1),(5,1),(6,1),(7,2)]
 |252=>.struct .rd [(0,1),(1,1),(2,2)]
 |253=>.struct .rd [(0,1),(1,1),(2,2)]
 |254=>.struct .rd [(0,1),(1,1),(2,2)]
 |255=>.struct .fd [(0,3),(3,1),(4,1),(5,2),(7,1),(8,2)]
 |256=>.struct .vald [(0,3),(3,1),(4,1),(5,2)]
 |257=>.struct .vald [(0,3),(3,1),(4,1),(5,2)]
 |258=>.struct .vald [(0,3),(3,1),(4,1),(5,2)]
 |259=>.struct .iv [(0,3),(3,1),(4,2),(6,1),(7,7),(14,1),(15,2)]
 |264=>.int .u32
 |267=>.int .u64
 |285=>.slice .rs 145
 |326=>.int .u8
 |327=>.int .u8
 |329=>.int .i32
 |330=>.int .i32
 |333=>.struct .step [(0,1),(1,1),(2,1)]
 |334=>.struct .step [(0,1),(1,1),(2,1)]
 |_=>.other
theorem A6v(t:Ay):P8 By U6 t (tb6 t):=by
 unfold tb6;split
 all_goals first|exact B49 (by kernel_rfl) (by kernel_rfl)|exact B34 (by kernel_rfl) (by kernel_rfl) (by kernel_rfl)|exact D5V (by kernel_rfl) rfl|(show Tryz.prog.underlying _=_;kernel_rfl)|trivial
def zr6(t:Ay):Option Ae:=
 match t with
 |3=>some [.int .i64 0]
 |4=>some [.bool false]
 |5=>some [.int .u8 0]
 |6=>some [.int .u8 0]
 |9=>some [.str []]
 |21=>some [.int .i32 0]
 |22=>some [.sl .u8 [] none]
 |24=>some [.sl .dfn [] none]
 |25=>some [.sl .dfn [] none]
 |26=>some [.sl .dfn [] none]
 |27=>some [.int .i64 0]
 |28=>some [.sl .pos [] none]
 |29=>some [.sl .step [] none]
 |30=>some [.int .i64 0,.sl .pos [] none,.sl .step [] none]
 |31=>some [.int .i64 0,.sl .pos [] none,.sl .step [] none]
 |36=>some [.sl .sys [] none]
 |40=>some [.int .i64 0]
 |41=>some [.sl .lit [] none]
 |42=>some [.sl .lf [] none]
 |43=>some [.int .i64 0,.int .i64 0]
 |44=>some [.int .i64 0,.int .i64 0]
 |45=>some [.int .i64 0,.str [],.bool false,.sl .lit [] none,.sl .lf [] none,.int .i64 0,.int .i64 0]
 |46=>some [.int .i64 0,.str [],.bool false,.sl .lit [] none,.sl .lf [] none,.int .i64 0,.int .i64 0]
 |50=>some [.str [],.str []]
 |51=>some [.str [],.str []]
 |57=>some [.str [],.int .i64 0,.str [],.bool false,.sl .lit [] none,.sl .lf [] none,.int .i64 0,.int .i64 0,.int .i64 0,.int .i64 0]
 |58=>some [.str [],.int .i64 0,.str [],.bool false,.sl .lit [] none,.sl .lf [] none,.int .i64 0,.int .i64 0,.int .i64 0,.int .i64 0]
 |59=>some [.sl .arg [] none]
 |60=>some [.str [],.sl .arg [] none,.int .i64 0,.int .i64 0]
 |61=>some [.str [],.sl .arg [] none,.int .i64 0,.int .i64 0]
 |62=>some [.sl .dir [] none]
 |63=>some [.bool false,.bool false,.str []]
 |64=>some [.bool false,.bool false,.str []]
 |65=>some [.bool false,.bool false,.str [],.str [],.str [],.str [],.bool false,.int .i64 0,.str [],.bool false,.sl .lit [] none,.sl .lf [] none,.int .i64 0,.int .i64 0,.sl .dir [] none,.int .i64 0,.int .i64 0]
 |66=>some [.bool false,.bool false,.str [],.str [],.str [],.str [],.bool false,.int .i64 0,.str [],.bool false,.sl .lit [] none,.sl .lf [] none,.int .i64 0,.int .i64 0,.sl .dir [] none,.int .i64 0,.int .i64 0]
 |67=>some [.int .i64 0]
 |68=>some [.sl .sel [] none]
 |69=>some [.int .i64 0,.str [],.str [],.str [],.sl .arg [] none,.sl .dir [] none,.sl .sel [] none,.int .i64 0,.int .i64 0]
 |70=>some [.int .i64 0,.str [],.str [],.str [],.sl .arg [] none,.sl .dir [] none,.sl .sel [] none,.int .i64 0,.int .i64 0]
 |71=>some [.int .i64 0]
 |72=>some [.str [],.str [],.str [],.bool false,.int .i64 0,.str [],.bool false,.sl .lit [] none,.sl .lf [] none,.int .i64 0,.int .i64 0,.sl .dir [] none,.int .i64 0,.int .i64 0]
 |73=>some [.str [],.str [],.str [],.bool false,.int .i64 0,.str [],.bool false,.sl .lit [] none,.sl .lf [] none,.int .i64 0,.int .i64 0,.sl .dir [] none,.int .i64 0,.int .i64 0]
 |74=>some [.sl .vd [] none]
 |75=>some [.int .i64 0,.str [],.str [],.bool false,.sl .vd [] none,.sl .dir [] none,.sl .sel [] none,.int .i64 0,.int .i64 0]
 |76=>some [.int .i64 0,.str [],.str [],.bool false,.sl .vd [] none,.sl .dir [] none,.sl .sel [] none,.int .i64 0,.int .i64 0]
 |77=>some [.int .i64 0]
 |78=>some [.sl .iv [] none]
 |79=>some [.bool false,.bool false,.str [],.str [],.sl .iv [] none,.str [],.str [],.sl .dir [] none,.int .i64 0,.int .i64 0]
 |80=>some [.bool false,.bool false,.str [],.str [],.sl .iv [] none,.str [],.str [],.sl .dir [] none,.int .i64 0,.int .i64 0]
 |81=>some [.sl .fd [] none]
 |82=>some [.str [],.int .i64 0,.int .i64 0]
 |83=>some [.str [],.int .i64 0,.int .i64 0]
 |84=>some [.sl .named [] none]
 |85=>some [.sl .vald [] none]
 |86=>some [.sl .rd [] none]
 |87=>some [.int .i64 0,.bool false,.bool false,.bool false,.str [],.str [],.sl .named [] none,.sl .dir [] none,.sl .fd [] none,.sl .iv [] none,.sl .named [] none,.sl .vald [] none,.sl .rd [] none,.bool false,.sl .named [] none,.int .i64 0,.int .i64 0]
 |88=>some [.int .i64 0,.bool false,.bool false,.bool false,.str [],.str [],.sl .named [] none,.sl .dir [] none,.sl .fd [] none,.sl .iv [] none,.sl .named [] none,.sl .vald [] none,.sl .rd [] none,.bool false,.sl .named [] none,.int .i64 0,.int .i64 0]
 |93=>some [.sl .tok [] none]
 |95=>some [.sl .node [] none]
 |96=>some [.sl .node [] none,.sl .tok [] none]
 |97=>some [.sl .node [] none,.sl .tok [] none]
 |100=>some [.int .i64 0]
 |101=>some [.int .i64 0,.int .i64 0,.int .i64 0,.int .i64 0,.int .i64 0,.str [],.str []]
 |102=>some [.int .i64 0,.int .i64 0,.int .i64 0,.int .i64 0,.int .i64 0,.str [],.str []]
 |106=>some [.val (.pointer none),.sl .u8 [] none]
 |107=>some [.val (.pointer none),.sl .u8 [] none]
 |108=>some [.val (.pointer none),.sl .u8 [] none]
 |109=>some [.val (.pointer none),.sl .u8 [] none]
 |114=>some [.sl .u8 [] none]
 |115=>some [.sl .u8 [] none]
 |120=>some [.sl .rule [] none]
 |122=>some [.sl .str [] none]
 |125=>some [.sl .tok [] none,.int .i64 0]
 |126=>some [.sl .tok [] none,.int .i64 0]
 |142=>some [.str [],.int .i64 0,.str [],.bool false,.sl .lit [] none,.sl .lf [] none,.int .i64 0,.int .i64 0,.int .i64 0,.int .i64 0]
 |145=>some [.sl .i32 [] none]
 |151=>some [.sl .i64 [] none]
 |152=>some [.str [],.sl .i64 [] none,.int .i64 0]
 |153=>some [.str [],.sl .i64 [] none,.int .i64 0]
 |166=>some [.sl .part [] none]
 |178=>some [.sl .strs [] none]
 |179=>some [.str [],.sl .strs [] none]
 |180=>some [.str [],.sl .strs [] none]
 |195=>some [.sl .tok [] none,.int .i64 0,.int .i64 0,.int .i64 0,.int .i64 0]
 |196=>some [.sl .tok [] none,.int .i64 0,.int .i64 0,.int .i64 0,.int .i64 0]
 |203=>some [.int .u64 0]
 |238=>some [.int .i64 0,.str [],.str [],.str [],.sl .arg [] none,.sl .dir [] none,.sl .sel [] none,.int .i64 0,.int .i64 0]
 |252=>some [.int .i64 0,.str [],.int .i64 0,.int .i64 0]
 |253=>some [.int .i64 0,.str [],.int .i64 0,.int .i64 0]
 |254=>some [.int .i64 0,.str [],.int .i64 0,.int .i64 0]
 |255=>some [.bool false,.bool false,.str [],.str [],.sl .iv [] none,.str [],.str [],.sl .dir [] none,.int .i64 0,.int .i64 0]
 |256=>some [.bool false,.bool false,.str [],.str [],.sl .dir [] none,.int .i64 0,.int .i64 0]
 |257=>some [.bool false,.bool false,.str [],.str [],.sl .dir [] none,.int .i64 0,.int .i64 0]
 |258=>some [.bool false,.bool false,.str [],.str [],.sl .dir [] none,.int .i64 0,.int .i64 0]
 |259=>some [.bool false,.bool false,.str [],.str [],.str [],.str [],.bool false,.int .i64 0,.str [],.bool false,.sl .lit [] none,.sl .lf [] none,.int .i64 0,.int .i64 0,.sl .dir [] none,.int .i64 0,.int .i64 0]
 |264=>some [.int .u32 0]
 |267=>some [.int .u64 0]
 |285=>some [.sl .rs [] none]
 |326=>some [.int .u8 0]
 |327=>some [.int .u8 0]
 |329=>some [.int .i32 0]
 |330=>some [.int .i32 0]
 |333=>some [.str [],.int .i64 0,.bool false]
 |334=>some [.str [],.int .i64 0,.bool false]
 |_=>none
theorem A6B(t:Ay)(zs:Ae)(h:zr6 t=some zs):A2h By U6 t zs:=by
 unfold zr6 at h;split at h
 all_goals first|(cases h;exact B4Z (by kernel_rfl))|cases h
abbrev T6:=Bp->Ae->Option (Bool×E6)
abbrev TB6:=Bp->Ae->Ao->Option (Bool×Ae×Ao)
def nav:Code->Aj->Code
 |c,[]=>c
 | .seq a b,i::p=>match i with|0=>nav a p|_=>nav b p
 | .cond _ a b,i::p=>match i with|0=>nav a p|_=>nav b p
 | .block _ c,_::p=>nav c p
 | .loop c,_::p=>nav c p
 |c,_=>c
def body(f:Func):Code:=match f.body with|some c=>c|none=>.skip
def A1(f:Func)(p:Aj):Code:=nav (body f) p
def NN:Nat:=18446744073709551616
def DD:Nat:=1000000
def lbN{R:Type}(nn:Nat)(E:Env Ty6 A4)(c:Code)(hid:Nat)(s:S6)(k:Ex->S6->Option R):Option R:=B1 E nn c s (A12 (E.drop hid) k)
section
variable {Ty:Type}{den:Ty->Type}{R:Type}
def A10(body:St Ty den->(Ex->St Ty den->Option R)->Option R)(m:Nat)(k:Ex->St Ty den->Option R):Ex->St Ty den->Option R
 | .normal,s=>D1 body m s k
 |e,s=>k e s
theorem B22(body:St Ty den->(Ex->St Ty den->Option R)->Option R)(m:Nat)(s:St Ty den)(k:Ex->St Ty den->Option R):
  D1 body (m+1) s k=body s (A10 body m k):=by
 simp only[D1]
 congr 1
 funext e s'
 cases e<;>rfl
end
deriving instance Inhabited for A7,A7n,A0,I4,G3,E2,A0F,B5,G1,A2f
instance:Inhabited LitT:=⟨.mk 0 [] false [] [] default⟩
deriving instance Inhabited for H0,D0,VdT,RdT,P0,IvT,FdT
instance:Inhabited SelT:=⟨.mk 0 [] [] [] [] [] [] default⟩
deriving instance Inhabited for A6A,A8O,A6,B5Y,B5v,B2Z,B4P,PartT
instance (t:Ty6):Inhabited (A4 t):=by
 cases t<;>unfold A4<;>infer_instance
inductive KD where
 |int (k:Db)|bool|str|sl (t:Ty6) (own:Ak)|agg (t:Ty6)|ptr (d off:Nat)|any|slc (t:Ty6)
def lI:L6->Int
 | .int _ n=>n
 |_=>0
def lB:L6->Bool
 | .bool b=>b
 |_=>false
def lS:L6->Ab
 | .str s=>s
 |_=>[]
def lL(t:Ty6):L6->List (A4 t)
 | .sl u l _=>match(inferInstance:Decidable (u=t))with
  | .isTrue h=>h ▸ l
  | .isFalse _=>[]
 |_=>[]
def lA(t:Ty6):L6->A4 t
 | .agg u x=>match(inferInstance:Decidable (u=t))with
  | .isTrue h=>h ▸ x
  | .isFalse _=>default
 |_=>default
def A6W(l:L6):Aa:=lL .i32 l
def A3H(l:L6):Aa:=lL .u8 l
def B3Q(l:L6):Aa:=lL .i64 l
def H8(l:L6):Ag:=lL .str l
def A5Z(l:L6):List Ag:=lL .strs l
def B5e(l:L6):Al:=lL .part l
def B3w(l:L6):List A7:=lL .pos l
def A4U(l:L6):Ah:=lL .tok l
def A1J(l:L6):List D0:=lL .dir l
def A2K(l:L6):List E2:=lL .named l
def A7S(l:L6):List IvT:=lL .iv l
def D6B(l:L6):List FdT:=lL .fd l
def D4K(l:L6):List P0:=lL .vald l
def D5r(l:L6):List RdT:=lL .rd l
def C1v(l:L6):List A6:=lL .sys l
def C3c(l:L6):An:=lL .rule l
def B7O(l:L6):A7:=lA .pos l
def A1T(l:L6):A0:=lA .tok l
def M0(l:L6):LitT:=lA .lit l
def A3d(l:L6):G3:=lA .note l
def A0g(l:L6):E2:=lA .named l
def C4r(l:L6):A6:=lA .sys l
def C0o(l:L6):A0F:=lA .fault l
def A6E(l:L6):I4:=lA .tref l
def W9:KD->L6->L6
 | .int k,l=>.int k (lI l)
 | .bool,l=>.bool (lB l)
 | .str,l=>.str (lS l)
 | .sl t own,l=>.sl t (lL t l) own
 | .agg t,l=>.agg t (lA t l)
 | .ptr d o,_=>.ptr d o
 | .any,_=>.any
 | .slc t,l=>.sl t (lL t l) none
def okL:KD->L6->Bool
 | .int k,.int k' _=>decide (k=k')
 | .bool,.bool _=>true
 | .str,.str _=>true
 | .sl t none,.sl u _ none=>decide (u=t)
 | .slc t,.sl u _ _=>decide (u=t)
 | .sl t (some d),.sl u _ (some e)=>decide (u=t)&&Ba d e
 | .agg t,.agg u _=>decide (u=t)
 | .ptr d o,.ptr e q=>Ba d e&&Ba o q
 | .any,.any=>true
 |_,_=>false
def A0q:List KD->Ae->Bool
 |[],[]=>true
 |k::ks,l::ls=>okL k l&&A0q ks ls
 |_,_=>false
def B1P:List (List KD)->Ao->Bool
 |[],[]=>true
 |k::ks,l::ls=>A0q k l&&B1P ks ls
 |_,_=>false
def gL:Ad->Nat->L6
 |some (.one l),0=>l
 |some (.tup ls),j=>ls.getD j .any
 |_,_=>.any
def gB:Option (Ae×Ao)->Nat->L6
 |some (ls,_),j=>ls.getD j .any
 |none,_=>.any
def gC:Option (Ae×Ao)->Nat->Nat->L6
 |some (_,cs),k,j=>(cs.getD k []).getD j .any
 |none,_,_=>.any
def okR(ks:List KD):Ad->Bool
 |some (.one l)=>match ks with
  |[k]=>okL k l
  |_=>false
 |some (.tup ls)=>A0q ks ls&& !Ba ks.length 1
 |_=>false
def A6i(F:Ad):Nat->List KD->Ae
 |_,[]=>[]
 |j,k::ks=>W9 k (gL F j)::A6i F (j+1) ks
def M1(ks:List KD)(F:Ad):E6:=
 match ks with
 |[k]=>.one (W9 k (gL F 0))
 |ks=>.tup (A6i F 0 ks)
def okB(ks:List KD)(il:List (List KD)):Option (Ae×Ao)->Bool
 |some (ls,cs)=>A0q ks ls&&B1P il cs
 |none=>false
def B0S(F:Option (Ae×Ao)):Nat->List KD->Ae
 |_,[]=>[]
 |j,k::ks=>W9 k (gB F j)::B0S F (j+1) ks
def rsR(ks:List KD)(F:Option (Ae×Ao)):Ae:=B0S F 0 ks
def A8k(F:Option (Ae×Ao))(b:Nat):Nat->List KD->Ae
 |_,[]=>[]
 |j,k::ks=>W9 k (gC F b j)::A8k F b (j+1) ks
def A7D(F:Option (Ae×Ao)):Nat->List (List KD)->Ao
 |_,[]=>[]
 |b,k::ks=>A8k F b 0 k::A7D F (b+1) ks
def csR(il:List (List KD))(F:Option (Ae×Ao)):Ao:=A7D F 0 il
end Go.Aev
section
namespace Go.Aev
def D3(l:Aa):Bool:=A2 l.length 4
def L3(ls:Am):Bool:=A2 ls.length 24&&ls.all D3
def K4(c:Int):Bool:=c==9||c==32
def L9(l:Aa):Nat:=(l.takeWhile K4).length
def G6(l:Aa):Int:=L9 l
def B4(l:Aa):Bool:=l.all K4
def T3:Int->Am->Int
 |m,[]=>m
 |m,l::r=>T3 (if !B4 l&&(decide (m<0)||decide (G6 l<m))then G6 l else m) r
def U3(ls:Am):Int:=let m:=T3 (-1) (ls.drop 1);if m<0 then 0 else m
def M6(ls:Am):Am:=ls.take 1++(ls.drop 1).map λl=>l.drop (U3 ls).toNat
def R0(ls:Am):Am:=((ls.dropWhile B4).reverse.dropWhile B4).reverse
def J7(ls:Am):Am:=R0 (M6 ls)
end Go.Aev
namespace Go.Aev
section
variable {Ty:Type}{den:Ty->Type}{R:Type}
def lbC(E:Env Ty den)(c:Code)(hid n:Nat):St Ty den->(Ex->St Ty den->Option R)->Option R:=λs k=>B1 E n c s (A12 (E.drop hid) k)
end
def B3L(c:Int):Bool:=decide (48<=c)&&decide (c<=57)
def N9(c:Int):Int:=if B3L c then c - 48 else if decide (97<=c)&&decide (c<=102)then c - 87 else if decide (65<=c)&&decide (c<=70)then c - 55 else -1
def A2o:Int->Aa->Int
 |n,[]=>n
 |n,c::r=>if N9 c<0 then -1 else A2o (n*16+N9 c) r
def E9(l:Aa):Int:=if l.length<4 then -1 else A2o 0 (l.take 4)
def M2(eh low:Int):Int×Bool:=if decide (eh<55296)||decide (56320<=eh)||decide (low<56320)||decide (57344<=low)then(0,false)else(65536+(eh - 55296)*1024+(low - 56320),true)
def W0(l:Aa):Int×Int:=
 let eh:=E9 l
 if eh<0\/(56320<=eh/\eh<=57343)then(0,0)
 else if eh<55296\/57343<eh then(eh,6)
 else if 10<=l.length/\l[4]?=some 92/\l[5]?=some 117/\(M2 eh (E9 (l.drop 6))).2=true then((M2 eh (E9 (l.drop 6))).1,12)else(0,0)
def O7(c:Int):Int:=if c=34\/c=92\/c=47 then c else if c=98 then 8 else if c=102 then 12 else if c=110 then 10 else if c=114 then 13 else if c=116 then 9 else -1
def A1A:Aa->Int×Int
 |_::c::r=>if 0<=O7 c then(O7 c,2)else if c=117 then W0 r else(0,0)
 |_=>(0,0)
def L8(c:Int):Bool:=if c<32 then c==9||(c==10||c==13)else decide (c<=65535)&&(decide (c<55296)||decide (57344<=c))
def D5(c:Int):Bool:=(decide (0<=c)&&decide (c<55296))||(decide (57343<c)&&decide (c<=1114111))
def inF(c:Int)(t:Ab):Bool:=t.any λb=>(b.toNat:Int)==c
def u8F(c:Int):Aa:=
 if c<128 then [c]
 else if c<2048 then [192+c / 64,128+c % 64]
 else if c<65536 then [224+c / 4096,128+c / 64 % 64,128+c % 64]
 else [240+c / 262144,128+c / 4096 % 64,128+c / 64 % 64,128+c % 64]
def O2(c:Int):Aa:=if D5 c then u8F c else []
def toB(l:Aa):Ab:=l.map λn=>Gm n.toNat
def B2(l:Aa):Ab:=toB (l.flatMap u8F)
def J4(l:Aa):Ab×Bool:=if l.all D5 then(B2 l,true)else([],false)
def A0a(c:Int):Bool:=L8 c&& !(c==34)&& !(c==92)&& !(c==10)&& !(c==13)
def J8(l:Aa):Int:=if l[0]?=some 92/\l[1]?=some 117 then E9 (l.drop 2)else -1
def J6:Aa->Int×Int
 |[]=>(0,0)
 |c::r=>if A0a c then(c,1)else if c=92 then A1A (c::r)else(0,0)
def A6Q:Nat->Aa->Option Aa
 |_,[]=>some []
 |0,_=>none
 |n+1,l=>if(J6 l).2<=0 then none else(A6Q n (l.drop (J6 l).2.toNat)).map ((J6 l).1:: ·)
def A1v(l:Aa):Option Aa:=A6Q l.length l
def A5X:Option Aa->Ab×Int
 |some l=>((J4 l).1,0)
 |none=>([],60)
def Y0(l:Aa):Ab×Int:=A5X (A1v l)
def K6(a b:Aa):Aa:=a++b
def smL(l:Aa):Bool:=decide (l.length<=1073741824)
def J9:Aa->Bool
 |34::34::34::_=>true
 |_=>false
def E7:Aa->Aa
 |92::34::34::34::r=>34::34::34::E7 r
 |c::r=>c::E7 r
 |[]=>[]
def Q9:Aa->Bool
 |92::34::34::34::r=>Q9 r
 |c::r=>if !L8 c||J9 (c::r)then false else Q9 r
 |[]=>true
def Y5:Int->Aa->Int
 |_,92::34::34::34::r=>Y5 0 r
 |_,c::r=>Y5 c r
 |last,[]=>last
def A3t(x:Int):Bool:= !(x==34)&& !(x==92)
def A8f(last:Int)(l:Aa):Bool:=Q9 l&&A3t (Y5 last l)
def N3:Aa->Bool
 |10::_=>true
 |13::r=> !(r.head? ==some 10)
 |_=>false
def I3:Aa->Aa->Am
 |cur,[]=>[cur]
 |cur,c::r=>if N3 (c::r)then cur::I3 [] r else if c=13 then I3 cur r else I3 (cur++[c]) r
def B3(l:Aa):Am:=I3 [] l
def U0:Nat->Aa->Aa
 |_,[]=>[]
 |i,c::r=>if N3 (c::r)then((i+1:Nat):Int)::U0 (i+1) r else U0 (i+1) r
def R5(l:Aa):Aa:=0::U0 0 l
def I8:Am->Aa
 |[]=>[]
 |l::r=>l++r.flatMap (10:: ·)
def W7(l:Aa):Ab×Int:=if A8f 0 l then((J4 (I8 (J7 (B3 (E7 l))))).1,0)else([],60)
def L4:Aa->Bool
 |92::34::34::34::_=>true
 |_=>false
end Go.Aev
end
namespace Go.Aev
open Go.Lib
def smS(s:Ab):Bool:=decide (s.length<=67108864)
def X3(l:Ab):Bool:=decide ((Cw l).1=65533)&&decide ((Cw l).2=1)
def A14:Nat->Ab->Aa×Nat
 |0,_=>([],0)
 |n+1,l=>if l=[]then([],0)else if X3 l then([],0)else
  (((Cw l).1:Int)::(A14 n (l.drop (Cw l).2)).1,(Cw l).2+(A14 n (l.drop (Cw l).2)).2)
def C5(l:Ab):Aa×Nat:=A14 l.length l
def dgF(l:Ab):Int×Int:=(((decodeGoB ⟨l.toArray⟩).1:Nat),((decodeGoB ⟨l.toArray⟩).2:Nat))
def isB(l:Aa):Bool:=l.all λn=>decide (0<=n)&&decide (n<=255)
def eqI(a b:Aa):Bool:=a==b
def I6:Aa->Int
 |[a]=>a % 128
 |[a,b]=>a % 32*64+b % 64
 |[a,b,c]=>(a % 16*64+b % 64)*64+c % 64
 |[a,b,c,d]=>((a % 8*64+b % 64)*64+c % 64)*64+d % 64
 |_=>0
def P4(l:Aa):Int×Int:=if X3 (toB l)then(0,0)else(((Cw (toB l)).1:Nat),((Cw (toB l)).2:Nat))
def E0(c:Int):Int×Int×Bool:=if decide (c<65536)||decide (1114111<c)then(0,0,false)else(55296+(c - 65536) / 1024,56320+(c - 65536) % 1024,true)
def Q4(n:Int):Int:=if n<10 then 48+n else 55+n
def H6(c:Int):Aa:=[92,117,Q4 (c / 4096 % 16),Q4 (c / 256 % 16),Q4 (c / 16 % 16),Q4 (c % 16)]
def wrF(c:Int):Aa:=
 if c=34\/c=92 then [92,c]else if c=8 then [92,98]else if c=9 then [92,116]else if c=10 then [92,110]else if c=12 then [92,102]else if c=13 then [92,114]
 else if(E0 c).2.2 then H6 (E0 c).1++H6 (E0 c).2.1
 else if c<32\/c=127 then H6 c else [c]
def qtC(cs:Aa):Aa:=34::cs.flatMap wrF++[34]
def qtF(v:Ab):Ab×Int:=if(C5 v).2<v.length then([],1)else(B2 (qtC (C5 v).1),0)
def maskF:Aa->Aa
 |34::34::34::r=>92::34::34::34::maskF r
 |c::r=>c::maskF r
 |[]=>[]
def S5(ls:Am):Bool:=
 !B4 (ls.headD [])&&(!B4 (ls.getLastD [])&&(decide (ls.length=1)||ls.any λl=> !B4 l&&decide (G6 l=0)))
def btC(cs:Aa):Aa:=[34,34,34]++(if decide (1<(B3 cs).length)|| !K4 (cs.headD 0)then [10]else [])++maskF cs++[10,34,34,34]
def btF(v:Ab):Ab×Bool:=
 if v=[]then([34,34,34,34,34,34],true)
 else if(C5 v).2<v.length then([],false)
 else if !(C5 v).1.all (λc=>L8 c&& !(c==13))then([],false)
 else if !S5 (B3 (C5 v).1)then([],false)
 else(B2 (btC (C5 v).1),true)
end Go.Aev
namespace Go.Aev
open Go.Proofs
def F29(ac:Aa):Option (Ae×Ao):=bif decide (ac.length<=140737488355328)then some ([.str (toB ac)],[[.ptr 900000 C4,.sl .u8 ac (some 92000001)]])else none
def S29:Ae->Ao->Option (Bool×Ae×Ao)
 |[.ptr d0 o0],[[.ptr p0 q0,.sl .u8 ac (some aQ)]]=>bif(Ba d0 900000&&Ba o0 0)&&(Ba p0 900000&&Ba q0 C4)&&(Ba aQ 92000001)then some (okB [.str] [[.ptr 900000 C4,.sl .u8 (some 92000001)]] (F29 ac),rsR [.str] (F29 ac),csR [[.ptr 900000 C4,.sl .u8 (some 92000001)]] (F29 ac))else none
 |_,_=>none
def F47(a0:Ab)(a1:Int):Ad:=bif decide (a0.length<=2)&&decide (0<=a1)&&decide (a1<=1000)then some (.one (.str (Go.Lib.repeatL a0 a1.toNat)))else none
def S47:Ae->Option (Bool×E6)
 |[.str a0,.int .i64 a1]=>some (okR [.str] (F47 a0 a1),M1 [.str] (F47 a0 a1))
 |_=>none
def F48(a0:Ab)(a1:Ab):Ad:=bif smS a0&&(a1==[93])then some (.one (.int .i64 ((a0.count 93:Nat):Int)))else none
def S48:Ae->Option (Bool×E6)
 |[.str a0,.str a1]=>some (okR [.int .i64] (F48 a0 a1),M1 [.int .i64] (F48 a0 a1))
 |_=>none
def F52(a0:Aa):Ad:=bif isB a0&&smL a0 then some (.tup [.sl .i32 (C5 (toB a0)).1 (some 1),.int .i64 (((C5 (toB a0)).2:Nat):Int)])else none
def S52:Ae->Option (Bool×E6)
 |[.sl .u8 a0 none]=>some (okR [.sl .i32 (some 1),.int .i64] (F52 a0),M1 [.sl .i32 (some 1),.int .i64] (F52 a0))
 |_=>none
def F65(a0:Ab)(a1:Ab):Ad:=bif smS a0&&(a1==[32])then some (.one (.str (if Go.Lib.hasPrefix a0 a1 then a0.drop a1.length else a0)))else none
def S65:Ae->Option (Bool×E6)
 |[.str a0,.str a1]=>some (okR [.str] (F65 a0 a1),M1 [.str] (F65 a0 a1))
 |_=>none
def A5V(ac:Aa):Option (Ae×Ao):=some ([],[[.ptr 900000 C4,.sl .u8 ac (some 92000001)]])
def B1I:Ae->Ao->Option (Bool×Ae×Ao)
 |[.ptr d0 o0],[[.ptr p0 q0,.sl .u8 ac (some aQ)]]=>bif(Ba d0 900000&&Ba o0 0)&&(Ba p0 900000&&Ba q0 C4)&&(Ba aQ 92000001)then some (okB [] [[.ptr 900000 C4,.sl .u8 (some 92000001)]] (A5V ac),rsR [] (A5V ac),csR [[.ptr 900000 C4,.sl .u8 (some 92000001)]] (A5V ac))else none
 |_,_=>none
def A4c(a0:Ab):Ad:=bif smS a0 then some (.tup [.str (btF a0).1,.bool (btF a0).2])else none
def B0t:Ae->Option (Bool×E6)
 |[.str a0]=>some (okR [.str,.bool] (A4c a0),M1 [.str,.bool] (A4c a0))
 |_=>none
def A3l(a0:Ab):Ad:=bif smS a0 then some (.tup [.str (qtF a0).1,.int .i64 (qtF a0).2])else none
def A9I:Ae->Option (Bool×E6)
 |[.str a0]=>some (okR [.str,.int .i64] (A3l a0),M1 [.str,.int .i64] (A3l a0))
 |_=>none
def A2A(a0:Ab):Ad:=bif smS a0 then some (.tup [.str (btF a0).1,.bool (btF a0).2])else none
def A9d:Ae->Option (Bool×E6)
 |[.str a0]=>some (okR [.str,.bool] (A2A a0),M1 [.str,.bool] (A2A a0))
 |_=>none
def A1N(a0:Ab):Ad:=bif smS a0 then some (.tup [.str (qtF a0).1,.int .i64 (qtF a0).2])else none
def B1b:Ae->Option (Bool×E6)
 |[.str a0]=>some (okR [.str,.int .i64] (A1N a0),M1 [.str,.int .i64] (A1N a0))
 |_=>none
def A2V(a0:Aa):Ad:=bif smL a0 then some (.tup [.str (W7 a0).1,.int .i64 (W7 a0).2])else none
def B0E:Ae->Option (Bool×E6)
 |[.sl .i32 a0 none]=>some (okR [.str,.int .i64] (A2V a0),M1 [.str,.int .i64] (A2V a0))
 |_=>none
def A2g(a0:Aa):Ad:=bif D3 a0 then some (.tup [.str (Y0 a0).1,.int .i64 (Y0 a0).2])else none
def B2m:Ae->Option (Bool×E6)
 |[.sl .i32 a0 none]=>some (okR [.str,.int .i64] (A2g a0),M1 [.str,.int .i64] (A2g a0))
 |_=>none
theorem F0(a b:Nat):(Ba a b=true)=(a=b):=propext ⟨Cs,λh=>by subst h;exact Nat.beq_refl a⟩
def B5u:KD->Bool
 | .slc _=>true
 |_=>false
def A0h:List KD->Bool
 |[]=>true
 |k::ks=> !B5u k&&A0h ks
theorem B10(t:Ty6)(l:List (A4 t))(o:Ak):lL t (.sl t l o)=l:=by
 unfold lL;dsimp only;split
 ·rfl
 ·rename_i h _;exact absurd rfl h
theorem D3K(t:Ty6)(x:A4 t):lA t (.agg t x)=x:=by
 unfold lA;dsimp only;split
 ·rfl
 ·rename_i h _;exact absurd rfl h
theorem A8U{k:KD}{l:L6}(h:okL k l=true)(hx:B5u k=false):W9 k l=l:=by
 cases k with
 |slc t=>cases hx
 |int k0=>cases l<;>first|(cases h;done)|(simp only[okL,decide_eq_true_eq]at h;subst h;rfl)
 |bool=>cases l<;>first|(cases h;done)|rfl
 |str=>cases l<;>first|(cases h;done)|rfl
 |any=>cases l<;>first|(cases h;done)|rfl
 |ptr d o=>
  cases l<;>first|(cases h;done)|skip
  simp only[okL,Aw,F0]at h;obtain⟨rfl,rfl⟩:=h;rfl
 |agg t=>
  cases l<;>first|(cases h;done)|skip
  simp only[okL,decide_eq_true_eq]at h;subst h;simp only[W9,D3K]
 |sl t own=>
  cases l with
  |sl u x o=>
   cases own with
   |none=>
    cases o with
    |none=>
     simp only[okL,decide_eq_true_eq]at h;subst h;simp only[W9];rw[B10]
    |some e=>cases h
   |some d=>
    cases o with
    |none=>cases h
    |some e=>
     simp only[okL,Aw,decide_eq_true_eq,F0]at h;obtain⟨rfl,rfl⟩:=h;simp only[W9];rw[B10]
  |_=>cases own<;>cases h
theorem B8S{k:KD}{l:L6}(h:okL k l=true)(hc:(W9 k l).close=W9 k l):W9 k l=l.close:=by
 cases hs:B5u k with
 |false=>rw[A8U h hs]at hc ⊢;exact hc.symm
 |true=>
  cases k with
  |slc t=>
   cases l<;>first|(cases h;done)|skip
   rename_i u x o;simp only[okL,decide_eq_true_eq]at h;subst h;simp only[W9,Leaf.close];rw[B10]
  |_=>cases hs
theorem C4U(F:Ad)(all:Ae)(hF:F=some (.tup all)):∀(ks:List KD)(ls:Ae)(j:Nat),all.drop j=ls->A0q ks ls=true->A0h ks=true->A6i F j ks=ls
 |[],[],j,_,_,_=>rfl
 |[],_::_,j,_,h,_=>by cases h
 |k::ks,[],j,_,h,_=>by cases h
 |k::ks,l::ls,j,hd,h,hx=>by
  simp only[A0q,Aw]at h;simp only[A0h,Aw,Bw]at hx;have hj:all[j]?=some l:=by
   have:=congrArg (λx=>x[0]?) hd;simpa using this
  have fj:all.drop (j+1)=ls:=by
   have h1:all.drop (j+1)=(all.drop j).drop 1:=by rw[Dm]
   rw[h1,hd];rfl
  have hg:gL F j=l:=by rw[hF];cases j<;>simp[gL,Ck,hj]
  simp only[A6i,hg,A8U h.1 hx.1,C4U F all hF ks ls (j+1) fj h.2 hx.2]
theorem D8x{ks:List KD}{F:Ad}(h:okR ks F=true)(hx:A0h ks=true):F=some (M1 ks F):=by
 unfold okR at h;split at h
 ·rename_i l;split at h
  ·rename_i k;simp only[A0h,Aw,Bw]at hx;simp only[M1,gL,A8U h hx.1]
  ·cases h
 ·rename_i ls;simp only[Aw,Bw]at h;have:=C4U (some (.tup ls)) ls rfl ks ls 0 (by simp) h.1 hx;cases ks with
  |nil=>simp only[M1,this]
  |cons k ks=>
   cases ks with
   |nil=>have:=h.2;cases this
   |cons k2 ks=>simp only[M1,this]
 ·cases h
theorem B8V(F:Option (Ae×Ao))(all:Ae)(cs:Ao)(hF:F=some (all,cs)):∀(ks:List KD)(ls:Ae)(j:Nat),all.drop j=ls->A0q ks ls=true->A0h ks=true->B0S F j ks=ls
 |[],[],j,_,_,_=>rfl
 |[],_::_,j,_,h,_=>by cases h
 |k::ks,[],j,_,h,_=>by cases h
 |k::ks,l::ls,j,hd,h,hx=>by
  simp only[A0q,Aw]at h;simp only[A0h,Aw,Bw]at hx;have hj:all[j]?=some l:=by
   have:=congrArg (λx=>x[0]?) hd;simpa using this
  have fj:all.drop (j+1)=ls:=by
   have h1:all.drop (j+1)=(all.drop j).drop 1:=by rw[Dm]
   rw[h1,hd];rfl
  have hg:gB F j=l:=by rw[hF];simp[gB,Ck,hj]
  simp only[B0S,hg,A8U h.1 hx.1,B8V F all cs hF ks ls (j+1) fj h.2 hx.2]
theorem C0A(F:Option (Ae×Ao))(rs:Ae)(cs:Ao)(hF:F=some (rs,cs))(b:Nat)(all:Ae)(hb:cs[b]?=some all):∀(ks:List KD)(ls:Ae)(j:Nat),all.drop j=ls->A0q ks ls=true->A0h ks=true->A8k F b j ks=ls
 |[],[],j,_,_,_=>rfl
 |[],_::_,j,_,h,_=>by cases h
 |k::ks,[],j,_,h,_=>by cases h
 |k::ks,l::ls,j,hd,h,hx=>by
  simp only[A0q,Aw]at h;simp only[A0h,Aw,Bw]at hx;have hj:all[j]?=some l:=by
   have:=congrArg (λx=>x[0]?) hd;simpa using this
  have fj:all.drop (j+1)=ls:=by
   have h1:all.drop (j+1)=(all.drop j).drop 1:=by rw[Dm]
   rw[h1,hd];rfl
  have hg:gC F b j=l:=by rw[hF];simp[gC,Ck,hb,hj]
  simp only[A8k,hg,A8U h.1 hx.1,C0A F rs cs hF b all hb ks ls (j+1) fj h.2 hx.2]
def A8q:List (List KD)->Bool
 |[]=>true
 |k::ks=>A0h k&&A8q ks
theorem C3m(F:Option (Ae×Ao))(rs:Ae)(all:Ao)(hF:F=some (rs,all)):∀(ks:List (List KD))(cs:Ao)(b:Nat),all.drop b=cs->B1P ks cs=true->A8q ks=true->A7D F b ks=cs
 |[],[],b,_,_,_=>rfl
 |[],_::_,b,_,h,_=>by cases h
 |k::ks,[],b,_,h,_=>by cases h
 |k::ks,c::cs,b,hd,h,hx=>by
  simp only[B1P,Aw]at h;simp only[A8q,Aw]at hx;have hj:all[b]?=some c:=by
   have:=congrArg (λx=>x[0]?) hd;simpa using this
  have fj:all.drop (b+1)=cs:=by
   have h1:all.drop (b+1)=(all.drop b).drop 1:=by rw[Dm]
   rw[h1,hd];rfl
  simp only[A7D,C0A F rs all hF b c hj k c 0 (by simp) h.1 hx.1,C3m F rs all hF ks cs (b+1) fj h.2 hx.2]
theorem D7S{ks:List KD}{il:List (List KD)}{F:Option (Ae×Ao)}(h:okB ks il F=true)(hx:A0h ks=true)(hy:A8q il=true):F=some (rsR ks F,csR il F):=by
 cases F with
 |none=>cases h
 |some p=>
  obtain⟨ls,cs⟩:=p;simp only[okB,Aw]at h;simp only[rsR,csR,B8V (some (ls,cs)) ls cs rfl ks ls 0 (by simp) h.1 hx,C3m (some (ls,cs)) ls cs rfl il cs 0 (by simp) h.2 hy]
def sG(S:Ae->Option (Bool×E6)):Ae->Ad:=λls=>M9 (S ls)
def sGB(S:Ae->Ao->Option (Bool×Ae×Ao)):Ae->Ao->Option (Ae×Ao):=λls cs=>M9 (S ls cs)
theorem C9d{P:Bf}{I:Inv}{f:Bp}{S:Ae->Option (Bool×E6)}(h:Sound P U6 I f (sG S)){ls:Ae}{r:E6}(hr:S ls=some (true,r)):(∀args w,(Bn f args).run P w=.ok (.enter f args) w)/\A1U P U6 I f ls r:=
 ⟨h.enter,h.ok ls r (by simp only[sG,hr,M9])⟩
theorem D8j{P:Bf}{I:Inv}{f:Bp}{S:Ae->Ao->Option (Bool×Ae×Ao)}(h:D4 P U6 I f (sGB S)){ls:Ae}{cs:Ao}{rs:Ae}{aR:Ao}(hr:M9 (S ls cs)=some (rs,aR)):
 (∀args w,(Bn f args).run P w=.ok (.enter f args) w)/\Z1 P U6 I f ls cs rs aR:=⟨h.enter,h.ok ls cs rs aR hr⟩
theorem A3r{α:Type}{b:Bool}{x y:α}(h:M9 (some (b,x))=some y):b=true/\x=y:=by
 cases b with
 |false=>cases h
 |true=>cases h;exact⟨rfl,rfl⟩
theorem E8{α:Type}{c:Bool}{x:Option (Bool×α)}{y:α}(h:M9 (bif c then x else none)=some y):c=true/\M9 x=some y:=by
 cases c with
 |false=>cases h
 |true=>exact⟨rfl,h⟩
theorem D8{F:Ad}{ks:List KD}{X:Ad}(lF:X=F)(hx:A0h ks=true){r:E6}(h:M9 (some (okR ks F,M1 ks F))=some r):X=some r:=by
 obtain⟨h1,h2⟩:=A3r h;rw[lF,D8x h1 hx,h2]
theorem G0{F:Option (Ae×Ao)}{ks:List KD}{il:List (List KD)}{X:Option (Ae×Ao)}(lF:X=F)(hx:A0h ks=true)(hy:A8q il=true){r:Ae×Ao}(h:M9 (some (okB ks il F,rsR ks F,csR il F))=some r):X=some r:=by
 obtain⟨h1,h2⟩:=A3r h;rw[lF,D7S h1 hx hy,h2]
def A1c:E6->E6
 | .one l=>.one l.close
 | .tup ls=>.tup (F8 ls)
 |e=>e
theorem B5L(e:E6)(hi:∀d ls,e≠ .bx d ls)(hs:∀ls,e≠ .st ls)(d:Nat):(A1c e).has d=false:=by
 cases e with
 |one l=>simp only[A1c,Ent.has];exact A5L l d
 |tup ls=>
  simp only[A1c,Ent.has];clear hi hs
  induction ls with
  |nil=>rfl
  |cons l ls ih=>simp only[F8,List.any_cons,A5L,Ga];exact ih
 |iter s p=>rfl
 |bx d ls=>exact absurd rfl (hi d ls)
 |st ls=>exact absurd rfl (hs ls)
theorem Post.closed{B:Bs}{g':Gh}{r:E6}{v:Value}{w':World}(h:Post U6 B g' r v w')(hb:∀d ls,r≠ .bx d ls)(hs:∀ls,r≠ .st ls):Post U6 B g' (A1c r) v w':=by
 refine{os:=h.os,tape:=h.tape,output:=h.output,size:=h.size,frame:=h.frame,ext:=h.ext,zero:=h.zero,rep:=?_,nit:=?_,tip:=λd hd=>?_,disj:=λd e b hd=>?_,mine:=λd b hd=>?_}
 ·have:=h.rep;cases r with
  |one l=>exact LRep.closed (show LRep U6 w' g' l v from this).1
  |tup ls=>
   obtain⟨vs,h1,h2⟩:=this;exact⟨vs,h1,LsRep.close h2⟩
  |iter s p=>exact this
  |bx d ls=>exact absurd rfl (hb d ls)
  |st ls=>exact absurd rfl (hs ls)
 ·have:=h.nit;cases r<;>first|rfl|exact this
 ·rw[B5L r hb hs]at hd;cases hd
 ·rw[B5L r hb hs]at hd;cases hd
 ·rw[B5L r hb hs]at hd;cases hd
theorem Sound.close{P:Bf}{I:Inv}{f:Bp}{S0 S:Ae->Ad}(h:Sound P U6 I f S0)(hS:∀ls r,S ls=some r->∃r0,S0 ls=some r0/\r=A1c r0/\(∀d ls,r0≠ .bx d ls)/\∀ls,r0≠ .st ls):Sound P U6 I f S:=by
 refine⟨h.enter,λls r hr=>?_⟩;obtain⟨r0,h1,rfl,h2,h3⟩:=hS ls r hr;intro w g vs hI hz ak cP dx;refine(h.ok ls r0 h1 w g vs hI hz ak cP dx).mono λe w' hw=>?_;obtain⟨v,g',h4,h5⟩:=hw;exact⟨v,g',h4,h5.closed h2 h3⟩
def B0B:KD->Bool
 | .sl _ (some _)=>false
 | .ptr _ _=>false
 |_=>true
theorem C37{k:KD}{l:L6}(h:B0B k=true):(W9 k l).close=W9 k l:=by
 cases k with
 |sl t o=>cases o<;>first|rfl|cases h
 |ptr d o=>cases h
 |_=>rfl
theorem B7Q(F:Ad)(all:Ae)(hF:F=some (.tup all)):∀(ks:List KD)(ls:Ae)(j:Nat),all.drop j=ls->A0q ks ls=true->ks.all B0B=true->A6i F j ks=F8 ls
 |[],[],j,_,_,_=>rfl
 |[],_::_,j,_,h,_=>by cases h
 |k::ks,[],j,_,h,_=>by cases h
 |k::ks,l::ls,j,hd,h,hx=>by
  simp only[A0q,Aw]at h;simp only[Hc,Aw]at hx;have hj:all[j]?=some l:=by
   have:=congrArg (λx=>x[0]?) hd;simpa using this
  have fj:all.drop (j+1)=ls:=by
   have h1:all.drop (j+1)=(all.drop j).drop 1:=by rw[Dm]
   rw[h1,hd];rfl
  have hg:gL F j=l:=by rw[hF];cases j<;>simp[gL,Ck,hj]
  simp only[A6i,F8,hg,B8S h.1 (C37 hx.1),B7Q F all hF ks ls (j+1) fj h.2 hx.2]
theorem C6o{ks:List KD}{F:Ad}(h:okR ks F=true)(hx:ks.all B0B=true):∃r0,F=some r0/\M1 ks F=A1c r0/\(∀d ls,r0≠ .bx d ls)/\∀ls,r0≠ .st ls:=by
 unfold okR at h;split at h
 ·rename_i l;split at h
  ·rename_i k;simp only[Hc,Aw]at hx;exact⟨_,rfl,by simp only[M1,gL,A1c,B8S h (C37 hx.1)],λd ls=>by simp,λls=>by simp⟩
  ·cases h
 ·rename_i ls;simp only[Aw,Bw]at h;have:=B7Q (some (.tup ls)) ls rfl ks ls 0 (by simp) h.1 hx;refine⟨_,rfl,?_,λd ls=>by simp,λls=>by simp⟩;cases ks with
  |nil=>simp only[M1,this,A1c]
  |cons k ks=>
   cases ks with
   |nil=>have:=h.2;cases this
   |cons k2 ks=>simp only[M1,this,A1c]
 ·cases h
theorem A6L{F:Ad}{ks:List KD}{X:Ad}(lF:X=F)(hx:ks.all B0B=true){r:E6}(h:M9 (some (okR ks F,M1 ks F))=some r):∃r0,X=some r0/\r=A1c r0/\(∀d ls,r0≠ .bx d ls)/\∀ls,r0≠ .st ls:=by
 obtain⟨h1,h2⟩:=A3r h;obtain⟨r0,h3,h4,h5⟩:=C6o h1 hx;exact⟨r0,lF.trans h3,by rw[<-h2,h4],h5⟩
structure HB(I:Inv):Prop where
 mono:∀w m w' m',I w m->Ext w m w' m'->I w' m'
 s29:D4 By U6 I 29 (sGB S29)
 s138:D4 By U6 I 138 (sGB B1I)
 s47:Sound By U6 I 47 (sG S47)
 s48:Sound By U6 I 48 (sG S48)
 s65:Sound By U6 I 65 (sG S65)
 s155:Sound By U6 I 155 (sG B0t)
 s156:Sound By U6 I 156 (sG A9I)
 s163:Sound By U6 I 163 (sG A9d)
 s164:Sound By U6 I 164 (sG B1b)
 s212:Sound By U6 I 212 (sG B0E)
 s214:Sound By U6 I 214 (sG B2m)
 s52:Sound By U6 I 52 (sG S52)
end Go.Aev
section
open Go.Lib
namespace Go.Aev
variable {Ty:Type}{den:Ty->Type}
def ArrN(w:World)(sz:Nat)(v:Value)(n:Nat)(xs:Ai):Prop:=
 xs.length=n*sz/\∃a cap,v=.slice a n cap/\n<=cap/\(cap=0\/∃b c e fz,a=some ⟨b,0,none⟩/\w.heap[b]?=some (.cells c e fz)/\cap*sz<=c.size/\
  fz.2=0/\∀(j:Nat) x,xs[j]?=some x->c[j]?=some x)
def H5(v:Value):Ak:=
 match v with
 | .slice (some a) _ cap=>if cap=0 then none else some a.block
 |_=>none
theorem A0D{b off len cap:Nat}(h:cap≠0):H5 (.slice (some ⟨b,off,none⟩) len cap)=some b:=by simp[H5,h]
theorem B5A{a:Option Addr}{n m cap:Nat}:H5 (.slice a n cap)=H5 (.slice a m cap):=by cases a<;>rfl
structure KM(w:World)(m:Nat->Nat)(w':World)(m':Nat->Nat)(S:Nat->Prop):Prop where
 os:w'.os=w.os
 tape:w'.tape=w.tape
 output:w'.output=w.output
 size:w.heap.size<=w'.heap.size
 heap:∀b,b<w.heap.size->¬S b->w'.heap[b]?=w.heap[b]? /\m' b=m b
 ext:Ext w m w' m'
 zero:∀b,w'.heap.size<=b->m' b=0
section
variable {w w' pV:World}{v:Value}{xs:Ai}{S T:Nat->Prop}{m m' vQ:Nat->Nat}{sz n:Nat}
theorem KM.refl(w:World)(m:Nat->Nat)(S:Nat->Prop)(hz:∀b,w.heap.size<=b->m b=0):KM w m w m S:=⟨rfl,rfl,rfl,Be _,λ_ _ _=>⟨rfl,rfl⟩,Ext.refl _ _,hz⟩
theorem KM.mono(k:KM w m w' m' S)(h:∀b,b<w.heap.size->S b->T b):KM w m w' m' T:=
 ⟨k.os,k.tape,k.output,k.size,λb hb hs=>k.heap b hb λe=>hs (h b hb e),k.ext,k.zero⟩
theorem KM.trans(k:KM w m w' m' S)(l:KM w' m' pV vQ T)(h:∀b,b<w.heap.size->T b->S b):KM w m pV vQ S:=
 ⟨l.os.trans k.os,l.tape.trans k.tape,l.output.trans k.output,Ci k.size l.size,λb hb hs=>by
  have h1:=k.heap b hb hs;have h2:=l.heap b (Fg hb k.size) λe=>hs (h b hb e);exact⟨h2.1.trans h1.1,h2.2.trans h1.2⟩,k.ext.trans l.ext,l.zero⟩
theorem ArrN.frame(h:ArrN w sz v n xs)(hf:∀b,H5 v=some b->w'.heap[b]?=w.heap[b]?):ArrN w' sz v n xs:=by
 obtain⟨hl,a,cap,hv,aZ,hc⟩:=h;refine⟨hl,a,cap,hv,aZ,?_⟩;by_cases h0:cap=0
 ·exact .inl h0
 obtain⟨b,c,e,fz,ha,hb,h1,h2,h3⟩:=hc.resolve_left h0;exact .inr ⟨b,c,e,fz,ha,by rw[hf b (by rw[hv,ha];exact A0D h0)];exact hb,h1,h2,h3⟩
theorem ArrN.lt(h:ArrN w sz v n xs){b:Nat}(hs:H5 v=some b):b<w.heap.size:=by
 obtain⟨hl,a,cap,hv,aZ,hc⟩:=h;by_cases h0:cap=0
 ·rw[hv,h0]at hs;cases a<;>simp[H5]at hs
 obtain⟨b',c,e,fz,ha,hb,_⟩:=hc.resolve_left h0;rw[hv,ha,A0D h0]at hs;cases hs;exact(Dc.1 hb).1
theorem KM.arr(k:KM w m w' m' S)(h:ArrN w sz v n xs)(hS:∀b,H5 v=some b->¬S b):ArrN w' sz v n xs:=
 h.frame λb hb=>(k.heap b (h.lt hb) (hS b hb)).1
theorem KM.mark(k:KM w m w' m' S){b:Nat}(hb:b<w.heap.size)(hs:¬S b):m' b=m b:=(k.heap b hb hs).2
theorem ArrN.len(h:ArrN w sz v n xs):∃a cap,v=.slice a n cap:=by
 obtain⟨_,a,cap,hv,_⟩:=h;exact⟨a,cap,hv⟩
theorem ArrN.nil:ArrN w sz (.slice none 0 0) 0 []:=⟨by simp,none,0,rfl,Be _,.inl rfl⟩
theorem ArrN.at(h:ArrN w sz v n xs){j:Nat}{x:Value}(hj:xs[j]?=some x):∃b cap,v=.slice (some ⟨b,0,none⟩) n cap/\cap≠0/\H5 v=some b/\
  w.cell? ⟨b,j,none⟩=some x/\w.frozen? ⟨b,j,none⟩=false:=by
 have bA:=(Gz.1 hj).1;obtain⟨hl,a,cap,hv,aZ,hc⟩:=h;have h0:cap≠0:=by
  intro h0;have:n=0:=by omega
  rw[hl,this]at bA;simp at bA
 obtain⟨b,c,e,fz,ha,hb,h1,h2,h3⟩:=hc.resolve_left h0;refine⟨b,cap,by rw[hv,ha],h0,by rw[hv,ha];exact A0D h0,?_,?_⟩
 ·simp[Dg,hb,h3 j x hj]
 ·have ap:j<cap*sz:=Fg (by rw[<-hl];exact bA) (Co _ aZ);simp only[World.frozen?,hb];simp;omega
theorem ArrN.blk(h:ArrN w sz v n xs)(hn:0<n):∃b cap,v=.slice (some ⟨b,0,none⟩) n cap/\cap≠0/\H5 v=some b/\n<=cap/\∀(j:Nat) x,xs[j]?=some x->w.cell? ⟨b,j,none⟩=some x/\w.frozen? ⟨b,j,none⟩=false:=by
 obtain⟨hl,a,cap,hv,aZ,hc⟩:=id h;have h0:cap≠0:=by omega
 obtain⟨b,c,e,fz,ha,hb,h1,h2,h3⟩:=hc.resolve_left h0;refine⟨b,cap,by rw[hv,ha],h0,by rw[hv,ha];exact A0D h0,aZ,λj x hj=>?_⟩;obtain⟨b',eZ,da,_,_,h4,h5⟩:=h.at hj;rw[hv,ha]at da;cases da;exact⟨h4,h5⟩
theorem ArrN.first(P:Bf)(h:ArrN w sz v n xs):∀w':World,w'.heap=w.heap->(Dn sz n v).run P w'=.ok xs.toArray w':=by
 intro w' dL;obtain⟨hl,a,cap,rfl,aZ,hc⟩:=h;by_cases h0:cap=0
 ·have h1:n=0:=by omega
  subst h1;have h2:xs=[]:=Fq (by simpa using hl);subst h2;cases a<;>simp[Dn,Fb,loadCellsFrom]
 obtain⟨b,c,e,fz,rfl,hb,h1,h2,h3⟩:=hc.resolve_left h0;refine Gg w' sz n ⟨b,0,none⟩ n cap xs hl (λj u hu=>?_);rw[Cg];simp[Dg,dL,hb,h3 j u hu]
theorem ArrN.set(h:ArrN w sz v n xs){j b cap:Nat}(hj:j<n*sz)(hv:v=.slice (some ⟨b,0,none⟩) n cap)(x:Value):ArrN (w.setCell ⟨b,j,none⟩ x) sz v n (xs.set j x):=by
 obtain⟨hl,a,eZ,da,aZ,hc⟩:=h;rw[hv]at da;have h4:=da;simp only[Gl]at h4;obtain⟨nK,_,rfl⟩:=h4;have h0:cap≠0:=by
  intro h0;have:n=0:=by omega
  rw[this]at hj;simp at hj
 obtain⟨b',c,e,fz,ha,hb,h1,h2,h3⟩:=hc.resolve_left h0;rw[ha]at nK;cases nK;refine⟨by rw[List.length_set];exact hl,_,cap,hv,aZ,.inr ⟨b,_,e,fz,rfl,A9y w b j x c e fz hb,by simpa using h1,h2,λi y hi=>?_⟩⟩;rw[Hl];rw[List.getElem?_set]at hi;by_cases cn:j=i
 ·subst cn;rw[Au rfl,Au (by omega)]at hi;have ap:j<cap*sz:=Fg hj (Co _ aZ);rw[Au rfl,Au (by omega)];exact hi
 ·rw[At cn]at hi;rw[At cn];exact h3 i y hi
theorem C5s(w:World)(m:Nat->Nat){b off:Nat}(x:Value)(hm:m b=0)(hz:∀b,w.heap.size<=b->m b=0):KM w m (w.setCell ⟨b,off,none⟩ x) m (λk=>k=b):=by
 refine⟨rfl,rfl,rfl,by simp[Gj],λk _ hk=>⟨A7C w b off k x hk,rfl⟩,⟨?_,λk o ho=>?_,λ_=>Be _⟩,λk hk=>hz k (by simpa [Gj]using hk)⟩
 ·intro k c e fz h;by_cases hk:k=b
  ·subst hk;exact⟨_,fz,A9y w k off x c e fz h⟩
  ·exact⟨c,fz,by rw[A7C w b off k x hk];exact h⟩
 ·have hk:k≠b:=λe=>by rw[e,hm]at ho;omega
  exact Cx (a:=⟨k,o,none⟩) (A7C w b off k x hk)
theorem A0I(w:World)(m:Nat->Nat)(o:Obj)(hz:∀b,w.heap.size<=b->m b=0):KM w m (w.alloc o) m (λ_=>False):=by
 have hh:∀b,b<w.heap.size->(w.alloc o).heap[b]?=w.heap[b]? :=λb hb=>by
  show(w.heap.push o)[b]?=_;rw[Dy,At (by omega)]
 have ao:(w.alloc o).heap.size=w.heap.size+1:=by show(w.heap.push o).size=_;rw[Hk]
 refine⟨rfl,rfl,rfl,by omega,λb hb _=>⟨hh b hb,rfl⟩,⟨A0Y rfl,λk o' ho=>Cx (a:=⟨k,o',none⟩) (hh k ?_),λ_=>Be _⟩,λk hk=>hz k (by omega)⟩;rcases Da k w.heap.size with h|h
 ·exact h
 ·rw[hz k h]at ho;omega
theorem C6f(w:World)(m:Nat->Nat)(o:Obj)(hz:∀b,w.heap.size<=b->m b=0):KM w m (w.drew.alloc o) m (λ_=>False):=by
 have hh:∀b,b<w.heap.size->(w.drew.alloc o).heap[b]?=w.heap[b]? :=λb hb=>by
  show(w.heap.push o)[b]?=_;rw[Dy,At (by omega)]
 have ao:(w.drew.alloc o).heap.size=w.heap.size+1:=by show(w.heap.push o).size=_;rw[Hk]
 refine⟨rfl,rfl,rfl,by omega,λb hb _=>⟨hh b hb,rfl⟩,⟨A0Y rfl,λk o' ho=>Cx (a:=⟨k,o',none⟩) (hh k ?_),λ_=>Be _⟩,λk hk=>hz k (by omega)⟩;rcases Da k w.heap.size with h|h
 ·exact h
 ·rw[hz k h]at ho;omega
theorem A3X{w1:World}{c:Array Value}{e:Ay}{cap:Nat}(hl:xs.length=n*sz)(hw:w1.heap=w.heap.push (.cells c e))(aZ:n<=cap)(ct:cap*sz<=c.size)(hx:∀(j:Nat) x,xs[j]?=some x->c[j]?=some x):
  ArrN w1 sz (.slice (some ⟨w.heap.size,0,none⟩) n cap) n xs:=
 ⟨hl,_,cap,rfl,aZ,.inr ⟨w.heap.size,c,e,(0,0),rfl,by rw[hw];simp,ct,rfl,hx⟩⟩
theorem ArrN.cut{a:Option Addr}{cap:Nat}(h:ArrN w sz (.slice a n cap) n xs){k:Nat}(hk:k<=n):ArrN w sz (.slice a k cap) k (xs.take (k*sz)):=by
 obtain⟨hl,a',eZ,hv,aZ,hc⟩:=h;cases hv;have:k*sz<=n*sz:=Co _ hk;refine⟨by rw[List.length_take];omega,a,cap,rfl,by omega,?_⟩;rcases hc with h0|⟨b,c,e,fz,ha,hb,h1,h2,h3⟩
 ·exact .inl h0
 ·refine .inr ⟨b,c,e,fz,ha,hb,h1,h2,λj x hj=>h3 j x ?_⟩;rw[Cq]at hj;split at hj
  ·exact hj
  ·cases hj
theorem A9O{P:Bf}{t u ty e:Ay}(ht:P.underlying t=some (.slice e))(hu:B0G P u){i:TypeInfo}{z:Value}(hi:P.info? e=some i)(ao:i.size=sz)(hz:i.zero=some z)(dG:z.cells.size=sz)
  {y:Value}{k:Nat}{ys:Ai}(h:ArrN w sz v n xs)(aj:(Builtin.lenOf y).run P w=.ok k w)(tv:∀w':World,w'.heap=w.heap->(Dn sz k y).run P w'=.ok ys.toArray w')(gH:ys.length=k*sz)
  (aW:∀x∈ys,x.oneCell'=true)(hm:∀b,H5 v=some b->m b=0)(mA:∀b,w.heap.size<=b->m b=0)(be:(n+k)*i.bytes<=140737488355328)(js:0<i.bytes):
  ∃v' w',(Fy #[t,u] ty #[v,y]).run P w=.ok v' w'/\ArrN w' sz v' (n+k) (xs++ys)/\KM w m w' m (λb=>H5 v=some b)/\(∀b,H5 v'=some b->H5 v=some b\/w.heap.size<=b):=by
 have xA:=h.first P;have h0:=h;obtain⟨hl,a0,cap,rfl,aZ,hc⟩:=h;have hY:n+k<=140737488355328:=Ci (Fh _ js) be;have fV:(xs++ys).length=(n+k)*sz:=by rw[Gx,hl,gH,Cp]
 by_cases fW:cap<n+k
 ·have af:=A9N (P:=P) w t u ty e i z ht hu hi hz a0 n cap xs (by rw[ao];exact xA) y k ys aj (by rw[ao];exact tv) fW (by omega) be;have aT:n+k<=Ca w (n+k) cap e:=Fc _ _ _ _;have hk:=C6f w m (.cells (xs.toArray++ys.toArray++Dw z.cells (Ca w (n+k) cap e - (n+k))) e) mA;refine⟨_,_,af,?_,hk.mono λ_ _ h=>h.elim,λb hb=>?_⟩
  ·refine A3X (w:=w) fV rfl aT ?_ (λj x hj=>?_)
   ·simp only[Gc,Fj,Fa,dG,hl,gH, <-Cp];exact Co _ (by omega)
   ·have ap:=(Gz.1 hj).1;rw[Dd (by simpa using ap)];simpa using hj
  ·right
   by_cases vR:Ca w (n+k) cap e=0
   ·rw[vR]at hb;simp[H5]at hb
   ·rw[A0D vR]at hb;cases hb;exact Be _
 ·by_cases fh:cap=0
  ·have fy:n=0:=by omega
   have jf:k=0:=by omega
   subst fy;subst jf;have xB:ys=[]:=Fq (by simpa using gH);subst xB;have af:=A7I (P:=P) w t u ty e i ht hu hi a0 0 cap y 0 [] aj (by rw[ao];simpa using tv w rfl) w (λa1 _=>by simp[Eb]) (λ_=>rfl) (by simp);refine⟨_,_,af,by rw[List.append_nil];exact h0,KM.refl _ _ _ mA,λb hb=>.inl ?_⟩;rw[fh]at hb;cases a0<;>simp[H5]at hb
  obtain⟨b,c,e',fz,rfl,hb,h1,h2,h3⟩:=hc.resolve_left fh;have dO:(n+k)*sz<=cap*sz:=Co _ (by omega);rw[Cp]at dO;obtain⟨s1,⟨c',s2,s3,s4,s5⟩,s6,s7,s8,s9,ju⟩:=A5i P b e' fz ys (n*sz) w c hb (by omega) (λj h5 h6=>by omega) aW;have af:=A7I (P:=P) w t u ty e i ht hu hi (some ⟨b,0,none⟩) n cap y k ys aj (by rw[ao];exact tv w rfl) (I5 w b (n*sz) ys)
   (λa1 l8=>by
    cases l8;rw[Cg,ao,Bj];exact s1 ⟨b,n*sz,none⟩ 0 (by simp) (Cc _)) (λe=>by cases e) (by omega)
  have jq:m b=0:=hm b (A0D fh);refine⟨_,_,af,⟨fV,_,cap,rfl,by omega,.inr ⟨b,c',e',fz,rfl,s2,by rw[s3];exact h1,h2,λj x hj=>?_⟩⟩,
   ⟨s8,s9,ju,by rw[s6];exact Be _,λk' _ hk=>⟨s7 k' (λe=>hk (by rw[e];exact A0D fh)),rfl⟩,⟨A67 hb s2 s7,λk' o ho=>?_,λ_=>Be _⟩,λk' gM=>mA k' (by rw[s6]at gM;exact gM)⟩,λb' aY=>.inl ?_⟩
  ·by_cases bA:j<n*sz
   ·rw[Fp (by omega)]at hj;rw[s4 j (.inl bA)];exact h3 j x hj
   ·rw[Fo (by omega)]at hj;have:=s5 _ x hj;rw[show n*sz+(j - xs.length)=j by omega]at this;exact this
  ·have gM:k'≠b:=λe=>by rw[e,jq]at ho;omega
   exact Cx (a:=⟨k',o,none⟩) (s7 k' gM)
  ·rw[<-aY];exact B5A
theorem B5m{U:UO Ty den}(hU:U.Ok){t:Ty}{l:List (den t)}(h:ArrN w (U.size t) v n xs)(hn:l.length=n)(hx:∀(j:Nat)(lf:Leaf Ty den),(flat U t l)[j]?=some lf->∃u:Value,xs[j]?=some u/\CRep U w m lf u)(hm:∀b,H5 v=some b->m b=0)(mA:∀b,w.heap.size<=b->m b=0):
  ∃m',CRep U w m' (.sl t l none) v/\KM w m w m' (λb=>H5 v=some b):=by
 subst hn;obtain⟨hl,a,cap,hv,aZ,hc⟩:=id h;by_cases h0:l=[]
 ·subst h0;exact⟨m,by rw[hv];exact .nil _ _ _ _,KM.refl _ _ _ mA⟩
 have hp:=List.length_pos_iff.2 h0;obtain⟨b,eZ,da,fh,hb,_,aJ⟩:=h.blk hp;have ap:=h.lt hb;have jq:=hm b hb;have du:Ext w m w (C7 m b (l.length*U.size t)):=by
  refine⟨λ_ c _ fz h=>⟨c,fz,h⟩,λ_ _ _=>rfl,λk=>?_⟩;unfold C7;by_cases hk:k=b
  ·rw[hk,jq];exact Cc _
  ·rw[At hk];exact Be _
 refine⟨C7 m b (l.length*U.size t),?_,⟨rfl,rfl,rfl,Be _,λk hk av=>⟨rfl,?_⟩,du,λk hk=>?_⟩⟩
 ·have dY:l.length<=eZ:=by
   rw[hv]at da;cases da;exact aZ
  rw[da];refine .sl t l none b 0 eZ (λj=>xs.getD j undef) dY (by rw[Bj];simp[C7]) (λj lf hj=>?_) (λj lf hj=>?_)
  ·obtain⟨u,hu,_⟩:=hx j lf hj;rw[Ck,hu,Bj];exact(aJ j u hu).1
  ·obtain⟨u,hu,hr⟩:=hx j lf hj;rw[Ck,hu];exact hr.mono hU du
 ·unfold C7;rw[At λe=>av (by rw[e];exact hb)]
 ·unfold C7;rw[At (by omega)];exact mA k hk
end
end Go.Aev
end
section
open Go.Lib
namespace Go.Aev
def X1:List (Nat×Value)->Nat->Option Value
 |[],_=>none
 |(j,v)::r,i=>bif Ba j i then some v else X1 r i
def evV(fr:List (Nat×Value)):Az->Option Value
 | .tmp t=>X1 fr t
 | .const v=>some v
 |_=>none
structure Tm(a:Act)(n:Nat)(fr:List (Nat×Value)):Prop where
 size:a.tmps.size=n
 dfr:a.defers=[]
 get:∀i v,X1 fr i=some v->a.tmps.getD i undef=v
def B6i(fr:List (Nat×Value)):List (Nat×Value)->Prop
 |[]=>True
 |p::r=>X1 fr p.1=some p.2/\B6i fr r
def R4(P:Bf)(t:Ay):Option (Nat×Nat×Option Ai):=(P.info? t).map λi=>(i.size,i.bytes,i.zero.map λz=>z.cells.toList)
def A5c(P:Bf)(t:Ay):Bool:=match P.underlying t with
 |some (.int _)=>true
 |some .bool=>true
 |some .string=>true
 |some (.slice _)=>true
 |_=>false
def A5R(P:Bf)(t:Ay):Bool:=match P.underlying t with
 |some (.struct _)=>true
 |_=>false
def A4M(P:Bf)(t:Ay)(i:Nat):Option (Nat×Nat):=match P.underlying t with
 |some (.struct fs)=>(fs[i]?).bind λf=>(P.info? f.type).map λj=>(f.offset,j.size)
 |_=>none
theorem D5D{P:Bf}{t:Ay}(h:A5c P t=true)(w:World):(isAgg t).run P w=.ok false w:=by
 unfold A5c at h;split at h<;>first
  |(rename_i h1;simp[isAgg,Cl h1];done)
  |cases h
theorem C99{P:Bf}{t:Ay}(h:A5R P t=true)(w:World):(isAgg t).run P w=.ok true w:=by
 unfold A5R at h;split at h
 ·rename_i fs h1;simp[isAgg,Cl h1]
 ·cases h
theorem A08{P:Bf}{t:Ay}{sz fu:Nat}{zc:Ai}(h:R4 P t=some (sz,fu,some zc)):∃i z,P.info? t=some i/\i.size=sz/\i.bytes=fu/\i.zero=some z/\z.cells=zc.toArray:=by
 unfold R4 at h;obtain⟨i,h1,h2⟩:=Dp.1 h;simp only[Bo]at h2;obtain⟨h3,h4,h5⟩:=h2;obtain⟨z,h6,h7⟩:=Dp.1 h5;exact⟨i,z,h1,h3,h4,h6,by rw[<-h7]⟩
section
variable {P:Bf}{a:Act}{n:Nat}{fr tx:List (Nat×Value)}{w w':World}{o:Oper}{K:Act->World->Prop}{Q:Exit->Act->World->Prop}
theorem Tm.sub(tm:Tm a n fr)(h:B6i fr tx):Tm a n tx:=by
 refine⟨tm.size,tm.dfr,λi v hv=>tm.get i v ?_⟩
 induction tx with
 |nil=>cases hv
 |cons p r ih=>
  obtain⟨h1,h2⟩:=h;unfold X1 at hv;cases hb:Ba p.1 i with
  |true=>
   rw[hb]at hv;have:=(F6 _ _).1 hb;simp only[Ap,Bi]at hv;rw[<-this, <-hv];exact h1
  |false=>rw[hb]at hv;exact ih h2 hv
theorem Tm.ev(tm:Tm a n fr){x:Az}{v:Value}(h:evV fr x=some v):a.eval x=v:=by
 cases x with
 |tmp t=>exact tm.get t v h
 |const c=>simp only[evV,Bi]at h;exact h
 |global g=>cases h
 |func f=>cases h
theorem Tm.put(tm:Tm a n fr){d:Nat}{v:Value}(hd:Bu d n=true):Tm (a.put (some d) v) n ((d,v)::fr):=by
 have dM:d<n:=by simpa [Bh]using hd
 refine⟨by rw[Z6];exact tm.size,by rw[B2F];exact tm.dfr,λi u hu=>?_⟩;have ap:d<a.tmps.size:=by rw[tm.size];exact dM
 have hg:(a.put (some d) v).tmps.getD i undef=if d=i then v else a.tmps.getD i undef:=B0Q a d i v ap
 rw[hg];unfold X1 at hu;cases hb:Ba d i with
 |true=>
  rw[hb]at hu;simp only[Ap,Bi]at hu;rw[Au ((F6 _ _).1 hb),hu]
 |false=>
  rw[hb]at hu;rw[At λe=>by rw[(F6 _ _).2 e]at hb;cases hb];exact tm.get i u hu
theorem Tm.none(tm:Tm a n fr){v:Value}:Tm (a.put none v) n fr:=tm
theorem A5d(tm:Tm a n fr){d:Nat}{v:Value}(aO:o.dst=some d)(hd:Bu d n=true)(af:(Ax a.eval o).run P w=.ok (.value v) w')(hk:∀a',Tm a' n ((d,v)::fr)->K a' w'):o.wp P a w K Q:=by
 refine N4 af ?_;rw[aO];exact hk _ (tm.put hd)
theorem A2u(tm:Tm a n fr){x:Az}{v:Value}(ag:o.op=.move x:=by rfl)(hx:evV fr x=some v:=by rfl):(Ax a.eval o).run P w=.ok (.value v) w:=by simp[Ax,ag,tm.ev hx]
theorem B01(tm:Tm a n fr){x:Az}{v:Value}(ag:o.op=.assign x:=by rfl)(hx:evV fr x=some v:=by rfl):(Ax a.eval o).run P w=.ok (.value v) w:=by simp[Ax,ag,tm.ev hx]
theorem C0L(tm:Tm a n fr){x:Az}{i:Nat}{v u:Value}{vs:Ai}(ag:o.op=.extract x i:=by rfl)(hx:evV fr x=some u:=by rfl)(hu:u=.tuple vs.toArray:=by rfl)(hi:vs[i]?=some v:=by rfl):(Ax a.eval o).run P w=.ok (.value v) w:=by
 subst hu;have h1:vs.toArray[i]?=some v:=by simpa using hi
 simp[Ax,ag,tm.ev hx,Hh,hi]
theorem A1f(tm:Tm a n fr){x:Az}{c:Call}{p:Option Addr}{l cp:Nat}{t e:Ay}(ht:P.underlying t=some (.slice e))(ag:o.op=.call c:=by rfl)(aq:c.callee=.builtin .len:=by rfl)(au:c.args= #[x]:=by rfl)(fc:c.argTypes= #[t]:=by rfl){vx:Value}(hx:evV fr x=some vx:=by rfl)(hv:vx=.slice p l cp:=by rfl):
  (Ax a.eval o).run P w=.ok (.value (.int .i64 l)) w:=by
 simp[Ax,ag,Cm,aq,au,fc,tm.ev hx,hv,invoke,builtin,Fx,Cl ht,goInt]
theorem A61(tm:Tm a n fr){op:BinOp}{t yt:Ay}{x y:Az}{k0:Db}{i j:Int}{v:Value}(ag:o.op=.binOp op t x y yt)(hx:evV fr x=some (.int k0 i))(hy:evV fr y=some (.int k0 j))
  (hv:(binOp op t (.int k0 i) (.int k0 j)).run P w=.ok v w):(Ax a.eval o).run P w=.ok (.value v) w:=by
 simp[Ax,ag,tm.ev hx,tm.ev hy,eqGuard_at_int,hv]
theorem C2L(tm:Tm a n fr){t yt:Ay}{x y:Az}{k0:Db}{i j:Int}(ag:o.op=.binOp .lss t x y yt:=by rfl)(hx:evV fr x=some (.int k0 i):=by rfl)(hy:evV fr y=some (.int k0 j):=by rfl):(Ax a.eval o).run P w=.ok (.value (.bool (decide (i<j)))) w:=
 A61 tm ag hx hy (by simp[binOp,Ef])
theorem B2x(tm:Tm a n fr){t yt:Ay}{x y:Az}{k0:Db}{i j:Int}(ag:o.op=.binOp .gtr t x y yt:=by rfl)(hx:evV fr x=some (.int k0 i):=by rfl)(hy:evV fr y=some (.int k0 j):=by rfl):(Ax a.eval o).run P w=.ok (.value (.bool (decide (j<i)))) w:=
 A61 tm ag hx hy (by simp[binOp,Ef])
theorem B67(tm:Tm a n fr){t yt:Ay}{x y:Az}{k0:Db}{i j:Int}(ag:o.op=.binOp .geq t x y yt:=by rfl)(hx:evV fr x=some (.int k0 i):=by rfl)(hy:evV fr y=some (.int k0 j):=by rfl):(Ax a.eval o).run P w=.ok (.value (.bool (decide (j<=i)))) w:=
 A61 tm ag hx hy (by simp[binOp,Ef])
theorem D3v(tm:Tm a n fr){t yt:Ay}{x y:Az}{k0:Db}{i j:Int}(ag:o.op=.binOp .eql t x y yt:=by rfl)(hx:evV fr x=some (.int k0 i):=by rfl)(hy:evV fr y=some (.int k0 j):=by rfl):(Ax a.eval o).run P w=.ok (.value (.bool (i==j))) w:=
 A61 tm ag hx hy (by simp[binOp,Ef])
theorem A6D(tm:Tm a n fr){t yt:Ay}{x y:Az}{i j:Ab}(ag:o.op=.binOp .eql t x y yt)(hx:evV fr x=some (.string ⟨i.toArray⟩))(hy:evV fr y=some (.string ⟨j.toArray⟩)):(Ax a.eval o).run P w=.ok (.value (.bool (i==j))) w:=by
 have h:(binOp .eql t (.string ⟨i.toArray⟩) (.string ⟨j.toArray⟩)).run P w=.ok (.bool (i==j)) w:=by simp[binOp,Op.stringOp]
 simp[Ax,ag,tm.ev hx,tm.ev hy,Gi,h]
theorem C8e(tm:Tm a n fr){t yt:Ay}{x y:Az}{i j:Ab}(ag:o.op=.binOp .neq t x y yt)(hx:evV fr x=some (.string ⟨i.toArray⟩))(hy:evV fr y=some (.string ⟨j.toArray⟩)):(Ax a.eval o).run P w=.ok (.value (.bool (!(i==j)))) w:=by
 have h:(binOp .neq t (.string ⟨i.toArray⟩) (.string ⟨j.toArray⟩)).run P w=.ok (.bool (!(i==j))) w:=by simp[binOp,Op.stringOp,bne]
 simp[Ax,ag,tm.ev hx,tm.ev hy,Gi,h]
theorem A3w(tm:Tm a n fr){t yt:Ay}{x y:Az}{k0:Db}{i j:Int}(ag:o.op=.binOp .add t x y yt:=by rfl)(hx:evV fr x=some (.int k0 i):=by rfl)(hy:evV fr y=some (.int k0 j):=by rfl):(Ax a.eval o).run P w=.ok (.value (.int k0 (k0.wrap (i+j)))) w:=
 A61 tm ag hx hy (by simp[binOp,Op.intArith])
theorem A2b(tm:Tm a n fr){t yt:Ay}{x y:Az}{k0:Db}{i j:Int}(ag:o.op=.binOp .sub t x y yt:=by rfl)(hx:evV fr x=some (.int k0 i):=by rfl)(hy:evV fr y=some (.int k0 j):=by rfl):(Ax a.eval o).run P w=.ok (.value (.int k0 (k0.wrap (i - j)))) w:=
 A61 tm ag hx hy (by simp[binOp,Op.intArith])
theorem B1d(tm:Tm a n fr){t:Ay}{x:Az}{b:Bool}(ag:o.op=.unOp .not t x:=by rfl)(hx:evV fr x=some (.bool b):=by rfl):(Ax a.eval o).run P w=.ok (.value (.bool (!b))) w:=by simp[Ax,ag,tm.ev hx,Op.unary]
theorem D7h(tm:Tm a n fr){c x y:Az}{v:Value}(ag:o.op=.pick c x y:=by rfl)(hc:evV fr c=some (.bool true):=by rfl)(hx:evV fr x=some v:=by rfl):(Ax a.eval o).run P w=.ok (.value v) w:=by simp[Ax,ag,tm.ev hc,tm.ev hx,asBool]
theorem C9R(tm:Tm a n fr){c x y:Az}{v:Value}(ag:o.op=.pick c x y:=by rfl)(hc:evV fr c=some (.bool false):=by rfl)(hy:evV fr y=some v:=by rfl):(Ax a.eval o).run P w=.ok (.value v) w:=by simp[Ax,ag,tm.ev hc,tm.ev hy,asBool]
theorem A11(tm:Tm a n fr){t e:Ay}{x i:Az}{b off l cp sz fu:Nat}{zc:Ai}{j:Int}{m:Nat}(ht:P.underlying t=some (.slice e))(bJ:R4 P e=some (sz,fu,some zc))(ag:o.op=.indexAddr t x i)
  {vx:Value}(hx:evV fr x=some vx)(hv:vx=.slice (some ⟨b,off,none⟩) l cp)(hi:evV fr i=some (.int .i64 j))(hj:j=(m:Int))(hm:m<l):(Ax a.eval o).run P w=.ok (.value (.pointer (some ⟨b,off+m*sz,none⟩))) w:=by
 subst hj;obtain⟨ie,z,bJ,ao,_⟩:=A08 bJ;have cB:(Do b off none).add (m*sz)=⟨b,off+m*sz,none⟩:=by rw[Cg]
 have h0:(0:Int)<=(m:Int):=by omega
 have h1:(m:Int)<(l:Int):=by omega
 simp[Ax,ag,tm.ev hx,hv,tm.ev hi,Hg,asIntOf,Cl ht,h0,h1,Bz,Cd,bJ,ao,h1,hm,Nat.not_le.2 hm];rw[<-cB]
theorem A0w(tm:Tm a n fr){t:Ay}{x:Az}{ad:Addr}{v:Value}(fT:A5c P t=true)(ag:o.op=.load t x)(hx:evV fr x=some (.pointer (some ad)))(hc:w.cell? ad=some v):(Ax a.eval o).run P w=.ok (.value v) w:=by
 have:=D5D fT;simp[Ax,ag,tm.ev hx,Fv,Dk,Ed,this,hc]
theorem B6G{t:Ay}{b off sz fu:Nat}{zc us:Ai}(fT:A5R P t=true)(bJ:R4 P t=some (sz,fu,some zc))(hl:us.length=sz)(hc:∀(j:Nat) u,us[j]?=some u->w.cell? ⟨b,off+j,none⟩=some u):
  (Ed t ⟨b,off,none⟩).run P w=.ok (.agg us.toArray) w:=by
 have:=C99 fT;obtain⟨ie,z,bJ,ao,_⟩:=A08 bJ;have cK:(Fb ⟨b,off,none⟩ sz).run P w=.ok us.toArray w:=by
  have h1:=run_loadCells (P:=P) w ⟨b,off,none⟩ sz (λj=>us.getD j undef) λj hj=>by
   rw[Cg];have h2:us[j]?=some (us[j]'(by omega)):=Bl (by omega);rw[hc j _ h2,Ck,h2];rfl
  have h3:(Dj sz).map (λj=>us.getD j undef)=us:=by
   apply Hb;intro j;rw[Cj];by_cases hj:j<sz
   ·rw[En hj,Ee,Ck,Bl (by omega)];rfl
   ·rw[Du (by simp;omega),Du (by omega)];rfl
  rw[h3]at h1;exact h1
 simp[Ed,this,Bz,Cd,bJ,ao,cK]
theorem A1E(tm:Tm a n fr){t:Ay}{x:Az}{b off sz fu:Nat}{zc us:Ai}(fT:A5R P t=true)(bJ:R4 P t=some (sz,fu,some zc))(ag:o.op=.load t x)(hx:evV fr x=some (.pointer (some ⟨b,off,none⟩)))
  (hl:us.length=sz)(hc:∀(j:Nat) u,us[j]?=some u->w.cell? ⟨b,off+j,none⟩=some u):(Ax a.eval o).run P w=.ok (.value (.agg us.toArray)) w:=by
 have:=B6G (P:=P) fT bJ hl hc;simp[Ax,ag,tm.ev hx,Fv,Dk,this]
theorem Y1(tm:Tm a n fr){t:Ay}{x:Az}{i b off o' m:Nat}(hf:A4M P t i=some (o',m+1))(ag:o.op=.fieldAddr t x i:=by rfl)(hx:evV fr x=some (.pointer (some ⟨b,off,none⟩)):=by rfl):(Ax a.eval o).run P w=.ok (.value (.pointer (some ⟨b,off+o',none⟩))) w:=by
 unfold A4M at hf;split at hf
 ·rename_i fs h1;obtain⟨f,h2,h3⟩:=Option.bind_eq_some_iff.1 hf;obtain⟨wP,h4,h5⟩:=Dp.1 h3;simp only[Bo]at h5;have cB:(Do b off none).add o'=⟨b,off+o',none⟩:=Cg _ _ _;have ao:(Bz f.type).run P w=.ok (m+1) w:=by simp[Bz,Cd,h4,h5.2]
  simp[Ax,ag,tm.ev hx,Instr.fieldAt,Cl h1,h2,Dk,fieldPlace,ao,h5.1,cB]
 ·cases hf
theorem B9H(tm:Tm a n fr){t e:Ay}{x hi:Az}{b l cp sz fu:Nat}{zc:Ai}{k:Nat}{j:Int}(ht:P.underlying t=some (.slice e))(bJ:R4 P e=some (sz,fu,some zc))(ag:o.op=.slice t x none (some hi) none)
  {vx:Value}(hx:evV fr x=some vx)(hv:vx=.slice (some ⟨b,0,none⟩) l cp)(hh:evV fr hi=some (.int .i64 j))(hj:j=(k:Int))(hk:k<=l)(hl:l<=cp):(Ax a.eval o).run P w=.ok (.value (.slice (some ⟨b,0,none⟩) k cp)) w:=by
 subst hj;obtain⟨ie,z,bJ,ao,_⟩:=A08 bJ;have hb:=B2i P w true l cp hl none (some (.int .i64 (k:Int))) none 0 k cp (.inl ⟨rfl,rfl⟩) (.inr ⟨.i64,rfl⟩) (.inl ⟨rfl,rfl⟩) (Cc _) (by omega) (Be _);have cB:(Do b 0 none).add 0=⟨b,0,none⟩:=by rw[Cg]
 simp[Ax,ag,tm.ev hx,hv,tm.ev hh,He,Hf,Cl ht,hb,Bz,Cd,bJ,ao,cB]
theorem A8a(tm:Tm a n fr){t:Ay}{ps:Array (Nat×Az)}{cs:Array Value}(ag:o.op=.build t ps){qs:List (Nat×Value)}(hq:(ps.map λ(i,x)=>(i,a.eval x)).toList=qs)(hb:P.built t qs=some cs):(Ax a.eval o).run P w=.ok (.value (.agg cs)) w:=by
 rw[<-hq]at hb;simp[Ax,ag,run_build w t _ _ hb]
theorem C3X(tm:Tm a n fr){t:Ay}{i:Nat}{x:Az}{v:Value}{ps:Array (Nat×Az)}{cs:Array Value}(ag:o.op=.build t ps)(fa:ps= #[(i,x)])(hx:evV fr x=some v)(hb:P.built t [(i,v)]=some cs):(Ax a.eval o).run P w=.ok (.value (.agg cs)) w:=
 A8a tm ag (qs:=[(i,v)]) (by rw[fa];simp[tm.ev hx]) hb
theorem D3g(tm:Tm a n fr){t:Ay}{i j:Nat}{x y:Az}{v u:Value}{ps:Array (Nat×Az)}{cs:Array Value}(ag:o.op=.build t ps)(fa:ps= #[(i,x),(j,y)])(hx:evV fr x=some v)(hy:evV fr y=some u)(hb:P.built t [(i,v),(j,u)]=some cs):(Ax a.eval o).run P w=.ok (.value (.agg cs)) w:=
 A8a tm ag (qs:=[(i,v),(j,u)]) (by rw[fa];simp[tm.ev hx,tm.ev hy]) hb
theorem A75(tm:Tm a n fr){d:Nat}{t:Ay}{sz fu:Nat}{zc:Ai}(bJ:R4 P t=some (sz,fu,some zc))(aO:o.dst=some d)(ag:o.op=.alloc t)(hd:Bu d n=true)(hk:∀a',Tm a' n ((d,.pointer (some ⟨w.heap.size,0,none⟩))::fr)->K a' (w.alloc (.cells zc.toArray t))):o.wp P a w K Q:=by
 obtain⟨ie,z,h1,h2,h3,h4,h5⟩:=A08 bJ;refine A5d tm aO hd ?_ hk;simp[Ax,ag,Hi,zeroValue,Cd,h1,h4,newVar,newRow,h5]
theorem A4Y(tm:Tm a n fr){d:Nat}{t e:Ay}{ps:Array (Nat×Az)}{x:Az}{sz fu:Nat}{zc us:Ai}{v:Value}(ht:P.underlying t=some (.slice e))(bJ:R4 P e=some (sz,fu,some zc))(aO:o.dst=some d)(ag:o.op=.buildSlice t 1 ps)(fa:ps= #[(0,x)])(hd:Bu d n=true)
  (hx:evV fr x=some v)(hv:v.cells=us.toArray)(hl:us.length=sz)(hz:zc.length=sz)(ao:0<sz)(pr:sz<65536)(hk:∀a',Tm a' n ((d,.slice (some ⟨w.heap.size,0,none⟩) 1 1)::fr)->K a' (w.alloc (.cells us.toArray e))):o.wp P a w K Q:=by
 obtain⟨ie,z,h1,h2,h3,h4,h5⟩:=A08 bJ;have af:(Instr.buildSlice t 1 #[(0,v)]).run P w=.ok (.slice (some ⟨w.heap.size,0,none⟩) 1 1) (w.alloc (.cells us.toArray e)):=by
  refine run_buildSlice w t e 1 _ _ ie z ht h1 h4 (by rw[h2];omega) (by rw[h2];omega) ?_;have h6:=Great.fill_whole ao [v] ((Array.range (1*ie.size)).map (z.cells[· % z.cells.size]!)) (λu hu=>by rcases Fk.1 hu with rfl;rw[hv];simpa using hl) (by simp[h2]);rw[h2]at h6 ⊢;simpa [hv]using h6
 refine A5d tm aO hd ?_ hk;simp[Ax,ag,fa,tm.ev hx,af]
theorem C17(tm:Tm a n fr){t:Ay}{x y:Az}{b off sz fu:Nat}{zc:Ai}{v u:Value}(bJ:R4 P t=some (1,fu,some zc))(aO:o.dst=none)(ag:o.op=.store t x y)
  (hx:evV fr x=some (.pointer (some ⟨b,off,none⟩)))(hy:evV fr y=some v)(hv:v.cells= #[v])(aW:v.oneCell'=true)(hc:w.cell? ⟨b,off,none⟩=some u)(hf:w.frozen? ⟨b,off,none⟩=false)(hk:K a (w.setCell ⟨b,off,none⟩ v)):o.wp P a w K Q:=by
 obtain⟨ie,z,h1,h2,h3,h4,h5⟩:=A08 bJ;have cO:=run_store P w ⟨b,off,none⟩ v .plain aW;simp only[hc,hf]at cO;have cB:(Do b off none).add 0=⟨b,off,none⟩:=by rw[Cg,Fi]
 have af:(Ax a.eval o).run P w=.ok .skip (w.setCell ⟨b,off,none⟩ v):=by
  have bW:(Bz t).run P w=.ok 1 w:=by simp[Bz,Cd,h1,h2]
  have ct:(Eb ⟨b,off,none⟩ [v]).run P w=.ok () (w.setCell ⟨b,off,none⟩ v):=by
   simp[Eb,cB,cO]
  simp[Ax,ag,tm.ev hx,tm.ev hy,Fu,Dk,storeVar,bW,hv,ct]
 unfold Cr;rw[af,Ff,aO];exact hk
theorem A8g(tm:Tm a n fr){t:Ay}{x y:Az}{b off sz fu:Nat}{zc us:Ai}{v:Value}(bJ:R4 P t=some (sz,fu,some zc))(aO:o.dst=none)(ag:o.op=.store t x y)
  (hx:evV fr x=some (.pointer (some ⟨b,off,none⟩)))(hy:evV fr y=some v)(hv:v.cells=us.toArray)(hl:us.length=sz)(cO:(Eb ⟨b,off,none⟩ us).run P w=.ok () w')(hk:K a w'):o.wp P a w K Q:=by
 obtain⟨ie,z,h1,h2,h3,h4,h5⟩:=A08 bJ;have af:(Ax a.eval o).run P w=.ok .skip w':=by
  have bW:(Bz t).run P w=.ok sz w:=by simp[Bz,Cd,h1,h2]
  simp[Ax,ag,tm.ev hx,tm.ev hy,Fu,Dk,storeVar,bW,hv,hl,cO]
 unfold Cr;rw[af,Ff,aO];exact hk
theorem B0Z(tm:Tm a n fr){d:Nat}{c:Call}{t u:Ay}{x y:Az}{vx vy v':Value}(aO:o.dst=some d)(ag:o.op=.call c)(aq:c.callee=.builtin .append)(au:c.args= #[x,y])(fc:c.argTypes= #[t,u])(hd:Bu d n=true)
  (hx:evV fr x=some vx)(hy:evV fr y=some vy)(af:(Fy #[t,u] o.type #[vx,vy]).run P w=.ok v' w')(hk:∀a',Tm a' n ((d,v')::fr)->K a' w'):o.wp P a w K Q:=
 A5d tm aO hd (by simp[Ax,ag,Cm,aq,au,fc,invoke,builtin,tm.ev hx,tm.ev hy,af]) hk
theorem A3T(tm:Tm a n fr){d:Nat}{c:Call}{f:Bp}{vs:Ai}{R:Ending->World->Prop}(aO:o.dst=some d)(ag:o.op=.call c)(aq:c.callee=.value (.func f))(aK:∀args w,(Bn f args).run P w=.ok (.enter f args) w)
  (hd:Bu d n=true)(au:c.args.toList.map a.eval=vs)(hc:Calls P f vs.toArray w R)(hk:∀e w',R e w'->∃v,e=.returned v/\∀a',Tm a' n ((d,v)::fr)->K a' w'):o.wp P a w K Q:=by
 have fk:(Ax a.eval o).run P w=.ok (.enter f (c.args.toList.map a.eval).toArray) w:=by
  simp[Ax,ag,Cm,aq,Ew,Ep,invoke,aK];apply Dz;simp
 unfold Cr;rw[fk,Dq,au];refine hc.mono λe w' dL=>?_;obtain⟨v,rfl,hv⟩:=hk e w' dL;rw[aO];exact hv _ (tm.put hd)
theorem B1G(tm:Tm a n fr){c:Call}{x:Az}{v:Value}(h:c.args= #[x])(hx:evV fr x=some v):c.args.toList.map a.eval=[v]:=by rw[h];simp[tm.ev hx]
theorem B4p(tm:Tm a n fr){c:Call}{x y:Az}{v u:Value}(h:c.args= #[x,y])(hx:evV fr x=some v)(hy:evV fr y=some u):c.args.toList.map a.eval=[v,u]:=by rw[h];simp[tm.ev hx,tm.ev hy]
theorem C9A(tm:Tm a n fr){c:Call}{x y z:Az}{v u t:Value}(h:c.args= #[x,y,z])(hx:evV fr x=some v)(hy:evV fr y=some u)(hz:evV fr z=some t):c.args.toList.map a.eval=[v,u,t]:=by rw[h];simp[tm.ev hx,tm.ev hy,tm.ev hz]
theorem C4W{ops:Array Oper}(tm:Tm a n fr){j g:Nat}{b:Bool}(hj:(ops[j]?).bind (·.dst)=some g)(hn:Bu g n=true)(hv:X1 fr g=some (.bool b)):Ch ops a.tmps j=some b:=by
 have ap:g<a.tmps.size:=by rw[tm.size];simpa [Bh]using hn
 have bh:=tm.get g _ hv;have aL:a.tmps[g]?=some (.bool b):=by
  rw[Bm,Bx ap]at bh;rw[Bx ap];simpa using bh
 unfold Ch;rw[hj];simp[aL]
theorem D3L{ops:Array Oper}{anq:List Oper}(tm:Tm a n fr){j g:Nat}{aM:Bool}(hg:o.guard=some (j,aM))(hj:(ops[j]?).bind (·.dst)=some g)(hn:Bu g n=true)(hv:X1 fr g=some (.bool aM))
  (h:∀K:Act->World->Prop,(∀a w,De P ops Q anq a w->K a w)->o.wp P a w K Q):De P ops Q (o::anq) a w:=by
 have hy:=C4W tm hj hn hv;refine Ea λK hK=>?_;simp only[Cb,hg,hy];simp;exact h K hK
theorem B52{ops:Array Oper}{anq:List Oper}(tm:Tm a n fr){j g d:Nat}{aM b:Bool}(hg:o.guard=some (j,aM))(aO:o.dst=some d)(hd:Bu d n=true)(hj:(ops[j]?).bind (·.dst)=some g)(hn:Bu g n=true)(hv:X1 fr g=some (.bool b))(av:(b==aM)=false)
  (h:∀a',Tm a' n ((d,undef)::fr)->De P ops Q anq a' w):De P ops Q (o::anq) a w:=by
 have hy:=C4W tm hj hn hv;refine Ea λK hK=>?_;have xC:(some b==some aM)=false:=by
  cases b<;>cases aM<;>first|rfl|cases av
 simp only[Cb,hg,hy,xC];rw[At (by simp),aO];exact hK _ _ (h _ (tm.put hd))
end
end Go.Aev
end
