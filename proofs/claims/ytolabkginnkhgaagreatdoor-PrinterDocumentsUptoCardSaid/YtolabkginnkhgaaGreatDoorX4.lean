/- Proved here: lemmas that the claim's text uses. Conditions: those that each lemma states. -/
import Derived.Test.YtolabkginnkhgaaGreatDoorRows
import Derived.WalkKit
import Derived.ProofKit
import Derived.OpenShut
import Derived.ChangeMaps5
import Derived.Deep.Matrix
import Derived.Deep.DeepHandedRow
import Derived.SizedLaws
import Derived.Carry
import Derived.PinnedBridge
import Derived.Lib.LaidU8T
import Derived.Lib.LaidTab
import Derived.Test.YtolabkginnkhgaaGreatDoorX3
set_option maxRecDepth 100000
set_option linter.unusedVariables false
set_option linter.unusedSimpArgs false
set_option linter.defProp false
open Go.Proofs.Tryz renaming prog→Ew,f25→Gb,call216→Jc,call187→Jd,call186→Je,call184→Jf,call148→Jg,call147→Jh,call133→Ji
open List renaming length_append→Ey,length_cons→Ez,length_nil→Fa,append_assoc→Fb,append_nil→Fe,flatten_nil→Fg,flatten_cons→Fh,getElem?_eq_getElem→Fi,all_eq_true→Fk,mem_cons_self→Fl,mem_cons→Fm,length→Fo,range→Fp,length_map→Fq,mem_cons_of_mem→Fs,getElem?_map→Fu,length_singleton→Ga,nil_append→Gc,mem_append→Ge,getElem?_eq_some_iff→Gf,length_set→Gm,not_mem_nil→Gq,mem_map→Gr,getElem?_range→Gt,nodup_cons→Gw,getElem?_set_ne→Gx,getElem?_set→Gy,getElem?_append_left→Gz,any_eq_true→Ha,mem_singleton→Hf,length_take→Hg,length_replicate→Hh,length_drop→Hi,flatMap_cons→Hj,drop_eq_getElem_cons→Hk,cons_append→Hl,map_append→Hq,length_range→Hr,getD_eq_getElem?_getD→Hs,drop_length→Ht,all_cons→Hv,reverse_cons→Ik,replicate→Il,mem_reverse→Im,mem_of_mem_drop→Io,map_cons→Ip,getElem_mem→Iq,getElem?_append_right→Ir,eq_nil_of_length_eq_zero→Is,dropWhile_cons_of_neg→It,take_of_length_le→Jq,takeWhile_append_dropWhile→Jr,reverse_reverse→Js,mem_of_mem_take→Jt,mem_of_getElem?→Ju,map_nil→Jv,getElem?_take→Jw,getElem?_set_self→Jx,forall_mem_cons→Jy,drop_zero→Jz,dropWhile_cons_of_pos→Ka,dropWhile_append_of_pos→Kb,all_append→Kc
open Go.IntKind renaming wrap→Fc
open Nat renaming le_refl→Ff,zero_le→Fw,zero_add→Fx,blt→Fz,beq→Gl,lt_succ_self→Gu,le_add_right→Gv,le_succ→He,mul_le_mul_left→Ho,le_trans→Hp,max→If,lt_or_ge→Ig,le_succ_of_le→Ih,le_of_eq→Ii,blt_eq→Ij,mul_one→Jl,mul_le_mul→Jm,le_of_lt→Jn,div_add_mod'→Jo,add_assoc→Jp
open Bool renaming and_eq_true→Fj,not_true→Gg,not_false→Gi,or_eq_true→Gn,not_eq_true'→Iy,and_self→Iz
open Go renaming wpList_plain→Ft,wpList_nil→Fv,wpList→Fy,execOp→Hb,Operand→Hc,ready_mono→Hx
open Go.Region renaming ready→Gj,noSelect→Ia,free→Ib,binds→Ic,wanted→Jj
open Int renaming add_zero→Gk,tdiv_eq_ediv_of_nonneg→Iu,tdiv→Iv,toNat_natCast→Kf,lt_or_le→Kg
open Option.some renaming injEq→Gp
open Go.Program renaming underlying→Hm
open Prod.mk renaming injEq→Hn
open List.cons renaming injEq→Hu
open Go.Exit renaming inBlock→Hw
open Go.Value renaming slice→Hy,int→Hz,cells→Ja
open Ne renaming symm→Ie
open Go.Lib renaming repeatL→Iw
open Go.Builtin renaming lenOf→Ix
open Go.Value.agg renaming injEq→Jb
open Option renaming getD_some→Jk
open Go.Lib.laidMet renaming reads→Ke
open Go.IntWalk renaming i32_in→Kh
open Array renaming toList→Ki,replicate→Kj,getElem?_eq_none→Kk
open Go.Value.slice renaming injEq→Kl
open List.Pairwise renaming imp→Km
namespace Go.Aev
def NNv:NN=18446744073709551616:=rfl
def C4y{n:Int}(h1: -2147483648<=n)(h2:n<2147483648):Fc .i32 n=n:=by
 have h3:=Kh n ⟨h1,Du⟩;exact h3
def C3R{R:Type}{nn:Nat}{c:Int}{t:DT}{k1:Option R}{k3:Int->Bool->Option R}(hs:t.length<=1000):∀(n i:Nat),i<=t.length->t.length<n+i->
  A56 nn c t n (i:Int) k1 k3=if inF c (t.drop i)then k1 else k3 (t.length:Int) false
 |0,i,h1,h2=>Du
 |n+1,i,h1,h2=>by
  unfold A56;by_cases hi:i<t.length
  ·have ed:t[i]?=some t[i]:=Fi hi;have hd:t.drop i=t[i]::t.drop (i+1):=Hk hi;generalize t[i]=y at*;have aH:decide ((i:Int)<(t.length:Int))=true:=Ei Du;have hy:=y.toNat_lt;have hw:Fc .i32 ((y.toNat:Nat):Int)=((y.toNat:Nat):Int):=C4y Du Du;rw[hd];simp only[Y4,A9m,A90,gd,kC,kP,kO,aH,Eg,H3,ed,hw,S4 (i:=i) Du,inF,List.any_cons];by_cases hc:(((y.toNat:Nat):Int)==c)=true
   ·simp only[hc,Eg,Bool.true_or,if_true]
   ·have cH:(((y.toNat:Nat):Int)==c)=false:=by simpa using hc
    simp only[cH,Eh,Bool.false_or];exact C3R hs n (i+1) Du Du
  ·have bR:i=t.length:=Du
   have aH:decide ((i:Int)<(t.length:Int))=false:=Ej Du;simp only[Y4,A9m,A90,gd,kC,kP,kO,aH,Eh];rw[bR,Ht];simp[inF]
def A6T{c:Int}{t:DT}(hs:t.length<=1000):Y4 c t=some (.one (.bool (inF c t))):=by
 simp only[Y4,A9m,A90,gd,kC,kP,kO];show A56 NN c t NN ((0:Nat):Int) _ _=_;rw[C3R hs NN 0 Du (by rw[NNv];omega),Jz];cases inF c t<;>rfl
def B76{c:Int}{t:DT}(h:inF c t=true):0<=c:=by
 unfold inF at h;obtain⟨b,_,hb⟩:=Ha.1 h;have:=(beq_iff_eq).1 hb;omega
def D5A(c:Int):A7p c=some (.one (.bool (inF c A0S))):=by
 have e:Y4 c A0S=_:=A6T (c:=c) (t:=A0S) Ep;unfold A0S at*;simp only[A7p,gd,kC,kP,kO,e,oB1,gB1,Eg]
def D4C(c:Int):A7r c=some (.one (.bool (inF c A0J))):=by
 have e:Y4 c A0J=_:=A6T (c:=c) (t:=A0J) Ep;unfold A0J at*;simp only[A7r,gd,kC,kP,kO,e,oB1,gB1,Eg]
def B9i(c:Int):A4h c=some (.one (.bool (inF c A0S||inF c A0J))):=by
 have e:Y4 c A0S=_:=A6T (c:=c) (t:=A0S) Ep;have e2:Y4 c A0J=_:=A6T (c:=c) (t:=A0J) Ep;unfold A0S at*;unfold A0J at*;simp only[A4h,gd,kC,kP,kO,e,e2,oB1,gB1,Eg];cases inF c [97,98,99,100,101,102,103,104,105,106,107,108,109,110,111,112,113,114,115,116,117,118,119,120,121,122,65,66,67,68,69,70,71,72,73,74,75,76,77,78,79,80,81,82,83,84,85,86,87,88,89,90,95]<;>rfl
def D1Q(c:Int):∃b,A32 c=some (.one (.bool b))/\(b=true->0<=c):=by
 have e2:=A6T (c:=c) (t:=[9,10,13,32,44]) Ep;refine⟨(c==65279)||inF c [9,10,13,32,44],?_,λh=>?_⟩
 ·simp only[A32,gd,kC,kP,kO,e2,oB1,gB1,Eg];cases c==65279<;>rfl
 ·rw[Gn]at h;rcases h with h|h
  ·have:=(beq_iff_eq).1 h;omega
  ·exact B76 h
def F0{α:Type}{P:α->Prop}{c:Bool}{a b:α}(h1:c=true->P a)(h2:c=false->P b):P (bif c then a else b):=by
 cases c with
 |true=>exact h1 rfl
 |false=>exact h2 rfl
def D7v(c:Int):∃b,A01 c=some (.one (.bool b)):=by
 let P:DU->Prop:=λo=>∃b,o=some (.one (.bool b))
 show P (A01 c);simp only[A01,gd,kC,kP,kO]
 repeat' (refine F0 (P:=P) (λ_=>?_) (λ_=>?_))
 all_goals exact⟨_,rfl⟩
def C9F(c:Int):∃b,A4y c=some (.one (.bool b)):=by
 let P:DU->Prop:=λo=>∃b,o=some (.one (.bool b))
 show P (A4y c);have e:=A6T (c:=c) (t:=[9,10,13]) Ep;obtain⟨b,e2⟩:=D7v c;simp only[A4y,gd,kC,kP,kO,e,e2,oB1,gB1,Eg]
 repeat' (refine F0 (P:=P) (λ_=>?_) (λ_=>?_))
 all_goals exact⟨_,rfl⟩
def D6r(c:Int):∃b,A01 c=some (.one (.bool b))/\(b=true->0<=c/\c<=1114111):=by
 let P:DU->Prop:=λo=>∃b,o=some (.one (.bool b))/\(b=true->0<=c/\c<=1114111)
 show P (A01 c);simp only[A01,gd,kC,kP,kO];have no:P (some (.one (.bool false))):=⟨_,rfl,λh=>by cases h⟩
 repeat' (first|exact no|refine F0 (P:=P) (λ_=>?_) (λ_=>?_))
 all_goals exact⟨_,rfl,λh=>by simp_all⟩
def w8{n:Int}(h:0<=n)(h2:n<256):Fc .u8 n=n:=Go.IntWalk.u8_in n ⟨h,Du⟩
def w32{n:Int}(h:0<=n)(h2:n<2147483648):Fc .i32 n=n:=Kh n ⟨Du,Du⟩
def C9S(c:Int):∃l:DS,A5B c=some (.one (.sl .u8 l (some 1)))/\l.length<=4/\∀x r,l=x::r->0<=x/\x<256/\(x=c\/128<=x/\128<=c):=by
 let P:DU->Prop:=λo=>∃l:DS,o=some (.one (.sl .u8 l (some 1)))/\l.length<=4/\∀x r,l=x::r->0<=x/\x<256/\(x=c\/128<=x/\128<=c)
 show P (A5B c);obtain⟨b,e2,hb⟩:=D6r c;simp only[A5B,gd,kC,kP,kO,e2,oB1,gB1,Eg];refine F0 (P:=P) (λ_=>⟨_,rfl,Eo,λx r h=>by cases h⟩) (λh=>?_);obtain⟨h0,h1⟩:=hb (by simpa using h);refine F0 (P:=P) (λh=>⟨_,rfl,Eo,λx r hx=>?_⟩) (λh=>?_)
 ·have h:=Em h;rw[w8 h0 Du]at hx;cases hx;exact⟨h0,Du,.inl rfl⟩
 have Cs:=of_decide_eq_false h;have hd:∀k m:Int,0<k->0<=m->m<=240->Iv c k<256 - m->192<=m->∀q x r,Fc .u8 (Fc .i32 (m+(Fc .i32 (Iv c k))))::q=x::r->0<=x/\x<256/\(x=c\/128<=x/\128<=c):=λk m hk hm fq hc lu q x r hx=>by
  have hp:0<=Iv c k:=Int.tdiv_nonneg h0 Du;rw[w32 hp Du,w32 Du Du,w8 Du Du]at hx;cases hx;exact⟨Du,Du,.inr ⟨Du,Du⟩⟩
 refine F0 (P:=P) (λh=>⟨_,rfl,Eo,hd 64 192 Du Du Du (by have:=Em h;rw[Iu h0];omega) Du _⟩) (λh=>?_);refine F0 (P:=P) (λh=>⟨_,rfl,Eo,hd 4096 224 Du Du Du (by have:=Em h;rw[Iu h0];omega) Du _⟩) (λh=>⟨_,rfl,Eo,hd 262144 240 Du Du Du (by rw[Iu h0];omega) Du _⟩)
def Hd(b l:DS):Prop:=∀x r,b=x::r->∃y q,l=y::q/\0<=x/\x<256/\(x=y\/128<=x/\128<=y)
def oU(l:DS):okR [.sl .u8 (some 1)] (some (.one (.sl .u8 l (some 1))):DU)=true:=rfl
def gU(l:DS):A6 (gL (some (.one (.sl .u8 l (some 1))):DU) 0)=l:=rfl
section
variable {R:Type}{P:Option R->Prop}
def C20{nn:Nat}{l:DS}{k1:Option R}{k3:(DS)->Int->Bool->Option R}(hs:l.length<=1099511627776)(h1:P k1)(h3:∀b:DS,b.length<=4*l.length->Hd b l->P (k3 b (l.length:Int) false)):
  ∀(n i:Nat)(buf:DS),i<=l.length->l.length<n+i->buf.length<=4*i->Hd buf l->(i=0\/buf≠[])->P (A7k nn l n buf (i:Int) k1 k3)
 |0,i,buf,a1,a2,a3,_,_=>Du
 |n+1,i,buf,a1,a2,a3,a4,a5=>by
  unfold A7k;by_cases hi:i<l.length
  ·have ed:l[i]?=some l[i]:=Fi hi;generalize l[i]=y at*;have aH:decide ((i:Int)<(l.length:Int))=true:=Ei Du;obtain⟨u,e,hu,pY⟩:=C9S y;have hr:=B4R (n:=buf.length+u.length) (by unfold MB;omega);simp only[A38,A80,B0m,gd,kC,kP,kO,aH,Eg,H3,ed,e,oU,gU,hr,S4 (i:=i) Du];refine F0 (P:=P) (λ_=>h1) (λhz=>?_);have Ct:u≠[]:=λh=>by rw[h]at hz;cases hz
   refine C20 hs h1 h3 n (i+1) (buf++u) Du Du (by rw[Ey];omega) ?_ (.inr (by simp[Ct]))
   match buf,a4,a5 with
   |[],_,_=>
    intro x r hx;have ji:i=0:=by simp_all
    subst ji;cases l with
    |nil=>cases ed
    |cons z q=>
     cases ed;exact⟨_,q,rfl,pY x r hx⟩
   |b::bs,a4,_=>
    intro x r hx;cases hx;exact a4 _ _ rfl
  ·have bR:i=l.length:=Du
   have aH:decide ((i:Int)<(l.length:Int))=false:=Ej Du;simp only[A38,A80,B0m,gd,kC,kP,kO,aH,Eh];subst bR;exact h3 buf a3 a4
def l53{nn:Nat}{l:DS}{a1:Bool}{k2:(DS)->Int->Bool->Option R}(hs:l.length<=1099511627776)(h2:∀b:DS,b.length=l.length->P (k2 b (l.length:Int) false)):
  ∀(n i:Nat)(buf:DS),i<=l.length->l.length<n+i->buf.length=i->P (A6h nn l a1 n buf (i:Int) k2)
 |0,i,buf,a1,a2,a3=>Du
 |n+1,i,buf,a1,a2,a3=>by
  unfold A6h;by_cases hi:i<l.length
  ·have ed:l[i]?=some l[i]:=Fi hi;generalize l[i]=y at*;have aH:decide ((i:Int)<(l.length:Int))=true:=Ei Du;obtain⟨b,e⟩:=C9F y;have hr:A3 (buf.length+1) 4=true:=by unfold A3;exact Ei Du
   simp only[F53,A8K,B1h,gd,kC,kP,kO,aH,Eg,H3,ed,e,oB1,gB1,hr,S4 (i:=i) Du];refine F0 (P:=P) (λ_=>?_) (λ_=>?_)
   ·exact l53 hs h2 n (i+1) (buf++[y]) Du Du (by rw[Ey];simp;omega)
   ·exact l53 hs h2 n (i+1) (buf++[-1]) Du Du (by rw[Ey];simp;omega)
  ·have bR:i=l.length:=Du
   have aH:decide ((i:Int)<(l.length:Int))=false:=Ej Du;simp only[F53,A8K,B1h,gd,kC,kP,kO,aH,Eh];subst bR;exact h2 buf a3
end
def D2U{l:DS}(hs:l.length<=1099511627776):∃t b,A38 l=some (.tup [.str t,.bool b])/\t.length<=4*l.length/\∀x r,t=x::r->∃y q,l=y::q/\((x.toNat:Int)=y\/128<=(x.toNat:Int)/\128<=y):=by
 let P:DU->Prop:=λo=>∃t b,o=some (.tup [.str t,.bool b])/\t.length<=4*l.length/\∀x r,t=x::r->∃y q,l=y::q/\((x.toNat:Int)=y\/128<=(x.toNat:Int)/\128<=y)
 show P (A38 l);simp only[A38,A80,B0m,gd,kC,kP,kO];refine C20 (P:=P) hs ?_ ?_ NN 0 [] Du (by rw[NNv];omega) Eo (λx r h=>by cases h) (.inl rfl)
 ·exact⟨[],false,rfl,Eo,λx r h=>by cases h⟩
 ·intro b hb h4;refine⟨_,true,rfl,by simpa using hb,λx r hx=>?_⟩
  match b,h4,hx with
  |z::bs,h4,hx=>
   obtain⟨y,q,e,h0,h1,h2⟩:=h4 z bs rfl;refine⟨y,q,e,?_⟩;simp only[Ip,Hu]at hx;rw[<-hx.1];have:((UInt8.ofNat z.toNat).toNat:Int)=z:=by
    rw[UInt8.toNat_ofNat'];omega
   rw[this];rcases h2 with h2|h2
   ·exact .inl h2
   ·exact .inr h2
def C5q{l:DS}(a1:Bool)(hs:l.length<=1099511627776):∃s:DS,F53 l a1=some (.one (.sl .i32 s (some 1)))/\s.length<=l.length+2/\∃x:Int,s[l.length]?=some x/\x<0:=by
 let P:DU->Prop:=λo=>∃s:DS,o=some (.one (.sl .i32 s (some 1)))/\s.length<=l.length+2/\∃x:Int,s[l.length]?=some x/\x<0
 show P (F53 l a1);simp only[F53,A8K,B1h,gd,kC,kP,kO];refine l53 (P:=P) hs ?_ NN 0 [] Du (by rw[NNv];omega) rfl;intro b hb;have r1:A3 (b.length+1) 4=true:=by unfold A3;exact Ei Du
 have r2:A3 ((b++[(-1:Int)]).length+1) 4=true:=by unfold A3;exact Ei Es
 simp only[r1,r2,Eg];refine F0 (P:=P) (λ_=>?_) (λ_=>?_)
 ·refine⟨_,rfl,Es, -1,?_,Ep⟩;rw[<-hb];simp
 ·refine⟨_,rfl,Es, -2,?_,Ep⟩;rw[<-hb];simp
structure Stp(s:DS)(M:Nat):Prop where
 x:∃x:Int,s[M]?=some x/\x<0
 pos:∀j,j<M->∃y:Int,s[j]?=some y/\0<=y
 sz:M<=1048576
def Stp.at{s:DS}{M i:Nat}(h:Stp s M)(hi:i<=M):∃y:Int,s[i]?=some y/\(0<=y->i<M)/\(y<0->i=M):=by
 rcases Ig i M with h1|h1
 ·obtain⟨y,h2,h3⟩:=h.pos i h1;exact⟨y,h2,λ_=>h1,λh4=>Du⟩
 ·obtain⟨x,h2,h3⟩:=h.x;have:i=M:=Du
  subst this;exact⟨x,h2,λh4=>Du,λ_=>rfl⟩
def beqT{b:Bool}:((b==true)=true)=(b=true):=by cases b<;>simp
def beqF{b:Bool}:((b==false)=true)=(b=false):=by cases b<;>simp
section
variable {R:Type}{P:Option R->Prop}{s:DS}{M:Nat}
def C4b{nn:Nat}{a1:Int}{k2:Int->Bool->Option R}(hs:Stp s M):∀(n i:Nat),i<=M->M<n+i->(∀j b,i<=j->j<=M->(∀y,s[i]?=some y->inF y A0S=true->i<j)->P (k2 ((j:Nat):Int) b))->P (A6d nn s a1 n (i:Int) k2)
 |0,i,a2,a3,_=>Du
 |n+1,i,a2,a3,h2=>by
  obtain⟨y,hy,hp,hn⟩:=hs.at a2;have az:=hs.sz;unfold A6d;simp only[A44,B0C,B2w,gd,kC,kP,kO,H3,hy,B9i,oB1,gB1,Eg,S4 (i:=i) Du];refine F0 (P:=P) (λhc=>?_) (λhc=>?_)
  ·have h0:0<=y:=by
    rw[Gn]at hc;rcases hc with hc|hc<;>exact B76 hc
   have:=hp h0;exact C4b hs n (i+1) Du Du λj b h3 h4 _=>h2 j b Du h4 λ_ _ _=>Du
  ·refine h2 i _ (Ff _) a2 λy' iZ hl=>?_;rw[hy]at iZ;cases iZ;rw[hl]at hc;cases hc
def D12(hs:Stp s M){i:Nat}(hi:i<=M):∃j:Nat,A44 s (i:Int)=some (.one (.int .i64 (j:Int)))/\i<=j/\j<=M/\(∀y,s[i]?=some y->inF y A0S=true->i<j):=by
 let P:DU->Prop:=λo=>∃j:Nat,o=some (.one (.int .i64 (j:Int)))/\i<=j/\j<=M/\(∀y,s[i]?=some y->inF y A0S=true->i<j)
 show P (A44 s (i:Int));have az:=hs.sz;simp only[A44,B0C,B2w,gd,kC,kP,kO];exact C4b (P:=P) hs NN i hi (by rw[NNv];omega) λj b h1 h2 h3=>⟨j,rfl,h1,h2,h3⟩
def C09{nn:Nat}{a1:Int}{k2:Int->Bool->Option R}(hs:Stp s M):∀(n i:Nat),i<=M->M<n+i->(∀j b y,i<=j->j<=M->s[j]?=some y->(y<0\/y=10\/y=13)->P (k2 ((j:Nat):Int) b))->P (A6u nn s a1 n (i:Int) k2)
 |0,i,a2,a3,_=>Du
 |n+1,i,a2,a3,h2=>by
  obtain⟨y,hy,hp,hn⟩:=hs.at a2;have az:=hs.sz;unfold A6u;simp only[A3M,A89,B1c,A9M,gd,kC,kP,kO,H3,hy,S4 (i:=i) Du];have pC:∀b,(y<0\/y=10\/y=13)->P (k2 (i:Int) b):=λb h=>h2 i b y (Ff _) a2 hy h;refine F0 (P:=P) (λhc=>?_) (λhc=>?_)
  ·rw[beqT]at hc;have h0:=Em hc;have aH:=hp h0;refine F0 (P:=P) (λhc=>?_) (λhc=>?_)
   ·refine F0 (P:=P) (λhc=>?_) (λhc=>?_)
    ·exact C09 hs n (i+1) Du Du λj b y h3 h4=>h2 j b y Du h4
    ·exact pC _ (.inr (.inr (by simpa using hc)))
   ·have:y=10:=by
     cases h:(y !=10)with
     |true=>rw[h]at hc;cases hc
     |false=>simpa using h
    exact pC _ (.inr (.inl this))
  ·have:¬(y>=0):=λh=>by rw[Ei h]at hc;cases hc
   exact pC _ (.inl Du)
def B4e{nn:Nat}{a1:Int}{k2:Int->Option R}(hs:Stp s M)(oQ:M<nn):∀(n i:Nat),i<=M->M<n+i->(∀j,i<=j->j<=M->P (k2 ((j:Nat):Int)))->P (A4t nn s a1 n (i:Int) k2)
 |0,i,a2,a3,_=>Du
 |n+1,i,a2,a3,h2=>by
  obtain⟨y,hy,hp,hn⟩:=hs.at a2;have az:=hs.sz;obtain⟨b,e,hb⟩:=D1Q y;unfold A4t;simp only[A3M,A89,B1c,A9M,gd,kC,kP,kO,H3,hy,e,oB1,gB1,Eg,S4 (i:=i) Du];refine F0 (P:=P) (λhc=>?_) (λhc=>?_)
  ·have aH:=hp (hb hc);exact B4e hs oQ n (i+1) Du Du λj h3 h4=>h2 j Du h4
  ·refine F0 (P:=P) (λhc=>?_) (λhc=>?_)
   ·exact h2 i (Ff _) a2
   ·have DE:y=35:=by simpa using hc
    refine C09 hs nn i a2 Du λj b y' h3 h4 iZ hx=>?_;have aC:i≠j:=λe=>by
     subst e;rw[hy]at iZ;cases iZ;omega
    exact B4e hs oQ n j h4 Du λj' h5 h6=>h2 j' Du h6
def D2G(hs:Stp s M){i:Nat}(hi:i<=M):∃j:Nat,A3M s (i:Int)=some (.one (.int .i64 (j:Int)))/\i<=j/\j<=M:=by
 let P:DU->Prop:=λo=>∃j:Nat,o=some (.one (.int .i64 (j:Int)))/\i<=j/\j<=M
 show P (A3M s (i:Int));have az:=hs.sz;simp only[A3M,A89,B1c,A9M,gd,kC,kP,kO];exact B4e (P:=P) hs (by rw[NNv];omega) NN i hi (by rw[NNv];omega) λj h1 h2=>⟨j,rfl,h1,h2⟩
end
def C6V(x:Int):∃k,A5K x=some (.one (.int .i64 k)):=by
 let P:DU->Prop:=λo=>∃k,o=some (.one (.int .i64 k))
 show P (A5K x);simp only[A5K,gd,kC,kP,kO]
 repeat' (refine F0 (P:=P) (λ_=>?_) (λ_=>?_))
 all_goals exact⟨_,rfl⟩
def D49(x c:Int):∃k,A2B x c=some (.one (.int .i64 k))/\(c<0->k<0):=by
 by_cases hc:c<0
 ·let P:DU->Prop:=λo=>∃k,o=some (.one (.int .i64 k))/\(c<0->k<0)
  show P (A2B x c);have h1:decide (c>=48)=false:=Ej Du;have h2:(c==45)=false:=Es
  have h3:(c==48)=false:=Es
  have h4:(c==46)=false:=Es
  have h5:(c==101)=false:=Es
  have h6:(c==69)=false:=Es
  have h7:(c==43)=false:=Es
  simp only[A2B,gd,kC,kP,kO,h1,h2,h3,h4,h5,h6,h7]
  repeat' (refine F0 (P:=P) (λ_=>?_) (λ_=>?_))
  all_goals first|exact⟨_,rfl,λ_=>Ep⟩|exact absurd (by assumption:(false==true)=true) Ep|exact absurd (by assumption:(false==false)=false) Ep|exact absurd (by assumption:false=true) Ep
 ·let P:DU->Prop:=λo=>∃k,o=some (.one (.int .i64 k))/\(c<0->k<0)
  show P (A2B x c);simp only[A2B,gd,kC,kP,kO]
  repeat' (refine F0 (P:=P) (λ_=>?_) (λ_=>?_))
  all_goals exact⟨_,rfl,λh=>absurd h hc⟩
section
variable {R:Type}{P:Option R->Prop}{s:DS}{M:Nat}
def A2W{α:Type}{l:List α}{i:Nat}{y:α}(h:l[i]?=some y):i<l.length:=(Gf.1 h).1
def B4a{nn:Nat}{a1:Int}{k1:Int->Int->Int->Option R}{k3:Int->Int->Int->Int->Bool->Option R}(hs:Stp s M)(i0:Nat)(h1:∀(j:Nat) a b,i0<=j->j<=M->P (k1 (j:Int) a b)):
  ∀(n i x7:Nat)(x8 x9:Int),i<=M->M<n+i->i0<=x7->x7<=i->P (A63 nn s a1 n (x7:Int) x8 x9 (i:Int) k1 k3)
 |0,i,x7,x8,x9,a2,a3,_,_=>Du
 |n+1,i,x7,x8,x9,a2,a3,a4,a5=>by
  obtain⟨y,hy,hp,hn⟩:=hs.at a2;have az:=hs.sz;have hl:=A2W hy;obtain⟨k,e,hk⟩:=D49 x9 y;obtain⟨k',e'⟩:=C6V k;have aH:decide ((i:Int)<(s.length:Int))=true:=Ei Du;unfold A63;simp only[A4o,B1e,B7M,gd,kC,kP,kO,aH,Eg,H3,hy,e,e',oI,gI,S4 (i:=i) Du];refine F0 (P:=P) (λhc=>?_) (λhc=>?_)
  ·exact h1 x7 _ _ a4 Du
  ·have dU:¬k<0:=λh=>by rw[Ei h]at hc;cases hc
   have aH:=hp (by rcases Kg y 0 with h|h;exact absurd (hk h) dU;exact h);refine F0 (P:=P) (λhc=>?_) (λhc=>?_)
   ·exact B4a hs i0 h1 n (i+1) (i+1) _ _ Du Du Du Du
   ·exact B4a hs i0 h1 n (i+1) x7 _ _ Du Du Du Du
def C5D(hs:Stp s M){i:Nat}(hi:i<=M):∃(j:Nat)(a b:Int),A4o s (i:Int)=some (.tup [.int .i64 (j:Int),.int .i64 a,.int .i64 b])/\i<=j/\j<=M:=by
 let P:DU->Prop:=λo=>∃(j:Nat)(a b:Int),o=some (.tup [.int .i64 (j:Int),.int .i64 a,.int .i64 b])/\i<=j/\j<=M
 show P (A4o s (i:Int));have az:=hs.sz;obtain⟨y,hy,_,_⟩:=hs.at hi;have hl:=A2W hy;have d1:decide ((i:Int)<0)=false:=Ej Du;have d2:decide ((i:Int)>(s.length:Int))=false:=Ej Du;simp only[A4o,B1e,B7M,gd,kC,kP,kO,d1,d2,beq_self_eq_true,Eg,Eh];exact B4a (P:=P) hs i (λj a b h1 h2=>⟨j,a,b,rfl,h1,h2⟩) NN i i 0 0 hi (by rw[NNv];omega) (Ff _) (Ff _)
def o3i(a b c:Int):okR [.int .i64,.int .i64,.int .i64] (some (.tup [.int .i64 a,.int .i64 b,.int .i64 c]):DU)=true:=rfl
def B3l(a:Int)(r:DV):lI (gL (some (.tup (.int .i64 a::r)):DU) 0)=a:=rfl
def A6R(l:L6)(a:Int)(r:DV):lI (gL (some (.tup (l::.int .i64 a::r)):DU) 1)=a:=rfl
def C77(l l':L6)(a:Int)(r:DV):lI (gL (some (.tup (l::l'::.int .i64 a::r)):DU) 2)=a:=rfl
def D2r(hs:Stp s M){i:Nat}(hi:i<=M):∃(j:Nat)(k:Int),A1f s (i:Int)=some (.tup [.int .i64 (j:Int),.int .i64 k])/\i<=j/\j<=M/\((k=1/\j=i)\/((k=4\/k=5)/\i<j)):=by
 let P:DU->Prop:=λo=>∃(j:Nat)(k:Int),o=some (.tup [.int .i64 (j:Int),.int .i64 k])/\i<=j/\j<=M/\((k=1/\j=i)\/((k=4\/k=5)/\i<j))
 show P (A1f s (i:Int));obtain⟨j,a,b,e,h1,h2⟩:=C5D hs hi;obtain⟨y,hy,_,_⟩:=hs.at h2;simp only[A1f,gd,kC,kP,kO,e,o3i,B3l,A6R,C77,Eg,H3,hy,B9i,oB1,gB1];have jO:P (some (.tup [.int .i64 (i:Int),.int .i64 1])):=⟨i,1,rfl,Ff _,hi,.inl ⟨rfl,rfl⟩⟩;have tk:∀k,(k=4\/k=5)->((j:Int)==(i:Int))=false->P (some (.tup [.int .i64 (j:Int),.int .i64 k])):=λk hk aC=>⟨j,k,rfl,h1,h2,.inr ⟨hk,by
  have:(j:Int)≠(i:Int):=by simpa using aC
  omega⟩⟩
 cases en:(j:Int)==(i:Int)with
 |true=>exact jO
 |false=>
  simp only[beq_self_eq_true,Eg]
  repeat' (refine F0 (P:=P) (λ_=>?_) (λ_=>?_))
  all_goals first|exact jO|exact tk 4 (.inl rfl) en|exact tk 5 (.inr rfl) en
end
def W4{i k:Nat}(h:i+k<=4611686018427387904):Fc .i64 ((i:Int)+(k:Int))=((i+k:Nat):Int):=by
 rw[A5g Du Du];omega
section
variable {R:Type}{P:Option R->Prop}{s:DS}{M:Nat}
def A9P(hs:Stp s M){i:Nat}(hi:i<=M){c:Int}(hc:0<=c):∃b,A2o s (i:Int) c=some (.one (.bool b))/\(b=true->i+3<=M):=by
 let P:DU->Prop:=λo=>∃b,o=some (.one (.bool b))/\(b=true->i+3<=M)
 show P (A2o s (i:Int) c);have az:=hs.sz;obtain⟨y,hy,hp,hn⟩:=hs.at hi;have w1:Fc .i64 ((i:Int)+1)=((i+1:Nat):Int):=W4 (k:=1) Du;have w2:Fc .i64 ((i:Int)+2)=((i+2:Nat):Int):=W4 (k:=2) Du;have no:P (some (.one (.bool false))):=⟨false,rfl,λh=>by cases h⟩;simp only[A2o,gd,kC,kP,kO,w1,w2,H3,hy];refine F0 (P:=P) (λh1=>?_) (λ_=>no);have av:i+2<s.length:=by
  have:=Em (beqT.mp h1);omega
 have g1:s[i+1]?=some s[i+1]:=Fi Du;have g2:s[i+2]?=some s[i+2]:=Fi av;generalize s[i+1]=y1 at*;generalize s[i+2]=y2 at*;simp only[g1,g2];refine F0 (P:=P) (λh2=>?_) (λ_=>no);refine F0 (P:=P) (λh3=>?_) (λ_=>no);refine⟨_,rfl,λh4=>?_⟩;have e0:y=c:=by simpa using h2
 have e1:y1=c:=by simpa using h3
 have e2:y2=c:=by simpa using h4
 have k0:=hp Du;obtain⟨z1,q1,q2,_⟩:=hs.at (i:=i+1) Du;rw[g1]at q1;cases q1;have k1:=q2 Du;obtain⟨z2,q3,q4,_⟩:=hs.at (i:=i+2) Du;rw[g2]at q3;cases q3;have k2:=q4 Du;omega
def B5C{nn:Nat}{a1:Int}{k2:Int->Option R}{k3:Int->Bool->Option R}(hs:Stp s M)(i0:Nat)(h2:∀j:Nat,i0+3<=j->j<=M->P (k2 (j:Int)))(h3:∀j b,P (k3 j b)):
  ∀(n i:Nat),i<=M->M<n+i->i0<=i->P (A40 nn s a1 n (i:Int) k2 k3)
 |0,i,a2,a3,_=>Du
 |n+1,i,a2,a3,a4=>by
  obtain⟨y,hy,hp,hn⟩:=hs.at a2;have az:=hs.sz;have w1:Fc .i64 ((i:Int)+1)=((i+1:Nat):Int):=W4 (k:=1) Du;have w3:Fc .i64 ((i:Int)+3)=((i+3:Nat):Int):=W4 (k:=3) Du;have w4:Fc .i64 ((i:Int)+4)=((i+4:Nat):Int):=W4 (k:=4) Du;obtain⟨b,e,hb⟩:=A9P hs a2 (c:=34) Ep;unfold A40;simp only[A54,B1p,B4F,gd,kC,kP,kO,H3,hy,w1,w3,w4,e,oB1,gB1,Eg];refine F0 (P:=P) (λhc=>?_) (λ_=>h3 _ _);have aH:=hp (Em hc);obtain⟨b',e',bH⟩:=A9P hs (i:=i+1) Du (c:=34) Ep;simp only[e',oB1,gB1,Eg];have next:P (A40 nn s a1 n ((i+1:Nat):Int) k2 k3):=B5C hs i0 h2 h3 n (i+1) Du Du Du;refine F0 (P:=P) (λhc=>?_) (λhc=>?_)
  ·refine F0 (P:=P) (λhc=>?_) (λhc=>?_)
   ·have:=bH hc;exact B5C hs i0 h2 h3 n (i+4) Du Du Du
   ·refine F0 (P:=P) (λhc=>?_) (λhc=>next);exact h2 (i+3) Du (hb hc)
  ·simp only[Eh];refine F0 (P:=P) (λhc=>?_) (λhc=>next);exact h2 (i+3) Du (hb hc)
def D2b(hs:Stp s M){i:Nat}(hi:i+3<=M):∃j:Nat,A54 s (i:Int)=some (.one (.int .i64 (j:Int)))/\(j=i\/(i+6<=j/\j<=M)):=by
 let P:DU->Prop:=λo=>∃j:Nat,o=some (.one (.int .i64 (j:Int)))/\(j=i\/(i+6<=j/\j<=M))
 show P (A54 s (i:Int));have az:=hs.sz;have w3:Fc .i64 ((i:Int)+3)=((i+3:Nat):Int):=W4 (k:=3) Du;simp only[A54,B1p,B4F,gd,kC,kP,kO,w3];exact B5C (P:=P) hs (i+3) (λj h1 h2=>⟨j,rfl,.inr ⟨Du,h2⟩⟩) (λj b=>⟨i,rfl,.inl rfl⟩) NN (i+3) hi (by rw[NNv];omega) (Ff _)
def B6h{nn:Nat}{a1:Int}{k1:Int->Option R}{k3:Int->Bool->Option R}(hs:Stp s M)(i0:Nat)(h0:P (k1 a1))(h1:∀j:Nat,i0+1<=j->j<=M->P (k1 (j:Int)))(h3:∀j b,P (k3 j b)):
  ∀(n i:Nat),i<=M->M<n+i->i0<=i->P (A3x nn s a1 n (i:Int) k1 k3)
 |0,i,a2,a3,_=>Du
 |n+1,i,a2,a3,a4=>by
  obtain⟨y,hy,hp,hn⟩:=hs.at a2;have az:=hs.sz;have w1:Fc .i64 ((i:Int)+1)=((i+1:Nat):Int):=W4 (k:=1) Du;unfold A3x;simp only[A5L,B10,B7e,gd,kC,kP,kO,H3,hy,w1];refine F0 (P:=P) (λhc=>?_) (λ_=>h3 _ _);have aH:=hp (Em (beqT.mp hc));obtain⟨y',iZ,uF,DF⟩:=hs.at (i:=i+1) Du;have w2:Fc .i64 (((i+1:Nat):Int)+1)=((i+1+1:Nat):Int):=W4 (k:=1) Du;simp only[iZ,w2];have next:P (A3x nn s a1 n ((i+1:Nat):Int) k1 k3):=B6h hs i0 h0 h1 h3 n (i+1) Du Du Du;refine F0 (P:=P) (λhc=>?_) (λ_=>h3 _ _);refine F0 (P:=P) (λhc=>?_) (λ_=>h3 _ _);refine F0 (P:=P) (λhc=>?_) (λhc=>?_)
  ·exact h1 (i+1) Du Du
  refine F0 (P:=P) (λhc=>?_) (λhc=>next);refine F0 (P:=P) (λhc=>?_) (λhc=>?_)
  ·have Cu:¬y'<0:=λh=>by rw[Ei h]at hc;cases hc
   have pj:=uF Du;have tn:P (A3x nn s a1 n ((i+1+1:Nat):Int) k1 k3):=B6h hs i0 h0 h1 h3 n (i+2) Du Du Du;refine F0 (P:=P) (λhc=>?_) (λhc=>?_)
   ·exact F0 (P:=P) (λ_=>h0) (λ_=>tn)
   ·simp only[Eg];exact h0
  ·simp only[Eg];exact h0
def D7Y(hs:Stp s M){i:Nat}(hi:i<M):∃j:Nat,A5L s (i:Int)=some (.one (.int .i64 (j:Int)))/\(j=i\/(i+2<=j/\j<=M)):=by
 let P:DU->Prop:=λo=>∃j:Nat,o=some (.one (.int .i64 (j:Int)))/\(j=i\/(i+2<=j/\j<=M))
 show P (A5L s (i:Int));have az:=hs.sz;have w1:Fc .i64 ((i:Int)+1)=((i+1:Nat):Int):=W4 (k:=1) Du;simp only[A5L,B10,B7e,gd,kC,kP,kO,w1];exact B6h (P:=P) hs (i+1) ⟨i,rfl,.inl rfl⟩ (λj h1 h2=>⟨j,rfl,.inr ⟨Du,h2⟩⟩) (λj b=>⟨i,rfl,.inl rfl⟩) NN (i+1) Du (by rw[NNv];omega) (Ff _)
def C1L{nn:Nat}{i:Nat}{t:DT}{k1:Int->Option R}{k3:(DT)->Int->Bool->Option R}{y:Int}(hs:t.length<=1000)(hy:s[i]?=some y)(hi:i<=1048576)(h1:0<=y->P (k1 ((i+1:Nat):Int)))(h3:∀j b,P (k3 t j b)):
  ∀(n x:Nat),x<=t.length->t.length<n+x->P (A7l nn s (i:Int) n t (x:Int) k1 k3)
 |0,x,a2,a3=>Du
 |n+1,x,a2,a3=>by
  unfold A7l;have w1:Fc .i64 ((i:Int)+1)=((i+1:Nat):Int):=W4 (k:=1) Du;by_cases hx:x<t.length
  ·have ed:t[x]?=some t[x]:=Fi hx;generalize t[x]=z at*;have aH:decide ((x:Int)<(t.length:Int))=true:=Ei Du;have hz:=z.toNat_lt;have hw:Fc .i32 ((z.toNat:Nat):Int)=((z.toNat:Nat):Int):=C4y Du Du;simp only[A33,A7M,B1d,gd,kC,kP,kO,aH,Eg,H3,ed,hy,hw,w1,S4 (i:=x) Du];refine F0 (P:=P) (λhc=>?_) (λhc=>?_)
   ·have:y=((z.toNat:Nat):Int):=by simpa using hc
    exact h1 Du
   ·exact C1L hs hy hi h1 h3 n (x+1) Du Du
  ·have aH:decide ((x:Int)<(t.length:Int))=false:=Ej Du;simp only[A33,A7M,B1d,gd,kC,kP,kO,aH,Eh];exact h3 _ _
def C5n(hs:Stp s M){i:Nat}(hi:i<=M):∃j:Nat,A33 s (i:Int)=some (.one (.int .i64 (j:Int)))/\i<=j/\j<=M:=by
 let P:DU->Prop:=λo=>∃j:Nat,o=some (.one (.int .i64 (j:Int)))/\i<=j/\j<=M
 show P (A33 s (i:Int));have az:=hs.sz;obtain⟨y,hy,hp,hn⟩:=hs.at hi;obtain⟨b,e,hb⟩:=A9P hs hi (c:=46) Ep;have w3:Fc .i64 ((i:Int)+3)=((i+3:Nat):Int):=W4 (k:=3) Du;simp only[A33,A7M,B1d,gd,kC,kP,kO,e,oB1,gB1,Eg,w3];refine C1L (P:=P) Ep hy Du (λh=>⟨i+1,rfl,Du,by have:=hp h;omega⟩) (λj b'=>?_) NN 0 Du (by rw[NNv];decide);refine F0 (P:=P) (λhc=>?_) (λhc=>?_)
 ·exact⟨i+3,rfl,Du,hb hc⟩
 ·exact⟨i,rfl,Du,Du⟩
end
end Go.Aev
namespace Go.Aev.Bv
open Go.Proofs Go.Lib
def D3J(cur x:DS):I5 cur (10::x)=cur::I5 [] x:=by rw[X8,A5j];simp
def D1K:btF []=([34,34,34,34,34,34],true):=by rw[B1W,El rfl]
def D6O(l:DS)(h:T1 l=true):(E2 l).all M6=true:=by
 fun_induction E2 l with
 |case1 r ih=>exact ih h
 |case2 c r aC ih=>
  have he:M4 (c::r)=false:=by
   cases he:M4 (c::r)with
   |false=>rfl
   |true=>
    obtain⟨z,hz⟩:=A5a.1 he;simp only[Hu]at hz;exact absurd hz.2 (λe=>aC z hz.1 e)
  rw[A95 he]at h;split at h
  ·cases h
  ·rename_i hc;simp only[Gn,Iy,not_or,Bool.not_eq_false]at hc;rw[Hv,hc.1,ih h];rfl
 |case3=>rfl
def clean(c:Int):Bool:=M6 c&&(!(c==10)&& !(c==13))
def A8d:∀(m cur:DS),cur.all clean=true->m.all M6=true->∀l∈I5 cur m,l.all clean=true
 |[],cur,hc,_,l,hl=>by simp[I5]at hl;rw[hl];exact hc
 |c::r,cur,hc,hm,l,hl=>by
  simp only[Hv,Fj]at hm;rw[X8,A5j]at hl;by_cases fY:c=10
  ·rw[El fY]at hl;simp only[if_true]at hl;rcases Fm.1 hl with rfl|hl
   ·exact hc
   ·exact A8d r [] rfl hm.2 l hl
  ·rw[Ek fY]at hl;by_cases iV:c=13
   ·rw[El iV,El iV]at hl;split at hl
    ·rcases Fm.1 hl with rfl|hl
     ·exact hc
     ·exact A8d r [] rfl hm.2 l hl
    ·exact A8d r cur hc hm.2 l hl
   ·rw[Ek iV,Ek iV]at hl;simp only[Bool.false_eq_true,if_false]at hl;refine A8d r _ ?_ hm.2 l hl;rw[Kc,hc];simp[clean,hm.1,fY,iV]
def B67:∀(l cur x:DS),l.all clean=true->I5 cur (l++x)=I5 (cur++l) x
 |[],cur,x,_=>Eo
 |c::r,cur,x,h=>by
  simp only[Hv,Fj]at h;have hc:=h.1;simp only[clean,Fj,Iy,beq_eq_false_iff_ne]at hc;rw[Hl,A4f _ _ _ hc.2.1 hc.2.2,B67 r _ x h.2];simp
def C0G:∀(D:Ef),D≠[]->(∀x∈D,x.all clean=true)->B5 (J0 D)=D
 |[l],_,h=>by
  have e:J0 [l]=l++[]:=by simp[J0]
  have:=B67 l [] [] (h l Fl);rw[e];unfold B5;rw[this];simp[I5]
 |l::x::r,_,h=>by
  rw[B1X Eo];have ih:=C0G (x::r) Eo λy hy=>h y (Fs _ hy);unfold B5 at ih ⊢;rw[B67 l [] _ (h l Fl),D3J,ih];simp
def C3w{p:Int->Bool}(fY:p 10=true):∀(D:Ef),(∀x∈D,x.all p=true)->(J0 D).all p=true
 |[],_=>rfl
 |[l],h=>by
  have e:J0 [l]=l:=by simp[J0]
  rw[e];exact h l Fl
 |l::x::r,h=>by
  rw[B1X Eo,Kc,Hv,h l Fl,fY,C3w fY (x::r) λy hy=>h y (Fs _ hy)];rfl
def D3L{c:Int}{ls:Ef}{x:DS}(h:x∈A1p c ls):∃y∈ls,∃n,x=y.drop n:=by
 unfold A1p at h;rcases Ge.1 h with h|h
 ·exact⟨x,Jt h,0,Eo⟩
 ·obtain⟨y,hy,rfl⟩:=Gr.1 h;exact⟨y,Io hy,_,rfl⟩
def D0c{p:Int->Bool}{ls:Ef}(h:∀x∈ls,x.all p=true):∀x∈K0 ls,x.all p=true:=by
 intro x hx;have h1:=(B3a (N9 ls)).subset hx;rw[B0D]at h1;obtain⟨y,hy,n,rfl⟩:=D3L h1;exact Fk.2 λz hz=>Fk.1 (h y hy) z (Io hz)
def D5u{X:Ef}{x:DS}(h:x∈X)(hb:B8 x=false):x∈R9 X:=by
 have keep:∀(l:Ef),x∈l->x∈l.dropWhile B8:=λl hl=>by
  rw[<-Jr (p:=B8) (l:=l)]at hl;rcases Ge.1 hl with hl|hl
  ·have:=Fk.1 (List.all_takeWhile (p:=B8) (l:=l)) x hl;rw[hb]at this;cases this
  ·exact hl
 unfold R9;exact Im.2 (keep _ (Im.2 (keep _ h)))
def C2Y{l:Ef}{x:DS}{r:Ef}(h:l.dropWhile B8=x::r):B8 x=false:=by
 induction l with
 |nil=>cases h
 |cons a t ih=>
  cases hb:B8 a with
  |true=>rw[Ka hb]at h;exact ih h
  |false=>
   rw[It (by rw[hb];simp)]at h;simp only[Hu]at h;rw[<-h.1];exact hb
def C1e{X:Ef}(h:R9 X≠[]):B8 ((R9 X).headD [])=false/\B8 ((R9 X).getLastD [])=false:=by
 have dB:X.dropWhile B8=R9 X++((X.dropWhile B8).reverse.takeWhile B8).reverse:=by
  unfold R9;rw[<-List.reverse_append,Jr,Js]
 constructor
 ·match hD:R9 X,h with
  |a::t,_=>
   rw[hD,Hl]at dB;exact C2Y dB
 ·have hr:(R9 X).reverse=(X.dropWhile B8).reverse.dropWhile B8:=by unfold R9;rw[Js]
  have aC:(R9 X).reverse≠[]:=by simpa using h
  rw[List.getLastD_eq_getLast?,List.getLast?_eq_head?_reverse]
  match hZ:(R9 X).reverse,aC with
  |a::t,_=>
   rw[hZ]at hr;exact C2Y hr.symm
def C8E{x:DS}{r:Ef}(h:∀y∈r,B8 y=true):(R9 (x::r)).length<=1:=by
 unfold R9;rw[List.length_reverse];cases hb:B8 x with
 |true=>
  have:(x::r).dropWhile B8=[]:=by
   rw[Ka hb];have:=Kb (p:=B8) (l₁:=r) (l₂:=[]) h;simpa using this
  rw[this];simp
 |false=>
  rw[It (by rw[hb];simp),Ik,Kb (λy hy=>h y (Im.1 hy)),It (by rw[hb];simp)];simp
def C19:∀(ls:Ef)(m:Int),V2 m ls=m\/∃l∈ls,B8 l=false/\G3 l=V2 m ls
 |[],m=>.inl rfl
 |x::ls,m=>by
  rw[B66];rcases C19 ls (if !B8 x&&(decide (m<0)||decide (G3 x<m))then G3 x else m)with h|⟨l,hl,h1,h2⟩
  ·rw[h];split
   ·rename_i hc;simp only[Fj,Iy]at hc;exact .inr ⟨x,Fl,hc.1,rfl⟩
   ·exact .inl rfl
  ·exact .inr ⟨l,Fs _ hl,h1,h2⟩
def D0K(l:DS):M7 (l.drop (M7 l))=0:=by
 induction l with
 |nil=>rfl
 |cons x r ih=>
  cases hw:K6 x with
  |true=>
   have e:M7 (x::r)=M7 r+1:=by rw[A5A,El hw]
   rw[e,List.drop_succ_cons];exact ih
  |false=>
   have e:M7 (x::r)=0:=by rw[A5A,Ek (by rw[hw];simp)]
   rw[e];exact e
def D0N{ls:Ef}(aC:K0 ls≠[]):U7 (K0 ls)=true:=by
 obtain⟨h1,h2⟩:=C1e (X:=N9 ls) aC;have h3:(decide ((K0 ls).length=1)||(K0 ls).any A02)=true:=by
  have hs:=(B2D (ls.drop 1) (-1)).2;rcases C19 (ls.drop 1) (-1)with h|⟨l,hl,hb,hi⟩
  ·have b8:∀y∈ls.drop 1,B8 y=true:=λy hy=>by
    cases hb:B8 y with
    |true=>rfl
    |false=>have:=hs y hy hb;omega
   have av:(K0 ls).length<=1:=by
    match ls,b8 with
    |[],_=>exact Nat.le_of_lt_succ Ep
    |x::r,b8=>
     have toq:∀y∈r,B8 y=true:=b8;have hc:N9 (x::r)=x::r.map λl=>l.drop (X1 (x::r)).toNat:=rfl;show(R9 (N9 (x::r))).length<=1;rw[hc];refine C8E λy hy=>?_;obtain⟨z,hz,rfl⟩:=Gr.1 hy;exact Fk.2 λa ha=>Fk.1 (toq z hz) a (Io ha)
   have:(K0 ls).length≠0:=λe=>aC (Is e);rw[Ei Du];rfl
  ·have cv:l.drop (M7 l)∈N9 ls:=by
    rw[B0D];unfold A1p;refine List.mem_append_right _ (Gr.2 ⟨l,hl,?_⟩);rw[<-hi];rfl
   have cJ:B8 (l.drop (M7 l))=false:=by rw[D46 λ_=>Ff _];exact hb
   have cS:l.drop (M7 l)∈K0 ls:=D5u cv cJ;have mF:A02 (l.drop (M7 l))=true:=by
    unfold A02 G3;rw[cJ,D0K];rfl
   rw[Ha.2 ⟨_,cS,mF⟩,Bool.or_true]
 unfold U7;have e1:B8 ((K0 ls).headD [])=false:=h1;have e2:B8 ((K0 ls).getLastD [])=false:=h2;rw[e1,e2];exact h3
def C7F{l:DS}(h:l.all clean=true):l.all okC=true:=Fk.2 λx hx=>by
 have:=Fk.1 h x hx;simp only[clean,Fj]at this;simp only[okC,Fj];exact⟨this.1,this.2.2⟩
def block_again{l:DS}(h:(Z0 l).2=0):(btF (Z0 l).1).2=true/\(C3 (Z0 l).1).1.length<=2*l.length+1/\(Z0 l).1.length<=8*l.length+4:=by
 rw[B9b]at h ⊢;cases hm:T1 l with
 |false=>rw[hm]at h;cases h
 |true=>
  rw[hm]at h;cases ho:A3Z (A0e 0 l)with
  |false=>rw[ho]at h;cases h
  |true=>
   have cq:∀x∈K0 (B5 (E2 l)),x.all clean=true:=D0c (A8d _ [] rfl (D6O l hm));have fE:(J0 (K0 (B5 (E2 l)))).all okC=true:=C3w Ep _ λx hx=>C7F (cq x hx);have hv:=B7G fE;have hd:=C16 _ hv;have t1:=C0g (B5 (E2 l));have t2:=A82 (E2 l);have t3:=C0L (K0 (B5 (E2 l)));have t4:(E2 l).length<=l.length:=B3A l;have t5:=A39 (J0 (K0 (B5 (E2 l))));simp only[Iz,if_true];rw[A8P hv];dsimp only;refine⟨?_,?_,Du⟩
   ·by_cases hD:K0 (B5 (E2 l))=[]
    ·rw[hD];exact congrArg Prod.snd D1K
    ·have tp:=C0G _ hD cq;have mF:=D0N hD;rw[B1W,hd];dsimp only;rw[fE,tp,mF];have aC:B7 (J0 (K0 (B5 (E2 l))))≠[]:=λe=>by
      have hj:J0 (K0 (B5 (E2 l)))=[]:=by
       have:=C8I (J0 (K0 (B5 (E2 l))));rw[e]at this;exact Is (by simpa using this)
      rw[hj]at tp;have hb:=(C1e (X:=N9 (B5 (E2 l))) hD).1;have bH:B8 ((K0 (B5 (E2 l))).headD [])=false:=hb;rw[<-tp]at bH;cases bH
     rw[Ek aC,Ek (Nat.lt_irrefl _)];rfl
   ·rw[hd];dsimp only;omega
end Go.Aev.Bv
namespace Go.Aev
def B9q{s:DS}{a b:Nat}(h1:a<=b)(h2:b<=s.length):∃l,sub s (a:Int) (b:Int)=some l/\l.length=b - a:=by
 unfold sub;rw[Ei Du,Ei Du,Ei Du];refine⟨_,rfl,?_⟩;simp only[Kf,Hg,Hi];omega
def D4s(o:Option DS):(A50 o).1.length<=4*(o.getD []).length:=by
 cases o with
 |none=>simp[A50]
 |some cs=>
  unfold A50 J9;simp only[Jk];split
  ·exact B0x cs
  ·simp
def D67(l:DS):(Z3 l).1.length<=4*l.length:=by
 unfold Z3;have h:=D4s (A18 l);cases hq:A18 l with
 |none=>rw[hq]at h;simpa using Hp h Eo
 |some cs=>
  rw[hq]at h;have:=(Bv.quotedL_valid l.length l cs (Ff _) hq).2;simp only[Jk]at h;omega
def One(s:DS)(i M:Nat)(o:DU):Prop:=∃(j:Nat)(k:Int)(v:DT),o=some (.tup [.int .i64 (j:Int),.int .i64 k,.str v])/\i<=j/\j<=M/\v.length<=8400000/\(k=7->(btF v).2=true)/\(((k=0\/k=1)/\j=i)\/(2<=k/\k<=7/\i<j/\(k<6->∀y,s[i]?=some y->clI y=bif k==5 then 4 else k)))
section
variable {s:DS}{M:Nat}
def oSI(t:DT)(b:Int):okR [.str,.int .i64] (some (.tup [.str t,.int .i64 b]):DU)=true:=rfl
def B2x(t:DT)(r:DV):lS (gL (some (.tup (.str t::r)):DU) 0)=t:=rfl
def C8M(hs:Stp s M){i:Nat}(hi:i<M):One s i M (A0K s (i:Int)):=by
 have az:=hs.sz;obtain⟨x,hx,_⟩:=hs.x;have hM:=A2W hx;have jO:One s i M (some (.tup [.int .i64 (i:Int),.int .i64 1,.str []])):=⟨i,1,[],rfl,Ff _,Du,Eo,λh=>Du,.inl ⟨Du,rfl⟩⟩;obtain⟨b,e,hb⟩:=A9P hs (Jn hi) (c:=34) Ep;simp only[A0K,gd,kC,kP,kO,e,oB1,gB1,Eg];refine F0 (P:=One s i M) (λhc=>?_) (λhc=>?_)
 ·have h3:=hb hc;obtain⟨j,e2,hj⟩:=D2b hs h3;simp only[e2,oI,gI,Eg];refine F0 (P:=One s i M) (λ_=>jO) (λaC=>?_);have en:j≠i:=λh=>by rw[h]at aC;simp at aC
  obtain⟨h6,tq⟩:=hj.resolve_left en;have w1:Fc .i64 ((i:Int)+3)=((i+3:Nat):Int):=W4 (k:=3) Du;have w2:Fc .i64 ((j:Int) - 3)=((j - 3:Nat):Int):=by rw[A5g Du Du];omega
  obtain⟨l,e3,hl⟩:=B9q (s:=s) (a:=i+3) (b:=j - 3) Du Du;have eC:smL l=true:=by unfold smL;exact Ei Du
  have e4:A2E l=some (.tup [.str (Z0 l).1,.int .i64 (Z0 l).2]):=by unfold A2E;rw[eC];rfl
  simp only[w1,w2,e3,e4,oSI,B2x,A6R,Eg];refine F0 (P:=One s i M) (λ_=>jO) (λhz=>?_);have oe:(Z0 l).2=0:=by simpa using hz
  obtain⟨q1,_,q3⟩:=Bv.block_again oe;exact⟨j,7,(Z0 l).1,rfl,Du,tq,Du,λ_=>q1,.inr ⟨Du,Du,Du,λh=>Du⟩⟩
 ·obtain⟨j,e2,hj⟩:=D7Y hs hi;simp only[e2,oI,gI,Eg];refine F0 (P:=One s i M) (λ_=>jO) (λaC=>?_);have en:j≠i:=λh=>by rw[h]at aC;simp at aC
  obtain⟨h6,tq⟩:=hj.resolve_left en;have w1:Fc .i64 ((i:Int)+1)=((i+1:Nat):Int):=W4 (k:=1) Du;have w2:Fc .i64 ((j:Int) - 1)=((j - 1:Nat):Int):=by rw[A5g Du Du];omega
  obtain⟨l,e3,hl⟩:=B9q (s:=s) (a:=i+1) (b:=j - 1) Du Du;have eC:D0 l=true:=by unfold D0 A3;exact Ei Du
  have e4:A2z l=some (.tup [.str (Z3 l).1,.int .i64 (Z3 l).2]):=by unfold A2z;rw[eC];rfl
  simp only[w1,w2,e3,e4,oSI,B2x,A6R,Eg];refine F0 (P:=One s i M) (λ_=>jO) (λhz=>?_);have:=D67 l;exact⟨j,6,(Z3 l).1,rfl,Du,tq,Du,λh=>Du,.inr ⟨Du,Du,Du,λh=>Du⟩⟩
def D57(a b:Int)(t:DT):okR [.int .i64,.int .i64,.str] (some (.tup [.int .i64 a,.int .i64 b,.str t]):DU)=true:=rfl
def C6z(l l':L6)(t:DT)(r:DV):lS (gL (some (.tup (l::l'::.str t::r)):DU) 2)=t:=rfl
def o2i(a b:Int):okR [.int .i64,.int .i64] (some (.tup [.int .i64 a,.int .i64 b]):DU)=true:=rfl
def C9n(hs:Stp s M){i:Nat}(hi:i<=M):One s i M (A3G s (i:Int)):=by
 obtain⟨y,hy,hp,hn⟩:=hs.at hi;have jO:∀k:Int,(k=0\/k=1)->One s i M (some (.tup [.int .i64 (i:Int),.int .i64 k,.str []])):=λk hk=>⟨i,k,[],rfl,Ff _,hi,Eo,λh=>Du,.inl ⟨hk,rfl⟩⟩;obtain⟨j,e1,h1,h2,h3⟩:=D12 hs hi;obtain⟨j2,k2,e2,h4,h5,h6⟩:=D2r hs hi;obtain⟨j4,e4,h8,h9⟩:=C5n hs hi;simp only[A3G,gd,kC,kP,kO,H3,hy,D5A,D4C,oB1,gB1,Eg,e1,oI,gI,e2,o2i,B3l,A6R,e4];refine F0 (P:=One s i M) (λ_=>jO 0 Ep) (λ_=>?_);refine F0 (P:=One s i M) (λhc=>?_) (λhl=>?_)
 ·refine⟨j,3,[],rfl,h1,h2,Eo,λh=>Du,.inr ⟨Du,Du,h3 y hy hc,λ_ y' iZ=>?_⟩⟩;rw[hy]at iZ;cases iZ;unfold clI;rw[hc];rfl
 have Cv:(inF y A0J||y==45)=true->One s i M (some (.tup [.int .i64 (j2:Int),.int .i64 k2,.str []])):=λhd=>by
  rcases h6 with⟨h6,h7⟩|⟨h6,h7⟩
  ·exact⟨j2,k2,[],rfl,h4,h5,Eo,λh=>Du,.inl ⟨Du,h7⟩⟩
  ·refine⟨j2,k2,[],rfl,h4,h5,Eo,λh=>Du,.inr ⟨Du,Du,h7,λ_ y' iZ=>?_⟩⟩;rw[hy]at iZ;cases iZ;unfold clI;rw[hl,hd];rcases h6 with h6|h6<;>rw[h6]<;>rfl
 have aw:(inF y A0J||y==45)=false->One s i M (bif y==34 then(bif okR [.int .i64,.int .i64,.str] (A0K s (i:Int))then some (.tup [.int .i64 (lI (gL (A0K s (i:Int)) 0)),.int .i64 (lI (gL (A0K s (i:Int)) 1)),.str (lS (gL (A0K s (i:Int)) 2))])else none)
   else bif decide ((j4:Int)>(i:Int))then some (.tup [.int .i64 (j4:Int),.int .i64 2,.str []])else some (.tup [.int .i64 (i:Int),.int .i64 1,.str []])):=λhd=>by
  refine F0 (P:=One s i M) (λhc=>?_) (λhc=>?_)
  ·have zQ:y=34:=by simpa using hc
   obtain⟨j3,k3,v3,e3,aw⟩:=C8M hs (hp Du);rw[e3];exact⟨j3,k3,v3,rfl,aw⟩
  ·refine F0 (P:=One s i M) (λhc=>?_) (λhc=>jO 1 Ep);have:=Em hc;refine⟨j4,2,[],rfl,h8,h9,Eo,λh=>Du,.inr ⟨Du,Du,Du,λ_ y' iZ=>?_⟩⟩;rw[hy]at iZ;cases iZ;unfold clI;rw[hl,hd];rfl
 generalize inF y A0J=p at*;generalize (y==45)=r at*;cases p<;>cases r<;>first|exact Cv rfl|exact aw rfl
end
section
variable {s:DS}{M:Nat}
def oT1(t:A0):okR [.agg .tok] (some (.one (.agg .tok t)):DU)=true:=rfl
def gT1(t:A0):J4 (gL (some (.one (.agg .tok t)):DU) 0)=t:=rfl
def oSb(t:DT)(b:Bool):okR [.str,.bool] (some (.tup [.str t,.bool b]):DU)=true:=rfl
def C1q{c:Int}(h:128<=c){t:DT}(ht:(t.all λb=>decide (b.toNat<128))=true):inF c t=false:=by
 unfold inF;rw[List.any_eq_false];intro b hb;have:=Em (Fk.1 ht b hb);simp;omega
def C38{c:Int}(h:128<=c):clI c=2:=by
 unfold clI;rw[C1q h Ep,C1q h Ep,show(c==45)=false from Es];rfl
def C6B{s:DS}{a b:Nat}(h1:a<=b)(h2:b<=s.length):∃l,sub s (a:Int) (b:Int)=some l/\l.length=b - a/\∀y q,l=y::q->s[a]?=some y:=by
 refine⟨(s.drop a).take (b - a),?_,?_,λy q h=>?_⟩
 ·unfold sub;rw[Ei (Du:(0:Int)<=(a:Int)),Ei (Du:(a:Int)<=(b:Int)),Ei (Du:(b:Int)<=(s.length:Int))];rfl
 ·rw[Hg,Hi];omega
 ·have h3:((s.drop a).take (b - a))[0]?=some y:=by rw[h];rfl
  rw[Jw]at h3;split at h3
  ·rw[List.getElem?_drop]at h3;exact h3
  ·cases h3
def C6M(hs:Stp s M){ps:List B1}(fA:M<ps.length){i:Nat}(hi:i<=M):∃t:A0,F55 s ps (i:Int)=some (.one (.agg .tok t))/\A7x t/\∃j:Nat,t.to_=(j:Int)/\j<=M/\((t.kind=0\/t.kind=1)\/(2<=t.kind/\t.kind<=7/\i<j)):=by
 have az:=hs.sz;obtain⟨x,hx,_⟩:=hs.x;have hM:=A2W hx;obtain⟨a,e1,a1,a2⟩:=D2G hs hi;obtain⟨j,k,v,e2,b1,b2,b3,b4,b5⟩:=C9n hs a2;obtain⟨l,e3,hl,te⟩:=C6B (s:=s) (a:=a) (b:=j) b1 Du;obtain⟨t,b,e4,ht,xe⟩:=D2U (l:=l) Du;have hp:ps[a]?=some ps[a]:=Fi Du;simp only[F55,gd,kC,kP,kO,e1,oI,gI,e2,D57,B3l,A6R,C6z,e3,e4,oSb,B2x,Eg,H3,hp];refine⟨_,rfl,⟨by show t.length<=_;omega,b3,b4,λhk=>?_,?_⟩,j,rfl,b2,?_⟩
 ·show cls t=0\/_
  match t,xe with
  |[],_=>exact .inl rfl
  |x::r,xe=>
   obtain⟨y,q,e,Cw⟩:=xe x r rfl;rcases b5 with⟨_,h⟩|⟨h1,h2,h3,h4⟩
   ·subst h;have:l.length=0:=Du
    rw[e]at this;cases this
   ·refine .inr ⟨h1,?_⟩;have hy:=h4 hk y (te y q e);show clI x.toNat=_;rw[<-hy];rcases Cw with h|⟨h5,h6⟩
    ·rw[h]
    ·rw[C38 h5,C38 h6]
 ·rcases b5 with⟨h,_⟩|⟨h1,h2,_⟩
  ·exact⟨by show 0<=k;omega,by show k<=7;omega⟩
  ·exact⟨by show 0<=k;omega,by show k<=7;omega⟩
 ·rcases b5 with⟨h,_⟩|⟨h1,h2,h3,_⟩
  ·exact .inl h
  ·exact .inr ⟨h1,h2,Du⟩
def l24{R:Type}{P:Option R->Prop}{nn:Nat}{a0:DS}{k1:DZ->Option R}(hs:Stp s M){ps:List B1}(fA:M<ps.length)(h1:∀ts,TW ts->P (k1 ts)):
  ∀(n i:Nat)(x7:DZ),i<=M->M<n+i->x7.length<=i->(∀t∈x7,A7x t/\2<=t.kind)->P (A5l nn a0 n s ps x7 (i:Int) k1)
 |0,i,x7,a1,a2,_,_=>Du
 |n+1,i,x7,a1,a2,a3,a4=>by
  have az:=hs.sz;obtain⟨t,e,ht,j,hj,tq,hk⟩:=C6M hs fA a1;have hr:A3 (x7.length+1) 72=true:=by unfold A3;exact Ei Du
  unfold A5l;simp only[F24,B1T,B5R,gd,kC,kP,kO,e,oT1,gT1,hr,Eg,hj];have bU:P (k1 (x7++[t]))\/¬(t.kind=0\/t.kind=1):=by
   by_cases h:t.kind=0\/t.kind=1
   ·left
    refine h1 _ ⟨Eo,Es,λt' ft=>?_,λi' t' ur eJ=>?_⟩
    ·rcases Ge.1 ft with h'|h'
     ·exact(a4 t' h').1
     ·have:t'=t:=by simpa using h'
      rw[this];exact ht
    ·have aH:=A2W ur;rcases Ig (i'+1) (x7++[t]).length with h'|h'
     ·exact h'
     ·exfalso;have:i'=x7.length:=by simp at h' aH;omega
      subst this;have:t'=t:=by simpa using ur.symm
      subst this;omega
   ·exact .inr h
  have next:¬(t.kind=0\/t.kind=1)->P (A5l nn a0 n s ps (x7++[t]) (j:Int) k1):=λh=>by
   obtain⟨q1,q2,q3⟩:=hk.resolve_left h;refine l24 hs fA h1 n j (x7++[t]) tq Du Es λt' ft=>?_;rcases Ge.1 ft with h'|h'
   ·exact a4 t' h'
   ·have:t'=t:=by simpa using h'
    rw[this];exact⟨ht,q1⟩
  refine F0 (P:=P) (λhc=>?_) (λhc=>?_)
  ·have h0:(t.kind==0)=false:=beqF.mp hc;have Cu:t.kind≠0:=by simpa using h0
   refine F0 (P:=P) (λhc=>?_) (λhc=>?_)
   ·have:t.kind=1:=by simpa using hc
    exact bU.resolve_right (λh=>h (.inr this))
   ·have:t.kind≠1:=by simpa using hc
    exact next (λh=>Du)
  ·have h0:t.kind=0:=by
    cases h:(t.kind==0)with
    |true=>simpa using h
    |false=>rw[h]at hc;cases hc
   exact bU.resolve_right (λh=>h (.inl h0))
end
structure Sts(st:DS)(i:Nat):Prop where
 ex:∃ns:DX,st=ns.map (λ(n:Nat)=>(n:Int))/\ns[0]?=some 0/\ns.Pairwise (· <= ·)/\∀e∈ns,e<=i
 len:st.length<=i+1
def Sts.step{st:DS}{i:Nat}(h:Sts st i):Sts st (i+1):=by
 obtain⟨ns,h1,h2,h3,h4⟩:=h.ex;exact⟨⟨ns,h1,h2,h3,λe he=>Ih (h4 e he)⟩,Ih h.len⟩
def Sts.push{st:DS}{i:Nat}(h:Sts st i):Sts (st++[((i+1:Nat):Int)]) (i+1):=by
 obtain⟨ns,h1,h2,h3,h4⟩:=h.ex;refine⟨⟨ns++[i+1],by rw[h1];simp,?_,?_,λe he=>?_⟩,by simp;exact h.len⟩
 ·have:=A2W h2;rw[Gz this];exact h2
 ·rw[List.pairwise_append];exact⟨h3,Eo,λa ha b hb=>by
   have:b=i+1:=by simpa using hb
   have:=h4 a ha;omega⟩
 ·rcases Ge.1 he with h'|h'
  ·exact Ih (h4 e h')
  ·have:e=i+1:=by simpa using h'
   omega
section
variable {R:Type}{P:Option R->Prop}
def B7j{nn:Nat}{l:DS}{k2:(DS)->Int->Bool->Option R}(hs:l.length<=1048576)(h2:∀st,Sts st l.length->P (k2 st (l.length:Int) false)):∀(n i:Nat)(st:DS),i<=l.length->l.length<n+i->Sts st i->P (A3P nn l n st (i:Int) k2)
 |0,i,st,a1,a2,_=>Du
 |n+1,i,st,a1,a2,a3=>by
  have av:=a3.len;have w1:Fc .i64 ((i:Int)+1)=((i+1:Nat):Int):=W4 (k:=1) Du;unfold A3P;by_cases hi:i<l.length
  ·have ed:l[i]?=some l[i]:=Fi hi;generalize l[i]=y at*;have aH:decide ((i:Int)<(l.length:Int))=true:=Ei Du;have hr:A3 (st.length+1) 8=true:=by unfold A3;exact Ei Du
   have keep:P (A3P nn l n st ((i+1:Nat):Int) k2):=B7j hs h2 n (i+1) st Du Du a3.step;have push:P (A3P nn l n (st++[((i+1:Nat):Int)]) ((i+1:Nat):Int) k2):=B7j hs h2 n (i+1) _ Du Du a3.push;by_cases cK:i+1<l.length
   ·have jY:l[i+1]?=some l[i+1]:=Fi cK;generalize l[i+1]=z at*;simp only[A1e,A6m,A84,gd,kC,kP,kO,aH,Eg,H3,ed,w1,hr,jY]
    repeat' (first|exact keep|exact push|refine F0 (P:=P) (λ_=>?_) (λ_=>?_))
   ·have jj:decide (((i+1:Nat):Int)<(l.length:Int))=false:=Ej Du;simp only[A1e,A6m,A84,gd,kC,kP,kO,aH,Eg,H3,ed,w1,hr,jj]
    repeat' (first|exact keep|exact push|refine F0 (P:=P) (λh=>?_) (λ_=>?_))
    all_goals exact absurd (by assumption:(false==true)=true) Ep
  ·have bR:i=l.length:=Du
   have aH:decide ((i:Int)<(l.length:Int))=false:=Ej Du;simp only[A1e,A6m,A84,gd,kC,kP,kO,aH,Eh];subst bR;exact h2 st a3
end
def D1N{l:DS}(hs:l.length<=1048576):∃st,A1e l=some (.one (.sl .i64 st (some 1)))/\Sts st l.length:=by
 let P:DU->Prop:=λo=>∃st,o=some (.one (.sl .i64 st (some 1)))/\Sts st l.length
 show P (A1e l);simp only[A1e,A6m,A84,gd,kC,kP,kO];refine B7j (P:=P) hs (λst h=>⟨st,rfl,h⟩) NN 0 [0] Du (by rw[NNv];omega) ⟨⟨[0],rfl,rfl,Eo,Eo⟩,Eo⟩
section
variable {R:Type}{P:Option R->Prop}
def B4X{nn:Nat}{l st:DS}{i e:Nat}{z:Int}{k2:(List B1)->(DS)->Int->Int->Int->Bool->Option R}(he:e<=2000000)(hz:st[i]?=some z)(h2:∀ps:List B1,ps.length=e->P (k2 ps st (i:Int) (e:Int) (e:Int) false)):
  ∀(n j:Nat)(ps:List B1),j<=e->e<n+j->ps.length=j->P (A5O nn l n ps st (i:Int) (e:Int) (j:Int) k2)
 |0,j,ps,a1,a2,_=>Du
 |n+1,j,ps,a1,a2,a3=>by
  unfold A5O;by_cases hj:j<e
  ·have aH:decide ((j:Int)<(e:Int))=true:=Ei Du;have hr:A3 (ps.length+1) 16=true:=by unfold A3;exact Ei Du
   simp only[F54,A3B,A45,A5z,gd,kC,kP,kO,aH,Eg,H3,hz,hr,S4 (i:=j) Du];exact B4X he hz h2 n (j+1) _ Du Du Es
  ·have Cx:j=e:=Du
   subst Cx;have aH:decide ((j:Int)<(j:Int))=false:=Ej Du;simp only[F54,A3B,A45,A5z,gd,kC,kP,kO,aH,Eh];exact h2 ps a3
def B5X{nn:Nat}(oQ:2000000<nn){l:DS}{ns:DX}{k2:(List B1)->(DS)->Int->Bool->Option R}(hs:l.length<=1048576)(hp:ns.Pairwise (· <= ·))(hm:∀e∈ns,e<=l.length)(hl:ns.length<=1048577)
  (h2:∀ps:List B1,ps.length=l.length+1->P (k2 ps (ns.map (λ(n:Nat)=>(n:Int))) (ns.length:Int) false)):
  ∀(n i:Nat)(ps:List B1),i<=ns.length->ns.length<n+i->(∀a,ns[i]?=some a->ps.length=a)->(i=ns.length->ps.length=l.length+1)->P (A7C nn l n ps (ns.map (λ(n:Nat)=>(n:Int))) (i:Int) k2)
 |0,i,ps,a1,a2,_,_=>Du
 |n+1,i,ps,a1,a2,a3,a4=>by
  unfold A7C;have w1:Fc .i64 ((i:Int)+1)=((i+1:Nat):Int):=W4 (k:=1) Du;have w2:Fc .i64 ((l.length:Int)+1)=((l.length+1:Nat):Int):=W4 (k:=1) Du;by_cases hi:i<ns.length
  ·have uf:ns[i]?=some ns[i]:=Fi hi;have bh:=hm ns[i] (Iq hi);have av:=a3 _ uf;have cU:(ns.map (λ(n:Nat)=>(n:Int)))[i]?=some ((ns[i]:Nat):Int):=by rw[Fu,uf];rfl
   have aH:decide ((i:Int)<((ns.map (λ(n:Nat)=>(n:Int))).length:Int))=true:=Ei (by rw[Fq];omega);by_cases cK:i+1<ns.length
   ·have tr:ns[i+1]?=some ns[i+1]:=Fi cK;have eF:=hm ns[i+1] (Iq cK);have fG:ns[i]<=ns[i+1]:=List.pairwise_iff_getElem.1 hp i (i+1) hi cK Du;have xf:(ns.map (λ(n:Nat)=>(n:Int)))[i+1]?=some ((ns[i+1]:Nat):Int):=by rw[Fu,tr];rfl
    have jj:decide (((i+1:Nat):Int)<((ns.map (λ(n:Nat)=>(n:Int))).length:Int))=true:=Ei (by rw[Fq];omega);generalize ns[i]=a at*;generalize ns[i+1]=b at*;simp only[F54,A3B,A45,A5z,gd,kC,kP,kO,aH,Eg,H3,cU,xf,w1,w2,jj];refine B4X (e:=b) Du cU (λtt pD=>?_) nn a ps fG Du av;simp only[w1];refine B5X oQ hs hp hm hl h2 n (i+1) tt Du Du (λa' pw=>?_) (λh=>Du);rw[tr]at pw;cases pw;exact pD
   ·have jj:decide (((i+1:Nat):Int)<((ns.map (λ(n:Nat)=>(n:Int))).length:Int))=false:=Ej (by rw[Fq];omega);generalize ns[i]=a at*;simp only[F54,A3B,A45,A5z,gd,kC,kP,kO,aH,Eg,Eh,H3,cU,w1,w2,jj];refine B4X (e:=l.length+1) Du cU (λtt pD=>?_) nn a ps Du Du av;simp only[w1];refine B5X oQ hs hp hm hl h2 n (i+1) tt Du Du (λa' pw=>?_) (λ_=>pD);have:=A2W pw;omega
  ·have bR:i=ns.length:=Du
   have aH:decide ((i:Int)<((ns.map (λ(n:Nat)=>(n:Int))).length:Int))=false:=Ej (by rw[Fq];omega);simp only[F54,A3B,A45,A5z,gd,kC,kP,kO,aH,Eh];subst bR;exact h2 ps (a4 rfl)
end
def C7d(l:DS):okR [.sl .i64 (some 1)] (some (.one (.sl .i64 l (some 1))):DU)=true:=rfl
def D06(l:DS):Y6 (gL (some (.one (.sl .i64 l (some 1))):DU) 0)=l:=rfl
def D1u{l:DS}(hs:l.length<=1048576):∃ps:List B1,F54 l=some (.one (.sl .pos ps (some 1)))/\ps.length=l.length+1:=by
 let P:DU->Prop:=λo=>∃ps:List B1,o=some (.one (.sl .pos ps (some 1)))/\ps.length=l.length+1
 show P (F54 l);obtain⟨st,e,⟨ns,h1,h2,h3,h4⟩,av⟩:=D1N hs;have hl:ns.length<=l.length+1:=by rw[h1,Fq]at av;exact av
 have h0:=A2W h2;simp only[F54,A3B,A45,A5z,gd,kC,kP,kO,e,C7d,D06,Eg];rw[h1];refine B5X (P:=P) (by rw[NNv];decide) hs h3 h4 Du (λps fA=>⟨ps,rfl,fA⟩) NN 0 [] Du (by rw[NNv];omega) (λa ha=>?_) (λh=>Du);rw[h2]at ha;cases ha;rfl
def C4A{s:DS}:∀(n k:Nat)(x:Int),k<=n->s[k]?=some x->x<0->∃M:Nat,M<=k/\(∃y:Int,s[M]?=some y/\y<0)/\∀j,j<M->∃y:Int,s[j]?=some y/\0<=y
 |n,k,x,hn,hk,hx=>by
  by_cases h:∃j,j<k/\∃y:Int,s[j]?=some y/\y<0
  ·obtain⟨j,h1,y,h2,h3⟩:=h
   match n,hn with
   |0,hn=>omega
   |n+1,hn=>
    obtain⟨M,a1,a2,a3⟩:=C4A n j y Du h2 h3;exact⟨M,Du,a2,a3⟩
  ·refine⟨k,Ff _,⟨x,hk,hx⟩,λj hj=>?_⟩;have hl:=A2W hk;refine⟨s[j],Fi Du,?_⟩;rcases Kg s[j] 0 with h'|h'
   ·exact absurd ⟨j,hj,_,Fi Du,h'⟩ h
   ·exact h'
def C5r(l:DS)(n:Int):okR [.sl .i32 (some 1),.int .i64] (some (.tup [.sl .i32 l (some 1),.int .i64 n]):DU)=true:=rfl
def D5n(l:DS)(r:DV):A6r (gL (some (.tup (.sl .i32 l (some 1)::r)):DU) 0)=l:=rfl
def D7g(l:DS):okR [.sl .i32 (some 1)] (some (.one (.sl .i32 l (some 1))):DU)=true:=rfl
def D5o(l:DS):A6r (gL (some (.one (.sl .i32 l (some 1))):DU) 0)=l:=rfl
def D5B(l:List B1):okR [.sl .pos (some 1)] (some (.one (.sl .pos l (some 1))):DU)=true:=rfl
def C5z(l:List B1):B2K (gL (some (.one (.sl .pos l (some 1))):DU) 0)=l:=rfl
def C7h{a0:DS}(hB:isB a0=true)(hl:a0.length<=1048576):∃ts,F24 a0=some (.one (.sl .tok ts (some 1)))/\TW ts:=by
 let P:DU->Prop:=λo=>∃ts,o=some (.one (.sl .tok ts (some 1)))/\TW ts
 show P (F24 a0);have eC:smL a0=true:=by unfold smL;exact Ei Du
 have Cy:F52 a0=some (.tup [.sl .i32 (C3 (toB a0)).1 (some 1),.int .i64 (((C3 (toB a0)).2:Nat):Int)]):=by unfold F52;rw[hB,eC];rfl
 have av:(C3 (toB a0)).1.length<=1048576:=by
  have:=C5c (toB a0);rw[A0v]at this;omega
 generalize (C3 (toB a0)).1=cs at*;generalize (((C3 (toB a0)).2:Nat):Int)=m at*;obtain⟨s,Cz,eE,x,eU,CA⟩:=C5q (l:=cs) (m==(a0.length:Int)) Du;obtain⟨ps,CB,fA⟩:=D1u av;obtain⟨M,m1,m2,m3⟩:=C4A cs.length cs.length x (Ff _) eU CA;have ut:Stp s M:=⟨m2,m3,Du⟩;simp only[F24,B1T,B5R,gd,kC,kP,kO,Cy,C5r,D5n,A6R,Cz,D7g,D5o,CB,D5B,C5z,Eg];exact l24 (P:=P) ut Du (λts h=>⟨ts,rfl,h⟩) NN 0 [] Du (by rw[NNv];omega) Eo (λt ht=>by cases ht)
end Go.Aev
namespace Go.Aev
open Go.Proofs Go.ChangeShapes Go.WideShapes Go.ChangeAt Go.RowKit Go.Deep Go.Proofs.YtolabkginnkhgaaGreatDoor
def wm0(W:World)(b:Nat):Nat:=match W.heap[b]? with|some (.cells c _ _)=>c.size|_=>0
def D2c(W:World)(b:Nat)(h:W.heap.size<=b):wm0 W b=0:=by
 unfold wm0;rw[Kk h]
def B4l{W:World}{b off:Nat}{v:Value}(h:W.cell? ⟨b,off,none⟩=some v):off+1<=wm0 W b:=by
 unfold World.cell? at h;unfold wm0;dsimp only at h;split at h
 ·rename_i c t fr he;rw[he];simp at h;have:=(Array.getElem?_eq_some_iff.1 h).1;exact this
 ·cases h
def C7l:laidOutB Ew=true:=En
def D1s:Tryz.prog.cellsOf 5=1:=En
def B9P(l:DS)(j:Nat)(lf:L6)(h:(flat U6 .u8 l)[j]?=some lf):∃n,l[j]?=some n/\lf=.int .u8 n:=by
 have h1:flat U6 .u8 l=l.map λn=>.int .u8 n:=A9p l;rw[h1,Fu]at h;obtain⟨n,hn,rfl⟩:=Option.map_eq_some_iff.1 h;exact⟨n,hn,rfl⟩
def C7I{W:World}{l:DS}{b off C:Nat}{V:Nat->Int}(hl:l.length<=C)(aL:∀c,c<C->W.cell? ⟨b,off+c,none⟩=some (.int .u8 (V c)))(hV:∀(j:Nat)(n:Int),l[j]?=some n->V j=n):
  CRep U6 W (wm0 W) (.sl .u8 l none) (.slice (some ⟨b,off,none⟩) l.length C):=by
 by_cases h0:l.length=0
 ·have:l=[]:=Is h0;subst this;exact .nil _ _ _ _
 ·refine CRep.sl (U:=U6) (w:=W) (wm:=wm0 W) .u8 l none b off C (λj=>.int .u8 (V j)) hl ?_ (λj lf hj=>?_) (λj lf hj=>?_)
  ·have:=B4l (aL (l.length - 1) Du);show off+l.length*1<=_;omega
  ·obtain⟨n,hn,rfl⟩:=B9P _ _ _ hj;have bC:=(Gf.1 hn).1;exact aL j Du
  ·obtain⟨n,hn,rfl⟩:=B9P _ _ _ hj;rw[hV j n hn];exact .int _ _
def D19{W:World}{A:Option Addr}{L C:Nat}{zs:DS}(DG:L<=C)(hz:zs.length=C)(hA:A=none->C=0)(hc:∀a',A=some a'->∀c,c<C->W.cell? (a'.add c)=some (.int .u8 (zs.getD c 0))):
  CRep U6 W (wm0 W) (.sl .u8 (zs.take L) none) (.slice A L C):=by
 by_cases hL:L=0
 ·subst hL;exact .nil _ _ _ _
 cases A with
 |none=>have:=hA rfl;omega
 |some a=>
  obtain⟨b,off,xg⟩:=a;have h0:=hc _ rfl 0 Du;have hs:xg=none:=by
   have:=World.cell?_spot h0;unfold Addr.add at this;simpa using this
  subst hs;have av:(zs.take L).length=L:=by rw[Hg];omega
  have:=C7I (W:=W) (l:=zs.take L) (b:=b) (off:=off) (C:=C) (V:=λc=>zs.getD c 0) Du (λc cH=>by rw[<-add_plain];exact hc _ rfl c cH) (λj n hn=>by
   rw[Jw]at hn;split at hn
   ·rw[Hs,hn];rfl
   ·cases hn)
  rw[av]at this;exact this
def D6a{H:Type}(d:DataW H):1<=Rows.uptoBulk d:=by
 cases d with
 |lit l=>cases l<;>simp[Rows.uptoBulk]
 |nil=>simp[Rows.uptoBulk]
 |ptr d=>simp[Rows.uptoBulk]
 |slice zR spare=>simp[Rows.uptoBulk]
 |agg parts=>simp[Rows.uptoBulk]
 |iface t d=>simp[Rows.uptoBulk]
 |map uv=>simp[Rows.uptoBulk]
 |held h=>simp[Rows.uptoBulk]
def C6P{H:Type}{d:DataW H}{l:List (DataW H)}(h:d∈l):Rows.uptoBulk d<=Rows.uptoBulkAll l:=by
 induction l with
 |nil=>cases h
 |cons x r ih=>
  simp only[Rows.uptoBulkAll];cases Fm.1 h with
  |inl e=>subst e;omega
  |inr e=>have:=ih e;omega
def D0Y{H:Type}(l:List (DataW H)):l.length<=Rows.uptoBulkAll l:=by
 induction l with
 |nil=>simp[Rows.uptoBulkAll]
 |cons x r ih=>have:=D6a x;simp only[Rows.uptoBulkAll,Ez];omega
def C86{H:Type}{l:List (DataW H)}(hk:Rows.uptoSmall H l=true):Rows.uptoBulkAll l<=1048576:=Em hk
section
variable {H:Type}{enc:TypeId×Value->H}{W:World}
def C9Z{a0:Option Addr}{l0 c0:Nat}{d:DataW H}{ps:List MemPlace}(h:DataW.Trod enc Ew W 0 (λ_=>true) true 22 (.slice a0 l0 c0) d ps):
  ∃l:DS,CRep U6 W (wm0 W) (.sl .u8 l none) (.slice a0 l0 c0)/\isB l=true/\l.length<=Rows.uptoBulk d:=by
 obtain⟨fuel,hf⟩:=h;rcases open_ints Tryz.underlying22 Tryz.underlying5 D1s hf with⟨cE,hx⟩|⟨a,len,cap,zs,cE,_,hl,hm,hz,hx,aL,CC⟩
 ·simp[Ja]at cE;obtain⟨rfl,rfl,rfl⟩:=cE;exact⟨[],.nil _ _ _ _,rfl,Fw _⟩
 ·simp[Ja]at cE;obtain⟨rfl,rfl,rfl⟩:=cE;simp only[if_true]at hz;simp only[Hn]at hx;obtain⟨rfl,rfl⟩:=hx;refine⟨zs.take l0,D19 hl hz (λe=>by cases e) (λa' ha c hc=>by cases ha;exact aL c Du),Fk.2 λn hn=>?_,?_⟩
  ·have h1:=CC n (Jt hn);simp only[Lit.wf,Fj,decide_eq_true_eq]at h1;simp only[Fj,decide_eq_true_eq];exact h1
  have:=D0Y (lits (H:=H) .u8 (zs.take l0));simp only[lits,Fq]at this;simp only[Rows.uptoBulk,lits];omega
end
def D1d:U8Extra Ew Tryz.lays260_ren:={n3:=En,n4:=En,y3:=En,y4:=En,c5:=En,c119:=En,c138:=En}
theorem C6a:Rows.laid_unicode_utf8_acceptRanges=Lib.acceptData:=En
theorem D6d:Rows.laid_unicode_utf8_first=Lib.firstData:=Pinned.utf8First_eq
def laidL:List (String×DataW Unit):=[("unicode/utf8.acceptRanges",Rows.laid_unicode_utf8_acceptRanges),("unicode/utf8.first",Rows.laid_unicode_utf8_first)]
def D7A:(laidL.filter λx=>x.2.handleName?.isSome)=[]:=En
def D2m{W:World}(h:laidMetH Ew laidL W):laidMet Ew laidL W:=by
 unfold laidMetH at h;rw[D7A]at h;exact h
def C7V{W:World}(h:laidMetH Ew laidL W):Bv.IB W (wm0 W):=by
 have h1:=D2m h;have h2:=Ke h1 (n:= "unicode/utf8.acceptRanges") (d:=Rows.laid_unicode_utf8_acceptRanges) (by unfold laidL;exact Fl);have h3:=Ke h1 (n:= "unicode/utf8.first") (d:=Rows.laid_unicode_utf8_first) (by unfold laidL;exact Fs _ Fl);rw[C6a]at h2;rw[D6d]at h3;have h4:Lib.Utf8Tabs 1 2 W:=utf8Tabs_of_readsT (U8Types.of260 Tryz.lays260) D1d h3 h2;exact⟨h4,B4l (h4.1 255 Ep),B4l (h4.2 15 Ep).2⟩
def C44(c:Array Value):Obj->Obj
 | .cells _ t frozen=>.cells c t frozen
 |o=>o
def B41(W:World):World:=
 {W with heap:=(W.heap.modify 1 (C44 (Lib.firstTab.map λz=>Hz .u8 z).toArray)).modify 2 (C44 ((Fp 16).flatMap λi=>[Hz .u8 (Lib.accLo i:Int),Hz .u8 (Lib.accHi i:Int)]).toArray)}
def C6d(os:Os)(args:Array Value):laidMet Ew laidL ((B41 (World.holding Ew os ⟨#[], #[],[]⟩)).forCall (λ_ _=>0) ⟨#[],args,[]⟩).memory:=
 laidMet_of_run' 8 En En
end Go.Aev
namespace Go.Aev
def E1:DT:=[110,97,109,101]
def X3:DT:=[98,117,116,79,110]
def Q4:DT:=[111,110]
def A0N:DT:=[108,105,116]
def Y8:DT:=[101,110,100]
def A3k:DT:=[110,111,110,101]
def W2:DT:=[123]
def A2f:DT:=[125]
def A06:DT:=[40]
def A2X:DT:=[41]
def A0i:DT:=[91]
def A1O:DT:=[93]
def A0a:DT:=[36]
def A0j:DT:=[58]
def A7Y:DT:=[61]
def A7A:DT:=[33]
def A7a:DT:=[64]
def A3D:DT:=[46,46,46]
def A9D:DT:=[68,111,99,117,109,101,110,116]
def A0D:DT:=[68,101,102,115]
def W7:DT:=[68,101,102]
def A55:DT:=[79,112,116,78,97,109,101]
def A5v:DT:=[79,112,116,86,97,114,115]
def A62:DT:=[86,97,114,115]
def A4a:DT:=[86,97,114]
def B1o:DT:=[79,112,116,68,101,102,97,117,108,116]
def A2N:DT:=[84,121,112,101]
def A10:DT:=[66,97,110,103]
def L5:DT:=[83,101,116]
def A6K:DT:=[83,101,108,115]
def A19:DT:=[83,101,108]
def A3A:DT:=[65,108,105,97,115]
def A4b:DT:=[79,112,116,83,101,116]
def A5V:DT:=[82,101,115,116]
def G7:DT:=[68,105,114,115]
def Y0:DT:=[65,114,103,115]
def A2x:DT:=[77,111,114,101]
def A1M:DT:=[65,114,103]
def U1:DT:=[86,97,108,117,101]
def A27:DT:=[73,116,101,109,115]
def A3e:DT:=[70,105,101,108,100,115]
def A5q:DT:=[70,105,101,108,100]
def cs(c:Bool)(x:DT):DT:=bif c then 67::x else x
def cC(c:Bool):DT:=bif c then [67]else []
def pu(t:A0)(p:DT):Bool:=bif(t.kind==2)==true then(t.text==p)else false
def wd(t:A0)(p:DT):Bool:=bif(t.kind==3)==true then(t.text==p)else false
def rlS(l:Eb):DU:=some (.one (.sl .str l none))
section
variable {t:A0}
def A8B(t:A0)(p:DT):Z2 t p=some (.one (.bool (pu t p))):=by unfold Z2 pu;cases (t.kind==2)<;>rfl
def A9w(t:A0)(p:DT):A00 t p=some (.one (.bool (wd t p))):=by unfold A00 wd;cases (t.kind==3)<;>rfl
def Z6(t:A0)(p:DT)(x y:Eb):T9 t p x y=rlS (bif pu t p then x else y):=by unfold T9;rw[A8B];cases h:pu t p<;>rfl
def A2e{X:DT}{l:Eb}{k:Ed}(h:X5 X t=some (.tup [.sl .str l k,.bool true])):F57 X t=rlS l:=by
 unfold F57;rw[h];rfl
def A7d{X:DT}{l:Eb}{k:Ed}(h1:X5 X t=some (.tup [.sl .str [] (some 1),.bool false]))(h:A0X X t=some (.tup [.sl .str l k,.bool true])):F57 X t=rlS l:=by
 unfold F57;rw[h1,h];rfl
def A3V{X:DT}{l:Eb}{k:Ed}(c:Bool)(h1:X5 (cs c X) t=some (.tup [.sl .str [] (some 1),.bool false]))(h2:A0X (cs c X) t=some (.tup [.sl .str [] (some 1),.bool false]))(hX:∃a r,X=a::r/\((UInt8.toNat a:Int)==67)=false)
  (h:Y1 X (cC c) t=some (.one (.sl .str l k))):F57 (cs c X) t=rlS l:=by
 obtain⟨a,r,rfl,ha⟩:=hX;unfold F57;rw[h1,h2];cases c with
 |true=>
  have e1:idx (67::a::r) 0=some (67:UInt8):=rfl;have e2:sub (67::a::r) 1 (Fo (67::a::r):Int)=some (a::r):=by
   unfold sub;rw[show(decide ((0:Int)<=1)&&(decide ((1:Int)<=(Fo (67::a::r):Int))&&decide ((Fo (67::a::r):Int)<=(Fo (67::a::r):Int))))=true from Es];simp;exact Jq Es
  simp only[cs,Eg,e1,e2];rw[show Y1 (a::r) [67] t=_ from h];rfl
 |false=>
  have e1:idx (a::r) 0=some a:=rfl;simp only[cs,Eh,e1,ha];rw[show Y1 (a::r) [] t=_ from h];rfl
def B9y:F57 A9D t=rlS [W7,A0D,Y8]:=A2e (k:=some 1) En
def B8X:F57 A0D t=rlS (bif t.kind==0 then []else [W7,A0D]):=A2e (k:=some 1) (by unfold X5;cases t.kind==0<;>kernel_rfl)
def C04:F57 W7 t=rlS (bif pu t W2 then [L5]else bif wd t [113,117,101,114,121]||(wd t [109,117,116,97,116,105,111,110]||wd t [115,117,98,115,99,114,105,112,116,105,111,110])then [E1,A55,A5v,G7,L5]else bif wd t [102,114,97,103,109,101,110,116]then [E1,X3,Q4,E1,G7,L5]else [A3k]):=A2e (k:=some 1) (by
 unfold X5 W2;simp only[A8B,A9w];cases pu t [123]<;>cases wd t [113,117,101,114,121]<;>cases wd t [109,117,116,97,116,105,111,110]<;>cases wd t [115,117,98,115,99,114,105,112,116,105,111,110]<;>cases wd t [102,114,97,103,109,101,110,116]<;>kernel_rfl)
def C12:F57 A55 t=rlS (bif t.kind==3 then [E1]else []):=A2e (k:=some 1) (by unfold X5;cases t.kind==3<;>kernel_rfl)
def C05:F57 A5v t=rlS (bif pu t A06 then [A06,A4a,A62,A2X]else []):=A2e (k:=none) (by unfold X5;simp only[Z6];kernel_rfl)
def C1v:F57 A62 t=rlS (bif pu t A0a then [A4a,A62]else []):=A2e (k:=none) (by unfold X5;simp only[Z6];kernel_rfl)
def C0x:F57 B1o t=rlS (bif pu t A7Y then [A7Y,cs true U1]else []):=A2e (k:=none) (by unfold X5;simp only[Z6];kernel_rfl)
def B84:F57 A2N t=rlS (bif pu t A0i then [A0i,A2N,A1O,A10]else [E1,A10]):=A2e (k:=none) (by unfold X5;simp only[Z6];kernel_rfl)
def C4Z:F57 A10 t=rlS (bif pu t A7A then [A7A]else []):=A2e (k:=none) (by unfold X5;simp only[Z6];kernel_rfl)
def C3d:F57 A4a t=rlS [A0a,E1,A0j,A2N,B1o,cs true G7]:=A2e (k:=some 1) En
def B3T:F57 L5 t=rlS [W2,A19,A6K,A2f]:=A7d (k:=some 1) En En
def C2k:F57 A6K t=rlS (bif pu t A2f then []else [A19,A6K]):=A7d (k:=none) En (by unfold A0X;simp only[Z6];kernel_rfl)
def B9f:F57 A19 t=rlS (bif pu t A3D then [A3D,A5V]else [E1,A3A,Y0,G7,A4b]):=A7d (k:=none) En (by unfold A0X;simp only[Z6];kernel_rfl)
def C4p:F57 A3A t=rlS (bif pu t A0j then [A0j,E1]else []):=A7d (k:=none) En (by unfold A0X;simp only[Z6];kernel_rfl)
def C0o:F57 A4b t=rlS (bif pu t W2 then [L5]else []):=A7d (k:=none) En (by unfold A0X;simp only[Z6];kernel_rfl)
def C2d:F57 A5V t=rlS (bif wd t Q4 then [Q4,E1,G7,L5]else bif t.kind==3 then [X3,G7]else [G7,L5]):=A7d (k:=some 1) En (by
 unfold A0X Q4;simp only[A9w];cases wd t [111,110]<;>cases t.kind==3<;>kernel_rfl)
def B35(c:Bool):F57 (cs c G7) t=rlS (bif pu t A7a then [A7a,E1,cs c Y0,cs c G7]else []):=A3V (k:=none) c (by cases c<;>kernel_rfl) (by cases c<;>kernel_rfl) ⟨_,_,rfl,rfl⟩ (by unfold Y1;simp only[Z6];cases c<;>kernel_rfl)
def B4V(c:Bool):F57 (cs c Y0) t=rlS (bif pu t A06 then [A06,cs c A1M,cs c A2x,A2X]else []):=A3V (k:=none) c (by cases c<;>kernel_rfl) (by cases c<;>kernel_rfl) ⟨_,_,rfl,rfl⟩ (by unfold Y1;simp only[Z6];cases c<;>kernel_rfl)
def B4j(c:Bool):F57 (cs c A2x) t=rlS (bif pu t A2X then []else [cs c A1M,cs c A2x]):=A3V (k:=none) c (by cases c<;>kernel_rfl) (by cases c<;>kernel_rfl) ⟨_,_,rfl,rfl⟩ (by unfold Y1;simp only[Z6];cases c<;>kernel_rfl)
def B5u(c:Bool):F57 (cs c A27) t=rlS (bif pu t A1O then []else [cs c U1,cs c A27]):=A3V (k:=none) c (by cases c<;>kernel_rfl) (by cases c<;>kernel_rfl) ⟨_,_,rfl,rfl⟩ (by unfold Y1;simp only[Z6];cases c<;>kernel_rfl)
def B7l(c:Bool):F57 (cs c A3e) t=rlS (bif pu t A2f then []else [cs c A5q,cs c A3e]):=A3V (k:=none) c (by cases c<;>kernel_rfl) (by cases c<;>kernel_rfl) ⟨_,_,rfl,rfl⟩ (by unfold Y1;simp only[Z6];cases c<;>kernel_rfl)
def B6V(c:Bool):F57 (cs c A1M) t=rlS ([E1,A0j,cs c U1]):=A3V (k:=some 1) c (by cases c<;>kernel_rfl) (by cases c<;>kernel_rfl) ⟨_,_,rfl,rfl⟩ (by unfold Y1;cases c<;>kernel_rfl)
def B5l(c:Bool):F57 (cs c A5q) t=rlS ([E1,A0j,cs c U1]):=A3V (k:=some 1) c (by cases c<;>kernel_rfl) (by cases c<;>kernel_rfl) ⟨_,_,rfl,rfl⟩ (by unfold Y1;cases c<;>kernel_rfl)
def B3H(c:Bool):F57 (cs c U1) t=rlS (bif pu t A0a&& !c then [A0a,E1]else bif pu t A0i then [A0i,cs c A27,A1O]else bif pu t W2 then [W2,cs c A3e,A2f]else bif t.kind==3 then [E1]else [A0N]):=A3V (k:=some 1) c (by cases c<;>kernel_rfl) (by cases c<;>kernel_rfl) ⟨_,_,rfl,rfl⟩ (by
 unfold Y1 A0a A0i W2;simp only[A8B];cases c<;>cases pu t [36]<;>cases pu t [91]<;>cases pu t [123]<;>cases t.kind==3<;>kernel_rfl)
end
def Sy(N:DY)(n:Nat)(X:DT):Prop:=∃nd,N[n]?=some nd/\nd.sym=X
section
variable {T:DZ}{D:Int}{N N':DY}{st:DX}{i n:Nat}{o:Int}{f:Nat}
def B2e{N:DY}{n m:Nat}{nd:A1}(h:m≠n):(N.set n nd)[m]?=N[m]? :=by rw[Gy];rw[Ek (λe=>h e.symm)]
def A4l{N:DY}{m:Nat}{nd:A1}(h:N[m]?=some nd):m<N.length:=(Gf.1 h).1
def A7V{N:DY}{n m:Nat}{nd x:A1}{r:Eb}(h:N[m]?=some x):(A0x N n nd r)[m]?=some (if m=n then{nd with kids:=(Fp r.length).map λi=>((N.length+i:Nat):Int)}else x):=by
 have hl:=A4l h;unfold A0x;rw[Gz (by simpa using hl),Gy];by_cases e:m=n
 ·subst e;rw[El rfl,El rfl,El hl]
 ·rw[Ek (λh=>e h.symm),Ek e,h]
def B3w{N:DY}{n j:Nat}{nd:A1}{r:Eb}{X:DT}(h:r[j]?=some X):(A0x N n nd r)[N.length+j]?=some ⟨X,[],0⟩:=by
 unfold A0x;rw[Ir Eo,Gm,Nat.add_sub_cancel_left,Fu,h];rfl
def A5I:∀(f:Nat)(N:DY)(st:DX)(i:Nat)(o:Int),L1 T D f N st i o=some (⟨N',T⟩,0,0)->
  (∀(n:Nat)(nd:A1),n∉st->N[n]?=some nd->N'[n]?=some nd)/\∀(n:Nat)(nd:A1),N[n]?=some nd->∃ov,N'[n]?=some ov/\ov.sym=nd.sym
 |0,_,_,_,_,h=>by cases h
 |f+1,N,[],i,o,h=>by
  unfold L1 at h;cases h;exact⟨λ_ _ _ h=>h,λ_ nd h=>⟨nd,h,rfl⟩⟩
 |f+1,N,n::aw,i,o,h=>by
  unfold L1 at h;have ut:∀{i':Nat}{o':Int}{nd:A1},N[n]?=some nd->L1 T D f (setTok N n nd i) aw i' o'=some (⟨N',T⟩,0,0)->(∀(m:Nat)(x:A1),m∉n::aw->N[m]?=some x->N'[m]?=some x)/\∀(m:Nat)(x:A1),N[m]?=some x->∃x',N'[m]?=some x'/\x'.sym=x.sym:=λ{i' o' nd} hn h=>by
   obtain⟨h1,h2⟩:=A5I f _ _ _ _ h;refine⟨λm x hm hx=>h1 m x (λe=>hm (Fs _ e)) ?_,λm x hx=>?_⟩
   ·unfold setTok;rw[B2e (λe=>hm (by rw[e];exact Fl))];exact hx
   ·by_cases e:m=n
    ·subst e;rw[hn]at hx;cases hx;obtain⟨x',e1,e2⟩:=h2 m {nd with tok:=(i:Int)} (by unfold setTok;rw[Gy,El rfl,El (A4l hn)]);exact⟨x',e1,e2⟩
    ·exact h2 m x (by unfold setTok;rw[B2e e];exact hx)
  split at h
  ·cases h
  ·rename_i nd hn;split at h
   ·cases h
   ·rename_i t ht;obtain⟨_,h⟩:=A8 h;cases hT:lB (gL (F56 nd.sym) 0)with
    |true=>
     rw[hT]at h;obtain⟨_,h⟩:=A8 h;cases hM:lB (gL (F58 nd.sym t) 0)with
     |false=>rw[hM]at h;cases h
     |true=>
      rw[hM]at h;simp only[Eg]at h;cases hO:O9 nd.sym with
      |true=>
       rw[hO]at h;cases hd:decide (D<Fc .i64 (o+1))with
       |true=>rw[hd]at h;cases h
       |false=>rw[hd]at h;exact ut hn h
      |false=>rw[hO]at h;exact ut hn h
    |false=>
     rw[hT]at h;simp only[Eh]at h;split at h
     ·obtain⟨_,h⟩:=A8 h;obtain⟨_,h⟩:=A8 h;obtain⟨h1,h2⟩:=A5I f _ _ _ _ h;refine⟨λm x hm hx=>?_,λm x hx=>?_⟩
      ·have CD:m≠n:=λe=>hm (by rw[e];exact Fl);refine h1 m x (λe=>?_) (by rw[A7V hx,Ek CD]);rcases Ge.1 e with e|e
       ·obtain⟨k,_,rfl⟩:=Gr.1 e;have:=A4l hx;omega
       ·exact hm (Fs _ e)
      ·obtain⟨x',e1,e2⟩:=h2 m _ (A7V (n:=n) (nd:=nd) (r:=I2 (gL (F57 nd.sym t) 0)) hx);refine⟨x',e1,e2.trans ?_⟩;by_cases e:m=n
       ·subst e;rw[El rfl];rw[hn]at hx;cases hx;rfl
       ·rw[Ek e]
     ·cases h
def Ad(T:DZ)(D:Int)(N':DY)(st:DX)(i:Nat)(o:Int):Prop:=
 i<=T.length/\∃f N,L1 T D f N st i o=some (⟨N',T⟩,0,0)/\st.Nodup/\∀n∈st,∃nd,N[n]?=some nd/\nd.kids=[]
def Ad.le(h:Ad T D N' st i o):i<=T.length:=h.1
def Ad.lt(h:Ad T D N' (n::st) i o):i<T.length:=by
 obtain⟨_,f,N,h,_,hk⟩:=h
 match f with
 |0=>cases h
 |f+1=>
  unfold L1 at h;split at h
  ·cases h
  ·split at h
   ·cases h
   ·rename_i t ht;exact(Gf.1 ht).1
def Kd(N:DY)(n:Nat)(ks:DS):Prop:=∃nd,N[n]?=some nd/\nd.kids=ks
def Tk(N:DY)(n i:Nat):Prop:=∃nd,N[n]?=some nd/\nd.tok=(i:Int)
def mt(X:DT)(t:A0):Bool:=lB (gL (F58 X t) 0)
def br(X:DT):Int:=bif O9 X then 1 else bif A04 X then -1 else 0
def Sy.eq{X:DT}{nd:A1}(h:Sy N n X)(hn:N[n]?=some nd):nd.sym=X:=by
 obtain⟨x,h1,h2⟩:=h;rw[hn]at h1;cases h1;exact h2
def kI(b:Nat)(l:Eb):DS:=(Fp l.length).map λj=>((b+j:Nat):Int)
def kN_(b:Nat)(l:Eb):DX:=(Fp l.length).map λj=>b+j
def B9A{l:Eb}{k:Nat}(fD:(n::st).Nodup)(h:∀m∈n::st,m<k):(kN_ k l++st).Nodup:=by
 refine List.nodup_append.2 ⟨?_,(Gw.1 fD).2,λa ha b hb e=>?_⟩
 ·show((Fp l.length).map λj=>k+j).Pairwise (· ≠ ·);rw[List.pairwise_map];exact Km (λh e=>h Du) List.nodup_range
 ·obtain⟨j,_,e'⟩:=Gr.1 ha;have:=h b (Fs _ hb);omega
def Ad.rule{X:DT}{l:A0->Eb}(hX:∀t,F57 X t=rlS (l t))(hT:F56 X=some (.one (.bool false)))(h:Ad T D N' (n::st) i o)(hs:Sy N' n X):
  ∃t b,T[i]?=some t/\Kd N' n (kI b (l t))/\(∀(j:Nat) Y,(l t)[j]?=some Y->Sy N' (b+j) Y)/\Ad T D N' (kN_ b (l t)++st) i o:=by
 obtain⟨_,f,N,h,fD,hk⟩:=h;obtain⟨nd,hn,zS⟩:=hk n Fl;have pF:nd.sym=X:=by
  obtain⟨x,h1,h2⟩:=(A5I f _ _ _ _ h).2 n nd hn;rw[<-h2];exact hs.eq h1
 match f with
 |0=>cases h
 |f+1=>
  unfold L1 at h;rw[hn]at h
  match ht:T[i]? with
  |none=>rw[ht]at h;cases h
  |some t=>
   rw[ht]at h;simp only[pF,hT,zS,hX]at h;obtain⟨_,h⟩:=A8 h;simp only[show lB (gL (some (.one (.bool false)):DU) 0)=false from rfl,Eh]at h;obtain⟨_,h⟩:=A8 h;have e:I2 (gL (rlS (l t)) 0)=l t:=rfl;rw[e]at h;obtain⟨_,h⟩:=A8 h;obtain⟨k1,k2⟩:=A5I f _ _ _ _ h;have aH:=A4l hn;have fQ:n∉st:=(Gw.1 fD).1;refine⟨t,N.length,rfl,⟨_,k1 n _ (λe=>?_) (A7V hn),by rw[El rfl];rfl⟩,λj Y hj=>?_,Jn (Gf.1 ht).1,f,_,h,?_,λm hm=>?_⟩
   ·rcases Ge.1 e with e|e
    ·obtain⟨k,_,e⟩:=Gr.1 e;omega
    ·exact fQ e
   ·obtain⟨x,e1,e2⟩:=k2 _ _ (B3w (N:=N) (n:=n) (nd:=nd) hj);exact⟨x,e1,e2⟩
   ·exact B9A fD λb hb=>by
     obtain⟨x,hx,_⟩:=hk b hb;exact A4l hx
   ·rcases Ge.1 hm with hm|hm
    ·obtain⟨k,eJ,rfl⟩:=Gr.1 hm;have CE:=List.mem_range.1 eJ;exact⟨_,B3w (N:=N) (n:=n) (nd:=nd) (Fi CE),rfl⟩
    ·obtain⟨x,hx,eb⟩:=hk m (Fs _ hm);exact⟨_,A7V hx,by rw[Ek (λe=>fQ (by rw[<-e];exact hm))];exact eb⟩
def Ad.term{X:DT}(hT:F56 X=some (.one (.bool true)))(h:Ad T D N' (n::st) i o)(hs:Sy N' n X)(o0:0<=o)(o1:o<=1000):
  ∃t,T[i]?=some t/\mt X t=true/\Tk N' n i/\(O9 X=true->o+1<=D)/\Ad T D N' st (bif A4c X then i else i+1) (o+br X):=by
 obtain⟨_,f,N,h,fD,hk⟩:=h;obtain⟨nd,hn,zS⟩:=hk n Fl;have pF:nd.sym=X:=by
  obtain⟨x,h1,h2⟩:=(A5I f _ _ _ _ h).2 n nd hn;rw[<-h2];exact hs.eq h1
 match f with
 |0=>cases h
 |f+1=>
  unfold L1 at h;rw[hn]at h
  match ht:T[i]? with
  |none=>rw[ht]at h;cases h
  |some t=>
   rw[ht]at h;simp only[pF,hT]at h;obtain⟨_,h⟩:=A8 h;simp only[show lB (gL (some (.one (.bool true)):DU) 0)=true from rfl,Eg]at h;obtain⟨_,h⟩:=A8 h;have fQ:n∉st:=(Gw.1 fD).1;have aH:=(Gf.1 ht).1;have bU:∀{i':Nat}{o':Int},L1 T D f (setTok N n nd i) st i' o'=some (⟨N',T⟩,0,0)->i'<=T.length->Tk N' n i/\Ad T D N' st i' o':=λh ur=>by
    obtain⟨k1,k2⟩:=A5I f _ _ _ _ h;refine⟨⟨_,k1 n {nd with tok:=(i:Int)} fQ (by unfold setTok;rw[Gy,El rfl,El (A4l hn)]),rfl⟩,ur,f,_,h,(Gw.1 fD).2,λm hm=>?_⟩;obtain⟨x,hx,eb⟩:=hk m (Fs _ hm);exact⟨x,by unfold setTok;rw[B2e (λe=>fQ (by rw[<-e];exact hm))];exact hx,eb⟩
   cases hM:lB (gL (F58 X t) 0)with
   |false=>rw[hM]at h;cases h
   |true=>
    rw[hM]at h;simp only[Eg]at h;have w1:Fc .i64 (o+1)=o+1:=A5g Du Du;have w2:Fc .i64 (o - 1)=o+ -1:=by rw[A5g Du Du];omega
    cases hO:O9 X with
    |true=>
     rw[hO,w1]at h;simp only[Eg]at h;cases hd:decide (D<o+1)with
     |true=>rw[hd]at h;cases h
     |false=>
      rw[hd]at h;obtain⟨q1,q2⟩:=bU h (by cases A4c X<;>simp<;>omega);have:=of_decide_eq_false hd;refine⟨t,rfl,hM,q1,λ_=>Du,?_⟩;unfold br;rw[hO];exact q2
    |false=>
     rw[hO,w2]at h;simp only[Eh]at h;obtain⟨q1,q2⟩:=bU h (by cases A4c X<;>simp<;>omega);refine⟨t,rfl,hM,q1,λh=>(by cases h),?_⟩;unfold br;rw[hO,Eh];cases hc:A04 X with
     |true=>rw[hc]at q2;exact q2
     |false=>rw[hc]at q2;rw[Eh,Gk];exact q2
end
def NS:List (DT×List Eb):=[(A0D,[[],[W7,A0D]]),(W7,[[L5],[E1,A55,A5v,G7,L5],[E1,X3,Q4,E1,G7,L5],[A3k]]),(A55,[[E1],[]]),(A5v,[[A06,A4a,A62,A2X],[]]),(A62,[[A4a,A62],[]]),(A4a,[[A0a,E1,A0j,A2N,B1o,cs true G7]]),(B1o,[[A7Y,cs true U1],[]]),(A2N,[[A0i,A2N,A1O,A10],[E1,A10]]),(A10,[[A7A],[]]),(L5,[[W2,A19,A6K,A2f]]),(A6K,[[],[A19,A6K]]),(A19,[[A3D,A5V],[E1,A3A,Y0,G7,A4b]]),(A3A,[[A0j,E1],[]]),(A4b,[[L5],[]]),(A5V,[[Q4,E1,G7,L5],[X3,G7],[G7,L5]]),(cs false G7,[[A7a,E1,cs false Y0,cs false G7],[]]),(cs false Y0,[[A06,cs false A1M,cs false A2x,A2X],[]]),(cs false A2x,[[],[cs false A1M,cs false A2x]]),(cs false A27,[[],[cs false U1,cs false A27]]),(cs false A3e,[[],[cs false A5q,cs false A3e]]),(cs false A1M,[[E1,A0j,cs false U1]]),(cs false A5q,[[E1,A0j,cs false U1]]),(cs false U1,[[A0a,E1],[A0i,cs false A27,A1O],[W2,cs false A3e,A2f],[E1],[A0N]]),(cs true G7,[[A7a,E1,cs true Y0,cs true G7],[]]),(cs true Y0,[[A06,cs true A1M,cs true A2x,A2X],[]]),(cs true A2x,[[],[cs true A1M,cs true A2x]]),(cs true A27,[[],[cs true U1,cs true A27]]),(cs true A3e,[[],[cs true A5q,cs true A3e]]),(cs true A1M,[[E1,A0j,cs true U1]]),(cs true A5q,[[E1,A0j,cs true U1]]),(cs true U1,[[A0a,E1],[A0i,cs true A27,A1O],[W2,cs true A3e,A2f],[E1],[A0N]])]
def TS:Eb:=[E1,X3,Q4,A0N,A3k,W2,A2f,A06,A2X,A0i,A1O,A0a,A0j,A7Y,A7A,A7a,A3D]
def NOk(p:DT×List Eb):Prop:=F56 p.1=some (.one (.bool false))/\∀t,∃l,F57 p.1 t=rlS l/\l∈p.2
def J5{α:Type}{b:Bool}{x y:α}{A:List α}(hx:x∈A)(hy:y∈A):(bif b then x else y)∈A:=by cases b<;>assumption
def C3N:∀p∈NS,NOk p:=by
 unfold NS;simp only[Jy];exact⟨⟨En,λt=>⟨_,B8X,(J5 (.head _) (.tail _ (.head _)))⟩⟩,⟨En,λt=>⟨_,C04,(J5 (.head _) (J5 (.tail _ (.head _)) (J5 (.tail _ (.tail _ (.head _))) (.tail _ (.tail _ (.tail _ (.head _)))))))⟩⟩,⟨En,λt=>⟨_,C12,(J5 (.head _) (.tail _ (.head _)))⟩⟩,⟨En,λt=>⟨_,C05,(J5 (.head _) (.tail _ (.head _)))⟩⟩,⟨En,λt=>⟨_,C1v,(J5 (.head _) (.tail _ (.head _)))⟩⟩,⟨En,λt=>⟨_,C3d,(.head _)⟩⟩,⟨En,λt=>⟨_,C0x,(J5 (.head _) (.tail _ (.head _)))⟩⟩,⟨En,λt=>⟨_,B84,(J5 (.head _) (.tail _ (.head _)))⟩⟩,⟨En,λt=>⟨_,C4Z,(J5 (.head _) (.tail _ (.head _)))⟩⟩,⟨En,λt=>⟨_,B3T,(.head _)⟩⟩,⟨En,λt=>⟨_,C2k,(J5 (.head _) (.tail _ (.head _)))⟩⟩,⟨En,λt=>⟨_,B9f,(J5 (.head _) (.tail _ (.head _)))⟩⟩,⟨En,λt=>⟨_,C4p,(J5 (.head _) (.tail _ (.head _)))⟩⟩,⟨En,λt=>⟨_,C0o,(J5 (.head _) (.tail _ (.head _)))⟩⟩,⟨En,λt=>⟨_,C2d,(J5 (.head _) (J5 (.tail _ (.head _)) (.tail _ (.tail _ (.head _)))))⟩⟩,⟨En,λt=>⟨_,(B35 false),(J5 (.head _) (.tail _ (.head _)))⟩⟩,⟨En,λt=>⟨_,(B4V false),(J5 (.head _) (.tail _ (.head _)))⟩⟩,⟨En,λt=>⟨_,(B4j false),(J5 (.head _) (.tail _ (.head _)))⟩⟩,⟨En,λt=>⟨_,(B5u false),(J5 (.head _) (.tail _ (.head _)))⟩⟩,⟨En,λt=>⟨_,(B7l false),(J5 (.head _) (.tail _ (.head _)))⟩⟩,⟨En,λt=>⟨_,(B6V false),(.head _)⟩⟩,⟨En,λt=>⟨_,(B5l false),(.head _)⟩⟩,⟨En,λt=>⟨_,(B3H false),(J5 (.head _) (J5 (.tail _ (.head _)) (J5 (.tail _ (.tail _ (.head _))) (J5 (.tail _ (.tail _ (.tail _ (.head _)))) (.tail _ (.tail _ (.tail _ (.tail _ (.head _)))))))))⟩⟩,⟨En,λt=>⟨_,(B35 true),(J5 (.head _) (.tail _ (.head _)))⟩⟩,⟨En,λt=>⟨_,(B4V true),(J5 (.head _) (.tail _ (.head _)))⟩⟩,⟨En,λt=>⟨_,(B4j true),(J5 (.head _) (.tail _ (.head _)))⟩⟩,⟨En,λt=>⟨_,(B5u true),(J5 (.head _) (.tail _ (.head _)))⟩⟩,⟨En,λt=>⟨_,(B7l true),(J5 (.head _) (.tail _ (.head _)))⟩⟩,⟨En,λt=>⟨_,(B6V true),(.head _)⟩⟩,⟨En,λt=>⟨_,(B5l true),(.head _)⟩⟩,⟨En,λt=>⟨_,(B3H true),(J5 (.head _) (J5 (.tail _ (.head _)) (J5 (.tail _ (.tail _ (.head _))) (J5 (.tail _ (.tail _ (.tail _ (.head _)))) (.tail _ (.tail _ (.tail _ (.tail _ (.head _)))))))))⟩⟩,λ_ h=>by cases h⟩
def B1i(X:DT):Bool:=match F56 X with
 |some (.one (.bool b))=>b
 |_=>false
def B7d:∀X∈TS,F56 X=some (.one (.bool true))/\A4c X=false/\X≠[]:=by
 unfold TS;simp only[Jy];exact⟨⟨En,En,λh=>by cases h⟩,⟨En,En,λh=>by cases h⟩,⟨En,En,λh=>by cases h⟩,⟨En,En,λh=>by cases h⟩,⟨En,En,λh=>by cases h⟩,⟨En,En,λh=>by cases h⟩,⟨En,En,λh=>by cases h⟩,⟨En,En,λh=>by cases h⟩,⟨En,En,λh=>by cases h⟩,⟨En,En,λh=>by cases h⟩,⟨En,En,λh=>by cases h⟩,⟨En,En,λh=>by cases h⟩,⟨En,En,λh=>by cases h⟩,⟨En,En,λh=>by cases h⟩,⟨En,En,λh=>by cases h⟩,⟨En,En,λh=>by cases h⟩,⟨En,En,λh=>by cases h⟩,λ_ h=>by cases h⟩
section
variable {t:A0}{X:DT}
def D6c:mt E1 t=(t.kind==3):=En
def B8l:mt A3k t=false:=En
def D1C:mt Q4 t=wd t Q4:=by unfold mt F58;simp only[A9w];kernel_rfl
def D7W:mt X3 t=bif t.kind==3 then !(t.text==Q4)else false:=by
 unfold mt F58;show lB (gL (bif(t.kind==3)==true then _ else _) 0)=_;cases t.kind==3<;>rfl
def C4L(h:mt A0N t=true):4<=t.kind/\t.kind<=7:=by
 have e:mt A0N t=lB (gL (A3i t) 0):=by
  unfold mt F58;show lB (gL (gd (okR [.bool] (A3i t)) _) 0)=_;unfold A3i;cases t.kind==4<;>cases t.kind==5<;>cases t.kind==6<;>rfl
 rw[e]at h;unfold A3i at h;cases h4:t.kind==4 with
 |true=>
     have:t.kind=4:=by simpa using h4
     omega
 |false=>
  cases h5:t.kind==5 with
  |true=>
      have:t.kind=5:=by simpa using h5
      omega
  |false=>
   cases h6:t.kind==6 with
   |true=>
       have:t.kind=6:=by simpa using h6
       omega
   |false=>
    rw[h4,h5,h6]at h;have h:(t.kind==7)=true:=h;have:t.kind=7:=by simpa using h
    omega
def B12{p:DT}(h:pu t p=true):t.kind=2/\t.text=p:=by
 unfold pu at h;cases hk:t.kind==2 with
 |false=>rw[hk]at h;cases h
 |true=>rw[hk]at h;exact⟨by simpa using hk,by simpa using h⟩
def B55{p:DT}(h:wd t p=true):t.kind=3/\t.text=p:=by
 unfold wd at h;cases hk:t.kind==3 with
 |false=>rw[hk]at h;cases h
 |true=>rw[hk]at h;exact⟨by simpa using hk,by simpa using h⟩
def C4g(X:DT)(t:A0):∃b,F58 X t=some (.one (.bool b)):=by
 let P:DU->Prop:=λo=>∃b,o=some (.one (.bool b))
 have c:∀{b:Bool}{x y:DU},P x->P y->P (bif b then x else y):=λ{b x y} h1 h2=>by cases b<;>assumption
 show P (F58 X t);unfold F58;simp only[A8B,A9w];refine c ⟨_,rfl⟩ (c (c ⟨_,rfl⟩ ⟨_,rfl⟩) (c ⟨_,rfl⟩ (c ?_ (c ⟨_,rfl⟩ (c ⟨_,rfl⟩ ⟨_,rfl⟩)))));unfold A3i;cases t.kind==4<;>cases t.kind==5<;>cases t.kind==6<;>exact⟨_,rfl⟩
def B5n(X:DT):Bool:= !([E1,X3,Q4,A0N,Y8,A3k].contains X)
def B5p(h:B5n X=true):mt X t=pu t X:=by
 have n:∀y,[E1,X3,Q4,A0N,Y8,A3k].contains y=true->(X==y)=false:=λy hy=>by
  cases e:X==y with
  |false=>rfl
  |true=>
   have:X=y:=by simpa using e
   subst this;unfold B5n at h;rw[hy]at h;cases h
 have a1:(X==[110,97,109,101])=false:=n E1 En;have a2:(X==[98,117,116,79,110])=false:=n X3 En;have a3:(X==[111,110])=false:=n Q4 En;have a4:(X==[108,105,116])=false:=n A0N En;have a5:(X==[101,110,100])=false:=n Y8 En;have a6:(X==[110,111,110,101])=false:=n A3k En;unfold mt F58;simp only[a1,a2,a3,a4,a5,a6,Eh,A8B];rfl
def B8m(hX:X∈TS)(h:mt X t=true):2<=t.kind:=by
 have bE:TS.all (λX=>B5n X||[E1,X3,Q4,A0N,A3k].contains X)=true:=En
 have:=Fk.1 bE X hX;rw[Gn]at this;rcases this with h1|h1
 ·rw[B5p h1]at h;have:=(B12 h).1;omega
 ·have h1:X∈[E1,X3,Q4,A0N,A3k]:=by simpa using h1
  simp only[Fm,Gq,or_false]at h1;rcases h1 with rfl|rfl|rfl|rfl|rfl
  ·rw[D6c]at h;have:t.kind=3:=by simpa using h
   omega
  ·rw[D7W]at h;cases hk:t.kind==3 with
   |false=>rw[hk]at h;cases h
   |true=>
    have:t.kind=3:=by simpa using hk
    omega
  ·rw[D1C]at h;have:=(B55 h).1;omega
  ·have:=C4L h;omega
  ·rw[B8l]at h;cases h
def nul(X:DT):Bool:=NS.any λp=>p.1==X&&p.2.any List.isEmpty
def rkd:Nat->DT->Nat
 |0,_=>0
 |d+1,X=>NS.foldl (λm p=>bif p.1==X then p.2.foldl (λm c=>match c with
  |[]=>If m 1
  |Y::r=>If m (If (rkd d Y+1) (bif nul Y then(match r with|Z::_=>rkd d Z+1|[]=>0)else 0))) m else m) 0
def rk(X:DT):Nat:=rkd 8 X
def inS(X:DT):Bool:=NS.any (λp=>p.1==X)||TS.contains X
def B4k:(NS.all λp=>Fz (rk p.1) 10&&p.2.all λc=>c.all inS&&(Nat.ble c.length 6&&(match c with
 |[]=>true
 |Y::r=>Fz (rk Y) (rk p.1)&&(!nul Y||(match r with|Z::_=>Fz (rk Z) (rk p.1)&& !nul Z|[]=>false)))))=true:=En
def D64:(TS.all λX=>Gl (rk X) 0)=true:=En
def B3E(h:inS X=true):(∃p∈NS,p.1=X)\/X∈TS:=by
 unfold inS at h;rw[Gn]at h;rcases h with h|h
 ·obtain⟨p,h1,h2⟩:=Ha.1 h;exact .inl ⟨p,h1,by simpa using h2⟩
 ·exact .inr (by simpa using h)
def D6g(h:inS X=true):rk X<10:=by
 rcases B3E h with⟨p,h1,rfl⟩|h
 ·have:=Fk.1 B4k p h1;rw[Fj,Ij]at this;exact this.1
 ·have:=Nat.eq_of_beq_eq_true (Fk.1 D64 X h);omega
def nz(t:A0)(X:DT):Bool:= !B1i X&&(I2 (gL (F57 X t) 0)).isEmpty
def hh(t:A0):Eb->Nat
 |[]=>0
 |X::r=>bif nz t X then hh t r else 1000*rk X
def B08:∀(l:Eb),(∀X∈l,inS X=true)->hh t l<=9000
 |[],_=>Fw _
 |X::r,h=>by
  have h1:=D6g (h X Fl);have h2:=B08 r λY hY=>h Y (Fs _ hY);unfold hh;cases nz t X
  ·show 1000*rk X<=9000;omega
  ·exact h2
def nzF(h:inS X=true)(hn:nul X=false):nz t X=false:=by
 rcases B3E h with⟨p,h1,rfl⟩|h
 ·obtain⟨_,h2⟩:=C3N p h1;obtain⟨l,e,hl⟩:=h2 t;unfold nz;rw[e];cases hi:(I2 (gL (rlS l) 0)).isEmpty with
  |false=>rw[Bool.and_false]
  |true=>
   have hi:l.isEmpty=true:=hi;have:nul p.1=true:=by
    unfold nul;exact Ha.2 ⟨p,h1,by rw[Fj];exact⟨Eo,Ha.2 ⟨l,hl,hi⟩⟩⟩
   rw[hn]at this;cases this
 ·unfold nz B1i;rw[(B7d X h).1];rfl
def C8N{p:DT×List Eb}(hp:p∈NS){c:Eb}(hc:c∈p.2)(h0:c≠[])(r:Eb):hh t (c++r)+1000<=1000*rk p.1:=by
 have h1:=Fk.1 B4k p hp;rw[Fj]at h1;have h2:=Fk.1 h1.2 c hc;rw[Fj,Fj]at h2;obtain⟨h3,_,h4⟩:=h2
 match c,h0,h3,h4 with
 |Y::q,_,h3,h4=>
  simp only[Fj,Gn,Ij]at h4;obtain⟨h5,h6⟩:=h4;rw[Hl];unfold hh;cases hY:nz t Y with
  |false=>show 1000*rk Y+1000<=_;omega
  |true=>
   show hh t (q++r)+1000<=_;rcases h6 with h6|h6
   ·rw[nzF (Fk.1 h3 Y Fl) (by simpa using h6)]at hY;cases hY
   ·match q,h6,h3 with
    |[],h6,_=>cases h6
    |Z::q,h6,h3=>
     rw[Fj]at h6;obtain⟨h7,h8⟩:=h6;rw[Hl];unfold hh;rw[nzF (Fk.1 h3 Z (Fs _ Fl)) (by simpa using h8)];show 1000*rk Z+1000<=_;rw[Ij]at h7;omega
end
section
variable {T:DZ}{D:Int}
def Rs(N:DY):DX->Eb->Prop
 |[],[]=>True
 |n::r,X::s=>(∃nd,N[n]?=some nd/\nd.sym=X/\nd.kids=[])/\Rs N r s
 |_,_=>False
def Rs.len{N:DY}:∀{st:DX}{l:Eb},Rs N st l->st.length=l.length
 |[],[],_=>rfl
 |_::_,_::_,h=>by rw[Ez,Ez,Rs.len h.2]
def Rs.lt{N:DY}:∀{st:DX}{l:Eb},Rs N st l->∀m∈st,m<N.length
 |[],[],_,_,h=>by cases h
 |n::_,_::_,h,m,hm=>by
  rcases Fm.1 hm with rfl|hm
  ·obtain⟨⟨nd,h1,_⟩,_⟩:=h;exact A4l h1
  ·exact Rs.lt h.2 m hm
def Rs.mono{N N':DY}:∀{st:DX}{l:Eb},Rs N st l->(∀m∈st,∀nd,N[m]?=some nd->∃ov,N'[m]?=some ov/\ov.sym=nd.sym/\ov.kids=nd.kids)->Rs N' st l
 |[],[],_,_=>trivial
 |n::r,X::s,h,hm=>by
  obtain⟨⟨nd,h1,h2,h3⟩,h4⟩:=h;obtain⟨ov,e1,e2,e3⟩:=hm n Fl nd h1;exact⟨⟨ov,e1,e2.trans h2,e3.trans h3⟩,Rs.mono h4 λm pW=>hm m (Fs _ pW)⟩
def Rs.new{N:DY}{st:DX}{l:Eb}(h:Rs N st l){k:Nat}:∀{c:Eb}{ks:DX},ks.length=c.length->(∀(j:Nat) n X,ks[j]?=some n->c[j]?=some X->∃nd,N[n]?=some nd/\nd.sym=X/\nd.kids=[])->Rs N (ks++st) (c++l)
 |[],[],_,_=>h
 |X::c,n::ks,hl,hk=>⟨hk 0 n X rfl rfl,Rs.new h (k:=k) (by simpa using hl) λj n X h1 h2=>hk (j+1) n X (by simpa using h1) (by simpa using h2)⟩
def Oks(T:DZ)(r:Option (A1B×Nat×Int)):Prop:=(∃N',r=some (⟨N',T⟩,0,0))\/∃j k,r=some (⟨[],[]⟩,j,k)/\k≠0/\j<T.length
def B31(tw:TW T):∀(n:Nat)(N:DY)(st:DX)(l:Eb)(i:Nat)(o:Int)(t:A0),(∀s∈l,inS s=true)->Rs N st (l++[Y8])->st.Nodup->T[i]?=some t->20000*(T.length - i)+100*l.length+hh t l<n->
  N.length+(20000*(T.length - i)+100*l.length+hh t l)<=30000000000->Oks T (L1 T D (n+3) N st i o)
 |0,_,_,_,_,_,_,_,_,_,_,h,_=>Du
 |n+1,N,[],[],i,o,t,_,hR,_,_,_,_=>hR.elim
 |n+1,N,[],_::_,i,o,t,_,hR,_,_,_,_=>hR.elim
 |n+1,N,m::st,l,i,o,t,hl,hR,fD,ht,hn,hb=>by
  have jz:i<T.length:=(Gf.1 ht).1;have jO:∀k:Int,k≠0->Oks T (some (⟨[],[]⟩,i,k)):=λk hk=>.inr ⟨i,k,rfl,hk,jz⟩;have fQ:m∉st:=(Gw.1 fD).1;have xh:=(Gw.1 fD).2;show Oks T (L1 T D (n+3+1) N (m::st) i o);unfold L1
  match l,hl,hR,hn,hb with
  |[],_,hR,_,_=>
   obtain⟨⟨nd,h1,h2,h3⟩,h4⟩:=hR
   match st,h4 with
   |[],_=>
    obtain⟨b,e⟩:=C4g Y8 t;have e0:F56 Y8=some (.one (.bool true)):=En
    simp only[h1,ht,h2,e0,e,show O9 Y8=false from En,Eh];cases b
    ·exact jO 70 Ep
    ·exact .inl ⟨_,rfl⟩
  |X::l,hl,hR,hn,hb=>
   obtain⟨⟨nd,h1,h2,h3⟩,h4⟩:=hR;have hX:=hl X Fl;have jC:∀s∈l,inS s=true:=λs hs=>hl s (Fs _ hs);have xi:=A4l h1;rw[Ez]at hn hb;have h9:=B08 (t:=t) l jC;simp only[h1,ht,h2];rcases B3E hX with⟨p,hp,rfl⟩|hT
   ·obtain⟨e0,h5⟩:=C3N p hp;obtain⟨c,e,hc⟩:=h5 t;have hk:=Fk.1 B4k p hp;rw[Fj]at hk;have de:=Fk.1 hk.2 c hc;rw[Fj,Fj]at de;obtain⟨q1,q2,_⟩:=de;have q2:=Nat.le_of_ble_eq_true q2;have sl:st.length=(l++[Y8]).length:=h4.len;rw[Ey,Ga]at sl;have hs:A0o (N.length+(st.length+c.length))=true:=by unfold A0o;rw[Nat.ble_eq];omega
    simp only[e0,h3,e,show lB (gL (some (.one (.bool false)):DU) 0)=false from rfl,Eh,show I2 (gL (rlS c) 0)=c from rfl,hs,Eg];have xj:(A0x N m nd c).length=N.length+c.length:=by unfold A0x;simp
    have bZ:hh t (c++l)+101*c.length<hh t (p.1::l)+100:=by
     cases c with
     |nil=>
      have:nz t p.1=true:=by unfold nz B1i;rw[e0,e];rfl
      show hh t l+0<(bif nz t p.1 then hh t l else 1000*rk p.1)+100;rw[this];show hh t l+0<hh t l+100;omega
     |cons Y q=>
      have:nz t p.1=false:=by unfold nz B1i;rw[e0,e];rfl
      have hf:=C8N (t:=t) hp hc Eo l;show _<(bif nz t p.1 then hh t l else 1000*rk p.1)+100;rw[this];show _<1000*rk p.1+100;rw[Ez]at q2 ⊢;omega
    refine B31 tw n (A0x N m nd c) (kN_ N.length c++st) (c++l) i o t (λs hs=>(Ge.1 hs).elim (Fk.1 q1 s) (jC s)) ?_ (B9A fD λx hx=>?_) ht ?_ ?_
    ·rw[Fb];refine Rs.new (k:=0) (h4.mono λx hx y hy=>⟨_,A7V hy,by rw[Ek (λe=>fQ (by rw[<-e];exact hx))],by rw[Ek (λe=>fQ (by rw[<-e];exact hx))]⟩) (by unfold kN_;simp) λj x Y ly mw=>?_;unfold kN_ at ly;rw[Fu,Gt (I0 mw)]at ly;cases ly;exact⟨_,B3w mw,rfl,rfl⟩
    ·rcases Fm.1 hx with rfl|hx
     ·exact xi
     ·exact h4.lt x hx
    ·rw[Ey];omega
    ·rw[Ey,xj];omega
   ·obtain⟨e0,e1,_⟩:=B7d X hT;obtain⟨b,e⟩:=C4g X t;simp only[e0,e,e1,show lB (gL (some (.one (.bool true)):DU) 0)=true from rfl,Eg,Eh];cases b with
    |false=>exact jO 70 Ep
    |true=>
     have CF:=B8m (t:=t) hT (by unfold mt;rw[e];rfl);have aH:=tw.lst i t ht CF;have nx:∀o',Oks T (L1 T D (n+3) (setTok N m nd i) st (i+1) o'):=λo'=>by
      have fY:=B08 (t:=T[i+1]) l jC;refine B31 tw n _ st l (i+1) o' T[i+1] jC (h4.mono λx hx y hy=>?_) xh (Fi aH) Du (by unfold setTok;rw[Gm];omega);exact⟨y,by unfold setTok;rw[B2e (λe=>fQ (by rw[<-e];exact hx))];exact hy,rfl,rfl⟩
     show Oks T (bif O9 X then _ else _);cases O9 X with
     |false=>exact nx _
     |true=>
      show Oks T (bif decide (D<Fc .i64 (o+1))then _ else _);cases decide (D<Fc .i64 (o+1))with
      |true=>exact jO 71 Ep
      |false=>exact nx _
def D3c(tw:TW T):Oks T (L1 T D NN [⟨P6,[],0⟩] [0] 0 0):=by
 have hl:=tw.len;have aC:=tw.ne;have e0:F56 P6=some (.one (.bool false)):=En
 have e1:F57 P6 T[0]=rlS [W7,A0D,Y8]:=B9y;have h9:=B08 (t:=T[0]) [W7,A0D] Ep;have bE:∀m,20000*T.length+10000<m->Oks T (L1 T D (m+3+1) [⟨P6,[],0⟩] [0] 0 0):=λm hm=>by
  have h1:=B31 (D:=D) tw m (A0x [⟨P6,[],0⟩] 0 ⟨P6,[],0⟩ [W7,A0D,Y8]) [1,2,3] [W7,A0D] 0 0 T[0] Ep ⟨⟨⟨W7,[],0⟩,rfl,rfl,rfl⟩,⟨⟨A0D,[],0⟩,rfl,rfl,rfl⟩,⟨⟨Y8,[],0⟩,rfl,rfl,rfl⟩,trivial⟩ Ep (Fi aC)
   (by simp only[Ez,Fa];omega) (by show 4+_<=_;simp only[Ez,Fa];omega)
  unfold L1;simp only[List.getElem?_cons_zero,Fi aC,e0,e1,show lB (gL (some (.one (.bool false)):DU) 0)=false from rfl,Eh,show I2 (gL (rlS [W7,A0D,Y8]) 0)=[W7,A0D,Y8]from rfl,show A0o ([(⟨P6,[],0⟩:A1)].length+(([]:DX).length+[W7,A0D,Y8].length))=true from rfl,Eg];exact h1
 have:=bE 18446744073709551612 Du;exact this
def C9I(tw:TW T):∃d j k,F25 T D=some (.tup [.agg .tree d,.int .i64 ((j:Nat):Int),.int .i64 k])/\j<T.length/\(k=0->d.toks=T/\Sy d.nodes 0 A9D/\Ad T D d.nodes [0] 0 0):=by
 have hl:=tw.len;have aC:=tw.ne;have hs:A0o T.length=true:=by unfold A0o;rw[Nat.ble_eq];omega
 have hR:Rs [⟨P6,[],0⟩] [0] [A9D]:=⟨⟨_,rfl,rfl,rfl⟩,trivial⟩;have bE:=D3c (D:=D) tw;unfold F25;rw[hs];rcases bE with⟨N',e⟩|⟨j,k,e,hk,hj⟩
 ·refine⟨⟨N',T⟩,0,0,by rw[e];rfl,aC,λ_=>⟨rfl,?_,Fw _,NN,_,e,Ep,λn hn=>?_⟩⟩
  ·obtain⟨x,h1,h2⟩:=(A5I _ _ _ _ _ e).2 0 _ rfl;exact⟨x,h1,h2⟩
  ·obtain rfl:n=0:=by simpa using hn
   exact⟨⟨P6,[],0⟩,rfl,rfl⟩
 ·exact⟨_,j,k,by rw[e];rfl,hj,λh=>absurd h hk⟩
end
def KB:Nat:=120000000
def lq(n i j:Nat):Prop:=n+KB*i<=KB*j
section
variable {a b n m w i j k:Nat}
def lq.comp(h:lq a i j)(h':lq b j k):lq (a+b) i k:=by unfold lq at*;omega
def lq.le(h:lq m i j)(h':n<=m):lq n i j:=by unfold lq at*;omega
def lq.nil(h:i<=j):lq 0 i j:=by
 have:=Ho KB h;unfold lq;omega
def lq.tok(h:i<j)(hn:n<=120000000):lq n i j:=by
 have h1:=Ho KB (Nat.succ_le_of_lt h);rw[Nat.mul_succ]at h1;have:KB=120000000:=rfl;unfold lq;omega
def lq.wt(h:w+i<=j)(hn:n<=120000000*w):lq n i j:=by
 have h1:=Ho KB h;rw[Nat.mul_add]at h1;have:KB*w=120000000*w:=rfl;unfold lq;omega
end
def sl{α:Type}(p:α->DT)(l:List α):Nat:=sw (λx=>(p x).length+2) l
def GL{α:Type}(G:α->Prop)(l:List α):Prop:=l.length<=1100000/\∀x∈l,G x
def Rg{α:Type}(G:α->Prop)(p:α->DT)(l:List α)(i j:Nat):Prop:=(∀x∈l,G x)/\l.length+i<=j/\lq (sl p l) i j
section
variable {α:Type}{G:α->Prop}{p:α->DT}{l:List α}{i j k:Nat}
def D2N(l:List α)(x:α):sl p (l++[x])=sl p l+((p x).length+2):=by
 unfold sl;rw[C0s];simp[sw]
def B8f(p:α->DT)(l:List α):(jn 0 (l.map p)).length<=sl p l:=B0h 0 l λx _=>Ff _
def B9S(p:α->DT):∀(l:List α),(l.flatMap p).length<=sl p l
 |[]=>Fw _
 |x::l=>by
  have:=B9S p l;unfold sl at*;rw[Hj,Ey];simp only[sw];omega
def Rg.nil:Rg G p [] i i:=⟨λx hx=>(by cases hx),Eo,lq.nil (Ff _)⟩
def Rg.add{x:α}(h:Rg G p l i j)(hx:G x)(hj:j<k)(hl:lq ((p x).length+2) j k):Rg G p (l++[x]) i k:=
 ⟨λy hy=>(Ge.1 hy).elim (h.1 y) λhy=>by rw[Hf.1 hy];exact hx,by have:=h.2.1;rw[Ey,Ga];omega,by rw[D2N];exact h.2.2.comp hl⟩
def GL.nil:GL G []:=⟨Fw _,λx h=>(by cases h)⟩
def Rg.gl(h:Rg G p l i j)(hj:j<=1100000):GL G l:=⟨by have:=h.2.1;omega,h.1⟩
def Rg.rm{c:Nat}(h:Rg G p l i j)(hj:j<=1100000)(hc:c<=1000):A3 (l.length+1) c=true:=by
 have:=h.2.1;have h1:(l.length+1)*c<=1100001*1000:=Jm Du hc;unfold A3;exact Ei Du
end
def A2l(a:D1):Prop:=a.name.length<=8400000/\N8 DD a.value/\wt DD a.value<=1100000
def U3(a:D1):DT:=a.name++[58,32]++prN DD a.value
def A0F(l:List D1):DT:=if l=[]then []else [40]++jn 0 (l.map U3)++[41]
def A2m(d:C7):Prop:=d.name.length<=8400000/\GL A2l d.args
def A1s(d:C7):DT:=[32,64]++d.name++A0F d.args
def Q7(l:List C7):DT:=l.flatMap A1s
section
variable {i j n:Nat}
def C5f{v:LitT}{j n:Nat}(hg:N8 DD v)(hw:wt DD v+i<=j)(hp:1<=wt DD v)(hn:n<=(prN DD v).length+1000):lq n i j:=by
 have:=A87 DD v hg;exact lq.wt hw Du
def wt1(v:LitT):1<=wt DD v:=C23 (by have:DD=1000000:=rfl;omega) v
def D7G(l:List D1):(A0F l).length<=2+sl U3 l:=by
 have:=B8f U3 l;unfold A0F;split
 ·simp
 ·simp only[Ey,Ez,Fa];omega
end
section
variable {N:DY}{T:DZ}{D:Int}{st:DX}{i j n m b:Nat}{o:Int}{t:A0}{X:DT}
def M5{α:Type}(l:List α)(i:Nat):idx l (i:Int)=l[i]? :=by unfold idx;simp
def kid{l:Eb}(h:Kd N n (kI b l))(j:Nat)(hj:j<l.length):F60 (n:Int) (j:Int) N T=some ([.int .i64 ((b+j:Nat):Int)],bxN N T):=by
 obtain⟨nd,h1,h2⟩:=h;unfold F60;rw[M5,h1];simp only[h2,M5];unfold kI;rw[Fu,Gt hj];rfl
def A2C(h:Kd N n []):N4 (n:Int) N T=some ([.bool true],bxN N T):=by
 obtain⟨nd,h1,h2⟩:=h;unfold N4;rw[M5,h1];simp only[h2];rfl
def A3r{l:Eb}(h:Kd N n (kI b l))(hl:l≠[]):N4 (n:Int) N T=some ([.bool false],bxN N T):=by
 obtain⟨nd,h1,h2⟩:=h;unfold N4;rw[M5,h1];simp only[h2];have:(((kI b l).length:Nat):Int)≠0:=by
  unfold kI;rw[Fq,Hr];cases l with
  |nil=>exact absurd rfl hl
  |cons=>simp;omega
 rw[show((((kI b l).length:Nat):Int)==0)=false from by simpa using this]
def A8n(h:Tk N n i)(ht:T[i]?=some t):M0 (n:Int) N T=some ([.agg .tok t],bxN N T):=by
 obtain⟨nd,h1,h2⟩:=h;unfold M0;rw[M5,h1];simp only[h2,M5,ht]
inductive Fst (N:DY):Nat->Nat->Nat->Prop
 |tok {n i:Nat} {X:DT}:Sy N n X->F56 X=some (.one (.bool true))->Tk N n i->Fst N 0 n i
 |go {d n i b:Nat} {X:DT} {l:Eb}:Sy N n X->F56 X=some (.one (.bool false))->Kd N n (kI b l)->0<l.length->Fst N d b i->Fst N (d+1) n i
def A7f{d:Nat}(h:Fst N d n i)(hd:d<1000)(ht:T[i]?=some t):A2i (n:Int) N T=some ([.agg .tok t],bxN N T):=by
 have bE:∀(d n:Nat),Fst N d n i->∀(a:Int)(k:Nat)(K:Int->Bool->DW),∃m:Nat,Tk N m i/\A21 NN a N T (d+1+k) (n:Int) K=K (m:Int) false:=λd=>by
  induction d with
  |zero=>
   intro n h a k K;cases h with|tok h1 h2 h3=>
   refine⟨n,h3,?_⟩;obtain⟨nd,e1,e2⟩:=h1;rw[show 0+1+k=k+1 from Du,A21];simp only[A91,gd,M5,e1,e2,h2];rfl
  |succ d ih=>
   intro n h a k K;cases h with| @go _ _ _ b X l h1 h2 h3 h4 h5=>
   obtain⟨m,q1,q2⟩:=ih b h5 a k K;refine⟨m,q1,?_⟩;obtain⟨nd,e1,e2⟩:=h1;have hk:=kid (T:=T) h3 0 h4;rw[show d+1+1+k=(d+1+k)+1 from Du,A21];rw[show((0:Nat):Int)=0 from rfl]at hk;simp only[A91,gd,M5,e1,e2,h2,hk];exact q2
 obtain⟨m,q1,q2⟩:=bE d n h (n:Int) (NN - (d+1)) (λz1 z2=>let r3:=M0 z1 N T;gd (okB [.agg .tok] kN r3) (some ([.agg .tok (⟨((J4 (gB r3 0)).kind),(⟨(((J4 (gB r3 0)).pos).line),(((J4 (gB r3 0)).pos).col)⟩:B1),((J4 (gB r3 0)).from_),((J4 (gB r3 0)).to_),((J4 (gB r3 0)).text),((J4 (gB r3 0)).value)⟩:A0)],bxN N T)));rw[show d+1+(NN - (d+1))=NN from by have:NN=18446744073709551616:=rfl;omega]at q2;have:A2i (n:Int) N T=_:=q2;rw[this];simp only[A8n q1 ht];rfl
def Chn(N:DY):Nat->DX->Prop
 |r,[]=>Kd N r []
 |r,e::L=>∃b,e=b/\Kd N r (kI b [[],[]])/\Chn N (b+1) L
def A6o{L:DX}(h:Chn N n L)(hL:L.length<=1100000):F61 (n:Int) N T=some ([.sl .i64 (L.map λ(e:Nat)=>(e:Int)) (some 1)],bxN N T):=by
 have bE:∀(L:DX)(n:Nat)(be:DS),Chn N n L->L.length+be.length<=1100000->∀(a:Int)(k:Nat)(K:Int->DS->Bool->DW),∃m:Int,A3v NN a N T (L.length+1+k) (n:Int) be K=K m (be++L.map λ(e:Nat)=>(e:Int)) false:=λL=>by
  induction L with
  |nil=>
   intro n be h _ a k K;refine⟨n,?_⟩;rw[show([]:DX).length+1+k=k+1 from Es,A3v];simp only[B00,gd,A2C h];simp;rfl
  |cons e L ih=>
   intro n be h hl a k K;obtain⟨b,rfl,h1,h2⟩:=h;rw[Ez]at hl;obtain⟨m,hm⟩:=ih (e+1) (be++[(e:Int)]) h2 (by rw[Ey,Ga];omega) a k K;refine⟨m,?_⟩;rw[show(e::L).length+1+k=(L.length+1+k)+1 from Es,A3v];have k0:F60 (n:Int) 0 N T=_:=kid (T:=T) h1 0 Ep;have k1:F60 (n:Int) 1 N T=_:=kid (T:=T) h1 1 Ep;have hr:A3 (Fo be+1) 8=true:=by unfold A3;exact Ei Du
   simp only[B00,gd,A3r h1 Eo,k0,k1];show(bif A3 (Fo be+1) 8 then _ else none)=_;rw[hr];refine hm.trans ?_;rw[Fb];rfl
 obtain⟨m,hm⟩:=bE L n [] h (by simpa using hL) (n:Int) (NN - (L.length+1)) (λz1 z2 z3=>some ([.sl .i64 z2 (some 1)],bxN N T));rw[show L.length+1+(NN - (L.length+1))=NN from by have:NN=18446744073709551616:=rfl;omega]at hm;exact hm
end
section
variable {N:DY}{T:DZ}{D:Int}{st:DX}{i j n m b:Nat}{o:Int}{t:A0}{X:DT}
def A3f{l:Eb}(h:Kd N n (kI b l))(hl:0<l.length:=by simp):F60 (n:Int) 0 N T=some ([.int .i64 (b:Int)],bxN N T):=kid h 0 hl
def Ss(N:DY)(b:Nat)(l:Eb):Prop:=∀(j:Nat) Y,l[j]?=some Y->Sy N (b+j) Y
def Ad.tm(tw:TW T)(h:Ad T D N (n::st) i o)(hs:Sy N n X)(hX:TS.contains X=true)(o0:0<=o)(o1:o<=1000):
  ∃t,T[i]?=some t/\A7x t/\mt X t=true/\Tk N n i/\Fst N 0 n i/\i+1<T.length/\(O9 X=true->o+1<=D)/\Ad T D N st (i+1) (o+br X):=by
 have hX:X∈TS:=by simpa using hX
 obtain⟨e0,e1,_⟩:=B7d X hX;obtain⟨t,ht,hm,hk,hd,ha⟩:=h.term e0 hs o0 o1;rw[e1]at ha;exact⟨t,ht,tw.ok t (Ju ht),hm,hk,.tok hs e0 hk,tw.lst i t ht (B8m hX hm),hd,ha⟩
def Ad.rl{l:A0->Eb}(tw:TW T)(h:Ad T D N (n::st) i o)(hs:Sy N n X)(hX:∀t,F57 X t=rlS (l t))(hT:F56 X=some (.one (.bool false)):=by kernel_rfl):
  ∃t b,T[i]?=some t/\A7x t/\i<T.length/\Kd N n (kI b (l t))/\Ss N b (l t)/\Ad T D N (kN_ b (l t)++st) i o:=by
 have hl:=h.lt;obtain⟨t,b,ht,h1,h2,h3⟩:=h.rule hX hT hs;exact⟨t,b,ht,tw.ok t (Ju ht),hl,h1,h2,h3⟩
def kb(x:Bool):okB [.bool] kN (some ([.bool x],bxN N T))=true:=rfl
def kz(x:Int):okB [.int .i64] kN (some ([.int .i64 x],bxN N T))=true:=rfl
def kt_(x:A0):okB [.agg .tok] kN (some ([.agg .tok x],bxN N T))=true:=rfl
def kr(x:I6):okB [.agg .tref] kN (some ([.agg .tref x],bxN N T))=true:=rfl
def kl(x:LitT):okB [.agg .lit] kN (some ([.agg .lit x],bxN N T))=true:=rfl
def kc(x:DS):okB [.sl .i64 (some 1)] kN (some ([.sl .i64 x (some 1)],bxN N T))=true:=rfl
def qb(b:Bool)(x:Ec):lB (gB (some ([.bool b],x)) 0)=b:=rfl
def qz(b:Int)(x:Ec):lI (gB (some ([.int .i64 b],x)) 0)=b:=rfl
def qt(y:A0)(x:Ec):J4 (gB (some ([.agg .tok y],x)) 0)=y:=rfl
def qr(y:I6)(x:Ec):A8N (gB (some ([.agg .tref y],x)) 0)=y:=rfl
def ql(y:LitT)(x:Ec):V7 (gB (some ([.agg .lit y],x)) 0)=y:=rfl
def qc(y:DS)(x:Ec):Y6 (gB (some ([.sl .i64 y (some 1)],x)) 0)=y:=rfl
def FA{α:Type}(Rd:Nat->α->Prop):DX->List α->Prop
 |[],[]=>True
 |e::L,x::l=>Rd e x/\FA Rd L l
 |_,_=>False
def FA.len{α:Type}{Rd:Nat->α->Prop}:∀{L:DX}{l:List α},FA Rd L l->L.length=l.length
 |[],[],_=>rfl
 |_::_,_::_,h=>by rw[Ez,Ez,FA.len h.2]
def A4C{α:Type}{E:DT}{Rd:Nat->α->Prop}{G:α->Prop}{μ:α->Nat}{kb:Nat}(tw:TW T)(hX:∀t,∃c:Bool,F57 X t=rlS (bif c then []else [E,X]))(hT:F56 X=some (.one (.bool false)))
  (step:∀(e i:Nat)(st:DX),Ad T D N (e::st) i o->Sy N e E->∃x j,Rd e x/\Ad T D N st j o/\i<j/\G x/\μ x+kb*i<=kb*j):
  ∀(m r i:Nat),T.length<m+i->Ad T D N (r::st) i o->Sy N r X->∃L l j,Chn N r L/\FA Rd L l/\Ad T D N st j o/\i<=j/\(∀x∈l,G x)/\l.length+i<=j/\sw μ l+kb*i<=kb*j
 |0,r,i,hm,ha,hs=>by have:=ha.lt;omega
 |m+1,r,i,hm,ha,hs=>by
  have hE:∀t,F57 X t=rlS (I2 (gL (F57 X t) 0)):=λt=>by obtain⟨c,e⟩:=hX t;rw[e];rfl
  obtain⟨t,b,ht,hk,hl,h1,h2,h3⟩:=ha.rl tw hs hE hT;obtain⟨c,e⟩:=hX t;have e':I2 (gL (F57 X t) 0)=bif c then []else [E,X]:=by rw[e];rfl
  rw[e']at h1 h2 h3;cases c with
  |true=>exact⟨[],[],i,h1,trivial,h3,Ff _,λx hx=>(by cases hx),Eo,by simp[sw]⟩
  |false=>
   have h3:Ad T D N (b::(b+1)::st) i o:=h3;obtain⟨x,j,q1,q2,q3,q4,q5⟩:=step b i ((b+1)::st) h3 (h2 0 _ rfl);obtain⟨L,l,k,w1,w2,w3,w4,w5,w6,w7⟩:=A4C tw hX hT step m (b+1) j Du q2 (h2 1 _ rfl);refine⟨b::L,x::l,k,⟨b,rfl,h1,w1⟩,⟨q1,w2⟩,w3,Du,λy hy=>?_,by rw[Ez];omega,?_⟩
   ·rcases Fm.1 hy with rfl|hy
    ·exact q4
    ·exact w5 y hy
   ·simp only[sw];omega
def rdl{α S R:Type}{Rd:Nat->α->Prop}{L0:DX}(Lf:Nat->List α->Nat->S->Option R)(K:List α->Option R)(gH:∀n be s,Lf (n+1) be L0.length s=K be)
  (bG:∀n be i e x s,L0[i]?=some e->i<L0.length->Rd e x->be.length<=1100001->∃s',Lf (n+1) be i s=Lf n (be++[x]) (i+1) s'):
  ∀(L:DX)(l:List α)(n i:Nat)(be:List α)(s:S),FA Rd L l->L=L0.drop i->i<=L0.length->L0.length<n+i->be.length+l.length<=1100001->Lf n be i s=K (be++l)
 |_,_,0,i,be,s,_,_,_,h,_=>Du
 |[],[],n+1,i,be,s,_,hd,hi,_,_=>by
  have:L0.length<=i:=by
   have:=congrArg Fo hd;rw[Hi]at this;simp at this;omega
  rw[show i=L0.length from Du,gH,Fe]
 |e::L,x::l,n+1,i,be,s,hf,hd,hi,hn,ha=>by
  have aH:i<L0.length:=by
   have:=congrArg Fo hd;rw[Hi,Ez]at this;omega
  rw[Hk aH]at hd;obtain⟨h1,h2⟩:=List.cons.inj hd;rw[Ez]at ha;obtain⟨s',e1⟩:=bG n be i e x s (by rw[Fi aH, <-h1]) aH hf.1 Du;rw[e1,rdl Lf K gH bG L l n (i+1) (be++[x]) s' hf.2 h2 Du Du (by rw[Ey,Ga];omega),Fb];rfl
def A65{α S R:Type}{Rd:Nat->α->Prop}{L:DX}{l:List α}(Lf:Nat->List α->Nat->S->Option R)(K:List α->Option R)(hf:FA Rd L l)(hL:L.length<=1100000)(gH:∀n be s,Lf (n+1) be L.length s=K be)
  (bG:∀n be i e x s,L[i]?=some e->i<L.length->Rd e x->be.length<=1100001->∃s',Lf (n+1) be i s=Lf n (be++[x]) (i+1) s')(be:List α)(s:S)(ha:be.length<=1):Lf NN be 0 s=K (be++l):=
 rdl Lf K gH bG L l NN 0 be s hf rfl (Fw _) (by have:NN=18446744073709551616:=rfl;omega) (by rw[<-hf.len];omega)
def A6A{L:DX}{i e:Nat}(h:L[i]?=some e):idx (L.map λ(e:Nat)=>(e:Int)) (i:Int)=some (e:Int):=by rw[M5,Fu,h];rfl
def A09(L:DX):(((L.map λ(e:Nat)=>(e:Int)).length:Nat):Int)=(L.length:Int):=by rw[Fq]
def wrI(h:i<=4400000):Fc .i64 ((i:Int)+1)=((i+1:Nat):Int):=by rw[A5g Du Du];omega
def ltT{a b:Nat}(h:a<b):decide ((a:Int)<(b:Int))=true:=Ei Du
def ltF(a:Nat):decide ((a:Int)<(a:Int))=false:=Ej Du
def A7e{a c:Nat}(h:a<=1100001)(hc:c<=1000:=by decide):A3 (a+1) c=true:=by
 have h1:(a+1)*c<=1100002*1000:=Jm Du hc;unfold A3;exact Ei Du
def D5X(tw:TW T)(h:Ad T D N (n::st) i o)(hs:Sy N n A10)(o0:0<=o)(o1:o<=1000):∃(x:Bool)(j:Nat),N4 (n:Int) N T=some ([.bool x],bxN N T)/\Ad T D N st j o/\i<=j:=by
 obtain⟨t,b,ht,hk,hl,h1,h2,h3⟩:=h.rl tw hs (λ_=>C4Z);cases hb:pu t A7A with
 |false=>rw[hb]at h1 h3;exact⟨_,i,A2C h1,h3,Ff _⟩
 |true=>
  rw[hb]at h1 h2 h3;obtain⟨_,_,_,_,_,_,_,_,h4⟩:=Ad.tm tw (show Ad T D N (b::st) i o from h3) (h2 0 _ rfl) En o0 o1;exact⟨_,i+1,A3r h1 Eo,by simpa [show br A7A=0 from En]using h4,He _⟩
def C4M(tw:TW T)(hD:D<=200):∀(d n i:Nat)(o:Int)(st:DX),D - o<(d:Int)->0<=o->o<=D->Ad T D N (n::st) i o->Sy N n A2N->
  ∃r j,A2n d (n:Int) N T=some ([.agg .tref r],bxN N T)/\Ad T D N st j o/\i<j/\r.name.length<=8400000/\(r.wrap.length:Int)<=2*(D - o)+1
 |0,n,i,o,st,h,h0,h1,_,_=>Du
 |d+1,n,i,o,st,h,h0,h1,ha,hs=>by
  obtain⟨t,b,ht,hk,hl,c1,c2,c3⟩:=ha.rl tw hs (λ_=>B84);rw[A2n];unfold A8s;have bU:∀(q:Nat)(nm w:DT)(j:Nat),Sy N q A10->Ad T D N (q::st) j o->(w.length:Int)<=2*(D - o)->nm.length<=8400000->i<j->
    ∃(r:I6)(j':Nat),(let cD:=N4 (q:Int) N T;gd (okB [.bool] kN cD) (bif(!(lB (gB cD 0)))then(gd (decide (Fo w+Fo [33]<=9223372036854775807)) (some ([.agg .tref (⟨nm,w++[33]⟩:I6)],bxN N T)))else(some ([.agg .tref (⟨nm,w⟩:I6)],bxN N T))):DW)=some ([.agg .tref r],bxN N T)/\Ad T D N st j' o/\i<j'/\r.name.length<=8400000/\(r.wrap.length:Int)<=2*(D - o)+1:=λq nm w j hq hA hw hn cG=>by
   obtain⟨x,j',e,a1,a2⟩:=D5X tw hA hq h0 Du;simp only[e,gd,kb,qb,Eg];cases x with
   |false=>
    rw[Ei (by rw[Ga];omega:Fo w+Fo [33]<=9223372036854775807)];exact⟨_,j',rfl,a1,Du,hn,by rw[Ey,Ga];omega⟩
   |true=>exact⟨_,j',rfl,a1,Du,hn,by show(w.length:Int)<=_;omega⟩
  cases hb:pu t A0i with
  |false=>
   rw[hb]at c1 c2 c3;simp only[Eh]at c1 c2 c3;have c3:Ad T D N (b::(b+1)::st) i o:=c3;obtain⟨t',ft,eJ,_,hT,_,_,_,h4⟩:=Ad.tm tw c3 (c2 0 _ rfl) En h0 Du;rw[show br E1=0 from En,Gk]at h4;have k0:=A3f (T:=T) c1;have k1:F60 (n:Int) 1 N T=_:=kid (T:=T) c1 1 Ep;obtain⟨nd,e1,e2⟩:=c1;simp only[M5,e1,e2,show(((kI b [E1,A10]).length:Nat):Int)=2 from rfl,show Fc .i64 ((2:Int) - 1)=1 from rfl,show((2:Int)==4)=false from rfl,Eh,gd,k0,k1,kz,qz,Eg,A8n hT ft,kt_,qt];exact bU (b+1) t'.text [] (i+1) (c2 1 _ rfl) h4 Es eJ.1 Du
  |true=>
   rw[hb]at c1 c2 c3;simp only[Eg]at c1 c2 c3;have c3:Ad T D N (b::(b+1)::(b+2)::(b+3)::st) i o:=c3;obtain⟨_,_,_,_,_,_,_,iJ,h4⟩:=Ad.tm tw c3 (c2 0 _ rfl) En h0 Du;have iJ:=iJ En;rw[show br A0i=1 from En]at h4;obtain⟨r,j,e,h5,h6,h7,h8⟩:=C4M tw hD d (b+1) (i+1) (o+1) _ Du Du Du h4 (c2 1 _ rfl);obtain⟨_,_,_,_,_,_,_,_,h9⟩:=Ad.tm tw h5 (c2 2 _ rfl) En Du Du;rw[show br A1O= -1 from En,show o+1+ -1=o from Du]at h9;have k1:F60 (n:Int) 1 N T=_:=kid (T:=T) c1 1 Ep;have k3:F60 (n:Int) 3 N T=_:=kid (T:=T) c1 3 Ep;obtain⟨nd,e1,e2⟩:=c1;have hw:decide (Fo r.wrap+Fo [93]<=9223372036854775807)=true:=Ei (by rw[Ga];omega);simp only[M5,e1,e2,show(((kI b [A0i,A2N,A1O,A10]).length:Nat):Int)=4 from rfl,show Fc .i64 ((4:Int) - 1)=3 from rfl,show((4:Int)==4)=true from rfl,Eg,gd,k1,k3,kz,qz,e,kr,qr,hw];exact bU (b+3) r.name (r.wrap++[93]) (j+1) (c2 3 _ rfl) h9 (by rw[Ey,Ga];omega) h7 Du
def GTy(r:I6):Prop:=r.name.length<=8400000/\r.wrap.length<=1000
def GTy.len{r:I6}(h:GTy r):(prT r).length<=8500000:=by
 have:=C8t r;have:=h.1;have:=h.2;omega
def D0H(tw:TW T)(hD:D<=200)(h0:0<=o)(h1:o<=D)(h:Ad T D N (n::st) i o)(hs:Sy N n A2N):∃r j,B4A (n:Int) N T=some ([.agg .tref r],bxN N T)/\Ad T D N st j o/\i<j/\GTy r:=by
 obtain⟨r,j,e,c,h1,h2,h3⟩:=C4M tw hD DD n i o st (by have:DD=1000000:=rfl;omega) h0 h1 h hs;exact⟨r,j,e,c,h1,h2,Du⟩
end
def B5H{d:Nat}{k:Int}{x:DT}{b:Bool}{p:B1}(h1:1<=k)(h2:k<=9)(h3:x.length<=8400000)(h4:k=4->b=true->(btF x).2=true):N8 (d+1) (.mk k x b [] [] p)/\wt (d+1) (.mk k x b [] [] p)=1:=
 ⟨⟨h1,h2,h3,h4,λx hx=>(by cases hx),λf hf=>(by cases hf)⟩,rfl⟩
def C4w{d:Nat}{k:Int}{l:List LitT}{fl:List LfT}{p:B1}(h1:k=8\/k=9)(h2:∀x∈l,N8 d x)(h3:∀f∈fl,f.name.length<=8400000/\N8 d f.value):N8 (d+1) (.mk k [] false l fl p):=
 ⟨by show 1<=k;omega,by show k<=9;omega,Fw _,λ_ h=>(by cases h),h2,h3⟩
section
variable {N:DY}{T:DZ}{D:Int}{st:DX}{i j n m b:Nat}{o:Int}{t:A0}{X:DT}
def B3r{g187:Int->DY->DZ->DW}{aX:Int->A0->DY->DZ->Int->DT->Bool->List LitT->List LfT->Int->Int->DW}{k:Int}{x:DT}{tf:List LitT}{fs:List LfT}(hf:A2i (n:Int) N T=some ([.agg .tok t],bxN N T))(hk:t.kind=2)
  (e:aX (n:Int) t N T 0 t.text false [] [] t.pos.line t.pos.col=some ([],[[.sl .node N none,.sl .tok T none],[.int .i64 k,.str x,.bool false,.sl .lit tf (some 92000103),.sl .lf fs (some 92000104),.int .i64 t.pos.line,.int .i64 t.pos.col]])):
  Z5 g187 aX (n:Int) N T=some ([.agg .lit (.mk k x false tf fs t.pos)],bxN N T):=by
 unfold Z5;simp only[hf,gd,kt_,qt,Eg,hk,show((2:Int)==4)=false from rfl,show((2:Int)==5)=false from rfl,show((2:Int)==6)=false from rfl,show((2:Int)==7)=false from rfl,show((2:Int)==3)=false from rfl,show((2:Int)==2)=true from rfl,Eh,e];rfl
def RdL(N:DY)(T:DZ)(d e:Nat)(v:LitT):Prop:=(I1 d).1 (e:Int) N T=some ([.agg .lit v],bxN N T)
def RdF(N:DY)(T:DZ)(d e:Nat)(f:LfT):Prop:=∃(a c:Nat)(t:A0),F60 (e:Int) 0 N T=some ([.int .i64 (a:Int)],bxN N T)/\M0 (a:Int) N T=some ([.agg .tok t],bxN N T)/\F60 (e:Int) 2 N T=some ([.int .i64 (c:Int)],bxN N T)/\RdL N T d c f.value/\f=⟨t.text,f.value,t.pos⟩
def D7U{d:Nat}{L:DX}{l:List LitT}(hx:t.text=[91])(k1:F60 (n:Int) 1 N T=some ([.int .i64 (m:Int)],bxN N T))(hc:Chn N m L)(hL:L.length<=1100000)(hf:FA (RdL N T d) L l){tx:DT}{p q:Int}:
  A2D (I1 d).1 (I1 d).2 (n:Int) t N T 0 tx false [] [] p q=some ([],[[.sl .node N none,.sl .tok T none],[.int .i64 8,.str [],.bool false,.sl .lit l (some 92000103),.sl .lf [] (some 92000104),.int .i64 p,.int .i64 q]]):=by
 simp only[A2D,A64,hx,gd,k1,kz,qz,A6o hc hL,kc,qc,Eg,Eh,show(([91]:DT)==[36])=false from rfl,show(([91]:DT)==[91])=true from rfl];have:=A65 (S:=Unit) (R:=B6) (λk be i _=>A1o NN (I1 d).1 (I1 d).2 (n:Int) t N T 0 tx false [] [] p q k (L.map λ(e:Nat)=>(e:Int)) (i:Int) be (λz3 z4 z5 z6=>some ([],[[.sl .node N none,.sl .tok T none],[.int .i64 8,.str [],.bool false,.sl .lit z6 (some 92000103),.sl .lf [] (some 92000104),.int .i64 p,.int .i64 q]])))
  (λbe=>some ([],[[.sl .node N none,.sl .tok T none],[.int .i64 8,.str [],.bool false,.sl .lit be (some 92000103),.sl .lf [] (some 92000104),.int .i64 p,.int .i64 q]])) hf hL
  (λk be _=>by show A1o _ _ _ _ _ _ _ _ _ _ _ _ _ _ (k+1) _ _ _ _=_;unfold A1o;simp only[A9s,A09,ltF,Eh])
  (λk be i e x _ he hi hr ha=>⟨(),by
   show A1o _ _ _ _ _ _ _ _ _ _ _ _ _ _ (k+1) _ _ _ _=_
   conv=>lhs;unfold A1o
   have hr:(I1 d).1 (e:Int) N T=_:=hr;simp only[A9s,A09,ltT hi,Eg,A6A he,hr,gd,kl,ql,A7e (c:=96) ha,wrI (show i<=4400000 from Du),decide_true,Iz]⟩) [] () Eo
 exact this
def C9J{d:Nat}{L:DX}{l:List LfT}(hx:t.text=[123])(k1:F60 (n:Int) 1 N T=some ([.int .i64 (m:Int)],bxN N T))(hc:Chn N m L)(hL:L.length<=1100000)(hf:FA (RdF N T d) L l){tx:DT}{p q:Int}:
  A2D (I1 d).1 (I1 d).2 (n:Int) t N T 0 tx false [] [] p q=some ([],[[.sl .node N none,.sl .tok T none],[.int .i64 9,.str [],.bool false,.sl .lit [] (some 92000103),.sl .lf l (some 92000104),.int .i64 p,.int .i64 q]]):=by
 simp only[A2D,A64,hx,gd,k1,kz,qz,A6o hc hL,kc,qc,Eg,Eh,show(([123]:DT)==[36])=false from rfl,show(([123]:DT)==[91])=false from rfl,show(([123]:DT)==[123])=true from rfl];have:=A65 (S:=Unit) (R:=B6) (λk be i _=>A1y NN (I1 d).1 (I1 d).2 (n:Int) t N T 0 tx false [] [] p q k (L.map λ(e:Nat)=>(e:Int)) (i:Int) be (λz3 z4 z5 z6=>some ([],[[.sl .node N none,.sl .tok T none],[.int .i64 9,.str [],.bool false,.sl .lit [] (some 92000103),.sl .lf z6 (some 92000104),.int .i64 p,.int .i64 q]])))
  (λbe=>some ([],[[.sl .node N none,.sl .tok T none],[.int .i64 9,.str [],.bool false,.sl .lit [] (some 92000103),.sl .lf be (some 92000104),.int .i64 p,.int .i64 q]])) hf hL
  (λk be _=>by show A1y _ _ _ _ _ _ _ _ _ _ _ _ _ _ (k+1) _ _ _ _=_;unfold A1y;simp only[B04,A09,ltF,Eh])
  (λk be i e x _ he hi hr ha=>⟨(),by
   show A1y _ _ _ _ _ _ _ _ _ _ _ _ _ _ (k+1) _ _ _ _=_
   conv=>lhs;unfold A1y
   obtain⟨a,c,t',w1,w2,w3,w4,w5⟩:=hr;have w4:(I1 d).1 (c:Int) N T=_:=w4;simp only[B04,A09,ltT hi,Eg,A6A he,w1,w2,w3,w4,kz,qz,kt_,qt,gd,kl,ql,A7e (c:=128) ha,wrI (show i<=4400000 from Du),decide_true,Iz];rw[w5];cases x.value;rfl⟩) [] () Eo
 exact this
def B4x(tw:TW T)(hD:D<=200)(c:Bool):∀(g d n i:Nat)(o:Int)(st:DX),D - o<(g:Int)->2*g<=d->0<=o->o<=D->Ad T D N (n::st) i o->Sy N n (cs c U1)->
  ∃v j,RdL N T d n v/\Ad T D N st j o/\i<j/\N8 g v/\wt g v+i<=j
 |0,d,n,i,o,st,h,_,h0,h1,_,_=>Du
 |g+1,0,n,i,o,st,h,h2,h0,h1,_,_=>Du
 |g+1,1,n,i,o,st,h,h2,h0,h1,_,_=>Du
 |g+1,d+2,n,i,o,st,h,h2,h0,h1,ha,hs=>by
  have nl:=tw.len;have hV:F56 (cs c U1)=some (.one (.bool false)):=by cases c<;>kernel_rfl
  obtain⟨t,b,ht,hk,hl,c1,c2,c3⟩:=ha.rl tw hs (λ_=>B3H c) hV;have go:∀v,Z5 (I1 (d+1)).1 (I1 (d+1)).2 (n:Int) N T=some ([.agg .lit v],bxN N T)->RdL N T (d+2) n v:=λv e=>e;have aX:(I1 (d+1)).2=A2D (I1 d).1 (I1 d).2:=rfl;have one:∀{Y:DT}{l:Eb},Kd N n (kI b (Y::l))->Ss N b (Y::l)->Ad T D N (b::(kN_ (b+1) l++st)) i o->TS.contains Y=true->mt Y t=true/\i+1<T.length/\(O9 Y=true->o+1<=D)/\Ad T D N (kN_ (b+1) l++st) (i+1) (o+br Y)/\A2i (n:Int) N T=some ([.agg .tok t],bxN N T):=λ{Y l} q1 q2 q3 q4=>by
   obtain⟨t',ft,_,w1,_,w2,w3,w4,w5⟩:=Ad.tm tw q3 (q2 0 _ rfl) q4 h0 Du;rw[ht]at ft;cases ft;exact⟨w1,w3,w4,w5,A7f (.go hs hV q1 Eo w2) Du ht⟩
  cases b1:pu t A0a&& !c with
  |true=>
   rw[b1]at c1 c2 c3;simp only[Eg]at c1 c2 c3;obtain⟨w1,w3,_,w5,w6⟩:=one c1 c2 c3 En;obtain⟨k2,kx⟩:=B12 (B5p En ▸ w1);rw[show br A0a=0 from En,Gk]at w5;obtain⟨t2,pX,de,_,CG,_,gw,_,w7⟩:=Ad.tm tw (show Ad T D N ((b+1)::st) (i+1) o from w5) (c2 1 _ rfl) En h0 Du;rw[show br E1=0 from En,Gk]at w7;have k1:F60 (n:Int) 1 N T=_:=kid (T:=T) c1 1 Eo;have lf:=B5H (d:=g) (k:=1) (x:=t2.text) (b:=false) (p:=t.pos) Du Du de.1 (λh=>Du);refine⟨.mk 1 t2.text false [] [] t.pos,i+1+1,go _ (B3r w6 k2 ?_),w7,Du,lf.1,by rw[lf.2];omega⟩;rw[aX];simp only[A2D,A64,kx,show(A0a==[36])=true from rfl,gd,k1,kz,qz,Eg,A8n CG pX,kt_,qt]
  |false=>
  rw[b1]at c1 c2 c3;simp only[Eh]at c1 c2 c3;cases b2:pu t A0i with
  |true=>
   rw[b2]at c1 c2 c3;simp only[Eg]at c1 c2 c3;obtain⟨w1,w3,iJ,w5,w6⟩:=one c1 c2 c3 En;obtain⟨k2,kx⟩:=B12 b2;have iJ:=iJ En;rw[show br A0i=1 from En]at w5;obtain⟨L,l,j,q1,q2,q3,q4,q5,q6,q7⟩:=A4C (α:=LitT) (Rd:=RdL N T d) (G:=N8 g) (μ:=wt g) (kb:=1) (E:=cs c U1) tw (λt=>⟨_,B5u c⟩) (by cases c<;>kernel_rfl)
    (λe i st hA hS=>by
     obtain⟨v,j,e1,e2,e3,e4,e5⟩:=B4x tw hD c g d e i (o+1) st Du Du Du Du hA hS;exact⟨v,j,e1,e2,e3,e4,Du⟩) (T.length+1) (b+1) (i+1) Du (show Ad T D N ((b+1)::(b+2)::st) (i+1) (o+1)from w5) (c2 1 _ rfl)
   obtain⟨_,_,_,_,_,_,tp,_,w8⟩:=Ad.tm tw q3 (c2 2 _ rfl) En Du Du;rw[show br A1O= -1 from En,show o+1+ -1=o from Du]at w8;have k1:F60 (n:Int) 1 N T=_:=kid (T:=T) c1 1 Eo;refine⟨.mk 8 [] false l [] t.pos,j+1,go _ (B3r w6 k2 ?_),w8,Du,C4w (.inl rfl) q5 (λf hf=>by cases hf),?_⟩
   ·rw[aX];exact D7U kx k1 q1 (by rw[q2.len];omega) q2
   ·show 1+sw (wt g) l+0+i<=j+1;omega
  |false=>
  rw[b2]at c1 c2 c3;simp only[Eh]at c1 c2 c3;cases b3:pu t W2 with
  |true=>
   rw[b3]at c1 c2 c3;simp only[Eg]at c1 c2 c3;obtain⟨w1,w3,iJ,w5,w6⟩:=one c1 c2 c3 En;obtain⟨k2,kx⟩:=B12 b3;have iJ:=iJ En;rw[show br W2=1 from En]at w5;obtain⟨L,l,j,q1,q2,q3,q4,q5,q6,q7⟩:=A4C (α:=LfT) (Rd:=RdF N T d) (G:=λf=>f.name.length<=8400000/\N8 g f.value) (μ:=λf=>1+wt g f.value) (kb:=1) (E:=cs c A5q) tw (λt=>⟨_,B7l c⟩) (by cases c<;>kernel_rfl)
    (λe i st hA hS=>by
     obtain⟨_,b',_,_,_,d1,d2,d3⟩:=hA.rl tw hS (λ_=>B5l c) (by cases c<;>kernel_rfl);obtain⟨t',ft,eJ,_,CH,_,_,_,d4⟩:=Ad.tm tw (show Ad T D N (b'::(b'+1)::(b'+2)::st) i (o+1)from d3) (d2 0 _ rfl) En Du Du;rw[show br E1=0 from En,Gk]at d4;obtain⟨_,_,_,_,_,_,_,_,d5⟩:=Ad.tm tw d4 (d2 1 _ rfl) En Du Du;rw[show br A0j=0 from En,Gk]at d5;obtain⟨v,j,e1,e2,e3,e4,e5⟩:=B4x tw hD c g d (b'+2) (i+1+1) (o+1) st Du Du Du Du d5 (d2 2 _ rfl);exact⟨⟨t'.text,v,t'.pos⟩,j,⟨b',b'+2,t',A3f d1,A8n CH ft,kid d1 2 Eo,e1,rfl⟩,e2,Du,⟨eJ.1,e4⟩,by show 1+wt g v+1*i<=1*j;omega⟩) (T.length+1) (b+1) (i+1) Du (show Ad T D N ((b+1)::(b+2)::st) (i+1) (o+1)from w5) (c2 1 _ rfl)
   obtain⟨_,_,_,_,_,_,tp,_,w8⟩:=Ad.tm tw q3 (c2 2 _ rfl) En Du Du;rw[show br A2f= -1 from En,show o+1+ -1=o from Du]at w8;have k1:F60 (n:Int) 1 N T=_:=kid (T:=T) c1 1 Eo;refine⟨.mk 9 [] false [] l t.pos,j+1,go _ (B3r w6 k2 ?_),w8,Du,C4w (.inr rfl) (λx hx=>by cases hx) q5,?_⟩
   ·rw[aX];exact C9J kx k1 q1 (by rw[q2.len];omega) q2
   ·show 1+0+sw (λ(f:LfT)=>1+wt g f.value) l+i<=j+1;omega
  |false=>
  rw[b3]at c1 c2 c3;simp only[Eh]at c1 c2 c3;cases b4:t.kind==3 with
  |true=>
   rw[b4]at c1 c2 c3;simp only[Eg]at c1 c2 c3;obtain⟨_,w3,_,w5,w6⟩:=one c1 c2 c3 En;rw[show br E1=0 from En,Gk]at w5;have k3:t.kind=3:=by simpa using b4
   have bE:∃v:LitT,Z5 (I1 (d+1)).1 (I1 (d+1)).2 (n:Int) N T=some ([.agg .lit v],bxN N T)/\N8 (g+1) v/\wt (g+1) v=1:=by
    unfold Z5;simp only[w6,gd,kt_,qt,Eg,k3,show((3:Int)==4)=false from rfl,show((3:Int)==5)=false from rfl,show((3:Int)==6)=false from rfl,show((3:Int)==7)=false from rfl,show((3:Int)==3)=true from rfl,Eh];have gg:∀k x,5<=k/\k<=7->x.length<=8400000->∃v:LitT,(some ([.agg .lit (LitT.mk k x false [] [] (⟨t.pos.line,t.pos.col⟩:B1))],[[.sl .node N none,.sl .tok T none]]):DW)=some ([.agg .lit v],bxN N T)/\N8 (g+1) v/\wt (g+1) v=1:=λk x hk hx=>⟨_,rfl,B5H Du Du hx (λh=>Du)⟩;cases t.text==[116,114,117,101]<;>cases t.text==[102,97,108,115,101]<;>cases t.text==[110,117,108,108]<;>first|exact gg 5 _ Du hk.1|exact gg 6 [] Du Eo|exact gg 7 _ Du hk.1
   obtain⟨v,ev,g1,g2⟩:=bE;exact⟨v,i+1,go v ev,w5,Du,g1,Du⟩
  |false=>
   rw[b4]at c1 c2 c3;simp only[Eh]at c1 c2 c3;obtain⟨w1,w3,_,w5,w6⟩:=one c1 c2 c3 En;rw[show br A0N=0 from En,Gk]at w5;obtain⟨q1,q2⟩:=C4L w1;have bU:∀k x bl,1<=k->k<=9->x.length<=8400000->(k=4->bl=true->(btF x).2=true)->Z5 (I1 (d+1)).1 (I1 (d+1)).2 (n:Int) N T=some ([.agg .lit (.mk k x bl [] [] t.pos)],bxN N T)->∃v j,RdL N T (d+2) n v/\Ad T D N st j o/\i<j/\N8 (g+1) v/\wt (g+1) v+i<=j:=λk x bl p1 p2 p3 p4 e=>by
    have lf:=B5H (d:=g) (p:=t.pos) p1 p2 p3 p4;exact⟨_,i+1,go _ e,w5,Du,lf.1,by rw[lf.2];omega⟩
   have hc:t.kind=4\/t.kind=5\/t.kind=6\/t.kind=7:=Du
   rcases hc with k|k|k|k
   ·exact bU 2 t.text false Du Du hk.1 (λh=>Du) (by unfold Z5;simp only[w6,gd,kt_,qt,Eg,k];rfl)
   ·exact bU 3 t.text false Du Du hk.1 (λh=>Du) (by unfold Z5;simp only[w6,gd,kt_,qt,Eg,k];rfl)
   ·exact bU 4 t.value false Du Du hk.2.1 (λ_ h=>by cases h) (by unfold Z5;simp only[w6,gd,kt_,qt,Eg,k];rfl)
   ·exact bU 4 t.value true Du Du hk.2.1 (λ_ _=>hk.2.2.1 k) (by unfold Z5;simp only[w6,gd,kt_,qt,Eg,k];rfl)
end
def B3z{α:Type}{f g:α->Nat}:∀(l:List α),(∀x∈l,f x=g x)->sw f l=sw g l
 |[],_=>rfl
 |x::l,h=>by simp only[sw];rw[h x Fl,B3z l λy hy=>h y (Fs _ hy)]
def A7L:∀(d:Nat)(v:LitT),N8 d v->∀e,d<=e->N8 e v/\wt e v=wt d v
 |0,v,h,_,_=>h.elim
 |d+1,v,h,0,he=>Du
 |d+1,v,h,e+1,he=>by
  obtain⟨h1,h2,h3,h4,h5,h6⟩:=h;refine⟨⟨h1,h2,h3,h4,λx hx=>(A7L d x (h5 x hx) e Du).1,λf hf=>⟨(h6 f hf).1,(A7L d f.value (h6 f hf).2 e Du).1⟩⟩,?_⟩;show 1+sw (wt e) v.items+sw (λ(f:LfT)=>1+wt e f.value) v.fields=1+sw (wt d) v.items+sw (λ(f:LfT)=>1+wt d f.value) v.fields;rw[B3z v.items λx hx=>(A7L d x (h5 x hx) e Du).2,B3z (f:=λ(f:LfT)=>1+wt e f.value) (g:=λ(f:LfT)=>1+wt d f.value) v.fields λf hf=>by rw[(A7L d f.value (h6 f hf).2 e Du).2]]
section
variable {N:DY}{T:DZ}{D:Int}{st:DX}{i j n m b:Nat}{o:Int}{t:A0}{X:DT}
def ka(x:D1):okB [.agg .arg] kN (some ([.agg .arg x],bxN N T))=true:=rfl
def kas(x:List D1):okB [.sl .arg (some 1)] kN (some ([.sl .arg x (some 1)],bxN N T))=true:=rfl
def kd(x:List C7):okB [.sl .dir (some 1)] kN (some ([.sl .dir x (some 1)],bxN N T))=true:=rfl
def qa(y:D1)(x:Ec):K8 (gB (some ([.agg .arg y],x)) 0)=y:=rfl
def qas(y:List D1)(x:Ec):B4O (gB (some ([.sl .arg y (some 1)],x)) 0)=y:=rfl
def qd(y:List C7)(x:Ec):A14 (gB (some ([.sl .dir y (some 1)],x)) 0)=y:=rfl
def C3a(tw:TW T)(hD:D<=200)(c:Bool)(h0:0<=o)(h1:o<=D)(ha:Ad T D N (n::st) i o)(hs:Sy N n (cs c U1)):∃v j,B0i (n:Int) N T=some ([.agg .lit v],bxN N T)/\Ad T D N st j o/\i<j/\N8 DD v/\wt DD v+i<=j:=by
 have DH:DD=1000000:=rfl;obtain⟨v,j,e,a1,a2,a3,a4⟩:=B4x tw hD c 201 DD n i o st Du Du h0 h1 ha hs;obtain⟨g1,g2⟩:=A7L 201 v a3 DD Du;exact⟨v,j,e,a1,a2,g1,by rw[g2];exact a4⟩
def Q3(tw:TW T)(h:Ad T D N (n::st) i o)(hs:Sy N n X)(hX:(TS.contains X&&(br X==0))=true)(o0:0<=o)(o1:o<=D)(hD:D<=200):∃t,T[i]?=some t/\A7x t/\mt X t=true/\M0 (n:Int) N T=some ([.agg .tok t],bxN N T)/\Fst N 0 n i/\i+1<T.length/\Ad T D N st (i+1) o:=by
 rw[Fj,beq_iff_eq]at hX;obtain⟨t,ht,hk,hm,hT,hf,hl,_,ha⟩:=Ad.tm tw h hs hX.1 o0 Du;rw[hX.2,Gk]at ha;exact⟨t,ht,hk,hm,A8n hT ht,hf,hl,ha⟩
def RdA(N:DY)(T:DZ)(e:Nat)(x:D1):Prop:=A1E (e:Int) N T=some ([.agg .arg x],bxN N T)
def C4u(tw:TW T)(hD:D<=200)(c:Bool)(h0:0<=o)(h1:o<=D)(ha:Ad T D N (n::st) i o)(hs:Sy N n (cs c A1M)):∃x j,RdA N T n x/\Ad T D N st j o/\i<j/\A2l x/\lq ((U3 x).length+2) i j:=by
 have nl:=tw.len;obtain⟨_,b,_,_,_,c1,c2,c3⟩:=ha.rl tw hs (λ_=>B6V c) (by cases c<;>kernel_rfl);obtain⟨t,_,hk,_,e1,_,_,c4⟩:=Q3 tw (show Ad T D N (b::(b+1)::(b+2)::st) i o from c3) (c2 0 _ rfl) En h0 h1 hD;obtain⟨_,_,_,_,_,_,_,c5⟩:=Q3 tw c4 (c2 1 _ rfl) En h0 h1 hD;obtain⟨v,j,e2,c6,hj,g1,g2⟩:=C3a tw hD c h0 h1 c5 (c2 2 _ rfl);have k0:=A3f (T:=T) c1;have k2:F60 (n:Int) 2 N T=_:=kid (T:=T) c1 2 Eo;have bC:=c6.le;refine⟨⟨t.text,v,t.pos⟩,j,?_,c6,Du,⟨hk.1,g1,by show wt DD v<=1100000;omega⟩,((lq.tok (n:=t.text.length+4) (Du:i<i+1+1) (by have:=hk.1;omega)).comp (C5f g1 g2 (wt1 v) (Gv _ _))).le ?_⟩
 ·unfold RdA A1E;simp only[gd,k0,kz,qz,e1,kt_,qt,k2,e2,kl,ql,Eg];cases v;rfl
 ·simp only[U3,Ey,Ez,Fa];omega
def C4e(tw:TW T)(hD:D<=200)(c:Bool)(h0:0<=o)(h1:o<=D)(ha:Ad T D N (n::st) i o)(hs:Sy N n (cs c Y0)):∃l j,A31 (n:Int) N T=some ([.sl .arg l (some 1)],bxN N T)/\Ad T D N st j o/\i<=j/\GL A2l l/\lq (A0F l).length i j:=by
 have nl:=tw.len;obtain⟨t,b,_,_,_,c1,c2,c3⟩:=ha.rl tw hs (λ_=>B4V c) (by cases c<;>kernel_rfl);cases hb:pu t A06 with
 |false=>
  rw[hb]at c1 c3;refine⟨[],i,?_,c3,Ff _,GL.nil,lq.nil (Ff _)⟩;unfold A31 A8J;simp only[gd,A2C c1,kb,qb,Eg]
 |true=>
  rw[hb]at c1 c2 c3;simp only[Eg]at c1 c2 c3;obtain⟨_,_,_,_,_,_,_,iJ,c4⟩:=Ad.tm tw (show Ad T D N (b::(b+1)::(b+2)::(b+3)::st) i o from c3) (c2 0 _ rfl) En h0 Du;have iJ:=iJ En;rw[show br A06=1 from En]at c4;obtain⟨x,j,e1,c5,hj,gx,lx⟩:=C4u tw hD c Du Du c4 (c2 1 _ rfl);obtain⟨L,l,k,q1,q2,q3,q4,q5,q6,q7⟩:=A4C (α:=D1) (Rd:=RdA N T) (G:=A2l) (μ:=λx=>(U3 x).length+2) (kb:=KB) (E:=cs c A1M) tw (λt=>⟨_,B4j c⟩) (by cases c<;>kernel_rfl)
   (λe i st hA hS=>C4u tw hD c Du Du hA hS) (T.length+1) (b+2) j Du c5 (c2 2 _ rfl)
  obtain⟨_,_,_,_,_,_,CI,_,c6⟩:=Ad.tm tw q3 (c2 3 _ rfl) En Du Du;rw[show br A2X= -1 from En,show o+1+ -1=o from Du]at c6;have k1:F60 (n:Int) 1 N T=_:=kid (T:=T) c1 1 Eo;have k2:F60 (n:Int) 2 N T=_:=kid (T:=T) c1 2 Eo;have hL:L.length<=1100000:=by rw[q2.len];omega
  have e1:A1E (((b+1:Nat)):Int) N T=some ([.agg .arg x],bxN N T):=e1;refine⟨x::l,k+1,?_,c6,Du,⟨by rw[Ez];omega,λy hy=>(Fm.1 hy).elim (λh=>h ▸ gx) (q5 y)⟩,?_⟩
  ·unfold A31 A8J;simp only[gd,A3r c1 Eo,kb,qb,Eh,k1,k2,kz,qz,e1,ka,qa,Eg,A6o q1 hL,kc,qc,show A3 (0+1) 128=true from rfl];have:=A65 (S:=DT×Int×DT×Bool×List LitT×List LfT×Int×Int×Int×Int) (R:=B6)
    (λk be i s=>A2w NN (n:Int) N T k be (L.map λ(e:Nat)=>(e:Int)) (i:Int) s.1 s.2.1 s.2.2.1 s.2.2.2.1 s.2.2.2.2.1 s.2.2.2.2.2.1 s.2.2.2.2.2.2.1 s.2.2.2.2.2.2.2.1 s.2.2.2.2.2.2.2.2.1 s.2.2.2.2.2.2.2.2.2 (λer ee eh fv jK nj fI iX z20 z21 iY iF oq qF=>some ([.sl .arg er (some 1)],bxN N T)))
    (λbe=>some ([.sl .arg be (some 1)],bxN N T)) q2 hL
    (λk be s=>by unfold A2w;simp only[B0H,A09,ltF,Eh])
    (λk be i e y s he hi hr ha=>⟨(y.name,y.value.kind,y.value.text,y.value.block,y.value.items,y.value.fields,y.value.pos.line,y.value.pos.col,y.pos.line,y.pos.col),by
     have hr:A1E (e:Int) N T=_:=hr;dsimp only
     conv=>lhs;unfold A2w
     simp only[B0H,A09,ltT hi,Eg,A6A he,hr,gd,ka,qa,A7e (c:=128) ha,wrI (show i<=4400000 from Du)];obtain⟨y1,y2,y3⟩:=y;cases y2;rfl⟩) [x] (x.name,x.value.kind,x.value.text,x.value.block,x.value.items,x.value.fields,x.value.pos.line,x.value.pos.col,x.pos.line,x.pos.col) Eo
   refine Eq.trans ?_ this;obtain⟨y1,y2,y3⟩:=x;cases y2;rfl
  ·refine((lq.tok (n:=2) (Gu i) Du).comp (lx.comp (show lq (sl U3 l) j k from q7))).comp (lq.nil (He k))|>.le ?_
   have:=D7G (x::l);have h2:sl U3 (x::l)=((U3 x).length+2)+sl U3 l:=by unfold sl;simp only[sw]
   omega
def C1Y(tw:TW T)(hD:D<=200)(c:Bool)(h0:0<=o)(h1:o<=D){R:Type}{a:Int}{k2:Int->List C7->Bool->Option R}{i0:Nat}(K:List C7->Option R)(hK:∀x l,k2 x l false=K l):∀(m n i:Nat)(be:List C7),T.length<m+i->Ad T D N (n::st) i o->Sy N n (cs c G7)->Rg A2m A1s be i0 i->
  ∃ds j,A2Q NN a N T m (n:Int) be k2=K ds/\Ad T D N st j o/\i<=j/\Rg A2m A1s ds i0 j
 |0,n,i,be,hm,ha,_,_=>by have:=ha.lt;omega
 |m+1,n,i,be,hm,ha,hs,hR=>by
  have nl:=tw.len;obtain⟨t,b,_,_,jz,c1,c2,c3⟩:=ha.rl tw hs (λ_=>B35 c) (by cases c<;>kernel_rfl);cases hb:pu t A7a with
  |false=>
   rw[hb]at c1 c3;refine⟨be,i,?_,c3,Ff _,hR⟩;unfold A2Q;simp only[A9L,gd,A2C c1,kb,qb,Gg,Eg,Eh,hK]
  |true=>
   rw[hb]at c1 c2 c3;simp only[Eg]at c1 c2 c3;obtain⟨t1,_,_,_,e0,_,_,c4⟩:=Q3 tw (show Ad T D N (b::(b+1)::(b+2)::(b+3)::st) i o from c3) (c2 0 _ rfl) En h0 h1 hD;obtain⟨t2,_,de,_,e1,_,_,c5⟩:=Q3 tw c4 (c2 1 _ rfl) En h0 h1 hD;obtain⟨l,j,e2,c6,hj,gl,ll⟩:=C4e tw hD c h0 h1 c5 (c2 2 _ rfl);have zU:=c6.le;have k0:=A3f (T:=T) c1;have k1:F60 (n:Int) 1 N T=_:=kid (T:=T) c1 1 Eo;have CJ:F60 (n:Int) 2 N T=_:=kid (T:=T) c1 2 Eo;have k3:F60 (n:Int) 3 N T=_:=kid (T:=T) c1 3 Eo;have CK:Rg A2m A1s (be++[⟨t2.text,l,t1.pos⟩]) i0 j:=hR.add ⟨de.1,gl⟩ Du (((lq.tok (n:=t2.text.length+4) (Du:i<i+1+1) (by have:=de.1;omega)).comp ll).le (by unfold A1s;simp only[Ey,Ez,Fa];omega));obtain⟨ds,k,w1,w2,w3,w4⟩:=C1Y tw hD c h0 h1 (a:=a) (i0:=i0) K hK m (b+3) j _ Du c6 (c2 3 _ rfl) CK;refine⟨ds,k,?_,w2,Du,w4⟩
   conv=>lhs;unfold A2Q
   simp only[A9L,gd,A3r c1 Eo,kb,qb,Gi,Eg,k0,k1,CJ,k3,kz,qz,e0,e1,e2,kt_,qt,kas,qas,hR.rm (show i<=1100000 from Du) (show 56<=1000 from Ep)];exact w1
def A3L(tw:TW T)(hD:D<=200)(c:Bool)(h0:0<=o)(h1:o<=D)(ha:Ad T D N (n::st) i o)(hs:Sy N n (cs c G7)):∃l j,A0C (n:Int) N T=some ([.sl .dir l (some 1)],bxN N T)/\Ad T D N st j o/\i<=j/\GL A2m l/\lq (Q7 l).length i j:=by
 have nl:=tw.len;obtain⟨ds,j,e,c1,h2,h3⟩:=C1Y tw hD c h0 h1 (R:=B6) (a:=(n:Int)) (i0:=i) (k2:=λz1 z2 z3=>some ([.sl .dir z2 (some 1)],bxN N T)) (λl=>some ([.sl .dir l (some 1)],bxN N T)) (λ_ _=>rfl) NN n i [] (by have:NN=18446744073709551616:=rfl;omega) ha hs Rg.nil;have:=c1.le;exact⟨ds,j,e,c1,h2,h3.gl Du,h3.2.2.le (B9S _ _)⟩
end
def ind(lv:Nat):DT:=Il (2*lv) 32
def A70(s:SelT):DT:=
 bif s.kind==2 then [46,46,46]++s.name else bif s.kind==3 then [46,46,46]++(if s.on_=[]then []else [32,111,110,32]++s.on_)else(if s.alias_=[]then []else s.alias_++[58,32])++s.name++A0F s.args
def brS(f:SelT->DT)(lv:Nat)(l:Ee):DT:=[123]++(l.flatMap λx=>[10]++ind (lv+1)++f x)++[10]++ind lv++[125]
def G9:Nat->Nat->SelT->DT
 |0,_,_=>[]
 |d+1,lv,s=>A70 s++Q7 s.dirs++(if s.sels=[]then []else [32]++brS (G9 d (lv+1)) lv s.sels)
def W9:Nat->SelT->Prop
 |0,_=>False
 |d+1,s=>(1<=s.kind/\s.kind<=3)/\s.alias_.length<=8400000/\s.name.length<=8400000/\s.on_.length<=8400000/\GL A2l s.args/\GL A2m s.dirs/\(s.kind=2->s.sels=[])/\s.sels.length<=1100000/\∀x∈s.sels,W9 d x
def B16{g:Nat}{k:Int}{al nm on:DT}{xs:List D1}{ds:List C7}{l:Ee}{p:B1}(h1:1<=k/\k<=3)(h2:al.length<=8400000)(h3:nm.length<=8400000)(h4:on.length<=8400000)(h5:GL A2l xs)(h6:GL A2m ds)(h7:k=2->l=[])(h8:l.length<=1100000)(h9:∀x∈l,W9 g x):W9 (g+1) (.mk k al nm on xs ds l p):=
 ⟨h1,h2,h3,h4,h5,h6,h7,h8,h9⟩
def C5M{s:SelT}(h1:s.alias_.length<=8400000)(h2:s.name.length<=8400000)(h3:s.on_.length<=8400000):(A70 s).length<=17000000+(A0F s.args).length:=by
 unfold A70;cases s.kind==2<;>cases s.kind==3<;>simp only[Eg,Eh,Ey,Ez,Fa]<;>(try split)<;>(try simp only[Ey,Ez,Fa])<;>omega
def D22{f:SelT->DT}{lv:Nat}(hl:lv<=201)(l:Ee):(brS f lv l).length+10<=1000+sw (λx=>(f x).length+500) l:=by
 have fl:∀l:Ee,(l.flatMap λx=>[10]++ind (lv+1)++f x).length<=sw (λx=>(f x).length+500) l:=λl=>by
  induction l with
  |nil=>exact Fw _
  |cons x l ih=>
   rw[Hj,Ey];simp only[sw,Ey,Ez,Fa,ind,Hh]at ih ⊢;omega
 have:=fl l;unfold brS;simp only[Ey,Ez,Fa,ind,Hh]at this ⊢;omega
section
variable {N:DY}{T:DZ}{D:Int}{st:DX}{i j n m b:Nat}{o:Int}{t:A0}{X:DT}
def ke(x:SelT):okB [.agg .sel] kN (some ([.agg .sel x],bxN N T))=true:=rfl
def kes(x:Ee):okB [.sl .sel (some 1)] kN (some ([.sl .sel x (some 1)],bxN N T))=true:=rfl
def qe(y:SelT)(x:Ec):L7 (gB (some ([.agg .sel y],x)) 0)=y:=rfl
def qes(y:Ee)(x:Ec):A1X (gB (some ([.sl .sel y (some 1)],x)) 0)=y:=rfl
def RdS(N:DY)(T:DZ)(d e:Nat)(x:SelT):Prop:=(H9 d).2 (e:Int) N T=some ([.agg .sel x],bxN N T)
def RdB(N:DY)(T:DZ)(d e:Nat)(l:Ee):Prop:=(H9 d).1 (e:Int) N T=some ([.sl .sel l (some 1)],bxN N T)
def C35(N:DY)(T:DZ)(D:Int)(g d:Nat):Prop:=∀(n i:Nat)(o:Int)(st:DX),D - o<(g:Int)->0<=o->o<=D->Ad T D N (n::st) i o->Sy N n L5->
 ∃l j,RdB N T d n l/\Ad T D N st j o/\i<j/\l≠[]/\GL (W9 g) l/\lq ((brS (G9 g (o.toNat+1)) o.toNat l).length+10) i j
def D3T(tw:TW T)(hD:D<=200){g d:Nat}(IH:C35 N T D g d)(hg:D - o<(g:Int))(h0:0<=o)(h1:o<=D)(ha:Ad T D N (n::st) i o)(hs:Sy N n A19):
  ∃x j,RdS N T (d+1) n x/\Ad T D N st j o/\i<j/\W9 (g+1) x/\(G9 (g+1) o.toNat x).length+500+KB*i<=KB*j:=by
 obtain⟨t,b,ht,hk,hl,c1,c2,c3⟩:=ha.rl tw hs (λ_=>B9f);have go:∀x,A2d (H9 d).1 (H9 d).2 (n:Int) N T=some ([.agg .sel x],bxN N T)->RdS N T (d+1) n x:=λx e=>e;have qH:F56 A19=some (.one (.bool false)):=En
 have hv:(G7:DT)=cs false G7:=rfl;have DI:(Y0:DT)=cs false Y0:=rfl;have len:∀(x:SelT)(A B:Nat),x.alias_.length<=8400000->x.name.length<=8400000->x.on_.length<=8400000->(A0F x.args).length+(Q7 x.dirs).length<=A->(if x.sels=[]then 0 else(brS (G9 g (o.toNat+1)) o.toNat x.sels).length)<=B->(G9 (g+1) o.toNat x).length+500<=17000600+(A+B):=λx A B p1 p2 p3 p4 p5=>by
  have:=C5M p1 p2 p3;unfold G9;simp only[Ey];split
  ·rename_i h;rw[El h]at p5;simp only[Fa];omega
  ·rename_i h;rw[Ek h]at p5;simp only[Ey,Ez,Fa];omega
 cases hb:pu t A3D with
 |true=>
  rw[hb]at c1 c2 c3;simp only[Eg]at c1 c2 c3;obtain⟨t',ft,_,_,_,hf,_,c4⟩:=Q3 tw (show Ad T D N (b::(b+1)::st) i o from c3) (c2 0 _ rfl) En h0 h1 hD;rw[ht]at ft;cases ft;have e1:=A7f (.go hs qH c1 Eo hf) Du ht;have k1:F60 (n:Int) 1 N T=_:=kid (T:=T) c1 1 Eo;obtain⟨t2,b2,pX,de,gw,d1,d2,d3⟩:=c4.rl tw (c2 1 _ rfl) (λ_=>C2d);obtain⟨nd,n1,n2⟩:=c1;cases w1:wd t2 Q4 with
  |true=>
   rw[w1]at d1 d2 d3;simp only[Eg]at d1 d2 d3;obtain⟨_,_,_,_,_,_,_,d4⟩:=Q3 tw (show Ad T D N (b2::(b2+1)::(b2+2)::(b2+3)::st) (i+1) o from d3) (d2 0 _ rfl) En h0 h1 hD;obtain⟨t3,_,gJ,_,e2,_,_,d5⟩:=Q3 tw d4 (d2 1 _ rfl) En h0 h1 hD;obtain⟨ds,j,e3,d6,hj,lX,ld⟩:=A3L tw hD false h0 h1 d5 (d2 2 _ rfl);obtain⟨l,k,e4,d7,eJ,ln,gl,ll⟩:=IH (b2+3) j o st hg h0 h1 d6 (d2 3 _ rfl);have ll:=ll.le (Gv _ 10);have e4:(H9 d).1 ((b2+3:Nat):Int) N T=_:=e4;obtain⟨md,m1,m2⟩:=d1;refine⟨.mk 3 [] [] t3.text [] ds l t.pos,k,go _ ?_,d7,Du,B16 Ep Eo Eo gJ.1 GL.nil lX (λh=>absurd h Ep) gl.1 gl.2,?_⟩
   ·unfold A2d;have tu:idx N ((b+1:Nat):Int)=some md:=by rw[M5];exact m1
    simp only[gd,e1,kt_,qt,Eg,M5 N n,n1,n2,show(((kI b [A3D,A5V]).length:Nat):Int)=2 from rfl,show((2:Int)==2)=true from rfl,k1,kz,qz,tu,m2,show(((kI b2 [Q4,E1,G7,L5]).length:Nat):Int)=4 from rfl,show((4:Int)==4)=true from rfl,show idx (kI b2 [Q4,E1,G7,L5]) 1=some ((b2+1:Nat):Int)from rfl,show idx (kI b2 [Q4,E1,G7,L5]) 2=some ((b2+2:Nat):Int)from rfl,show idx (kI b2 [Q4,E1,G7,L5]) 3=some ((b2+3:Nat):Int)from rfl,e2,e3,e4,kd,qd,kes,qes]
   ·exact((lq.tok (n:=17000600) (Du:i<i+1+1+1) Du).comp (ld.comp ll)).le (len _ _ _ (by simp[SelT.alias_]) (by simp[SelT.name]) gJ.1 (by show 0+_<=_;exact Ii (Fx _)) (by show(if l=[]then 0 else _)<=_;rw[Ek ln];exact Ff _))
  |false=>
  rw[w1]at d1 d2 d3;simp only[Eh]at d1 d2 d3;cases w2:t2.kind==3 with
  |true=>
   rw[w2]at d1 d2 d3;simp only[Eg]at d1 d2 d3;obtain⟨t3,_,gJ,_,e2,_,_,d5⟩:=Q3 tw (show Ad T D N (b2::(b2+1)::st) (i+1) o from d3) (d2 0 _ rfl) En h0 h1 hD;obtain⟨ds,j,e3,d6,hj,lX,ld⟩:=A3L tw hD false h0 h1 d5 (d2 1 _ rfl);obtain⟨md,m1,m2⟩:=d1;obtain⟨bd,b1,xk⟩:=d2 0 _ rfl;refine⟨.mk 2 [] t3.text [] [] ds [] t.pos,j,go _ ?_,d6,Du,B16 Ep Eo gJ.1 Eo GL.nil lX (λ_=>rfl) Eo (λx hx=>by cases hx),?_⟩
   ·unfold A2d;have tu:idx N ((b+1:Nat):Int)=some md:=by rw[M5];exact m1
    have xl:idx N (b2:Int)=some bd:=by rw[M5];exact b1
    simp only[gd,e1,kt_,qt,Eg,Eh,M5 N n,n1,n2,show(((kI b [A3D,A5V]).length:Nat):Int)=2 from rfl,show((2:Int)==2)=true from rfl,k1,kz,qz,tu,m2,show(((kI b2 [X3,G7]).length:Nat):Int)=2 from rfl,show((2:Int)==4)=false from rfl,show idx (kI b2 [X3,G7]) 0=some (b2:Int)from rfl,show idx (kI b2 [X3,G7]) 1=some ((b2+1:Nat):Int)from rfl,xl,xk,show(X3==[98,117,116,79,110])=true from rfl,e2,e3,kd,qd]
   ·exact((lq.tok (n:=17000600) (Du:i<i+1+1) Du).comp ld).le (Hp (len _ _ 0 (by simp[SelT.alias_]) gJ.1 (by simp[SelT.on_]) (by show 0+_<=_;exact Ii (Fx _)) (by show(if([]:Ee)=[]then 0 else _)<=0;rw[El rfl];exact Ff _)) (Ff _))
  |false=>
   rw[w2]at d1 d2 d3;simp only[Eh]at d1 d2 d3;obtain⟨ds,j,e3,d6,hj,lX,ld⟩:=A3L tw hD false h0 h1 (show Ad T D N (b2::(b2+1)::st) (i+1) o from d3) (d2 0 _ rfl);obtain⟨l,k,e4,d7,eJ,ln,gl,ll⟩:=IH (b2+1) j o st hg h0 h1 d6 (d2 1 _ rfl);have ll:=ll.le (Gv _ 10);have e4:(H9 d).1 ((b2+1:Nat):Int) N T=_:=e4;have e3:A0C (b2:Int) N T=_:=e3;obtain⟨md,m1,m2⟩:=d1;obtain⟨bd,b1,xk⟩:=d2 0 _ rfl;refine⟨.mk 3 [] [] [] [] ds l t.pos,k,go _ ?_,d7,Du,B16 Ep Eo Eo Eo GL.nil lX (λh=>absurd h Ep) gl.1 gl.2,?_⟩
   ·unfold A2d;have tu:idx N ((b+1:Nat):Int)=some md:=by rw[M5];exact m1
    have xl:idx N (b2:Int)=some bd:=by rw[M5];exact b1
    simp only[gd,e1,kt_,qt,Eg,Eh,M5 N n,n1,n2,show(((kI b [A3D,A5V]).length:Nat):Int)=2 from rfl,show((2:Int)==2)=true from rfl,k1,kz,qz,tu,m2,show(((kI b2 [G7,L5]).length:Nat):Int)=2 from rfl,show((2:Int)==4)=false from rfl,show idx (kI b2 [G7,L5]) 0=some (b2:Int)from rfl,show idx (kI b2 [G7,L5]) 1=some ((b2+1:Nat):Int)from rfl,xl,xk,show(G7==[98,117,116,79,110])=false from rfl,e3,e4,kd,qd,kes,qes]
   ·exact((lq.tok (n:=17000600) (Du:i<i+1) Du).comp (ld.comp ll)).le (len _ _ _ (by simp[SelT.alias_]) (by simp[SelT.name]) (by simp[SelT.on_]) (by show 0+_<=_;exact Ii (Fx _)) (by show(if l=[]then 0 else _)<=_;rw[Ek ln];exact Ff _))
 |false=>
  rw[hb]at c1 c2 c3;simp only[Eh]at c1 c2 c3;obtain⟨t',ft,_,_,_,hf,_,c4⟩:=Q3 tw (show Ad T D N (b::(b+1)::(b+2)::(b+3)::(b+4)::st) i o from c3) (c2 0 _ rfl) En h0 h1 hD;rw[ht]at ft;cases ft;have e1:=A7f (.go hs qH c1 Eo hf) Du ht;have k1:F60 (n:Int) 1 N T=_:=kid (T:=T) c1 1 Eo;have k2:F60 (n:Int) 2 N T=_:=kid (T:=T) c1 2 Eo;have k3:F60 (n:Int) 3 N T=_:=kid (T:=T) c1 3 Eo;have k4:F60 (n:Int) 4 N T=_:=kid (T:=T) c1 4 Eo;obtain⟨p,al,nm,ia,ea,c5,iP,iU,qo⟩:∃(p:Bool)(al nm:DT)(ia:Nat),(N4 ((b+1:Nat):Int) N T=some ([.bool (!p)],bxN N T)/\(p=true->∃(q:Nat)(t2:A0),F60 ((b+1:Nat):Int) 1 N T=some ([.int .i64 (q:Int)],bxN N T)/\M0 (q:Int) N T=some ([.agg .tok t2],bxN N T)/\al=t.text/\nm=t2.text)/\(p=false->al=[]/\nm=t.text))/\Ad T D N ((b+2)::(b+3)::(b+4)::st) ia o/\al.length<=8400000/\nm.length<=8400000/\i+1<=ia:=by
   obtain⟨t2,b2,pX,de,_,d1,d2,d3⟩:=c4.rl tw (c2 1 _ rfl) (λ_=>C4p);cases w:pu t2 A0j with
   |false=>
    rw[w]at d1 d3;exact⟨false,[],t.text,i+1,⟨A2C d1,λh=>(by cases h),λ_=>⟨rfl,rfl⟩⟩,d3,Eo,hk.1,Ff _⟩
   |true=>
    rw[w]at d1 d2 d3;simp only[Eg]at d1 d2 d3;obtain⟨_,_,_,_,_,_,_,d4⟩:=Q3 tw (show Ad T D N (b2::(b2+1)::(b+2)::(b+3)::(b+4)::st) (i+1) o from d3) (d2 0 _ rfl) En h0 h1 hD;obtain⟨t3,_,gJ,_,e2,_,_,d5⟩:=Q3 tw d4 (d2 1 _ rfl) En h0 h1 hD;exact⟨true,t.text,t3.text,i+1+1+1,⟨A3r d1 Eo,λ_=>⟨b2+1,t3,kid d1 1 Eo,e2,rfl,rfl⟩,λh=>(by cases h)⟩,d5,hk.1,gJ.1,Du⟩
  obtain⟨xs,j1,e2,c6,ly,ga,la⟩:=C4e tw hD false h0 h1 c5 (c2 2 _ rfl);obtain⟨ds,j2,e3,c7,mw,lX,ld⟩:=A3L tw hD false h0 h1 c6 (c2 3 _ rfl);obtain⟨q,l,j3,es,c8,DJ,CL,CM,ll⟩:∃(q:Bool)(l:Ee)(j3:Nat),(N4 ((b+4:Nat):Int) N T=some ([.bool (!q)],bxN N T)/\(q=true->∃(m:Nat),F60 ((b+4:Nat):Int) 0 N T=some ([.int .i64 (m:Int)],bxN N T)/\(H9 d).1 (m:Int) N T=some ([.sl .sel l (some 1)],bxN N T))/\(q=false->l=[]))/\Ad T D N st j3 o/\j2<=j3/\l.length<=1100000/\(∀x∈l,W9 g x)/\lq (if l=[]then 0 else(brS (G9 g (o.toNat+1)) o.toNat l).length) j2 j3:=by
   obtain⟨t2,b2,pX,de,_,d1,d2,d3⟩:=c7.rl tw (c2 4 _ rfl) (λ_=>C0o);cases w:pu t2 W2 with
   |false=>
    rw[w]at d1 d3;exact⟨false,[],j2,⟨A2C d1,λh=>(by cases h),λ_=>rfl⟩,d3,Ff _,Eo,λx hx=>(by cases hx),by rw[El rfl];exact lq.nil (Ff _)⟩
   |true=>
    rw[w]at d1 d2 d3;simp only[Eg]at d1 d2 d3;obtain⟨l,k,e4,d7,eJ,ln,gl,ll⟩:=IH b2 j2 o st hg h0 h1 d3 (d2 0 _ rfl);have ll:=ll.le (Gv _ 10);exact⟨true,l,k,⟨A3r d1 Eo,λ_=>⟨b2,A3f d1,e4⟩,λh=>(by cases h)⟩,d7,Du,gl.1,gl.2,by rw[Ek ln];exact ll⟩
  have bU:A2d (H9 d).1 (H9 d).2 (n:Int) N T=some ([.agg .sel (.mk 1 al nm [] xs ds l t.pos)],bxN N T):=by
   obtain⟨nd,n1,n2⟩:=c1;obtain⟨s1,s2,s3⟩:=es;obtain⟨a1,a2,a3⟩:=ea;unfold A2d;cases p with
   |true=>
    obtain⟨p1,p2,p3,p4,rfl,rfl⟩:=a2 rfl;cases q with
    |true=>
     obtain⟨r1,r2,r3⟩:=s2 rfl;simp only[gd,e1,kt_,qt,Eg,Eh,M5 N n,n1,n2,show(((kI b [E1,A3A,Y0,G7,A4b]).length:Nat):Int)=5 from rfl,show((5:Int)==2)=false from rfl,k1,k2,k3,k4,kz,qz,e2,kas,qas,e3,kd,qd,a1,kb,qb,Gg,Gi,p3,p4,s1,r2,r3,kes,qes]
    |false=>
     cases s3 rfl;simp only[gd,e1,kt_,qt,Eg,Eh,M5 N n,n1,n2,show(((kI b [E1,A3A,Y0,G7,A4b]).length:Nat):Int)=5 from rfl,show((5:Int)==2)=false from rfl,k1,k2,k3,k4,kz,qz,e2,kas,qas,e3,kd,qd,a1,kb,qb,Gg,Gi,p3,p4,s1]
   |false=>
    obtain⟨rfl,rfl⟩:=a3 rfl;cases q with
    |true=>
     obtain⟨r1,r2,r3⟩:=s2 rfl;simp only[gd,e1,kt_,qt,Eg,Eh,M5 N n,n1,n2,show(((kI b [E1,A3A,Y0,G7,A4b]).length:Nat):Int)=5 from rfl,show((5:Int)==2)=false from rfl,k1,k2,k3,k4,kz,qz,e2,kas,qas,e3,kd,qd,a1,kb,qb,Gg,Gi,s1,r2,r3,kes,qes]
    |false=>
     cases s3 rfl;simp only[gd,e1,kt_,qt,Eg,Eh,M5 N n,n1,n2,show(((kI b [E1,A3A,Y0,G7,A4b]).length:Nat):Int)=5 from rfl,show((5:Int)==2)=false from rfl,k1,k2,k3,k4,kz,qz,e2,kas,qas,e3,kd,qd,a1,kb,qb,Gg,Gi,s1]
  refine⟨.mk 1 al nm [] xs ds l t.pos,j3,go _ bU,c8,Du,B16 Ep iP iU Eo ga lX (λh=>absurd h Ep) CL CM,?_⟩;exact((lq.tok (n:=17000600) (Du:i<ia) Du).comp ((la.comp ld).comp ll)).le (len _ _ _ iP iU (by simp[SelT.on_]) (Ff _) (Ff _))
def C4X(tw:TW T)(hD:D<=200):∀(g d:Nat),2*g<=d->C35 N T D g d
 |0,_,_=>λ_ _ _ _ h h0 h1 _ _=>Du
 |g+1,0,h=>Du
 |g+1,1,h=>Du
 |g+1,d+2,h=>λn i o st hg h0 h1 ha hs=>by
  have nl:=tw.len;have IH:=C4X tw hD g d Du;obtain⟨_,b,_,_,_,c1,c2,c3⟩:=ha.rl tw hs (λ_=>B3T);obtain⟨_,_,_,_,_,_,_,iJ,c4⟩:=Ad.tm tw (show Ad T D N (b::(b+1)::(b+2)::(b+3)::st) i o from c3) (c2 0 _ rfl) En h0 Du;have iJ:=iJ En;rw[show br W2=1 from En]at c4;have hn:(o+1).toNat=o.toNat+1:=Du
  have step:∀(e i:Nat)(st:DX),Ad T D N (e::st) i (o+1)->Sy N e A19->∃x j,RdS N T (d+1) e x/\Ad T D N st j (o+1)/\i<j/\W9 (g+1) x/\(G9 (g+1) (o.toNat+1) x).length+500+KB*i<=KB*j:=λe i st hA hS=>by
   have:=D3T tw hD IH Du Du Du hA hS;rw[hn]at this;exact this
  obtain⟨x,j,e1,c5,hj,gx,lx⟩:=step (b+1) (i+1) _ c4 (c2 1 _ rfl);obtain⟨L,l,k,q1,q2,q3,q4,q5,q6,q7⟩:=A4C (α:=SelT) (Rd:=RdS N T (d+1)) (G:=W9 (g+1)) (μ:=λx=>(G9 (g+1) (o.toNat+1) x).length+500) (kb:=KB) (E:=A19) tw (λt=>⟨_,C2k⟩) En step (T.length+1) (b+2) j Du c5 (c2 2 _ rfl);obtain⟨_,_,_,_,_,_,CI,_,c6⟩:=Ad.tm tw q3 (c2 3 _ rfl) En Du Du;rw[show br A2f= -1 from En,show o+1+ -1=o from Du]at c6;have k1:F60 (n:Int) 1 N T=_:=kid (T:=T) c1 1 Eo;have k2:F60 (n:Int) 2 N T=_:=kid (T:=T) c1 2 Eo;have hL:L.length<=1100000:=by rw[q2.len];omega
  have e1:(H9 (d+1)).2 ((b+1:Nat):Int) N T=some ([.agg .sel x],bxN N T):=e1;refine⟨x::l,k+1,?_,c6,Du,Eo,⟨by rw[Ez];omega,λy hy=>(Fm.1 hy).elim (λh=>h ▸ gx) (q5 y)⟩,?_⟩
  ·show A8q (H9 (d+1)).1 (H9 (d+1)).2 (n:Int) N T=_;unfold A8q B0t;simp only[gd,k1,k2,kz,qz,e1,ke,qe,Eg,A6o q1 hL,kc,qc,show A3 (0+1) 144=true from rfl];have:=A65 (S:=Int×DT×DT×DT×List D1×List C7×Ee×Int×Int) (R:=B6)
    (λk be i s=>A3n NN (H9 (d+1)).1 (H9 (d+1)).2 (n:Int) N T k be (L.map λ(e:Nat)=>(e:Int)) (i:Int) s.1 s.2.1 s.2.2.1 s.2.2.2.1 s.2.2.2.2.1 s.2.2.2.2.2.1 s.2.2.2.2.2.2.1 s.2.2.2.2.2.2.2.1 s.2.2.2.2.2.2.2.2 (λdJ cW er ee eh fv jK nj fI iX z20 z21 iY=>some ([.sl .sel dJ (some 1)],bxN N T)))
    (λbe=>some ([.sl .sel be (some 1)],bxN N T)) q2 hL
    (λk be s=>by unfold A3n;simp only[B2i,A09,ltF,Eh])
    (λk be i e y s he hi hr ha=>⟨(y.kind,y.alias_,y.name,y.on_,y.args,y.dirs,y.sels,y.pos.line,y.pos.col),by
     have hr:(H9 (d+1)).2 (e:Int) N T=_:=hr;dsimp only
     conv=>lhs;unfold A3n
     simp only[B2i,A09,ltT hi,Eg,A6A he,hr,gd,ke,qe,A7e (c:=144) ha,wrI (show i<=4400000 from Du)];cases y;rfl⟩) [x] (x.kind,x.alias_,x.name,x.on_,x.args,x.dirs,x.sels,x.pos.line,x.pos.col) Eo
   refine Eq.trans ?_ this;cases x;rfl
  ·have h3:lq (sw (λx=>(G9 (g+1) (o.toNat+1) x).length+500) (x::l)) (i+1) k:=by
    show sw _ (x::l)+KB*(i+1)<=KB*k;simp only[sw];omega
   have:=D22 (f:=G9 (g+1) (o.toNat+1)) (show o.toNat<=201 from Du) (x::l);exact(((lq.tok (n:=1000) (Gu i) Du).comp h3).comp (lq.nil (He k))).le Du
def B3y(tw:TW T)(hD:D<=200)(h0:0<=o)(h1:o<=D)(ha:Ad T D N (n::st) i o)(hs:Sy N n L5):∃l j,A6p (n:Int) N T=some ([.sl .sel l (some 1)],bxN N T)/\Ad T D N st j o/\i<j/\l≠[]/\GL (W9 201) l/\lq ((brS (G9 201 (o.toNat+1)) o.toNat l).length+10) i j:=
 C4X tw hD 201 DD (by have:DD=1000000:=rfl;omega) n i o st Du h0 h1 ha hs
end
def GVd(v:VdT):Prop:=v.name.length<=8400000/\GTy v.type_/\(v.hasDefault=true->N8 DD v.dflt/\wt DD v.dflt<=1100000)/\GL A2m v.dirs
def A35(b:Bool)(v:LitT):DT:=bif b then [32,61,32]++prN DD v else []
def U0(v:VdT):DT:=[36]++v.name++[58,32]++prT v.type_++A35 v.hasDefault v.dflt++Q7 v.dirs
def A1z(l:List VdT):DT:=if l=[]then []else [40]++jn 0 (l.map U0)++[41]
def opW(k:Int):DT:=bif k==2 then [109,117,116,97,116,105,111,110]else bif k==3 then [115,117,98,115,99,114,105,112,116,105,111,110]else [113,117,101,114,121]
def B2b(d:D8):DT:=bif d.kind==4 then [102,114,97,103,109,101,110,116,32]++d.name++[32,111,110,32]++d.on_ else opW d.kind++(if d.name=[]then []else [32]++d.name)++A1z d.vars
def Q2(d:D8):DT:=(bif d.short then []else B2b d++Q7 d.dirs++[32])++brS (G9 201 1) 0 d.sels
structure A24(d:D8):Prop where
 kd:1<=d.kind/\d.kind<=4
 nm:d.name.length<=8400000
 on:d.on_.length<=8400000
 vs:GL GVd d.vars
 ds:GL A2m d.dirs
 ss:GL (W9 201) d.sels
 ne:d.sels≠[]
 sh:d.short=true->d.kind=1
section
variable {N:DY}{T:DZ}{D:Int}{st:DX}{i j n m b:Nat}{o:Int}{t:A0}{X:DT}
def kv(x:VdT):okB [.agg .vd] kN (some ([.agg .vd x],bxN N T))=true:=rfl
def kf(x:D8):okB [.agg .dfn] kN (some ([.agg .dfn x],bxN N T))=true:=rfl
def qv(y:VdT)(x:Ec):B4C (gB (some ([.agg .vd y],x)) 0)=y:=rfl
def qf(y:D8)(x:Ec):N6 (gB (some ([.agg .dfn y],x)) 0)=y:=rfl
def C34(v:VdT):vE v=v:=by
 obtain⟨a,b,c,d,e,f⟩:=v;cases d;rfl
def RdV(N:DY)(T:DZ)(e:Nat)(x:VdT):Prop:=A1h (e:Int) N T=some ([.agg .vd x],bxN N T)
def C0K(tw:TW T)(hD:D<=200)(h0:0<=o)(h1:o<=D)(ha:Ad T D N (n::st) i o)(hs:Sy N n A4a):∃x j,RdV N T n x/\Ad T D N st j o/\i<j/\GVd x/\(U0 x).length+2+KB*i<=KB*j:=by
 have nl:=tw.len;obtain⟨_,b,_,_,_,c1,c2,c3⟩:=ha.rl tw hs (λ_=>C3d);obtain⟨t,_,hk,_,e0,_,_,c4⟩:=Q3 tw (show Ad T D N (b::(b+1)::(b+2)::(b+3)::(b+4)::(b+5)::st) i o from c3) (c2 0 _ rfl) En h0 h1 hD;obtain⟨t2,_,de,_,e1,_,_,c5⟩:=Q3 tw c4 (c2 1 _ rfl) En h0 h1 hD;obtain⟨_,_,_,_,_,_,_,c6⟩:=Q3 tw c5 (c2 2 _ rfl) En h0 h1 hD;obtain⟨r,j1,e3,c7,ly,gt⟩:=D0H tw hD h0 h1 c6 (c2 3 _ rfl);have lt:=gt.len;have k0:=A3f (T:=T) c1;have k1:F60 (n:Int) 1 N T=_:=kid (T:=T) c1 1 Eo;have k3:F60 (n:Int) 3 N T=_:=kid (T:=T) c1 3 Eo;have k4:F60 (n:Int) 4 N T=_:=kid (T:=T) c1 4 Eo;have k5:F60 (n:Int) 5 N T=_:=kid (T:=T) c1 5 Eo;have lb:lq (t2.text.length+(prT r).length+10) i j1:=lq.tok Du (by have:=de.1;omega);have len:∀v:VdT,v.name=t2.text->v.type_=r->(U0 v).length+2<=(t2.text.length+(prT r).length+10)+((A35 v.hasDefault v.dflt).length+(Q7 v.dirs).length):=λv h1 h2=>by
  unfold U0;rw[h1,h2];simp only[Ey,Ez,Fa];omega
 obtain⟨t3,b2,_,_,_,d1,d2,d3⟩:=c7.rl tw (c2 4 _ rfl) (λ_=>C0x);cases w:pu t3 A7Y with
 |false=>
  rw[w]at d1 d3;obtain⟨ds,j,e5,c9,hj,lX,ld⟩:=A3L tw hD true h0 h1 (show Ad T D N ((b+5)::st) j1 o from d3) (c2 5 _ rfl);refine⟨⟨t2.text,r,false,.mk 0 [] false [] [] ⟨0,0⟩,ds,t.pos⟩,j,?_,c9,Du,⟨de.1,gt,λh=>(by cases h),lX⟩,(lb.comp ld).le (Hp (len _ rfl rfl) ?_)⟩
  ·unfold RdV A1h;simp only[gd,k0,kz,qz,e0,kt_,qt,k1,e1,k3,e3,kr,qr,k5,e5,kd,qd,k4,A2C d1,kb,qb,Gg,Eg,Eh]
  ·show _+(0+(Q7 ds).length)<=_;omega
 |true=>
  rw[w]at d1 d2 d3;simp only[Eg]at d1 d2 d3;obtain⟨_,_,_,_,_,_,_,d4⟩:=Q3 tw (show Ad T D N (b2::(b2+1)::(b+5)::st) j1 o from d3) (d2 0 _ rfl) En h0 h1 hD;obtain⟨v,j2,e6,d5,mw,g3,g4⟩:=C3a tw hD true h0 h1 d4 (d2 1 _ rfl);have CN:=d5.le;obtain⟨ds,j,e5,c9,hj,lX,ld⟩:=A3L tw hD true h0 h1 d5 (c2 5 _ rfl);have kk:F60 ((b+4:Nat):Int) 1 N T=_:=kid (T:=T) d1 1 Eo;refine⟨⟨t2.text,r,true,v,ds,t.pos⟩,j,?_,c9,Du,⟨de.1,gt,λ_=>⟨g3,by show wt DD v<=_;omega⟩,lX⟩,(lb.comp (((lq.nil (He j1)).comp (C5f (n:=(prN DD v).length+3) g3 g4 (wt1 v) Du)).comp ld)).le (Hp (len _ rfl rfl) ?_)⟩
  ·unfold RdV A1h;simp only[gd,k0,kz,qz,e0,kt_,qt,k1,e1,k3,e3,kr,qr,k5,e5,kd,qd,k4,A3r d1 Eo,kb,qb,Gi,Eg,Eh,kk,e6,kl,ql];cases v;rfl
  ·have:(A35 true v).length=3+(prN DD v).length:=by show([32,61,32]++prN DD v:DT).length=_;simp;omega
   show _+((A35 true v).length+(Q7 ds).length)<=_;rw[this];omega
def B0G{D':Int}(hD:D<=D'){N':DY}:∀(f:Nat)(N:DY)(st:DX)(i:Nat)(o:Int),L1 T D f N st i o=some (⟨N',T⟩,0,0)->L1 T D' f N st i o=some (⟨N',T⟩,0,0)
 |0,_,_,_,_,h=>by cases h
 |f+1,N,[],i,o,h=>by unfold L1 at h ⊢;exact h
 |f+1,N,n::aw,i,o,h=>by
  unfold L1 at h ⊢
  match hn:N[n]? with
  |none=>rw[hn]at h;cases h
  |some nd=>
  rw[hn]at h
  match ht:T[i]? with
  |none=>rw[ht]at h;cases h
  |some t=>
  rw[ht]at h;simp only at h ⊢;obtain⟨q,h⟩:=A8 h;rw[q,Eg];cases hT:lB (gL (F56 nd.sym) 0)with
  |true=>
   rw[hT]at h;simp only[Eg]at h ⊢;obtain⟨q,h⟩:=A8 h;rw[q,Eg];cases hM:lB (gL (F58 nd.sym t) 0)with
   |false=>rw[hM]at h;cases h
   |true=>
    rw[hM]at h;simp only[Eg]at h ⊢;cases hO:O9 nd.sym with
    |false=>rw[hO]at h;exact B0G hD f _ _ _ _ h
    |true=>
     rw[hO]at h;simp only[Eg]at h ⊢;cases hd:decide (D<Fc .i64 (o+1))with
     |true=>rw[hd]at h;cases h
     |false=>
      rw[hd]at h;have:=of_decide_eq_false hd;rw[Ej (Du:¬D'<Fc .i64 (o+1))];exact B0G hD f _ _ _ _ h
  |false=>
   rw[hT]at h;simp only[Eh]at h ⊢;cases hk:nd.kids with
   |cons=>rw[hk]at h;cases h
   |nil=>
    rw[hk]at h;simp only at h ⊢;obtain⟨q,h⟩:=A8 h;rw[q,Eg];obtain⟨q,h⟩:=A8 h;rw[q,Eg];exact B0G hD f _ _ _ _ h
def Ad.mono{D':Int}(hD:D<=D')(h:Ad T D N st i o):Ad T D' N st i o:=by
 obtain⟨h1,f,N,h2,h3⟩:=h;exact⟨h1,f,N,B0G hD f _ _ _ _ h2,h3⟩
def RdD(N:DY)(T:DZ)(e:Nat)(x:D8):Prop:=F59 (e:Int) N T=some ([.agg .dfn x],bxN N T)
def C7t(l:List VdT):(A1z l).length<=2+sl U0 l:=by
 have:=B8f U0 l;unfold A1z;split
 ·simp
 ·simp only[Ey,Ez,Fa];omega
def D6t(tw:TW T)(hD:D<=200)(kn:0<=D){k:Int}(hk:k=1\/k=2\/k=3)(ha:Ad T D N ((b+1)::(b+2)::(b+3)::(b+4)::st) (i+1) 0)(c1:Kd N n (kI b [E1,A55,A5v,G7,L5]))(c2:Ss N b [E1,A55,A5v,G7,L5])(p:B1):
  ∃ds ss x j,A0C ((b+3:Nat):Int) N T=some ([.sl .dir ds (some 1)],bxN N T)/\A6p ((b+4:Nat):Int) N T=some ([.sl .sel ss (some 1)],bxN N T)/\
   O59 (λL k nm ds ss p v=>L59 N T L (λ_ vs _=>some ([.agg .dfn ⟨k,nm,[],false,vs,ds,ss,p⟩],bxN N T)) NN 0 ([]++[vE v]) v) (n:Int) N T ds ss p k=some ([.agg .dfn x],bxN N T)/\Ad T D N st j 0/\i<j/\A24 x/\(Q2 x).length+2+KB*i<=KB*j:=by
 have nl:=tw.len;have k1:F60 (n:Int) 1 N T=_:=kid (T:=T) c1 1 Eo;have k2:F60 (n:Int) 2 N T=_:=kid (T:=T) c1 2 Eo;obtain⟨q,nm,i1,eN,zV,c5,dD,cw⟩:∃(q:Bool)(nm:DT)(i1:Nat),N4 ((b+1:Nat):Int) N T=some ([.bool (!q)],bxN N T)/\((q=true->∃(m:Nat)(t2:A0),F60 ((b+1:Nat):Int) 0 N T=some ([.int .i64 (m:Int)],bxN N T)/\M0 (m:Int) N T=some ([.agg .tok t2],bxN N T)/\nm=t2.text)/\(q=false->nm=[]))/\Ad T D N ((b+2)::(b+3)::(b+4)::st) i1 0/\nm.length<=8400000/\i+1<=i1:=by
  obtain⟨t2,b2,_,_,_,d1,d2,d3⟩:=ha.rl tw (c2 1 _ rfl) (λ_=>C12);cases w:t2.kind==3 with
  |false=>rw[w]at d1 d3;exact⟨false,[],i+1,A2C d1,⟨λh=>(by cases h),λ_=>rfl⟩,d3,Eo,Ff _⟩
  |true=>
   rw[w]at d1 d2 d3;obtain⟨t3,_,gJ,_,e2,_,_,d4⟩:=Q3 tw (show Ad T D N (b2::(b+2)::(b+3)::(b+4)::st) (i+1) 0 from d3) (d2 0 _ rfl) En Ep kn hD;exact⟨true,t3.text,i+1+1,A3r d1 Eo,⟨λ_=>⟨b2,t3,A3f d1,e2,rfl⟩,λh=>(by cases h)⟩,d4,gJ.1,Du⟩
 obtain⟨w,vs,i2,eV,c6,CO,cK,CP⟩:∃(w:Bool)(vs:List VdT)(i2:Nat),(N4 ((b+2:Nat):Int) N T=some ([.bool (!w)],bxN N T)/\(w=true->∃(m r:Nat)(v:VdT)(l:List VdT)(L:DX),F60 ((b+2:Nat):Int) 1 N T=some ([.int .i64 (m:Int)],bxN N T)/\A1h (m:Int) N T=some ([.agg .vd v],bxN N T)/\F60 ((b+2:Nat):Int) 2 N T=some ([.int .i64 (r:Int)],bxN N T)/\Chn N r L/\L.length<=1100000/\FA (RdV N T) L l/\vs=v::l)/\(w=false->vs=[]))/\Ad T D N ((b+3)::(b+4)::st) i2 0/\GL GVd vs/\i1<=i2/\lq (A1z vs).length i1 i2:=by
  obtain⟨t2,b2,_,_,_,d1,d2,d3⟩:=c5.rl tw (c2 2 _ rfl) (λ_=>C05);cases w:pu t2 A06 with
  |false=>rw[w]at d1 d3;exact⟨false,[],i1,⟨A2C d1,λh=>(by cases h),λ_=>rfl⟩,d3,GL.nil,Ff _,lq.nil (Ff _)⟩
  |true=>
   rw[w]at d1 d2 d3;simp only[Eg]at d1 d2 d3;obtain⟨_,_,_,_,_,_,_,iJ,d4⟩:=Ad.tm tw (show Ad T D N (b2::(b2+1)::(b2+2)::(b2+3)::(b+3)::(b+4)::st) i1 0 from d3) (d2 0 _ rfl) En Ep Ep;have iJ:=iJ En;rw[show(0:Int)+br A06=1 from En]at d4;obtain⟨v,j,e1,d5,hj,gv,lv⟩:=C0K tw hD Ep Du d4 (d2 1 _ rfl);obtain⟨L,l,m,q1,q2,q3,q4,q5,q6,q7⟩:=A4C (α:=VdT) (Rd:=RdV N T) (G:=GVd) (μ:=λx=>(U0 x).length+2) (kb:=KB) (E:=A4a) tw (λt=>⟨!(pu t A0a),by rw[C1v];cases pu t A0a<;>rfl⟩) En
    (λe i st hA hS=>C0K tw hD Ep Du hA hS) (T.length+1) (b2+2) j Du d5 (d2 2 _ rfl)
   obtain⟨_,_,_,_,_,_,DK,_,d6⟩:=Ad.tm tw q3 (d2 3 _ rfl) En Ep Ep;rw[show(1:Int)+br A2X=0 from En]at d6;refine⟨true,v::l,m+1,⟨A3r d1 Eo,λ_=>⟨b2+1,b2+2,v,l,L,kid d1 1 Eo,e1,kid d1 2 Eo,q1,by rw[q2.len];omega,q2,rfl⟩,λh=>(by cases h)⟩,d6,⟨by rw[Ez];omega,λy hy=>(Fm.1 hy).elim (λh=>h ▸ gv) (q5 y)⟩,Du,?_⟩;refine(((lq.tok (n:=2) (Gu i1) Du).comp (show lq ((U0 v).length+2) (i1+1) j from lv)).comp ((show lq (sl U0 l) j m from q7).comp (lq.nil (He m)))).le ?_;have:=C7t (v::l);have h2:sl U0 (v::l)=((U0 v).length+2)+sl U0 l:=by unfold sl;simp only[sw]
   omega
 obtain⟨ds,j1,e3,c7,ly,xm,xn⟩:=A3L tw hD false Ep kn c6 (c2 3 _ rfl);obtain⟨ss,j,e4,c8,hj,ne,tv,lss⟩:=B3y tw hD Ep kn c7 (c2 4 _ rfl);have lss:=lss.le (Gv _ 10);have tz:∀nm,V59 (λL k nm ds ss p v=>L59 N T L (λ_ vs _=>some ([.agg .dfn ⟨k,nm,[],false,vs,ds,ss,p⟩],bxN N T)) NN 0 ([]++[vE v]) v) (n:Int) N T k nm ds ss p=some ([.agg .dfn ⟨k,nm,[],false,vs,ds,ss,p⟩],bxN N T):=λnm=>by
  obtain⟨v1,v2,v3⟩:=eV;unfold V59;cases w with
  |false=>
   cases v3 rfl;simp only[gd,k2,kz,qz,v1,kb,qb,Gi,Gg,Eg,Eh]
  |true=>
   obtain⟨m,r,v,l,L,u1,u2,u3,u4,u5,u6,rfl⟩:=v2 rfl;simp only[gd,k2,kz,qz,v1,kb,qb,Gi,Gg,Eg,Eh,u1,u2,u3,kv,qv,A6o u4 u5,kc,qc,show A3 (0+1) 192=true from rfl];have:=A65 (S:=VdT) (R:=B6) (λq be i s=>L59 N T (L.map λ(e:Nat)=>(e:Int)) (λ_ vs _=>some ([.agg .dfn ⟨k,nm,[],false,vs,ds,ss,p⟩],bxN N T)) q (i:Int) be s)
    (λbe=>some ([.agg .dfn ⟨k,nm,[],false,be,ds,ss,p⟩],bxN N T)) u6 u5
    (λq be s=>by unfold L59;simp only[A09,ltF,Eh])
    (λq be i e y s he hi hr ha=>⟨y,by
     have hr:A1h (e:Int) N T=_:=hr
     conv=>lhs;unfold L59
     simp only[A09,ltT hi,Eg,A6A he,hr,gd,kv,qv,A7e (c:=192) ha,wrI (show i<=4400000 from Du),C34]⟩) [v] v Eo
   rw[C34];exact this
 refine⟨ds,ss,⟨k,nm,[],false,vs,ds,ss,p⟩,j,e3,e4,?_,c8,Du,⟨by show 1<=k/\k<=4;omega,dD,Eo,CO,xm,tv,ne,λh=>(by cases h)⟩,?_⟩
 ·unfold O59;cases q with
  |false=>
   cases zV.2 rfl;simp only[gd,k1,kz,qz,eN,kb,qb,Gi,Gg,Eg,Eh,tz]
  |true=>
   obtain⟨m,t2,u1,u2,rfl⟩:=zV.1 rfl;simp only[gd,k1,kz,qz,eN,kb,qb,Gi,Gg,Eg,Eh,u1,u2,kt_,qt,tz]
 ·refine((lq.tok (n:=8400100) (Du:i<i1) Du).comp (CP.comp (xn.comp lss))).le ?_;have hw:(opW k).length<=12:=by
   rcases hk with rfl|rfl|rfl<;>decide
  show(Q2 ⟨k,nm,[],false,vs,ds,ss,p⟩).length+2<=_;unfold Q2 B2b;have h4:(k==4)=false:=by rcases hk with rfl|rfl|rfl<;>rfl
  simp only[h4,Eh,Ey,Ez,Fa];show _<=8400100+((A1z vs).length+((Q7 ds).length+(brS (G9 201 1) 0 ss).length));split
  ·simp only[Fa];omega
  ·simp only[Ey,Ez,Fa];omega
end
def wOk(b:DS)(s:DT):Prop:=b.length+s.length+3000<=MB
def pcs{α:Type}(f:Nat->α->DT):Nat->List α->DT
 |_,[]=>[]
 |i,x::r=>f i x++pcs f (i+1) r
section
variable {α R:Type}{l:List α}{b:DS}
def B9e(p:α->DT):∀(l:List α)(i:Nat),pcs (λi x=>(if i=0 then []else [44,32])++p x) i l=jn i (l.map p)
 |[],_=>rfl
 |x::r,i=>by rw[pcs,Ip,jn,B9e p r]
def A8f(p:α->DT):∀(l:List α)(i:Nat),pcs (λ_ x=>p x) i l=l.flatMap p
 |[],_=>rfl
 |x::r,i=>by rw[pcs,Hj,A8f p r]
def C06(f:Nat->α->DT)(Lf:Nat->Nat->DS->Option R)(K:DS->Option R)(gH:∀n buf,Lf (n+1) l.length buf=K buf)
  (hs:∀n i x buf,l[i]?=some x->i<l.length->x∈l->wOk buf (f i x)->Lf (n+1) i buf=Lf n (i+1) (buf++bI (f i x))):∀(n i:Nat)(r:List α)(buf:DS),r=l.drop i->i<=l.length->l.length<n+i->wOk buf (pcs f i r)->Lf n i buf=K (buf++bI (pcs f i r))
 |0,i,r,buf,h,h1,h2,h3=>Du
 |n+1,i,r,buf,h,h1,h2,h3=>by
  by_cases hi:i<l.length
  ·have hd:l.drop i=l[i]::l.drop (i+1):=Hk hi;rw[h,hd]at h3 ⊢;simp only[pcs,wOk,Ey]at h3 ⊢;rw[hs n i l[i] buf (Fi hi) hi (Iq hi) (by unfold wOk;omega)];rw[C06 f Lf K gH hs n (i+1) _ _ rfl Du Du (by simp only[wOk,Ey,C2];omega)];rw[F1,Fb]
  ·have bR:i=l.length:=Du
   subst bR;rw[h,Ht,gH];simp[pcs,bI]
def wl(f:Nat->α->DT)(Lf:Nat->Nat->DS->Option R)(K:DS->Option R){c:Nat}(hl:l.length<=c)(gH:∀n buf,Lf (n+1) l.length buf=K buf)
  (hs:∀n i x buf,l[i]?=some x->i<l.length->x∈l->wOk buf (f i x)->Lf (n+1) i buf=Lf n (i+1) (buf++bI (f i x)))(hb:wOk b (pcs f 0 l))(hc:c<=4400000:=by decide):Lf NN 0 b=K (b++bI (pcs f 0 l)):=
 C06 f Lf K gH hs NN 0 l b rfl (Fw _) (by rw[NNv];omega) hb
def A0y{i c:Nat}(hl:l.length<=c)(hi:i<l.length)(hc:c<=4400000:=by decide):Fc .i64 ((i:Int)+1)=((i+1:Nat):Int):=S4 Du
def dlt{i:Nat}(hi:i<l.length):decide ((i:Int)<(l.length:Int))=true:=Ei Du
def dge:decide ((l.length:Int)<(l.length:Int))=false:=Ej Du
def A8X(h:l≠[]):((l.length:Int)==0)=false:=by
 cases l with
 |nil=>exact absurd rfl h
 |cons x r=>simp;omega
def o32{a:DT}(h:wOk b a):F32 a b=some ([],J7 (b++bI a)):=S5 (by unfold wOk at h;omega)
def o49{r:I6}(hr:GTy r)(h:wOk b (prT r)):F49 r b=some ([],J7 (b++bI (prT r))):=(C1N hr.1 hr.2 (by have:=hr.2;unfold wOk at h;omega)).2
def p18{r:I6}(hr:GTy r):F18 r=some (.one (.str (prT r))):=by
 have h1:=hr.len;exact(C1N (b:=[]) hr.1 hr.2 (by have:=hr.2;unfold MB;simp;omega)).1
def B7U{v:LitT}(hv:N8 DD v/\wt DD v<=1100000)(h:wOk b (prN DD v)):F45 v b=some ([],J7 (b++bI (prN DD v))):=B32 DD v b hv.1 hv.2 (by unfold wOk at h;omega)
def C2N{v:LitT}(hv:N8 DD v/\wt DD v<=1100000)(h:wOk b (prN DD v)):F44 v b=some ([],H2 (b++bI (prN DD v))):=B4Z DD v b hv.1 hv.2 (by unfold wOk at h;omega)
def p27{a:Eb}(ha:a.length<=1000)(h:wOk b a.flatten):F27 a b=some ([],H2 (b++bI a.flatten)):=Z9 ha (by unfold wOk at h;omega)
def D0j{i:Nat}(h:wOk b []):A1N (i:Int) b=some ([],H2 (b++bI (if i=0 then []else [44,32]))):=B59 (by unfold wOk at h;simp at h;omega)
def O8(l:DS):okB [] kP (some ([],H2 l))=true:=rfl
def N5(l:DS):okB [] kO (some ([],J7 l))=true:=rfl
def C4l(v:LitT):LitT.mk v.kind v.text v.block v.items v.fields v.pos=v:=LitT.eta v
def A0m(l:DS):[[(.ptr 900000 B4:L6),.sl .u8 l (some 92000001)]]=H2 l:=rfl
def A15(l:DS):[[(.sl .u8 l (some 92000000):L6)]]=J7 l:=rfl
end
section
variable {R:Type}{b b0:DS}
def cm(i:Nat):DT:=if i=0 then []else [44,32]
def B18(i:Nat):(cm i).length<=2:=by unfold cm;split<;>decide
def B42{i:Nat}(h:wOk b []):F30 (i:Int) [44,32] b=some ([],J7 (b++bI (cm i))):=B1n (by unfold wOk at h;simp at h ⊢;omega)
def C4r{i:Nat}(h:wOk b []):A1N (i:Int) b=some ([],H2 (b++bI (cm i))):=D0j h
def B1L{α:Type}(p:α->DT)(l:List α)(i:Nat):pcs (λi x=>cm i++p x) i l=jn i (l.map p):=B9e p l i
def Ev{p:Prop}(h:p:=by first|assumption|decide|(simp only[wOk,Ey,C2,Fh,Fg,Fe,Ez,Fa];omega)):p:=h
def C9Q{l:List D1}{k2:Int->Bool->DS->Option R}(hl:GL A2l l)(hb:wOk b (jn 0 (l.map U3))):A3g NN l b0 NN ((0:Nat):Int) b k2=k2 (l.length:Int) false (b++bI (jn 0 (l.map U3))):=by
 rw[<-B1L]at hb ⊢;refine wl _ (λn i buf=>A3g NN l b0 n (i:Int) buf k2) (λbuf=>k2 (l.length:Int) false buf) hl.1 (λn buf=>?_) (λn i x buf hx hi hm hb=>?_) hb
 ·show A3g NN l b0 (n+1) (l.length:Int) buf k2=_;unfold A3g;simp only[B3R,dge,Eh]
 ·have hg:=(hl.2 x hm).2;have hc:=B18 i;simp only[U3]at hb;simp only[wOk,Ey,Ez,Fa]at hb
  conv=>lhs;unfold A3g
  simp(disch:=first|exact Ev|skip)only[B3R,gd,dlt hi,H3,hx,Eg,B42,o32,B7U,N5,G1,C4l,A0y hl.1 hi];simp only[U3,Fb,F1,Fh,Fg,Fe]
def B2P{l:List D1}(hl:GL A2l l)(hb:wOk b (A0F l)):A8l l b=some ([],J7 (b++bI (A0F l))):=by
 by_cases h0:l=[]
 ·subst h0;show some ([],J7 b)=some ([],J7 (b++[]));rw[Fe]
 ·unfold A0F at hb ⊢;rw[Ek h0]at hb ⊢;simp only[wOk,Ey,Ez,Fa]at hb;simp(disch:=first|exact Ev|skip)only[A8l,B5q,gd,A8X h0,Eh,o32,N5,G1,Eg];refine(C9Q hl (by simp only[wOk,Ey,C2,Ez,Fa];omega)).trans ?_;simp(disch:=first|exact Ev|skip)only[o32,N5,G1,Eg,A15,Fb,F1,Fh,Fg,Fe]
def o72{l:List C7}(hl:GL A2m l)(hb:wOk b (Q7 l)):F72 l b=some ([],J7 (b++bI (Q7 l))):=by
 have bE:∀(k2:Int->Bool->DS->DW),A2J NN l b NN ((0:Nat):Int) b k2=k2 (l.length:Int) false (b++bI (Q7 l)):=λk2=>by
  unfold Q7 at hb ⊢;rw[<-A8f A1s l 0]at hb ⊢;refine wl _ (λn i buf=>A2J NN l b n (i:Int) buf k2) (λbuf=>k2 (l.length:Int) false buf) hl.1 (λn buf=>?_) (λn i x buf hx hi hm hb=>?_) hb
  ·show A2J NN l b (n+1) (l.length:Int) buf k2=_;unfold A2J;simp only[B6P,dge,Eh]
  ·have hg:=(hl.2 x hm).2;simp only[A1s]at hb;simp only[wOk,Ey,Ez,Fa]at hb
   conv=>lhs;unfold A2J
   simp(disch:=first|exact Ev|skip)only[B6P,gd,dlt hi,H3,hx,Eg,o32,B2P,N5,G1,A0y hl.1 hi];simp only[A1s,Fb,F1,Fh,Fg,Fe]
 exact bE _
def C6v(lv:Nat):∀i,pcs (λ_ (_:Unit)=>([32,32]:DT)) i (Il lv ())=ind lv:=by
 induction lv with
 |zero=>intro i;rfl
 |succ n ih=>
  intro i;rw[List.replicate_succ,pcs,ih];rfl
def C0b{lv:Nat}(hl:lv<=1000)(hb:wOk b ([10]++ind lv)):A7D (lv:Int) b=some ([],J7 (b++bI ([10]++ind lv))):=by
 have bE:∀(b b0:DS)(k2:Int->Bool->DS->DW),wOk b (ind lv)->A2I NN (lv:Int) b0 NN ((0:Nat):Int) b k2=k2 (lv:Int) false (b++bI (ind lv)):=λb b0 k2 hb=>by
  rw[<-C6v lv 0]at hb ⊢;refine wl (l:=Il lv ()) _ (λn i buf=>A2I NN (lv:Int) b0 n (i:Int) buf k2) (λbuf=>k2 (lv:Int) false buf) (c:=1000) (by rw[Hh];exact hl) (λn buf=>?_) (λn i x buf hx hi hm hb=>?_) hb
  ·rw[Hh];show A2I NN (lv:Int) b0 (n+1) (lv:Int) buf k2=_;unfold A2I;simp only[B4B,show decide ((lv:Int)<(lv:Int))=false from Ej Du,Eh]
  ·rw[Hh]at hi
   conv=>lhs;unfold A2I
   simp(disch:=first|exact Ev|skip)only[B4B,gd,show decide ((i:Int)<(lv:Int))=true from Ei Du,Eg,o32,N5,G1,S4 (show i<=4611686018427387904 from Du)]
 simp only[wOk,Ey,Ez,Fa]at hb;simp(disch:=first|exact Ev|skip)only[A7D,B5v,gd,o32,N5,G1,Eg];refine(bE _ _ _ (by simp only[wOk,Ey,C2,Ez,Fa];omega)).trans ?_;simp only[A15,Fb,F1,Fh,Fg,Fe]
def o69{l:Ee}{lv:Nat}{p:SelT->DT}{dL:Ee->Int->DS->DW}{g144:SelT->Int->DS->DW}(kw:lv<=900)(hl:l.length<=1100000)
  (ih:∀x∈l,∀b,wOk b (p x)->g144 x ((lv+1:Nat):Int) b=some ([],J7 (b++bI (p x))))(hb:wOk b (brS p lv l)):B6u dL g144 l (lv:Int) b=some ([],J7 (b++bI (brS p lv l))):=by
 have hw:Fc .i64 ((lv:Int)+1)=((lv+1:Nat):Int):=S4 Du;have bE:∀(b b0:DS)(k2:Int->Bool->DS->DW),wOk b (l.flatMap λx=>[10]++ind (lv+1)++p x)->A2F NN dL g144 l (lv:Int) b0 NN ((0:Nat):Int) b k2=k2 (l.length:Int) false (b++bI (l.flatMap λx=>[10]++ind (lv+1)++p x)):=λb b0 k2 hb=>by
  rw[<-A8f _ l 0]at hb ⊢;refine wl _ (λn i buf=>A2F NN dL g144 l (lv:Int) b0 n (i:Int) buf k2) (λbuf=>k2 (l.length:Int) false buf) hl (λn buf=>?_) (λn i x buf hx hi hm hb=>?_) hb
  ·show A2F NN dL g144 l (lv:Int) b0 (n+1) (l.length:Int) buf k2=_;unfold A2F;simp only[B29,dge,Eh]
  ·have ih:=ih x hm;have pG:=λb hb=>C0b (b:=b) (lv:=lv+1) Du hb;simp only[wOk,Ey,Ez,Fa]at hb
   conv=>lhs;unfold A2F
   simp(disch:=first|exact Ev|skip)only[B29,gd,dlt hi,hw,H3,hx,Eg,pG,ih,N5,G1,A0y hl hi];simp only[Fb,F1,Fh,Fg,Fe]
 unfold brS at hb ⊢;generalize (l.flatMap λx=>[10]++ind (lv+1)++p x)=X at bE hb ⊢;have pG:=λb hb=>C0b (b:=b) (lv:=lv) Du hb;simp only[wOk,Ey,Ez,Fa]at hb;simp(disch:=first|exact Ev|skip)only[B6u,B6y,gd,o32,N5,G1,Eg];refine(bE _ _ _ (by simp only[wOk,Ey,C2,Ez,Fa];omega)).trans ?_;simp(disch:=first|exact Ev|skip)only[pG,o32,N5,G1,Eg,A15,Fb,F1,Fh,Fg,Fe]
def C7x{α:Type}{l:List α}(h:l≠[]):decide ((l.length:Int)>0)=true:=by
 cases l with
 |nil=>exact absurd rfl h
 |cons x r=>exact Ei (by rw[Ez];omega)
def nE{l:DT}(h:l=[]):(!(l==[]))=false:=by subst h;rfl
def nN{l:DT}(h:l≠[]):(!(l==[]))=true:=by cases l with|nil=>exact absurd rfl h|cons=>rfl
def D1i{s:SelT}{d lv:Nat}{dL:Ee->Int->DS->DW}{g144:SelT->Int->DS->DW}(hg:W9 (d+1) s)(ih:∀b,wOk b (brS (G9 d (lv+1)) lv s.sels)->dL s.sels (lv:Int) b=some ([],J7 (b++bI (brS (G9 d (lv+1)) lv s.sels))))
  (hb:wOk b (G9 (d+1) lv s)):B02 dL g144 s (lv:Int) b=some ([],J7 (b++bI (G9 (d+1) lv s))):=by
 obtain⟨h1,h2,h3,h4,h5,h6,h7,h8,h9⟩:=hg;unfold G9 at hb ⊢;generalize ht:(if s.sels=[]then []else [32]++brS (G9 d (lv+1)) lv s.sels)=tl at hb ⊢;have bU:∀(X:DT),wOk b (X++Q7 s.dirs++tl)->(let r7:=F72 s.dirs (b++bI X);gd (okB [] kO r7) (let z3:=(A6 (gC r7 0 0));bif(decide ((Fo s.sels:Int)>0))then(let r6:=F32 [32] z3;gd (okB [] kO r6) (let z4:=(A6 (gC r6 0 0));let r5:=dL s.sels (lv:Int) z4;gd (okB [] kO r5) (some (([]:DV),[[(.sl .u8 (A6 (gC r5 0 0)) (some 92000000):L6)]]))))else(some ([],[[.sl .u8 z3 (some 92000000)]]))))=some ([],J7 (b++bI (X++Q7 s.dirs++tl))):=λX hb=>by
  by_cases h0:s.sels=[]
  ·rw[El h0]at ht;subst ht;simp only[wOk,Ey,Ez,Fa]at hb;simp(disch:=first|exact Ev|skip)only[gd,o72 h6,N5,G1,Eg,h0,Fa,show decide (((0:Nat):Int)>0)=false from rfl,Eh,A15,Fb,F1,Fh,Fg,Fe]
  ·rw[Ek h0]at ht;subst ht;simp only[wOk,Ey,Ez,Fa]at hb;simp(disch:=first|exact Ev|skip)only[gd,o72 h6,N5,G1,Eg,C7x h0,o32,ih,A15,Fb,F1,Fh,Fg,Fe]
 unfold A70 at hb ⊢;unfold B02;dsimp only;cases de:s.kind==2
 ·cases gJ:s.kind==3
  ·simp only[de,gJ,Eh]at hb ⊢;by_cases ha:s.alias_=[]
   ·simp only[El ha,nE ha,Eh,Gc]at hb ⊢;have cJ:=hb;simp only[wOk,Ey,Ez,Fa]at hb;simp(disch:=first|exact Ev|skip)only[gd,o32,B2P h5,N5,G1,Eg,Fb, <-F1];have:=bU _ cJ;simp only[gd,Fb]at this ⊢;exact this
   ·simp only[Ek ha,nN ha,Eg]at hb ⊢;have cJ:=hb;simp only[wOk,Ey,Ez,Fa]at hb;simp(disch:=first|exact Ev|skip)only[gd,o32,B2P h5,N5,G1,Eg,Fb, <-F1];have:=bU _ cJ;simp only[gd,Fb]at this ⊢;exact this
  ·simp only[de,gJ,Eh,Eg]at hb ⊢;by_cases ha:s.on_=[]
   ·simp only[El ha,nE ha,Eh,Fe]at hb ⊢;have cJ:=hb;simp only[wOk,Ey,Ez,Fa]at hb;simp(disch:=first|exact Ev|skip)only[gd,o32,N5,G1,Eg];have:=bU _ cJ;simp only[gd,Fb]at this ⊢;exact this
   ·simp only[Ek ha,nN ha,Eg]at hb ⊢;have cJ:=hb;simp only[wOk,Ey,Ez,Fa]at hb;simp(disch:=first|exact Ev|skip)only[gd,o32,N5,G1,Eg,Fb, <-F1];have:=bU _ cJ;simp only[gd,Fb]at this ⊢;exact this
 ·simp only[de,Eg]at hb ⊢;have cJ:=hb;simp only[wOk,Ey,Ez,Fa]at hb;simp(disch:=first|exact Ev|skip)only[gd,o32,N5,G1,Eg,Fb, <-F1];have:=bU _ cJ;simp only[gd,Fb]at this ⊢;exact this
def C0P:∀(d e lv:Nat)(s:SelT)(b:DS),2*d<=e->lv+d<=800->W9 d s->wOk b (G9 d lv s)->(W0 e).2 s (lv:Int) b=some ([],J7 (b++bI (G9 d lv s)))
 |0,_,_,_,_,_,_,hg,_=>hg.elim
 |d+1,0,_,_,_,h,_,_,_=>Du
 |d+1,1,_,_,_,h,_,_,_=>Du
 |d+1,e+2,lv,s,b,h,hl,hg,hb=>D1i (g144:=(W0 (e+1)).2) hg (λb hb=>o69 Du hg.2.2.2.2.2.2.2.1 (λx hx b hb=>C0P d e (lv+1) x b Du Du (hg.2.2.2.2.2.2.2.2 x hx) hb) hb) hb
def A9q{l:Ee}(hl:GL (W9 201) l)(hb:wOk b (brS (G9 201 1) 0 l)):F69 l 0 b=some ([],J7 (b++bI (brS (G9 201 1) 0 l))):=
 o69 (lv:=0) Ep hl.1 (λx hx b hb=>C0P 201 999999 1 x b Ep Ep (hl.2 x hx) hb) hb
def o71{l:List VdT}(hl:GL GVd l)(hb:wOk b (A1z l)):F71 l b=some ([],J7 (b++bI (A1z l))):=by
 have bE:∀(b b0:DS)(k2:Int->Bool->DS->DW),wOk b (jn 0 (l.map U0))->A2M NN l b0 NN ((0:Nat):Int) b k2=k2 (l.length:Int) false (b++bI (jn 0 (l.map U0))):=λb b0 k2 hb=>by
  rw[<-B1L]at hb ⊢;refine wl _ (λn i buf=>A2M NN l b0 n (i:Int) buf k2) (λbuf=>k2 (l.length:Int) false buf) hl.1 (λn buf=>?_) (λn i x buf hx hi hm hb=>?_) hb
  ·show A2M NN l b0 (n+1) (l.length:Int) buf k2=_;unfold A2M;simp only[B0B,dge,Eh]
  ·obtain⟨g1,g2,g3,g4⟩:=hl.2 x hm;have hc:=B18 i
   conv=>lhs;unfold A2M
   simp only[U0,A35]at hb ⊢;cases hh:x.hasDefault
   ·simp only[hh,Eh]at hb ⊢;simp only[wOk,Ey,Ez,Fa]at hb;simp(disch:=first|exact Ev|skip)only[B0B,gd,dlt hi,H3,hx,hh,Eg,Eh,B42,o32,o49 g2,o72 g4,N5,G1,A0y hl.1 hi];simp only[Fb,F1,Fh,Fg,Fe]
   ·simp only[hh,Eg]at hb ⊢;simp only[wOk,Ey,Ez,Fa]at hb;simp(disch:=first|exact Ev|skip)only[B0B,gd,dlt hi,H3,hx,hh,Eg,B42,o32,o49 g2,C4l,B7U (g3 hh),o72 g4,N5,G1,A0y hl.1 hi];simp only[Fb,F1,Fh,Fg,Fe]
 by_cases h0:l=[]
 ·subst h0;show some ([],J7 b)=some ([],J7 (b++[]));rw[Fe]
 ·unfold A1z at hb ⊢;rw[Ek h0]at hb ⊢;simp only[wOk,Ey,Ez,Fa]at hb;simp(disch:=first|exact Ev|skip)only[F71,B2F,gd,A8X h0,Eh,o32,N5,G1,Eg];refine(bE _ _ _ (by simp only[wOk,Ey,C2,Ez,Fa];omega)).trans ?_;simp(disch:=first|exact Ev|skip)only[o32,N5,G1,Eg,A15,Fb,F1,Fh,Fg,Fe]
def f70{k:Int}(h:1<=k/\k<=4)(h4:(k==4)=false):F70 k=some (.one (.str (opW k))):=by
 have:k=1\/k=2\/k=3:=by
  have:k≠4:=by simpa using h4
  omega
 rcases this with h|h|h<;>subst h<;>rfl
def o31{d:D8}(h:A24 d)(hb:wOk b (Q2 d)):F31 d b=some ([],J7 (b++bI (Q2 d))):=by
 unfold Q2 at hb ⊢;unfold F31;dsimp only;cases hs:d.short
 ·simp only[hs,Eh]at hb ⊢;have e1:∀(c:Bool)(x:DW),(bif c then x else x)=x:=λc x=>by cases c<;>rfl
  rw[e1];unfold B2b at hb ⊢;cases h4:d.kind==4
  ·simp only[h4,Eh]at hb ⊢;have zW:=f70 h.kd h4;by_cases hn:d.name=[]
   ·simp only[El hn,nE hn,Eh,Fe]at hb ⊢;simp only[wOk,Ey,Ez,Fa]at hb;simp(disch:=first|exact Ev|skip)only[gd,zW,oS1,gS1,o32,o71 h.vs,o72 h.ds,A9q h.ss,N5,G1,Eg,A15,Fb,F1,Fh,Fg,Fe]
   ·simp only[Ek hn,nN hn]at hb ⊢;simp only[wOk,Ey,Ez,Fa]at hb;simp(disch:=first|exact Ev|skip)only[gd,zW,oS1,gS1,o32,o71 h.vs,o72 h.ds,A9q h.ss,N5,G1,Eg,A15,Fb,F1,Fh,Fg,Fe]
  ·simp only[h4,Eg]at hb ⊢;simp only[wOk,Ey,Ez,Fa]at hb;simp(disch:=first|exact Ev|skip)only[gd,o32,o72 h.ds,A9q h.ss,N5,G1,Eg,A15,Fb,F1,Fh,Fg,Fe]
 ·simp only[hs,Eg,Gc]at hb ⊢;have hk:(d.kind==1)=true:=by rw[h.sh hs];rfl
  simp(disch:=first|exact Ev|skip)only[hk,gd,A9q h.ss,N5,G1,Eg,beq_self_eq_true,A15]
def A1A(l:List D8):DT:=pcs (λi x=>(if i=0 then []else [10])++(Q2 x++[10])) 0 l
def o10{d:J1}(hl:GL A24 d.defs)(hb:wOk [] (A1A d.defs)):F10 d=some (.one (.str (A1A d.defs))):=by
 have bE:∀(k2:Int->Bool->DS->DU),A2A NN d NN ((0:Nat):Int) [] k2=k2 (d.defs.length:Int) false ([]++bI (A1A d.defs)):=λk2=>by
  refine wl _ (λn i buf=>A2A NN d n (i:Int) buf k2) (λbuf=>k2 (d.defs.length:Int) false buf) hl.1 (λn buf=>?_) (λn i x buf hx hi hm hb=>?_) hb
  ·show A2A NN d (n+1) (d.defs.length:Int) buf k2=_;unfold A2A;simp only[B4w,dge,Eh]
  ·have hg:=hl.2 x hm;have xo:∀b,wOk b []->F30 (i:Int) [10] b=some ([],J7 (b++bI (if i=0 then []else [10]))):=λb h=>B1n (by unfold wOk at h;simp at h ⊢;omega);have hc:(if i=0 then []else([10]:DT)).length<=2:=by split<;>decide
   simp only[wOk,Ey,Ez,Fa]at hb
   conv=>lhs;unfold A2A
   simp(disch:=first|exact Ev|skip)only[B4w,gd,dlt hi,H3,hx,Eg,xo,o31 hg,o32,N5,G1,A0y hl.1 hi];simp only[Fb,F1,Fh,Fg,Fe]
 refine(bE _).trans ?_;rw[Gc];show(some (.one (.str (toB (bI _)))):DU)=_;rw[B9Q]
end
section
variable {R:Type}{b b0:DS}
def C8x{l:List D1}{k2:Int->Int->Bool->DS->Option R}(hl:GL A2l l)(hb:wOk b (jn 0 (l.map U3))):A3q NN l b0 NN (l.length:Int) ((0:Nat):Int) b k2=k2 (l.length:Int) (l.length:Int) false (b++bI (jn 0 (l.map U3))):=by
 rw[<-B1L]at hb ⊢;refine wl _ (λn i buf=>A3q NN l b0 n (l.length:Int) (i:Int) buf k2) (λbuf=>k2 (l.length:Int) (l.length:Int) false buf) hl.1 (λn buf=>?_) (λn i x buf hx hi hm hb=>?_) hb
 ·show A3q NN l b0 (n+1) (l.length:Int) (l.length:Int) buf k2=_;unfold A3q;simp only[B6N,dge,Eh]
 ·have hg:=(hl.2 x hm).2;have hc:=B18 i;have eL:LitT.mk x.value.kind x.value.text x.value.block x.value.items x.value.fields ⟨x.value.pos.line,x.value.pos.col⟩=x.value:=LitT.eta x.value;simp only[U3]at hb;simp only[wOk,Ey,Ez,Fa]at hb
  conv=>lhs;unfold A3q
  simp(disch:=first|exact Ev|skip)only[B6N,gd,dlt hi,H3,hx,Eg,C4r,p27,eL,C2N,O8,H0,A0y hl.1 hi];simp only[U3,Fb,F1,Fh,Fg,Fe]
def B4z{l:List D1}(hl:GL A2l l)(hb:wOk b (A0F l)):A8L l b=some ([],H2 (b++bI (A0F l))):=by
 by_cases h0:l=[]
 ·subst h0;show some ([],H2 b)=some ([],H2 (b++[]));rw[Fe]
 ·unfold A0F at hb ⊢;rw[Ek h0]at hb ⊢;simp only[wOk,Ey,Ez,Fa]at hb;simp(disch:=first|exact Ev|skip)only[A8L,B45,gd,A8X h0,Eh,p27,O8,H0,Eg,Fb,F1,Fh,Fg,Fe];refine(C8x hl (by simp only[wOk,Ey,C2,Ez,Fa];omega)).trans ?_;simp(disch:=first|exact Ev|skip)only[p27,O8,H0,Eg,A0m,Fb,F1,Fh,Fg,Fe]
def p68{l:List C7}(hl:GL A2m l)(hb:wOk b (Q7 l)):F68 l b=some ([],H2 (b++bI (Q7 l))):=by
 have bE:∀(k2:Int->Int->Bool->DS->DW),A2U NN l b NN (l.length:Int) ((0:Nat):Int) b k2=k2 (l.length:Int) (l.length:Int) false (b++bI (Q7 l)):=λk2=>by
  unfold Q7 at hb ⊢;rw[<-A8f A1s l 0]at hb ⊢;refine wl _ (λn i buf=>A2U NN l b n (l.length:Int) (i:Int) buf k2) (λbuf=>k2 (l.length:Int) (l.length:Int) false buf) hl.1 (λn buf=>?_) (λn i x buf hx hi hm hb=>?_) hb
  ·show A2U NN l b (n+1) (l.length:Int) (l.length:Int) buf k2=_;unfold A2U;simp only[B4i,dge,Eh]
  ·have hg:=(hl.2 x hm).2;simp only[A1s]at hb;simp only[wOk,Ey,Ez,Fa]at hb
   conv=>lhs;unfold A2U
   simp(disch:=first|exact Ev|skip)only[B4i,gd,dlt hi,H3,hx,Eg,p27,B4z,O8,H0,A0y hl.1 hi];simp only[A1s,Fb,F1,Fh,Fg,Fe]
 exact bE _
def B8M:∀n,Iw [32,32] n=ind n
 |0=>rfl
 |n+1=>by
  rw[Iw,B8M n];rfl
def B94{lv:Nat}(hl:lv<=1000)(hb:wOk b (ind lv)):A49 (lv:Int) b=some ([],H2 (b++bI (ind lv))):=by
 have e:F47 [32,32] (lv:Int)=some (.one (.str (ind lv))):=by
  unfold F47;rw[Ei Ep,Ei Du,Ei Du];show(some (.one (.str (Iw [32,32] (lv:Int).toNat))):DU)=_;rw[Kf,B8M]
 simp only[wOk,Ey,Ez,Fa]at hb;simp(disch:=first|exact Ev|skip)only[A49,gd,e,oS1,gS1,p27,O8,H0,Eg,A0m,Fb,F1,Fh,Fg,Fe]
def p64{l:Ee}(hl:l.length<=1100000):F64 l=some (.one (.sl .part (l.map .sel) (some 1))):=by
 have bE:∀(k2:List PartT->Int->Int->Bool->DU)(n i:Nat)(x:List PartT),i<=l.length->l.length<n+i->x.length+l.length<=4400000+i->A69 NN l n x (l.length:Int) (i:Int) k2=k2 (x++(l.drop i).map .sel) (l.length:Int) (l.length:Int) false:=λk2 n=>by
  induction n with
  |zero=>intro i x h1 h2 h3;omega
  |succ n ih=>
   intro i x h1 h2 h3;unfold A69;by_cases hi:i<l.length
   ·have hx:l[i]?=some l[i]:=Fi hi;have hr:A3 (x.length+1) 16=true:=by unfold A3;exact Ei Du
    simp only[B5y,gd,dlt hi,H3,hx,hr,Eg,A0y hl hi];rw[ih (i+1) _ Du Du (by rw[Ey,Ga];omega)];rw[Hk hi,Ip,Fb];rfl
   ·have bR:i=l.length:=Du
    subst bR;simp only[B5y,dge,Eh,Ht,Jv,Fe]
 exact(bE _ NN 0 [] (Fw _) (by rw[NNv];omega) Es).trans (by rw[Gc,Jz])
def B8w(lv:Nat)(p:SelT->DT):∀(l:Ee),[10]++l.flatMap (λx=>ind (lv+1)++p x++[10])=l.flatMap (λx=>[10]++ind (lv+1)++p x)++[10]
 |[]=>rfl
 |x::r=>by
  have:=B8w lv p r;rw[Hj,Hj,Fb (ind (lv+1)++p x),this];simp only[Fb]
def brP(p:SelT->DT)(lv:Nat)(l:Ee):DT:=if l=[]then []else [32]++brS p lv l
def p63{l:Ee}{lv:Nat}{p:SelT->DT}{dR:List PartT->Int->DS->DW}{g263:SelT->Int->DS->DW}(kw:lv<=900)(hl:l.length<=1100000)
  (ih:∀x∈l,∀b,wOk b (p x)->g263 x ((lv+1:Nat):Int) b=some ([],H2 (b++bI (p x))))(hb:wOk b (brP p lv l)):B4E dR g263 (l.map .sel) (lv:Int) b=some ([],H2 (b++bI (brP p lv l))):=by
 have hw:Fc .i64 ((lv:Int)+1)=((lv+1:Nat):Int):=S4 Du;have bE:∀(b b0:DS)(k2:Int->Int->Bool->DS->DW),wOk b (l.flatMap λx=>ind (lv+1)++p x++[10])->A3u NN dR g263 (l.map .sel) (lv:Int) b0 NN (l.length:Int) ((0:Nat):Int) b k2=k2 (l.length:Int) (l.length:Int) false (b++bI (l.flatMap λx=>ind (lv+1)++p x++[10])):=λb b0 k2 hb=>by
  rw[<-A8f _ l 0]at hb ⊢;refine wl _ (λn i buf=>A3u NN dR g263 (l.map .sel) (lv:Int) b0 n (l.length:Int) (i:Int) buf k2) (λbuf=>k2 (l.length:Int) (l.length:Int) false buf) hl (λn buf=>?_) (λn i x buf hx hi hm hb=>?_) hb
  ·show A3u NN dR g263 (l.map .sel) (lv:Int) b0 (n+1) (l.length:Int) (l.length:Int) buf k2=_;unfold A3u;simp only[B5a,dge,Eh]
  ·have ih:∀b,wOk b (p x)->FI g263 (.sel x) ((lv+1:Nat):Int) b=some ([],H2 (b++bI (p x))):=ih x hm;have pH:=λb hb=>B94 (b:=b) (lv:=lv+1) Du hb;have eb:(l.map PartT.sel)[i]?=some (.sel x):=by rw[Fu,hx];rfl
   simp only[wOk,Ey,Ez,Fa]at hb
   conv=>lhs;unfold A3u
   simp(disch:=first|exact Ev|skip)only[B5a,gd,dlt hi,hw,H3,eb,Eg,pH,ih,p27,O8,H0,A0y hl hi];simp only[Fb,F1,Fh,Fg,Fe]
 by_cases h0:l=[]
 ·subst h0;show some ([],H2 b)=some ([],H2 (b++[]));rw[Fe]
 ·have e:brP p lv l=[32,123,10]++l.flatMap (λx=>ind (lv+1)++p x++[10])++ind lv++[125]:=by
   have:=B8w lv p l;unfold brP brS;rw[Ek h0,show([32,123,10]:DT)=[32]++[123]++[10]from rfl,Fb ([32]++[123]) [10],this];simp only[Fb]
  have ml:((Fo (l.map PartT.sel):Int)==0)=false:=by rw[Fq];exact A8X h0
  have pH:=λb hb=>B94 (b:=b) (lv:=lv) Du hb;rw[e]at hb ⊢;generalize (l.flatMap λx=>ind (lv+1)++p x++[10])=X at bE hb ⊢;simp only[wOk,Ey,Ez,Fa]at hb;simp(disch:=first|exact Ev|skip)only[B4E,B20,gd,ml,Eh,p27,O8,H0,Eg,Fb,F1,Fh,Fg,Fe];rw[Fq];refine(bE _ _ _ (by simp only[wOk,Ey,C2,Ez,Fa];omega)).trans ?_;simp(disch:=first|exact Ev|skip)only[pH,p27,O8,H0,Eg,A0m,Fb,F1,Fh,Fg,Fe]
def D6N{s:SelT}{d lv:Nat}:(if s.sels=[]then []else [32]++brS (G9 d (lv+1)) lv s.sels)=brP (G9 d (lv+1)) lv s.sels:=rfl
def D2C{s:SelT}{d lv:Nat}{dR:List PartT->Int->DS->DW}{g263:SelT->Int->DS->DW}(hg:W9 (d+1) s)(ih:∀b,wOk b (brP (G9 d (lv+1)) lv s.sels)->dR (s.sels.map .sel) (lv:Int) b=some ([],H2 (b++bI (brP (G9 d (lv+1)) lv s.sels))))
  (hb:wOk b (G9 (d+1) lv s)):B1N dR g263 s (lv:Int) b=some ([],H2 (b++bI (G9 (d+1) lv s))):=by
 obtain⟨h1,h2,h3,h4,h5,h6,h7,h8,h9⟩:=hg;have nq:=p64 h8;have oP:∀l:List PartT,okR [.sl .part (some 1)] (some (.one (.sl .part l (some 1)):E6))=true:=λ_=>rfl;have gP:∀l:List PartT,A71 (gL (some (.one (.sl .part l (some 1)):E6)) 0)=l:=λ_=>rfl;unfold G9 at hb ⊢;rw[D6N]at hb ⊢;unfold A70 at hb ⊢;unfold B1N;dsimp only;have hk:s.kind=1\/s.kind=2\/s.kind=3:=Du
 rcases hk with hk|hk|hk
 ·simp only[hk,show((1:Int)==1)=true from rfl,show((1:Int)==2)=false from rfl,show((1:Int)==3)=false from rfl,show((1:Int) !=2)=true from rfl,Eg,Eh]at hb ⊢;by_cases ha:s.alias_=[]
  ·simp only[El ha,nE ha,Eh,Gc]at hb ⊢;simp only[wOk,Ey,Ez,Fa]at hb;simp(disch:=first|exact Ev|skip)only[gd,p27,B4z h5,p68 h6,nq,oP,gP,ih,O8,H0,Eg,A0m,Fb,F1,Fh,Fg,Fe]
  ·simp only[Ek ha,nN ha,Eg]at hb ⊢;simp only[wOk,Ey,Ez,Fa]at hb;simp(disch:=first|exact Ev|skip)only[gd,p27,B4z h5,p68 h6,nq,oP,gP,ih,O8,H0,Eg,A0m,Fb,F1,Fh,Fg,Fe]
 ·have h0:=h7 hk;simp only[hk,h0,brP,if_true,show((2:Int)==1)=false from rfl,show((2:Int)==2)=true from rfl,show((2:Int) !=2)=false from rfl,Eg,Eh,Fe]at hb ⊢;simp only[wOk,Ey,Ez,Fa]at hb;simp(disch:=first|exact Ev|skip)only[gd,p27,p68 h6,O8,H0,Eg,A0m,Fb,F1,Fh,Fg,Fe]
 ·simp only[hk,show((3:Int)==1)=false from rfl,show((3:Int)==2)=false from rfl,show((3:Int)==3)=true from rfl,show((3:Int) !=2)=true from rfl,Eg,Eh]at hb ⊢;by_cases ha:s.on_=[]
  ·simp only[El ha,nE ha,Eh,Fe]at hb ⊢;simp only[wOk,Ey,Ez,Fa]at hb;simp(disch:=first|exact Ev|skip)only[gd,p27,p68 h6,nq,oP,gP,ih,O8,H0,Eg,A0m,Fb,F1,Fh,Fg,Fe]
  ·simp only[Ek ha,nN ha,Eg]at hb ⊢;simp only[wOk,Ey,Ez,Fa]at hb;simp(disch:=first|exact Ev|skip)only[gd,p27,p68 h6,nq,oP,gP,ih,O8,H0,Eg,A0m,Fb,F1,Fh,Fg,Fe]
def C1x:∀(d e lv:Nat)(s:SelT)(b:DS),2*d<=e->lv+d<=800->W9 d s->wOk b (G9 d lv s)->(U9 e).2 s (lv:Int) b=some ([],H2 (b++bI (G9 d lv s)))
 |0,_,_,_,_,_,_,hg,_=>hg.elim
 |d+1,0,_,_,_,h,_,_,_=>Du
 |d+1,1,_,_,_,h,_,_,_=>Du
 |d+1,e+2,lv,s,b,h,hl,hg,hb=>D2C (g263:=(U9 (e+1)).2) hg (λb hb=>p63 Du hg.2.2.2.2.2.2.2.1 (λx hx b hb=>C1x d e (lv+1) x b Du Du (hg.2.2.2.2.2.2.2.2 x hx) hb) hb) hb
def C9W{l:Ee}(hl:GL (W9 201) l)(hb:wOk b (brP (G9 201 1) 0 l)):F63 (l.map .sel) 0 b=some ([],H2 (b++bI (brP (G9 201 1) 0 l))):=
 p63 (lv:=0) Ep hl.1 (λx hx b hb=>C1x 201 999999 1 x b Ep Ep (hl.2 x hx) hb) hb
def p67{l:List VdT}(hl:GL GVd l)(hb:wOk b (A1z l)):F67 l b=some ([],H2 (b++bI (A1z l))):=by
 have bE:∀(b b0:DS)(k2:Int->Int->Bool->DS->DW),wOk b (jn 0 (l.map U0))->A2H NN l b0 NN (l.length:Int) ((0:Nat):Int) b k2=k2 (l.length:Int) (l.length:Int) false (b++bI (jn 0 (l.map U0))):=λb b0 k2 hb=>by
  rw[<-B1L]at hb ⊢;refine wl _ (λn i buf=>A2H NN l b0 n (l.length:Int) (i:Int) buf k2) (λbuf=>k2 (l.length:Int) (l.length:Int) false buf) hl.1 (λn buf=>?_) (λn i x buf hx hi hm hb=>?_) hb
  ·show A2H NN l b0 (n+1) (l.length:Int) (l.length:Int) buf k2=_;unfold A2H;simp only[B2U,dge,Eh]
  ·obtain⟨g1,g2,g3,g4⟩:=hl.2 x hm;have hc:=B18 i;have eL:LitT.mk x.dflt.kind x.dflt.text x.dflt.block x.dflt.items x.dflt.fields ⟨x.dflt.pos.line,x.dflt.pos.col⟩=x.dflt:=LitT.eta x.dflt;have wM:F18 (⟨x.type_.name,x.type_.wrap⟩:I6)=some (.one (.str (prT x.type_))):=p18 g2;have xp:∀b,wOk b (A35 x.hasDefault x.dflt)->A9k x.hasDefault x.dflt b=some ([],H2 (b++bI (A35 x.hasDefault x.dflt))):=λb hb=>by
    unfold A35 A9k at*;cases hh:x.hasDefault
    ·simp only[Eh];show some ([],H2 b)=some ([],H2 (b++[]));rw[Fe]
    ·rw[hh]at hb;simp only[Eg]at hb ⊢;simp only[wOk,Ey,Ez,Fa]at hb;simp(disch:=first|exact Ev|skip)only[gd,p27,C2N (g3 hh),O8,H0,Eg,A0m,Fb,F1,Fh,Fg,Fe]
   conv=>lhs;unfold A2H
   simp only[U0]at hb ⊢;simp only[wOk,Ey,Ez,Fa]at hb;simp(disch:=first|exact Ev|skip)only[B2U,gd,dlt hi,H3,hx,Eg,C4r,wM,oS1,gS1,p27,eL,xp,p68 g4,O8,H0,A0y hl.1 hi];simp only[Fb,F1,Fh,Fg,Fe]
 by_cases h0:l=[]
 ·subst h0;show some ([],H2 b)=some ([],H2 (b++[]));rw[Fe]
 ·unfold A1z at hb ⊢;rw[Ek h0]at hb ⊢;simp only[wOk,Ey,Ez,Fa]at hb;simp(disch:=first|exact Ev|skip)only[F67,B5A,gd,A8X h0,Eh,p27,O8,H0,Eg,Fb,F1,Fh,Fg,Fe];refine(bE _ _ _ (by simp only[wOk,Ey,C2,Ez,Fa];omega)).trans ?_;simp(disch:=first|exact Ev|skip)only[p27,O8,H0,Eg,A0m,Fb,F1,Fh,Fg,Fe]
def f66{k:Int}(h:1<=k/\k<=4)(h4:(k==4)=false):F66 k=some (.one (.str (opW k))):=by
 have:k=1\/k=2\/k=3:=by
  have:k≠4:=by simpa using h4
  omega
 rcases this with h|h|h<;>subst h<;>rfl
def p29{s:DT}(h:s.length<=140737488355328):F29 (bI s)=some ([.str s],H2 (bI s)):=by
 unfold F29;rw[Ei (by rw[C2];exact h),B9Q];rfl
def p28{d:D8}(h:A24 d)(hb:wOk b (Q2 d++[10])):F28 d b=some ([],H2 (b++bI (Q2 d))):=by
 have nq:=p64 h.ss.1;have oP:∀l:List PartT,okR [.sl .part (some 1)] (some (.one (.sl .part l (some 1)):E6))=true:=λ_=>rfl;have gP:∀l:List PartT,A71 (gL (some (.one (.sl .part l (some 1)):E6)) 0)=l:=λ_=>rfl;have e:brP (G9 201 1) 0 d.sels=[32]++brS (G9 201 1) 0 d.sels:=Ek h.ne;have tA:=λb hb=>C9W (b:=b) h.ss hb;rw[e]at tA;unfold Q2 at hb ⊢;unfold F28;dsimp only;cases hs:d.short
 ·simp only[hs,Eh]at hb ⊢;unfold B2b at hb ⊢;cases h4:d.kind==4
  ·simp only[h4,Eh]at hb ⊢;have zX:=f66 h.kd h4;by_cases hn:d.name=[]
   ·simp only[El hn,nE hn,Eh,Fe]at hb ⊢;simp only[wOk,Ey,Ez,Fa]at hb;simp(disch:=first|exact Ev|skip)only[gd,zX,oS1,gS1,p27,p67 h.vs,p68 h.ds,nq,oP,gP,tA,O8,H0,Eg,A0m,Fb,F1,Fh,Fg,Fe]
   ·simp only[Ek hn,nN hn]at hb ⊢;simp only[wOk,Ey,Ez,Fa]at hb;simp(disch:=first|exact Ev|skip)only[gd,zX,oS1,gS1,p27,p67 h.vs,p68 h.ds,nq,oP,gP,tA,O8,H0,Eg,A0m,Fb,F1,Fh,Fg,Fe]
  ·simp only[h4,Eg]at hb ⊢;simp only[wOk,Ey,Ez,Fa]at hb;simp(disch:=first|exact Ev|skip)only[gd,p27,p68 h.ds,nq,oP,gP,tA,O8,H0,Eg,A0m,Fb,F1,Fh,Fg,Fe]
 ·simp only[hs,Eg,Gc]at hb ⊢;have h4:(d.kind==4)=false:=by rw[h.sh hs];rfl
  have CQ:∀X:DT,F65 ([32]++X) [32]=some (.one (.str X)):=λX=>by
   unfold F65;rw[El Et];rfl
  have e0:=tA [] (by simp only[wOk,Ey,Ez,Fa]at hb ⊢;omega);have xq:=p29 (s:=[32]++brS (G9 201 1) 0 d.sels) (by simp only[wOk,MB,Ey,Ez,Fa]at hb ⊢;omega);have CR:∀(s:DT)(l:DS),okB [.str] kP (some ([.str s],H2 l))=true:=λ_ _=>rfl;have CS:∀(s:DT)(l:DS),lS (gB (some ([.str s],H2 l)) 0)=s:=λ_ _=>rfl;rw[Gc]at e0;simp only[wOk,Ey,Ez,Fa]at hb;simp(disch:=first|exact Ev|skip)only[h4,gd,nq,oP,gP,e0,xq,CR,CS,CQ,oS1,gS1,p27,O8,H0,Eg,Eh,A0m,Fh,Fg,Fe]
def p9{d:J1}(hl:GL A24 d.defs)(hb:wOk [] (A1A d.defs)):F9 d=some (.one (.str (A1A d.defs))):=by
 have bE:∀(k2:List D8->Int->Int->Bool->DS->DU),A2a NN d NN d.defs (d.defs.length:Int) ((0:Nat):Int) [] k2=k2 d.defs (d.defs.length:Int) (d.defs.length:Int) false ([]++bI (A1A d.defs)):=λk2=>by
  refine wl _ (λn i buf=>A2a NN d n d.defs (d.defs.length:Int) (i:Int) buf k2) (λbuf=>k2 d.defs (d.defs.length:Int) (d.defs.length:Int) false buf) hl.1 (λn buf=>?_) (λn i x buf hx hi hm hb=>?_) hb
  ·show A2a NN d (n+1) d.defs (d.defs.length:Int) (d.defs.length:Int) buf k2=_;unfold A2a;simp only[B0b,dge,Eh]
  ·have hg:=hl.2 x hm;have ex:∀b,F28 (⟨x.kind,x.name,x.on_,x.short,x.vars,x.dirs,x.sels,⟨x.pos.line,x.pos.col⟩⟩:D8) b=F28 x b:=λb=>rfl;by_cases h0:i=0
   ·subst h0;simp only[if_true,Gc]at hb ⊢;simp only[wOk,Ey,Ez,Fa]at hb
    conv=>lhs;unfold A2a
    simp(disch:=first|exact Ev|skip)only[B0b,gd,dlt hi,show decide (((0:Nat):Int)>0)=false from rfl,H3,hx,Eg,Eh,ex,p28 hg,p27,O8,H0,A0y hl.1 hi];simp only[Fb,F1,Fh,Fg,Fe]
   ·rw[Ek h0]at hb ⊢;simp only[wOk,Ey,Ez,Fa]at hb
    conv=>lhs;unfold A2a
    simp(disch:=first|exact Ev|skip)only[B0b,gd,dlt hi,show decide (((i:Nat):Int)>0)=true from Ei Du,H3,hx,Eg,ex,p28 hg,p27,O8,H0,A0y hl.1 hi];simp only[Fb,F1,Fh,Fg,Fe]
 refine(bE _).trans ?_;rw[Gc];have xq:=p29 (s:=A1A d.defs) (by unfold wOk MB at hb;simp at hb;omega);simp only[xq,gd];rfl
end
section
variable {N:DY}{T:DZ}{D:Int}{st:DX}{i j n m b:Nat}{o:Int}{t:A0}{X:DT}
def C63(tw:TW T)(h0:0<=o)(h1:o<=1000)(ha:Ad T D N (n::st) i o)(hs:Sy N n L5):Fst N 1 n i/\pu (T.getD i default) W2=true/\i<T.length:=by
 obtain⟨t,b,_,_,hl,c1,c2,c3⟩:=ha.rl tw hs (λ_=>B3T);obtain⟨t2,ht,_,hm,_,hf,_,_,_⟩:=Ad.tm tw (show Ad T D N (b::(b+1)::(b+2)::(b+3)::st) i o from c3) (c2 0 _ rfl) En h0 h1;exact⟨.go hs En c1 Eo hf,by rw[Hs,ht];exact B5p En ▸ hm,hl⟩
def B9C(tw:TW T)(hD:D<=200)(kn:0<=D)(ha:Ad T D N (n::st) i 0)(hs:Sy N n W7):∃x j,RdD N T n x/\Ad T D N st j 0/\i<j/\A24 x/\(Q2 x).length+2+KB*i<=KB*j:=by
 have nl:=tw.len;have qH:F56 W7=some (.one (.bool false)):=En
 obtain⟨t,b,ht,hk,hl,c1,c2,c3⟩:=ha.rl tw hs (λ_=>C04);cases b1:pu t W2 with
 |true=>
  rw[b1]at c1 c2 c3;simp only[Eg]at c1 c2 c3;have c3:Ad T D N (b::st) i 0:=c3;have e0:=A7f (.go hs qH c1 Eo (C63 tw Ep Ep c3 (c2 0 _ rfl)).1) Du ht;obtain⟨ss,j,e4,c8,hj,ne,tv,lss⟩:=B3y tw hD Ep kn c3 (c2 0 _ rfl);have k0:=A3f (T:=T) c1;obtain⟨nd,n1,n2⟩:=c1;refine⟨⟨1,[],[],true,[],[],ss,t.pos⟩,j,?_,c8,hj,⟨⟨by show(1:Int)<=1;omega,by show(1:Int)<=4;omega⟩,Eo,Eo,GL.nil,GL.nil,tv,ne,λ_=>rfl⟩,?_⟩
  ·show A2R NN (n:Int) N T=_;unfold A2R G59;simp only[gd,e0,kt_,qt,Eg,M5,n1,n2,show(((kI b [L5]).length:Nat):Int)=1 from rfl,show((1:Int)==1)=true from rfl,k0,kz,qz,e4,kes,qes]
  ·have gr:=lss.le (show(brS (G9 201 1) 0 ss).length+2<=_ from Nat.add_le_add_left (Ep:2<=10) _);have h2:(Q2 ⟨1,[],[],true,[],[],ss,t.pos⟩).length=(brS (G9 201 1) 0 ss).length:=rfl;rw[h2];exact gr
 |false=>
 rw[b1]at c1 c2 c3;simp only[Eh]at c1 c2 c3;cases b2:wd t [113,117,101,114,121]||(wd t [109,117,116,97,116,105,111,110]||wd t [115,117,98,115,99,114,105,112,116,105,111,110])with
 |true=>
  rw[b2]at c1 c2 c3;simp only[Eg]at c1 c2 c3;obtain⟨t',ft,_,_,_,hf,_,c4⟩:=Q3 tw (show Ad T D N (b::(b+1)::(b+2)::(b+3)::(b+4)::st) i 0 from c3) (c2 0 _ rfl) En Ep kn hD;have e0:=A7f (.go hs qH c1 Eo hf) Du ht;have k3:F60 (n:Int) 3 N T=_:=kid (T:=T) c1 3 Eo;have k4:F60 (n:Int) 4 N T=_:=kid (T:=T) c1 4 Eo;have bU:∀k:Int,k=1\/k=2\/k=3->(t.text==[102,114,97,103,109,101,110,116])=false->(∀f:Int->DW,(bif t.text==[109,117,116,97,116,105,111,110]then f 2 else bif t.text==[115,117,98,115,99,114,105,112,116,105,111,110]then f 3 else f 1)=f k)->∃x j,RdD N T n x/\Ad T D N st j 0/\i<j/\A24 x/\(Q2 x).length+2+KB*i<=KB*j:=λk hk nD hf=>by
   obtain⟨ds,ss,x,j,e1,e2,e3,q1,q2,q3,q4⟩:=D6t tw hD kn hk c4 c1 c2 t.pos;obtain⟨nd,n1,n2⟩:=c1;refine⟨x,j,?_,q1,q2,q3,q4⟩;show A2R NN (n:Int) N T=_;unfold A2R G59;simp only[gd,e0,kt_,qt,Eg,Eh,M5,n1,n2,show(((kI b [E1,A55,A5v,G7,L5]).length:Nat):Int)=5 from rfl,show((5:Int)==1)=false from rfl,nD,k3,k4,kz,qz,e1,e2,kd,qd,kes,qes];exact(hf _).trans e3
  rw[Gn,Gn]at b2;rcases b2 with h|h|h<;>have hx:=(B55 h).2
  ·exact bU 1 (.inl rfl) (by rw[hx];rfl) (λf=>by rw[hx];rfl)
  ·exact bU 2 (.inr (.inl rfl)) (by rw[hx];rfl) (λf=>by rw[hx];rfl)
  ·exact bU 3 (.inr (.inr rfl)) (by rw[hx];rfl) (λf=>by rw[hx];rfl)
 |false=>
 rw[b2]at c1 c2 c3;simp only[Eh]at c1 c2 c3;cases b3:wd t [102,114,97,103,109,101,110,116]with
 |false=>
  rw[b3]at c1 c2 c3;simp only[Eh]at c1 c2 c3;obtain⟨_,_,_,hm,_⟩:=Ad.tm tw (show Ad T D N (b::st) i 0 from c3) (c2 0 _ rfl) En Ep Ep;rw[B8l]at hm;cases hm
 |true=>
  rw[b3]at c1 c2 c3;simp only[Eg]at c1 c2 c3;have hx:=(B55 b3).2;obtain⟨t',ft,_,_,_,hf,_,c4⟩:=Q3 tw (show Ad T D N (b::(b+1)::(b+2)::(b+3)::(b+4)::(b+5)::st) i 0 from c3) (c2 0 _ rfl) En Ep kn hD;have e0:=A7f (.go hs qH c1 Eo hf) Du ht;obtain⟨t1,_,eD,_,e1,_,_,c5⟩:=Q3 tw c4 (c2 1 _ rfl) En Ep kn hD;obtain⟨_,_,_,_,_,_,_,c6⟩:=Q3 tw c5 (c2 2 _ rfl) En Ep kn hD;obtain⟨t3,_,gJ,_,e3,_,_,c7⟩:=Q3 tw c6 (c2 3 _ rfl) En Ep kn hD;obtain⟨ds,j1,e4,c8,ly,xm,xn⟩:=A3L tw hD false Ep kn c7 (c2 4 _ rfl);obtain⟨ss,j,e5,c9,hj,ne,tv,lss⟩:=B3y tw hD Ep kn c8 (c2 5 _ rfl);have lss:=lss.le (Gv _ 10);have k1:F60 (n:Int) 1 N T=_:=kid (T:=T) c1 1 Eo;have k3:F60 (n:Int) 3 N T=_:=kid (T:=T) c1 3 Eo;have k4:F60 (n:Int) 4 N T=_:=kid (T:=T) c1 4 Eo;have k5:F60 (n:Int) 5 N T=_:=kid (T:=T) c1 5 Eo;obtain⟨nd,n1,n2⟩:=c1;refine⟨⟨4,t1.text,t3.text,false,[],ds,ss,t.pos⟩,j,?_,c9,Du,⟨⟨by show(1:Int)<=4;omega,by show(4:Int)<=4;omega⟩,eD.1,gJ.1,GL.nil,xm,tv,ne,λh=>(by cases h)⟩,?_⟩
  ·show A2R NN (n:Int) N T=_;unfold A2R G59;simp only[gd,e0,kt_,qt,Eg,Eh,M5,n1,n2,show(((kI b [E1,X3,Q4,E1,G7,L5]).length:Nat):Int)=6 from rfl,show((6:Int)==1)=false from rfl,hx,show(([102,114,97,103,109,101,110,116]:DT)==[102,114,97,103,109,101,110,116])=true from rfl,k1,k3,k4,k5,kz,qz,e1,e3,e4,e5,kd,qd,kes,qes]
  ·refine((lq.tok (n:=16800100) (Du:i<i+1+1+1+1) Du).comp (xn.comp lss)).le ?_;have h1:=eD.1;have h3:=gJ.1;show([102,114,97,103,109,101,110,116,32]++t1.text++[32,111,110,32]++t3.text++Q7 ds++[32]++brS (G9 201 1) 0 ss:DT).length+2<=16800100+((Q7 ds).length+(brS (G9 201 1) 0 ss).length);simp only[Ey,Ez,Fa];omega
def C3K(d:J1):Prop:=GL A24 d.defs
def C7X(tw:TW T)(hD:D<=200)(ha:Ad T D N [0] 0 0)(hs:Sy N 0 A9D):∃x j,F26 N T=some ([.agg .doc x],bxN N T)/\j<=T.length/\C3K x/\lq (sl Q2 x.defs) 0 j:=by
 have nl:=tw.len;have ha:=ha.mono hD;obtain⟨_,b,_,_,_,c1,c2,c3⟩:=ha.rl tw hs (λ_=>B9y);obtain⟨x,i1,e1,c4,cw,gx,lx⟩:=B9C tw Ep Ep (show Ad T 200 N (b::(b+1)::(b+2)::[]) 0 0 from c3) (c2 0 _ rfl);obtain⟨L,l,j,q1,q2,q3,q4,q5,q6,q7⟩:=A4C (α:=D8) (Rd:=RdD N T) (G:=A24) (μ:=λx=>(Q2 x).length+2) (kb:=KB) (E:=W7) tw (λt=>⟨_,B8X⟩) En
  (λe i st hA hS=>B9C tw Ep Ep hA hS) (T.length+1) (b+1) i1 Du c4 (c2 1 _ rfl)
 have zU:=q3.le;have k0:F60 0 0 N T=some ([.int .i64 (b:Int)],bxN N T):=A3f (T:=T) c1;have k1:F60 0 1 N T=some ([.int .i64 ((b+1:Nat):Int)],bxN N T):=kid (T:=T) c1 1 Eo;have e1:F59 (b:Int) N T=_:=e1;have hL:L.length<=1100000:=by rw[q2.len];omega
 refine⟨⟨x::l⟩,j,?_,zU,⟨by show(x::l).length<=_;rw[Ez];omega,λy hy=>(Fm.1 (show y∈x::l from hy)).elim (λh=>h ▸ gx) (q5 y)⟩,?_⟩
 ·unfold F26 B36;simp only[gd,k0,kz,qz,e1,kf,qf,Eg,k1,A6o q1 hL,kc,qc,show A3 (0+1) 136=true from rfl];have:=A65 (S:=D8) (R:=B6) (λk be i s=>A5T NN N T k (L.map λ(e:Nat)=>(e:Int)) (i:Int) be s (λz2 z3 z4 z5 z6=>some ([.agg .doc (⟨z5⟩:J1)],bxN N T)))
   (λbe=>some ([.agg .doc (⟨be⟩:J1)],bxN N T)) q2 hL
   (λk be s=>by unfold A5T;simp only[B6b,A09,ltF,Eh])
   (λk be i e y s he hi hr ha=>⟨y,by
    have hr:F59 (e:Int) N T=_:=hr
    conv=>lhs;unfold A5T
    simp only[B6b,A09,ltT hi,Eg,A6A he,hr,gd,kf,qf,A7e (c:=136) ha,wrI (show i<=4400000 from Du)]⟩) [x] x Eo
  exact this
 ·show lq (sw (λx=>(Q2 x).length+2) (x::l)) 0 j;have h7:lq (sw (λx=>(Q2 x).length+2) l) i1 j:=q7;have h1:lq ((Q2 x).length+2) 0 i1:=lx;exact h1.comp h7
end
def C6u(a1:Int):A0I a1<=200:=by
 unfold A0I;cases h:decide (200<a1)
 ·have:=of_decide_eq_false h;simp only[Eh];omega
 ·simp
def C9v{a0:DS}(hB:isB a0=true)(hl:a0.length<=1048576)(a1:Int):∃x f,F8 a0 a1=some (.tup [.agg .doc x,.agg .fault f])/\(f.kind=0->C3K x/\sl Q2 x.defs<=KB*1100000):=by
 obtain⟨T,zY,tw⟩:=C7h hB hl;have hT:=tw.len;obtain⟨d,j,k,mC,hj,hk⟩:=C9I (D:=A0I a1) tw;have CT:okR [.sl .tok (some 1)] (F24 a0)=true:=by rw[zY];rfl
 have CU:A2v (gL (F24 a0) 0)=T:=by rw[zY];rfl
 unfold F8;rw[CT,CU,Eg];unfold F25 at mC;cases hs:A0o T.length with
 |false=>rw[hs]at mC;cases mC
 |true=>
 simp only[hs,Eg]at mC ⊢;cases hd:L1 T (A0I a1) NN [⟨P6,[],0⟩] [0] 0 0 with
 |none=>rw[hd]at mC;cases mC
 |some q=>
 obtain⟨d',j',k'⟩:=q;rw[hd]at mC;have e1:d'=d/\j'=j/\k'=k:=by
  simp only[Gp,Ent.tup.injEq,Hu,Leaf.agg.injEq,Leaf.int.injEq,true_and,and_true,heq_eq_eq]at mC;exact⟨mC.1,Du,mC.2.2⟩
 obtain⟨rfl,rfl,rfl⟩:=e1;show ∃x f,B1z T d' j' k'=_/\_;unfold B1z;by_cases h0:k'=0
 ·obtain⟨h1,h2,h3⟩:=hk h0;obtain⟨x,i,CV,hi,hg,hq⟩:=C7X tw (C6u a1) h3 h2;refine⟨x,⟨0,[],[]⟩,?_,λ_=>⟨hg,?_⟩⟩
  ·rw[h1,CV,h0];rfl
  ·have:=Ho KB (show i<=1100000 from Du);unfold lq at hq;omega
 ·have aC:(k' !=0)=true:=by simpa using h0
  rw[aC,Eg,Fi hj];exact⟨_,_,rfl,λh=>absurd h h0⟩
def C1z:∀(l:List D8)(i:Nat),(pcs (λi x=>(if i=0 then []else [10])++(Q2 x++[10])) i l).length<=sl Q2 l
 |[],_=>Fw _
 |x::r,i=>by
  have h1:=C1z r (i+1);have h2:(if i=0 then []else([10]:DT)).length<=1:=by split<;>decide
  unfold sl at*;simp only[pcs,sw,Ey,Ez,Fa]at*;omega
def D1F{a0:DS}(hB:isB a0=true)(hl:a0.length<=1048576)(a1:Int):F3 a0 a1=some (.one (.bool true)):=by
 obtain⟨x,f,e8,hf⟩:=C9v hB hl a1;have e7:okR [.bool] F7=true:=rfl;have CW:(!(lB (gL F7 0)))=false:=rfl;have o8:okR [.agg .doc,.agg .fault] (some (.tup [.agg .doc x,.agg .fault f]):DU)=true:=rfl;have g0:A9E (gL (some (.tup [.agg .doc x,.agg .fault f]):DU) 0)=x:=rfl;have g1:C2i (gL (some (.tup [.agg .doc x,.agg .fault f]):DU) 1)=f:=rfl;unfold F3;simp only[gd,e7,CW,e8,o8,g0,g1,Eg,Eh];by_cases hk:f.kind=0
 ·obtain⟨h1,h2⟩:=hf hk;have h3:=C1z x.defs 0;have hb:wOk [] (A1A x.defs):=by
   have:KB=120000000:=rfl;unfold wOk MB A1A;rw[this]at h2;simp only[Fa];omega
  have e9:F9 (⟨x.defs⟩:J1)=some (.one (.str (A1A x.defs))):=p9 (d:=⟨x.defs⟩) h1 hb;have wP:F10 (⟨x.defs⟩:J1)=some (.one (.str (A1A x.defs))):=o10 (d:=⟨x.defs⟩) h1 hb;have:(f.kind !=0)=false:=by rw[hk];rfl
  simp only[this,e9,wP,oS1,gS1,Eg,beq_self_eq_true]
 ·have:(f.kind !=0)=true:=by simpa using hk
  simp only[this];rfl
section
variable {P:Program}{ops:Array Oper}{Q:Exit->Act->World->Prop}{S:World->Prop}{L:Nat}
def A1c(P:Program)(ops:Array Oper)(Q:Exit->Act->World->Prop)(S:World->Prop)(L:Nat):Nat->Array Bool->Act->World->Prop
 |0,listed,a,w=>Gj .any ops listed=[]/\Q .normal a w
 |fuel+1,listed,a,w=>
  (Gj .any ops listed=[]->Q .normal a w)/\
  ∀i∈Gj .any ops listed,wpOp P ops Q i (λa' w'=>(i≠L->S w')/\A1c P ops Q S L fuel (listed.setIfInBounds i true) a' w') a w
def C1c:∀(fuel:Nat)(listed:Array Bool)(a:Act)(w:World),A1c P ops Q S L fuel listed a w->wpAny P .any ops Q fuel listed a w
 |0,_,_,_,h=>h
 |fuel+1,_,_,_,h=>⟨h.1,λi hi=>wpOp_mono (λa' w' h'=>C1c fuel _ a' w' h'.2) (h.2 i hi)⟩
def A9I(ops:Array Oper)(L i:Nat):Bool:=match ops[L]? with
 |some o=>o.after.any λe=>Ic .any e&&Gl e.on i
 |none=>false
def C6x{i:Nat}{oi:Oper}{v:Value}(hi:ops[i]?=some oi)(eO:∀(j:Nat)(o:Oper) cs b,ops[j]?=some o->o.op≠ .select cs b)
  (hQ:∀c a w,Q (.panic c) (a.put oi.dst v) w->Q (.panic c) a w)(hL:A9I ops L i=true):
  ∀(fuel:Nat)(listed:Array Bool)(a:Act)(w:World),
   (∀j oj,ops[j]?=some oj->j≠i->listed.getD j true=false->(∀e∈oj.after,Ic .any e=true->e.on≠i)->oi.apart ops oj=true)->
   i∈Gj .any ops listed->i≠L->YieldsIf P ops S oi v a->S w->
   A1c P ops Q S L fuel (listed.setIfInBounds i true) (a.put oi.dst v) w->A1c P ops Q S L (fuel+1) listed a w:=by
 intro fuel
 induction fuel with
 |zero=>
  intro listed a w _ hr pI hy hS H;refine⟨λh=>(by rw[h]at hr;cases hr),λj hj=>?_⟩;by_cases en:j=i
  ·subst en;exact hy.wpOp hi hS ⟨λ_=>hS,H⟩
  ·have:=Hx hj en;rw[H.1]at this;cases this
 |succ fuel ih=>
  intro listed a w fX hr pI hy hS H;refine⟨λh=>(by rw[h]at hr;cases hr),λj hj=>?_⟩;by_cases en:j=i
  ·subst en;exact hy.wpOp hi hS ⟨λ_=>hS,H⟩
  have h1:=H.2 j (Hx hj en);obtain⟨tB,oj,iz,b8⟩:=mem_ready.1 hj;have fh:∀e∈oj.after,Ic .any e=true->e.on≠i:=λe he hb cb=>by
   have k1:=b8 e he hb;have k0:=(mem_ready.1 hr).1;rw[cb]at k1;rcases Ig i listed.size with h'|h'
   ·simp[h']at k0 k1;rw[k0]at k1;cases k1
   ·simp[Kk h']at k1
  have CX:j≠L:=λe=>by
   subst e;unfold A9I at hL;rw[iz]at hL;simp only[Array.any_eq_true',Fj]at hL;obtain⟨e,he,hb,wq⟩:=hL;exact fh e he hb ((F2 _ _).1 wq)
  have h2:=wpOp_putIf iz (fX j oj iz en tB fh) (λcs b=>eO i oi cs b hi) (λcs b=>eO j oj cs b iz) hQ hy h1;refine wpOp_mono (λa' w' h3=>⟨h3.2.1,ih (listed.setIfInBounds j true) a' w' (λk ok hk CY iy dk=>fX k ok hk CY ?_ dk) (Hx hr (Ie en)) pI h3.1 (h3.2.1 CX) ?_⟩) h2
  ·by_cases zZ:j=k
   ·subst zZ;exact tB
   ·rw[getD_set_ne true zZ]at iy;exact iy
  ·rw[Array.setIfInBounds_comm _ _ en];exact h3.2.2
variable {a:Act}{w w':World}{c:Code}{n:Nat}{fr:List (Nat×Value)}{o:Oper}{K:Act->World->Prop}
def C4Q{S:World->Prop}(L:Nat)(hm:P.follows .mixedOrders=true)(id m:Nat)(h:c=.region id (A11 c) true)(hs:(A11 c).size=m)
  (hw:A1c P (A11 c) (J2 Q) S L m (Kj m false) a {w with drawn:=w.drawn+1}):c.wp P Q a w:=by
 rw[h];refine Code.wp_mono (Q:=J2 Q) (λe a w h=>by cases e<;>first|exact h|exact h.elim) ?_;subst hs;exact wp_region_any hm (C1c _ _ _ _ hw)
def C89{listed:Array Bool}{fuel i d:Nat}{v:Value}(tm:Tm a n fr)(hi:ops[i]?=some o)(hs:Ia ops=true)(hf:Ib .any ops listed i=true)
  (hr:(Gj .any ops listed).contains i=true)(hL:A9I ops L i=true)(pI:Gl i L=false)(hg:o.guard=none)(aZ:o.dst=some d)(hd:Fz d n=true)(hS:S w)(ah:∀w,S w->(Hb a.eval o).run P w=.ok (.value v) w)
  (hk:∀a',Tm a' n ((d,v)::fr)->A1c P ops (J2 Q) S L fuel (listed.setIfInBounds i true) a' w):A1c P ops (J2 Q) S L (fuel+1) listed a w:=by
 refine C6x hi (Region.noSelect_spec hs) (λ_ _ _ h=>h.elim) hL fuel listed a w (Region.free_spec hi hf) (by simpa using hr) (λe=>by rw[(F2 _ _).2 e]at pI;cases pI) (.inl ⟨by simp[Jj,hg],ah⟩) hS ?_;rw[aZ];exact hk _ (tm.put hd)
def A3U{listed:Array Bool}{fuel i:Nat}(hr:Gj .any ops listed=[i])(hi:ops[i]?=some o)(hg:o.guard=none)
  (h:∀K:Act->World->Prop,(∀a' w',(i≠L->S w')->A1c P ops (J2 Q) S L fuel (listed.setIfInBounds i true) a' w'->K a' w')->o.wp P a w K (J2 Q)):A1c P ops (J2 Q) S L (fuel+1) listed a w:=by
 refine⟨λh0=>(by rw[hr]at h0;cases h0),λj hj=>?_⟩;rw[hr]at hj;rcases Hf.1 hj with rfl
 unfold Go.wpOp;simp only[hi];rw[El (by simp[Jj,hg])];exact .inl (h _ λa' w' h1 h2=>⟨h1,h2⟩)
def C0e{listed:Array Bool}(hr:Gj .any ops listed=[])(h:Q .normal a w):∀(fuel:Nat),A1c P ops (J2 Q) S L fuel listed a w
 |0=>⟨hr,h⟩
 |_+1=>⟨λ_=>h,by rw[hr];simp⟩
end
def A7E(q:DX):∀(p:DX)(c:Code),nav c (p++q)=nav (nav c p) q:=by
 intro p
 induction p with
 |nil=>intro c;cases c<;>rfl
 |cons i p ih=>
  intro c;cases c with
  |seq a b=>cases i<;>exact ih _
  |cond o a b=>cases i<;>exact ih _
  |block _ c=>exact ih c
  |loop c=>exact ih c
  |_=>cases q<;>rfl
def B1k(c:Code):nav c []=c:=by cases c<;>rfl
def C5Y:Code->Bool
 | .seq _ _=>true
 |_=>false
def cnO:Code->Option Hc
 | .cond o _ _=>some o
 |_=>none
def blO:Code->Ed
 | .block i _=>some i
 |_=>none
def D0M:Code->Bool
 | .loop _=>true
 |_=>false
def A46(n:Nat)(o:Oper):Ed:=match o.guard,o.dst with
 |none,some d=>bif Fz d n then some d else none
 |_,_=>none
def C4f(n:Nat)(fr:List (Nat×Value))(ops:Array Oper)(o:Oper)(j g:Nat):Ed:=match o.guard,o.dst,(ops[j]?).bind (·.dst),W5 fr g with
 |some (i,aY),some d,some k,some (.bool b)=>bif(Gl i j&&Gl k g)&&(Fz g n&&(Fz d n&&(b==aY)))then some d else none
 |_,_,_,_=>none
section
variable {P:Program}{a:Act}{n:Nat}{fr:List (Nat×Value)}{w w':World}{o:Oper}{Q:Exit->Act->World->Prop}{f:Func}{p:DX}
def wsq(h:C5Y (A2 f p)=true)(hx:(A2 f (p++[0])).wp P (Exit.then ((A2 f (p++[1])).wp P Q) Q) a w):(A2 f p).wp P Q a w:=by
 unfold A2 at*;rw[A7E,A7E]at hx;generalize nav (body f) p=c at*;cases c<;>first|(cases h;done)|skip
 simp only[nav,B1k]at hx;exact wp_seq hx
def wcn(tm:Tm a n fr){o:Hc}(h:cnO (A2 f p)=some o)(b:Bool)(hv:evV fr o=some (.bool b))(hx:(if b then A2 f (p++[0])else A2 f (p++[1])).wp P Q a w):(A2 f p).wp P Q a w:=by
 unfold A2 at*;rw[A7E,A7E]at hx;generalize nav (body f) p=c at*;cases c<;>first|(cases h;done)|skip
 cases h;simp only[nav,B1k]at hx;exact wp_cond (tm.ev hv) hx
def wbl(id:Nat)(h:blO (A2 f p)=some id)(hx:(A2 f (p++[0])).wp P (Hw id Q) a w):(A2 f p).wp P Q a w:=by
 unfold A2 at*;rw[A7E]at hx;generalize nav (body f) p=c at*;cases c<;>first|(cases h;done)|skip
 cases h;simp only[nav,B1k]at hx;exact wp_block hx
def wlp(h:D0M (A2 f p)=true)(I:Nat->Act->World->Prop)(n₀:Nat)(h₀:I n₀ a w)
  (lY:∀n a w,I n a w->(A2 f (p++[0])).wp P (Exit.then (λa' w'=>∃n',n'<n/\I n' a' w') Q) a w):(A2 f p).wp P Q a w:=by
 unfold A2 at*;rw[A7E]at lY;generalize nav (body f) p=c at*;cases c<;>first|(cases h;done)|skip
 simp only[nav,B1k]at lY;exact wp_loop_ghost I n₀ h₀ lY
def Wn{ops:Array Oper}{c:Code}{Q1:Exit->Act->World->Prop}(h:c.wp P Q1 a w):Fy P ops (Exit.then (c.wp P Q1) Q) [] a w:=h
def B2J{d:Nat}(h:A46 n o=some d):o.guard=none/\o.dst=some d/\Fz d n=true:=by
 unfold A46 at h;split at h
 ·rename_i d' h1 h2;cases hb:Fz d' n with
  |false=>rw[hb]at h;cases h
  |true=>rw[hb]at h;cases h;exact⟨h1,h2,hb⟩
 ·cases h
def Pv{ops:Array Oper}{aw:List Oper}(tm:Tm a n fr){d:Nat}{v:Value}(ah:(Hb a.eval o).run P w=.ok (.value v) w')(hk:∀a',Tm a' n ((d,v)::fr)->Fy P ops Q aw a' w')(hd:A46 n o=some d:=by rfl):Fy P ops Q (o::aw) a w:=by
 obtain⟨h1,h2,h3⟩:=B2J hd;exact Ft h1 λK hK=>A4K tm h2 h3 ah λa tm=>hK _ _ (hk a tm)
def Pg{ops:Array Oper}{aw:List Oper}(tm:Tm a n fr)(j g:Nat){d:Nat}{v:Value}(ah:(Hb a.eval o).run P w=.ok (.value v) w')(hk:∀a',Tm a' n ((d,v)::fr)->Fy P ops Q aw a' w')(hd:C4f n fr ops o j g=some d:=by rfl):Fy P ops Q (o::aw) a w:=by
 unfold C4f at hd;split at hd
 ·rename_i i aY d' k b h1 h2 h3 h4;cases hb:((Gl i j&&Gl k g)&&(Fz g n&&(Fz d' n&&(b==aY))))with
  |false=>rw[hb]at hd;cases hd
  |true=>
   rw[hb]at hd;cases hd;simp only[Fj,F2]at hb;obtain⟨⟨rfl,rfl⟩,e3,e4,e5⟩:=hb;cases eq_of_beq e5;exact C8O tm h1 h3 e3 h4 λK hK=>A4K tm h2 e4 ah λa tm=>hK _ _ (hk a tm)
 ·cases hd
def Ps{ops:Array Oper}{aw:List Oper}(tm:Tm a n fr){t:TypeId}{x y:Hc}{b off sz fZ:Nat}{zc us:Ea}{v:Value}(bR:R0 P t=some (sz,fZ,some zc))(cU:(storeCells ⟨b,off,none⟩ us).run P w=.ok () w')(hk:Fy P ops Q aw a w')
  (hg:o.guard=none:=by rfl)(aZ:o.dst=none:=by rfl)(ai:o.op=.store t x y:=by rfl)(hx:evV fr x=some (.pointer (some ⟨b,off,none⟩)):=by rfl)(hy:evV fr y=some v:=by rfl)(hv:v.cells=us.toArray:=by rfl)(hl:us.length=sz:=by rfl):Fy P ops Q (o::aw) a w:=
 Ft hg λK hK=>A7g tm bR aZ ai hx hy hv hl cU (hK _ _ hk)
def Pm{ops:Array Oper}{aw:List Oper}(tm:Tm a n fr){d:Nat}{v:Value}{x:Hc}(hk:∀a',Tm a' n ((d,v)::fr)->Fy P ops Q aw a' w)(ai:o.op=.move x:=by rfl)(hx:evV fr x=some v:=by rfl)(hd:A46 n o=some d:=by rfl):Fy P ops Q (o::aw) a w:=Pv tm (A0Z tm ai hx) hk hd
def Pa{ops:Array Oper}{aw:List Oper}(tm:Tm a n fr){d:Nat}{v:Value}{x:Hc}(hk:∀a',Tm a' n ((d,v)::fr)->Fy P ops Q aw a' w)(ai:o.op=.assign x:=by rfl)(hx:evV fr x=some v:=by rfl)(hd:A46 n o=some d:=by rfl):Fy P ops Q (o::aw) a w:=Pv tm (C61 tm ai hx) hk hd
def Dt{ops:Array Oper}{S:World->Prop}{listed:Array Bool}{fuel d:Nat}{v:Value}(tm:Tm a n fr)(i:Nat)(hi:ops[i]?=some o)(hS:S w)(ah:∀w,S w->(Hb a.eval o).run P w=.ok (.value v) w)
  (hk:∀a',Tm a' n ((d,v)::fr)->wpAnyH P .any ops (J2 Q) S fuel (listed.setIfInBounds i true) a' w)(hs:Ia ops=true:=by kernel_rfl)(hf:Ib .any ops listed i=true:=by kernel_rfl)
  (hr:(Gj .any ops listed).contains i=true:=by kernel_rfl) (hd:A46 n o=some d:=by rfl):wpAnyH P .any ops (J2 Q) S (fuel+1) listed a w:=by
 obtain⟨h1,h2,h3⟩:=B2J hd;exact D3j tm hi hs hf hr h1 h2 h3 hS ah hk
def Lt{ops:Array Oper}{L:Nat}{S:World->Prop}{listed:Array Bool}{fuel d:Nat}{v:Value}(tm:Tm a n fr)(i:Nat)(hi:ops[i]?=some o)(hS:S w)(ah:∀w,S w->(Hb a.eval o).run P w=.ok (.value v) w)
  (hk:∀a',Tm a' n ((d,v)::fr)->A1c P ops (J2 Q) S L fuel (listed.setIfInBounds i true) a' w)(hs:Ia ops=true:=by kernel_rfl)(hf:Ib .any ops listed i=true:=by kernel_rfl)
  (hr:(Gj .any ops listed).contains i=true:=by kernel_rfl) (hL:A9I ops L i=true:=by kernel_rfl) (pI:Gl i L=false:=by kernel_rfl) (hd:A46 n o=some d:=by rfl):A1c P ops (J2 Q) S L (fuel+1) listed a w:=by
 obtain⟨h1,h2,h3⟩:=B2J hd;exact C89 tm hi hs hf hr hL pI h1 h2 h3 hS ah hk
inductive Pk (fr:List (Nat×Value)):DX->List (Nat×Value)->Prop where
 |nil:Pk fr [] []
 |cons {i:Nat} {v:Value} {is:DX} {r:List (Nat×Value)} (h:W5 fr i=some v) (t:Pk fr is r):Pk fr (i::is) ((i,v)::r)
def Pk.all{is:DX}{r:List (Nat×Value)}(h:Pk fr is r):B2X fr r:=by
 induction h with
 |nil=>trivial
 |cons h _ ih=>exact⟨h,ih⟩
def Tm.keep(tm:Tm a n fr)(is:DX){r:List (Nat×Value)}(h:Pk fr is r:=by repeat' constructor):Tm a n r:=tm.sub h.all
end
end Go.Aev
namespace Go.Aev
open Go.Proofs
def D5Y:A4B Ew 102 1=some (1,1+1):=En
def D1e:A4B Ew 153 0=some (0,0+1):=En
def C1Z:A4B Ew 153 1=some (1,0+1):=En
def D72:A4B Ew 153 2=some (2,0+1):=En
def A5M:A4B Ew 97 0=some (0,0+1):=En
def C9e:A58 Ew 151=true:=En
def pl3:A58 Ew 3=true:=En
def pl9:A58 Ew 9=true:=En
def A7b:A58 Ew 95=true:=En
def A6y:A3t Ew 102=true:=En
def D6L:A3t Ew 26=true:=En
def D5M:A3t Ew 31=true:=En
def C3J:A3t Ew 44=true:=En
def C1K:A3t Ew 97=true:=En
def A0B:R0 Ew 102=some (7,72,some [.int .i64 0,.int .i64 0,.int .i64 0,.int .i64 0,.int .i64 0,.string ⟨[].toArray⟩,.string ⟨[].toArray⟩]):=En
def D13:R0 Ew 151=some (1,24,some [.slice none 0 0]):=En
def A5R:R0 Ew 153=some (3,48,some [.string ⟨[].toArray⟩,.slice none 0 0,.int .i64 0]):=En
def A9a:R0 Ew 26=some (1,24,some [.slice none 0 0]):=En
def tz3:R0 Ew 3=some (1,8,some [.int .i64 0]):=En
def A8a:R0 Ew 31=some (3,56,some [.int .i64 0,.slice none 0 0,.slice none 0 0]):=En
def A67:R0 Ew 44=some (2,16,some [.int .i64 0,.int .i64 0]):=En
def tz9:R0 Ew 9=some (1,16,some [.string ⟨[].toArray⟩]):=En
def C97:R0 Ew 95=some (1,24,some [.slice none 0 0]):=En
def A2g:R0 Ew 97=some (2,48,some [.slice none 0 0,.slice none 0 0]):=En
def A0d:Hm Ew 122=some (.slice 9):=En
def A05:Hm Ew 151=some (.slice 3):=En
def A9U:Hm Ew 93=some (.slice 102):=En
def A2Y:Hm Ew 95=some (.slice 153):=En
def B9V{w:World}{m:Nat->Nat}{t:Ty6}{l:List (A4 t)}{o:Ed}{v:Value}(h:CRep U6 w m (.sl t l o) v){i:Nat}{x:A4 t}(hi:l[i]?=some x):
  ∃(b off cap:Nat)(us:Ea),v=.slice (some ⟨b,off,none⟩) l.length cap/\l.length<=cap/\us.length=U6.size t/\(∀(j:Nat)(u:Value),us[j]?=some u->w.cell? ⟨b,off+i*U6.size t+j,none⟩=some u)/\CRep U6 w m (.agg t x) (.agg us.toArray):=by
 have jz:=I0 hi;rcases h.sl_cells u6_ok with⟨rfl,_⟩|⟨b,off,cap,cs,hv,a7,bj,hc,fb⟩
 ·simp at jz
 have aO:∀(j:Nat) lf,(U6.cells t x)[j]?=some lf->(flat U6 t l)[i*U6.size t+j]?=some lf:=λj lf hj=>by
  have bC:=I0 hj;rw[u6_ok.len]at bC;rw[flat_get u6_ok t l i x j hi bC];exact hj
 have cq:=u6_ok.len t x;refine⟨b,off,cap,(Fp (U6.size t)).map λj=>cs (i*U6.size t+j),hv,a7,Eo,λj u hj=>?_,?_⟩
 ·have bC:j<U6.size t:=by have:=I0 hj;simpa using this
  rw[Fu,Gt bC]at hj;cases hj;have:=hc (i*U6.size t+j) _ (aO j _ (Fi Du));rw[Jp];exact this
 ·refine .agg t x _ Eo (λj=>cs (i*U6.size t+j)) (λj lf hj=>?_) (λj lf hj=>fb _ lf (aO j lf hj));have bC:=I0 hj;rw[cq]at bC;rw[Fu,Gt bC];rfl
def C0I{w:World}{m:Nat->Nat}:∀(ls:DV)(vs:Ea),ls.length=vs.length->(∀(j:Nat) lf,ls[j]?=some lf->∃u,vs[j]?=some u/\CRep U6 w m lf u)->LsC U6 w m ls vs
 |[],[],_,_=>trivial
 |l::ls,v::vs,hl,h=>by
  refine⟨?_,C0I ls vs (by simpa using hl) λj lf hj=>?_⟩
  ·obtain⟨u,h1,h2⟩:=h 0 l rfl;cases h1;exact h2
  ·obtain⟨u,h1,h2⟩:=h (j+1) lf (by simpa using hj);exact⟨u,by simpa using h1,h2⟩
 |[],_::_,hl,_=>by cases hl
 |_::_,[],hl,_=>by cases hl
def B5c{w:World}{m:Nat->Nat}{t:Ty6}{x:A4 t}{v:Value}(h:CRep U6 w m (.agg t x) v):∃vs:Ea,v=.agg vs.toArray/\LsC U6 w m (U6.cells t x) vs:=by
 obtain⟨vs,hv,hl,cs,h1,h2⟩:=A8b h;exact⟨vs,hv,C0I _ _ (by rw[u6_ok.len,hl]) λj lf hj=>⟨_,h1 j lf hj,h2 j lf hj⟩⟩
def A6e{w:World}{m:Nat->Nat}{t:Ty6}{x:A4 t}{vs:Ea}(h:LsC U6 w m (U6.cells t x) vs):CRep U6 w m (.agg t x) (.agg vs.toArray):=by
 have hl:=h.len;rw[u6_ok.len]at hl;refine .agg t x vs hl.symm (λj=>vs.getD j undef) (λj lf hj=>?_) λj lf hj=>?_
 ·obtain⟨u,h1,h2⟩:=h.get j lf hj;rw[Hs,h1];rfl
 ·obtain⟨u,h1,h2⟩:=h.get j lf hj;rw[Hs,h1];exact h2
def G5(s:DT):Value:=.string ⟨s.toArray⟩
def X7(p:B1):Ea:=[.int .i64 p.line,.int .i64 p.col]
def T8(t:A0):Ea:=[.int .i64 t.kind,.int .i64 t.pos.line,.int .i64 t.pos.col,.int .i64 t.from_,.int .i64 t.to_,G5 t.text,G5 t.value]
def exV:L6->Option Value
 | .int k n=>some (.int k n)
 | .bool b=>some (.bool b)
 | .str s=>some (G5 s)
 |_=>none
def A9N:DV->Option Ea
 |[]=>some []
 |l::ls=>match exV l,A9N ls with
  |some v,some vs=>some (v::vs)
  |_,_=>none
def C75{w:World}{m:Nat->Nat}{l:L6}{v u:Value}(h:CRep U6 w m l v)(he:exV l=some u):v=u:=by
 cases l<;>simp only[exV,Gp]at he<;>first
  |(cases he;done)
  |(subst he;exact CRep.int_inv h)
  |(subst he;exact CRep.bool_inv h)
  |(subst he;exact CRep.str_inv h)
def B9Z{w:World}{m:Nat->Nat}:∀{ls:DV}{vs us:Ea},LsC U6 w m ls vs->A9N ls=some us->vs=us
 |[],[],us,_,he=>by simp only[A9N,Gp]at he;exact he
 |l::ls,v::vs,us,h,he=>by
  simp only[A9N]at he;split at he
  ·rename_i v' p8 h1 h2;cases he;rw[C75 h.1 h1,B9Z h.2 h2]
  ·cases he
 |[],_::_,_,h,_=>h.elim
 |_::_,[],_,h,_=>h.elim
def D0X{w:World}{m:Nat->Nat}{t:A0}{v:Value}(h:CRep U6 w m (.agg .tok t) v):v=.agg (T8 t).toArray:=by
 obtain⟨vs,hv,hs⟩:=B5c h;rw[hv,B9Z hs (us:=T8 t) rfl]
def A94{w:World}{m:Nat->Nat}(t:A0):CRep U6 w m (.agg .tok t) (.agg (T8 t).toArray):=A6e ⟨.int _ _,.int _ _,.int _ _,.int _ _,.int _ _,.str _,.str _,trivial⟩
def D68{w:World}{m:Nat->Nat}(t:B1):CRep U6 w m (.agg .pos t) (.agg (X7 t).toArray):=A6e ⟨.int _ _,.int _ _,trivial⟩
def A7t{w:World}{m:Nat->Nat}{l:DZ}{v:Value}(h:CRep U6 w m (.sl .tok l none) v){i:Nat}{t:A0}(hi:l[i]?=some t):
  ∃b off cap,v=.slice (some ⟨b,off,none⟩) l.length cap/\∀(j:Nat) u,(T8 t)[j]?=some u->w.cell? ⟨b,off+i*7+j,none⟩=some u:=by
 obtain⟨b,off,cap,us,hv,_,hl,hc,hr⟩:=B9V h hi;have h1:=D0X hr;have:us=T8 t:=by
  simp only[Jb]at h1;have:=congrArg Ki h1;simpa using this
 subst this;exact⟨b,off,cap,hv,hc⟩
def B97{w:World}{m:Nat->Nat}{l:Eb}{v:Value}(h:CRep U6 w m (.sl .str l none) v){i:Nat}{t:DT}(hi:l[i]?=some t):
  ∃b off cap,v=.slice (some ⟨b,off,none⟩) l.length cap/\w.cell? ⟨b,off+i*1,none⟩=some (G5 t):=by
 obtain⟨b,off,cap,us,hv,_,hl,hc,hr⟩:=B9V (t:=.str) h hi;obtain⟨vs,h1,h2⟩:=B5c hr;have:us=vs:=by
  simp only[Jb]at h1;have:=congrArg Ki h1;simpa using this
 subst this
 match us,h2 with
 |[u],⟨h3,_⟩=>
  have:=CRep.str_inv h3;subst this;exact⟨b,off,cap,hv,hc 0 _ rfl⟩
def D1h{w:World}{m:Nat->Nat}{l:Eb}{v:Value}(h:CRep U6 w m (.sl .str l none) v){i:Nat}{t:DT}(hi:l[i]?=some t):
  ∃b off cap,v=.slice (some ⟨b,off,none⟩) l.length cap/\w.cell? ⟨b,off+i*1,none⟩=some (G5 t)/\off+i*1<m b:=by
 have jz:=I0 hi;obtain⟨b,off,cap,hv,hc⟩:=B97 h hi;refine⟨b,off,cap,hv,hc,?_⟩;rcases h.sl_cells u6_ok with⟨rfl,_⟩|⟨b',jW,fx,cs,dt,a7,bj,_⟩
 ·simp at jz
 ·rw[hv]at dt;cases dt;have:off+l.length*1<=m b:=bj;omega
def A2j{S:DV->Option (Bool×E6)}{ls:DV}{b:Bool}{r:E6}(h:S ls=some (b,r))(hb:b=true):sG S ls=some r:=by
 subst hb;unfold sG;rw[h];rfl
def C8r{S:DV->Ec->Option (Bool×DV×Ec)}{ls:DV}{cs:Ec}{b:Bool}{r:DV×Ec}(h:S ls cs=some (b,r))(hb:b=true):sGB S ls cs=some r:=by
 subst hb;unfold sGB;rw[h];rfl
def A2G{n:Int}(h1: -9223372036854775808<=n)(h2:n<9223372036854775808):Fc .i64 n=n:=by
 exact Go.IntWalk.i64_in n ⟨h1,Du⟩
def B0J{n:Nat}(h:n<4611686018427387904):Fc .i64 ((n:Int)+1)=((n+1:Nat):Int):=by
 have h1:=A2G (n:=(n:Int)+1) Du Du;rw[h1];omega
def B5W{w0 w':World}{m0 m':Nat->Nat}{M BM:Nat->Prop}{np:Nat}{pv:Nat->Value}(k:KM w0 m0 w' m' M)(hM:∀b,M b->BM b){ls:DV}{vs:Ea}(h:LsC U6 w' m' ls vs)(hc:ls.all clL=true)(g:Gh)(hg:g.wm=m'):
  Post U6 ⟨w0,m0,BM,np,pv⟩ g (.tup ls) (.tuple vs.toArray) w':=by
 have dk:∀d,(Ent.tup ls:E6).has d=true->False:=λd hd=>by
  simp only[Ent.has,Ha]at hd;obtain⟨lf,h1,h2⟩:=hd;rw[A8I ((Fk.1 hc) lf h1)]at h2;cases h2
 exact{os:=k.os,tape:=k.tape,output:=k.output,size:=k.size,frame:=λb hb hn=>by rw[hg];exact k.heap b hb λe=>hn (hM b e),ext:=by rw[hg];exact k.ext,zero:=by rw[hg];exact k.zero,rep:=⟨vs,rfl,h.rep hg hc⟩,nit:=rfl,tip:=λd hd=>(dk d hd).elim,disj:=λd _ _ hd=>(dk d hd).elim,mine:=λd _ hd=>(dk d hd).elim}
def C9(n:Nat):Value:=.int .i64 (n:Int)
def O6(s:DT):Ea:=[G5 s,.slice none 0 0,.int .i64 0]
structure NodR(w:World)(m:Nat->Nat)(xs:Ea)(N:DY)(ex:Ed):Prop where
 len:xs.length=N.length*3
 sym:∀(i:Nat) nd,N[i]?=some nd->xs[i*3]?=some (G5 nd.sym)
 tok:∀(i:Nat) nd,N[i]?=some nd->xs[i*3+2]?=some (.int .i64 nd.tok)
 kid:∀(i:Nat) nd,N[i]?=some nd->ex≠some i->∃kv,xs[i*3+1]?=some kv/\CRep U6 w m (.sl .i64 nd.kids none) kv/\(nd.kids=[]->kv=.slice none 0 0)
section
variable {w w':World}{m m':Nat->Nat}{xs:Ea}{N:DY}{ex:Ed}{S:Nat->Prop}
def NodR.keep(h:NodR w m xs N ex)(k:KM w m w' m' S):NodR w' m' xs N ex:=
 ⟨h.len,h.sym,h.tok,λi nd hi he=>by obtain⟨kv,h1,h2,h3⟩:=h.kid i nd hi he;exact⟨kv,h1,h2.mono u6_ok k.ext,h3⟩⟩
def A1g{α:Type}{l:List α}{i:Nat}{x:α}(h:l[i]?=some x):i<l.length:=(Gf.1 h).1
def NodR.setTok(h:NodR w m xs N ex){n:Nat}{nd:A1}(hn:N[n]?=some nd)(at_:Nat):NodR w m (xs.set (n*3+2) (C9 at_)) (setTok N n nd at_) ex:=by
 have mD:=A1g hn;have qR:n*3+2<xs.length:=by rw[h.len];omega
 have bE:∀(i:Nat) x,(Aev.setTok N n nd at_)[i]?=some x->(i=n/\x={nd with tok:=(at_:Int)})\/(i≠n/\N[i]?=some x):=λi x hx=>by
  unfold Aev.setTok at hx;rw[Gy]at hx;by_cases hi:n=i
  ·rw[El hi,El mD]at hx;cases hx;exact .inl ⟨hi.symm,rfl⟩
  ·rw[Ek hi]at hx;exact .inr ⟨Ie hi,hx⟩
 refine⟨by rw[Gm,h.len];unfold Aev.setTok;rw[Gm],λi x hx=>?_,λi x hx=>?_,λi x hx he=>?_⟩
 ·rw[Gx Du];rcases bE i x hx with⟨rfl,rfl⟩|⟨_,h1⟩
  ·exact h.sym _ nd hn
  ·exact h.sym i x h1
 ·rcases bE i x hx with⟨rfl,rfl⟩|⟨h0,h1⟩
  ·rw[Jx qR];rfl
  ·rw[Gx Du];exact h.tok i x h1
 ·rw[Gx Du];rcases bE i x hx with⟨rfl,rfl⟩|⟨h0,h1⟩
  ·exact h.kid _ nd hn he
  ·exact h.kid i x h1 he
def NodR.push(h:NodR w m xs N ex)(s:DT)(fT:∀i,ex=some i->i<N.length):NodR w m (xs++O6 s) (N++[⟨s,[],0⟩]) ex:=by
 have hl:=h.len;have bE:∀(i:Nat) x,(N++[(⟨s,[],0⟩:A1)])[i]?=some x->(i=N.length/\x=⟨s,[],0⟩)\/(i<N.length/\N[i]?=some x):=λi x hx=>by
  by_cases hi:i<N.length
  ·rw[Gz hi]at hx;exact .inr ⟨hi,hx⟩
  ·have h2:=A1g hx;rw[Ey,Ga]at h2;have h3:i=N.length:=Du
   subst h3;rw[Ir (Ff _),Nat.sub_self]at hx;cases hx;exact .inl ⟨rfl,rfl⟩
 have xr:∀j,j<N.length*3->(xs++O6 s)[j]?=xs[j]? :=λj hj=>Gz Du;have new:∀j,(xs++O6 s)[N.length*3+j]?=(O6 s)[j]? :=λj=>by rw[Ir Du,hl];congr 1;omega
 refine⟨by rw[Ey,Ey,hl,Ga,Nat.add_mul];rfl,λi x hx=>?_,λi x hx=>?_,λi x hx he=>?_⟩
 ·rcases bE i x hx with⟨rfl,rfl⟩|⟨h0,h1⟩
  ·exact new 0
  ·rw[xr _ Du];exact h.sym i x h1
 ·rcases bE i x hx with⟨rfl,rfl⟩|⟨h0,h1⟩
  ·exact new 2
  ·rw[xr _ Du];exact h.tok i x h1
 ·rcases bE i x hx with⟨rfl,rfl⟩|⟨h0,h1⟩
  ·exact⟨_,new 1,.nil _ _ _ _,λ_=>rfl⟩
  ·rw[xr _ Du];exact h.kid i x h1 he
def NodR.setKid{n:Nat}(h:NodR w m xs N (some n))(kv:Value):NodR w m (xs.set (n*3+1) kv) N (some n):=by
 refine⟨by rw[Gm];exact h.len,λi x hx=>?_,λi x hx=>?_,λi x hx he=>?_⟩
 ·rw[Gx Du];exact h.sym i x hx
 ·rw[Gx Du];exact h.tok i x hx
 ·have:n≠i:=λe=>he (by rw[e]);rw[Gx Du];exact h.kid i x hx he
def NodR.open(h:NodR w m xs N none)(n:Nat):NodR w m xs N (some n):=⟨h.len,h.sym,h.tok,λi nd hi _=>h.kid i nd hi (λe=>by cases e)⟩
def NodR.shut{n:Nat}{nd:A1}{K:DS}(h:NodR w m xs N (some n))(hn:N[n]?=some nd){kv:Value}(hx:xs[n*3+1]?=some kv)(hk:CRep U6 w m (.sl .i64 K none) kv)(bv:K=[]->kv=.slice none 0 0):NodR w m xs (N.set n {nd with kids:=K}) none:=by
 have mD:=A1g hn;have bE:∀(i:Nat) x,(N.set n {nd with kids:=K})[i]?=some x->(i=n/\x={nd with kids:=K})\/(i≠n/\N[i]?=some x):=λi x hx=>by
  rw[Gy]at hx;by_cases hi:n=i
  ·rw[El hi,El mD]at hx;cases hx;exact .inl ⟨hi.symm,rfl⟩
  ·rw[Ek hi]at hx;exact .inr ⟨Ie hi,hx⟩
 refine⟨by rw[Gm];exact h.len,λi x hx=>?_,λi x hx=>?_,λi x eb he=>?_⟩
 ·rcases bE i x hx with⟨rfl,rfl⟩|⟨h0,h1⟩
  ·exact h.sym _ nd hn
  ·exact h.sym i x h1
 ·rcases bE i x hx with⟨rfl,rfl⟩|⟨h0,h1⟩
  ·exact h.tok _ nd hn
  ·exact h.tok i x h1
 ·rcases bE i x eb with⟨rfl,rfl⟩|⟨h0,h1⟩
  ·exact⟨kv,hx,hk,bv⟩
  ·exact h.kid i x h1 (λe=>h0 (by cases e;rfl))
def C4H{t:Ty6}{l:List (A4 t)}{j:Nat}{lf:L6}(h:(flat U6 t l)[j]?=some lf):∃x,l[j / U6.size t]?=some x/\(U6.cells t x)[j % U6.size t]?=some lf:=by
 have ce:=u6_ok.pos t;have bC:=A1g h;rw[A1r u6_ok]at bC;have kQ:j / U6.size t<l.length:=(Nat.div_lt_iff_lt_mul ce).2 bC;refine⟨_,Fi kQ,?_⟩;rw[<-flat_get u6_ok t l (j / U6.size t) _ (j % U6.size t) (Fi kQ) (Nat.mod_lt j ce),Jo j (U6.size t)];exact h
def NodR.flat(h:NodR w m xs N none):∀(j:Nat)(lf:L6),(Aev.flat U6 .node N)[j]?=some lf->∃u:Value,xs[j]?=some u/\CRep U6 w m lf u:=λj lf hj=>by
 obtain⟨x,h1,h2⟩:=C4H (t:=.node) hj;have hs:U6.size .node=3:=rfl;rw[hs]at h1 h2;have hd:=Jo j 3;have hm:=Nat.mod_lt j (show 3>0 from Ep);generalize j % 3=r at h2 hd hm
 match r,h2,hm with
 |0,h2,_=>cases h2;rw[<-hd];exact⟨_,h.sym _ _ h1,.str _⟩
 |1,h2,_=>
  cases h2;rw[<-hd];obtain⟨kv,q1,q2,_⟩:=h.kid _ _ h1 (λe=>by cases e);exact⟨kv,q1,q2⟩
 |2,h2,_=>cases h2;rw[<-hd];exact⟨_,h.tok _ _ h1,.int _ _⟩
end
structure DerI(w0:World)(m0:Nat->Nat)(w:World)(m:Nat->Nat)(ρ:Nat->Nat)(N:DY)(ex:Ed)(stk:DX)(nv sv vt:Value)(xs:Ea)(bd bz:Nat):Prop where
 sys:Sys w0 m0 (λ_=>False) w m ρ
 arr:ArrN w 3 nv N.length xs
 ar:∀b,H4 nv=some b->ρ b=4
 rep:NodR w m xs N ex
 stk:ArrN w 1 sv stk.length (stk.reverse.map C9)
 sr:∀b,H4 sv=some b->ρ b=3
 d:Bk w bd [nv,vt]
 dr:ρ bd=2
 z:Bk w bz [.slice none 0 0,.slice none 0 0]
 zr:ρ bz=1
section
variable {w0 w w':World}{m0 m m' ρ:Nat->Nat}{N:DY}{ex:Ed}{stk:DX}{nv sv vt:Value}{xs:Ea}{bd bz:Nat}{S:Nat->Prop}
def DerI.z0(h:DerI w0 m0 w m ρ N ex stk nv sv vt xs bd bz):∀b,w.heap.size<=b->m b=0:=h.sys.z
def DerI.step(h:DerI w0 m0 w m ρ N ex stk nv sv vt xs bd bz)(k:KM w m w' m' S)(hS:∀b,b<w.heap.size->S b->5<=ρ b)(hm:(∀b, ¬S b)\/m'=m)(r:Nat)(hr:r≠0->m'=m):DerI w0 m0 w' m' (H1 ρ w.heap.size r) N ex stk nv sv vt xs bd bz:=by
 have no:∀b,b<w.heap.size->ρ b<5->¬S b:=λb hb aH hs=>by have:=hS b hb hs;omega
 have eg:∀b,H4 nv=some b->¬S b:=λb hb=>no b (h.arr.lt hb) (by rw[h.ar b hb];decide);have fQ:∀b,H4 sv=some b->¬S b:=λb hb=>no b (h.stk.lt hb) (by rw[h.sr b hb];decide);refine⟨h.sys.step k (λb hb hs=>by have:=hS b hb hs;omega) (λb hb hs=>?_) r (λh0 b hb=>by rw[hr h0];exact h.z0 b hb),k.arr h.arr eg,λb hb=>?_,h.rep.keep k,k.arr h.stk fQ,λb hb=>?_,k.bk h.d (no _ h.d.lt (by rw[h.dr];decide)),?_,k.bk h.z (no _ h.z.lt (by rw[h.zr];decide)),?_⟩
 ·rcases hm with h1|h1
  ·exact absurd hs (h1 b)
  ·rw[h1];exact h.sys.zr b (by have:=hS b hb hs;omega)
 ·rw[J8 (h.arr.lt hb)];exact h.ar b hb
 ·rw[J8 (h.stk.lt hb)];exact h.sr b hb
 ·rw[J8 h.d.lt];exact h.dr
 ·rw[J8 h.z.lt];exact h.zr
def DerI.shut(h:DerI w0 m0 w m ρ N ex stk nv sv vt xs bd bz)(k:KM w m w m' S)(hS:∀b,b<w.heap.size->S b->5<=ρ b):∃ρ':Nat->Nat,DerI w0 m0 w m' ρ' N ex stk nv sv vt xs bd bz:=by
 classical
 have no:∀b,b<w.heap.size->ρ b<5->¬S b:=λb hb aH hs=>by have:=hS b hb hs;omega
 have bE:∀b,b<w.heap.size->ρ b<5->(if S b then 0 else ρ b)=ρ b:=λb hb aH=>Ek (no b hb aH);refine⟨λb=>if S b then 0 else ρ b,h.sys.close k (λb hb hs=>by have:=hS b hb hs;omega) (λb hb=>?_),h.arr,λb hb=>?_,h.rep.keep k,h.stk,λb hb=>?_,h.d,?_,h.z,?_⟩
 ·by_cases hs:S b
  ·rw[El hs]at hb;exact absurd rfl hb
  ·rw[Ek hs]at hb;exact⟨hb,hs⟩
 ·rw[bE b (h.arr.lt hb) (by rw[h.ar b hb];decide)];exact h.ar b hb
 ·rw[bE b (h.stk.lt hb) (by rw[h.sr b hb];decide)];exact h.sr b hb
 ·rw[bE bd h.d.lt (by rw[h.dr];decide)];exact h.dr
 ·rw[bE bz h.z.lt (by rw[h.zr];decide)];exact h.zr
def DerI.newStk(h:DerI w0 m0 w m ρ N ex stk nv sv vt xs bd bz){ow:Value}{stk':DX}(k:KM w m w' m S)(hS:∀b,b<w.heap.size->S b->ρ b=3)(cN:ArrN w' 1 ow stk'.length (stk'.reverse.map C9))(hb:∀b,H4 ow=some b->H4 sv=some b\/w.heap.size<=b):
  DerI w0 m0 w' m (H1 ρ w.heap.size 3) N ex stk' nv ow vt xs bd bz:=by
 have no:∀b,b<w.heap.size->ρ b≠3->¬S b:=λb hb aC hs=>aC (hS b hb hs);refine⟨h.sys.stepM k (λb hb hs=>by rw[hS b hb hs];decide) 3,k.arr h.arr λb hb=>no b (h.arr.lt hb) (by rw[h.ar b hb];decide),λb hb=>?_,h.rep.keep k,cN,λb h1=>?_,k.bk h.d (no _ h.d.lt (by rw[h.dr];decide)),?_,k.bk h.z (no _ h.z.lt (by rw[h.zr];decide)),?_⟩
 ·rw[J8 (h.arr.lt hb)];exact h.ar b hb
 ·rcases hb b h1 with h2|h2
  ·rw[J8 (h.stk.lt h2)];exact h.sr b h2
  ·exact A0L h2
 ·rw[J8 h.d.lt];exact h.dr
 ·rw[J8 h.z.lt];exact h.zr
def DerI.newArr(h:DerI w0 m0 w m ρ N ex stk nv sv vt xs bd bz){ja:Value}{N':DY}{kL:Ea}{tC:Ed}{w1:World}(k:KM w m w1 m S)(hS:∀b,b<w.heap.size->S b->ρ b=4)(hb:∀b,H4 ja=some b->H4 nv=some b\/w.heap.size<=b)
  (cN:ArrN w1 3 ja N'.length kL)(ax:NodR w1 m kL N' tC)(k2:KM w1 m w' m (λb=>b=bd))(hd:Bk w' bd [ja,vt]):
  DerI w0 m0 w' m (H1 ρ w.heap.size 4) N' tC stk ja sv vt kL bd bz:=by
 have no:∀b,b<w.heap.size->ρ b≠4->¬S b:=λb hb aC hs=>aC (hS b hb hs);have eE:=h.sys.stepM k (λb hb hs=>by rw[hS b hb hs];decide) 4;have jH:H1 ρ w.heap.size 4 bd=2:=by rw[J8 h.d.lt];exact h.dr
 have Aa:∀b,H4 ja=some b->H1 ρ w.heap.size 4 b=4:=λb h1=>by
  rcases hb b h1 with h2|h2
  ·rw[J8 (h.arr.lt h2)];exact h.ar b h2
  ·exact A0L h2
 have cU:=k.arr h.stk λb hb=>no b (h.stk.lt hb) (by rw[h.sr b hb];decide);have Ab:∀b,H4 sv=some b->H1 ρ w.heap.size 4 b=3:=λb hb=>by rw[J8 (h.stk.lt hb)];exact h.sr b hb
 have hz:=k.bk h.z (no _ h.z.lt (by rw[h.zr];decide));have xt:H1 ρ w.heap.size 4 bz=1:=by rw[J8 h.z.lt];exact h.zr
 refine⟨eE.stay k2 (λb _ hs=>by rw[hs,jH];decide),k2.arr cN λb hb hs=>?_,Aa,ax.keep k2,k2.arr cU λb hb hs=>?_,Ab,hd,jH,k2.bk hz λhs=>?_,xt⟩
 ·have:=Aa b hb;rw[hs,jH]at this;cases this
 ·have:=Ab b hb;rw[hs,jH]at this;cases this
 ·rw[hs,jH]at xt;cases xt
def DerI.setArr(h:DerI w0 m0 w m ρ N ex stk nv sv vt xs bd bz){N':DY}{kL:Ea}{tC:Ed}{b0:Nat}(lD:H4 nv=some b0)(k:KM w m w' m (λb=>b=b0))(hl:N'.length=N.length)(cN:ArrN w' 3 nv N.length kL)(ax:NodR w m kL N' tC):
  DerI w0 m0 w' m ρ N' tC stk nv sv vt kL bd bz:=by
 have h4:=h.ar b0 lD;refine⟨h.sys.stay k (λb _ hs=>by rw[hs,h4];decide),by rw[hl];exact cN,h.ar,ax.keep k,k.arr h.stk λb hb hs=>?_,h.sr,k.bk h.d λhs=>?_,h.dr,k.bk h.z λhs=>?_,h.zr⟩
 ·have:=h.sr b hb;rw[hs,h4]at this;cases this
 ·have:=h.dr;rw[hs,h4]at this;cases this
 ·have:=h.zr;rw[hs,h4]at this;cases this
end
end Go.Aev
namespace Go.Aev
open Go.Proofs
variable {I:Inv}
def A6V(hb:HB I):Sound Ew U6 I 56 (sG S56):=G0 E56 hb rfl trivial trivial Tryz.func56 rfl Tryz.call56 (λls r h=>by
 unfold sG S56 at h;split at h
 ·exact D9 B7p rfl h
 ·cases h)
def B2B(hb:HB I):Sound Ew U6 I 129 (sG A79):=G0 C1Q hb rfl trivial trivial Tryz.func129 rfl Tryz.call129 (λls r h=>by
 unfold sG A79 at h;split at h
 ·exact D9 C9u rfl h
 ·cases h)
def A9H(hb:HB I):Sound Ew U6 I 131 (sG A6D):=G0 B8d hb rfl trivial trivial Tryz.func131 rfl Tryz.call131 (λls r h=>by
 unfold sG A6D at h;split at h
 ·exact D9 D55 rfl h
 ·cases h)
def B7f(hb:HB I):Sound Ew U6 I 183 (sG A8G):=G0 C1E hb rfl ⟨(A9H hb),trivial⟩ trivial Tryz.func183 rfl Tryz.call183 (λls r h=>by
 unfold sG A8G at h;split at h
 ·exact D9 C9t rfl h
 ·cases h)
def C7q(hb:HB I):Sound Ew U6 I 126 (sG B48):=A8y B79 hb rfl ⟨(B2B hb),(A9H hb),(B7f hb),trivial⟩ trivial Tryz.func126 rfl Tryz.call126 (λls r h=>by
 unfold sG B48 at h;split at h
 ·exact A78 D7K rfl h
 ·cases h)
def D2I(hb:HB I):Sound Ew U6 I 127 (sG B6U):=A8y C3P hb rfl ⟨(B2B hb),(B7f hb),trivial⟩ trivial Tryz.func127 rfl Tryz.call127 (λls r h=>by
 unfold sG B6U at h;split at h
 ·exact A78 D5d rfl h
 ·cases h)
def D2j(hb:HB I):Sound Ew U6 I 128 (sG B7H):=A8y C4P hb rfl ⟨(A9H hb),(B7f hb),trivial⟩ trivial Tryz.func128 rfl Tryz.call128 (λls r h=>by
 unfold sG B7H at h;split at h
 ·exact A78 D0G rfl h
 ·cases h)
def C13(hb:HB I):Sound Ew U6 I 57 (sG S57):=G0 E57 hb rfl ⟨(C7q hb),(D2I hb),(D2j hb),trivial⟩ trivial Tryz.func57 rfl Tryz.call57 (λls r h=>by
 unfold sG S57 at h;split at h
 ·exact D9 C7C rfl h
 ·cases h)
def D7q(hb:HB I):Sound Ew U6 I 130 (sG B3x):=G0 B9d hb rfl trivial trivial Tryz.func130 rfl Tryz.call130 (λls r h=>by
 unfold sG B3x at h;split at h
 ·exact D9 C6C rfl h
 ·cases h)
end Go.Aev
namespace Go.Aev
open Go.Proofs
variable {I:Inv}
def C3z(hb:HB I):Sound Ew U6 I 58 (sG S58):=G0 E58 hb rfl ⟨(B2B hb),(D7q hb),(A9H hb),trivial⟩ trivial Tryz.func58 rfl Tryz.call58 (λls r h=>by
 unfold sG S58 at h;split at h
 ·exact D9 D7w rfl h
 ·cases h)
def B0l(hb:HB I):Sound Ew U6 I 73 (sG S73):=G0 E73 hb rfl trivial trivial Tryz.func73 rfl Tryz.call73 (λls r h=>by
 unfold sG S73 at h;split at h
 ·exact D9 D7X rfl h
 ·cases h)
def B56(hb:HB I):Sound Ew U6 I 146 (sG A85):=A8y A5Q hb rfl trivial trivial Tryz.func146 rfl Tryz.call146 (λls r h=>by
 unfold sG A85 at h;split at h
 ·exact A78 (C5C NN) rfl h
 ·cases h)
def B9a(hb:HB I):Sound Ew U6 I 77 (sG S77):=G0 E77 hb rfl trivial trivial Tryz.func77 rfl Tryz.call77 (λls r h=>by
 unfold sG S77 at h;split at h
 ·exact D9 (D7S NN) rfl h
 ·cases h)
def D5j(hb:HB I):Sound Ew U6 I 149 (sG B5J):=G0 A5o hb rfl ⟨(B9a hb),trivial⟩ trivial Tryz.func149 rfl Tryz.call149 (λls r h=>by
 unfold sG B5J at h;split at h
 ·exact D9 (C8c NN) rfl h
 ·cases h)
def B5N(hb:HB I):Sound Ew U6 I 75 (sG S75):=G0 E75 hb rfl ⟨(D5j hb),trivial⟩ trivial Tryz.func75 rfl Tryz.call75 (λls r h=>by
 unfold sG S75 at h;split at h
 ·exact D9 C7J rfl h
 ·cases h)
end Go.Aev
namespace Go.Aev
open Go.Proofs
def C87{w0:World}{m0:Nat->Nat}{Q:Exit->Act->World->Prop}{vt sv nv:Value}{depth op:Int}{at_ bz bd:Nat}{a:Act}{w:World}{m ρ:Nat->Nat}{N:DY}{xs:Ea}{N0 len:Nat}{aw:DX}(av:N0+(len+aw.length)<=1099511627776)(hi:DerI w0 m0 w m ρ N none aw nv sv vt xs bd bz)(tm:Tm a 136 [(0,vt),(1,.int .i64 depth),(4,.pointer (some ⟨bz,0,none⟩)),(7,.pointer (some ⟨bd,0,none⟩)),(8,sv),(9,C9 at_),(10,.int .i64 op),(15,C9 N0),(17,.int .i64 ((len:Int) - 1))])
  (hk:∀a w m ρ sv,Tm a 136 [(0,vt),(1,.int .i64 depth),(4,.pointer (some ⟨bz,0,none⟩)),(7,.pointer (some ⟨bd,0,none⟩)),(8,sv),(9,C9 at_),(10,.int .i64 op)]->DerI w0 m0 w m ρ N none ((Fp len).map (λi=>N0+i)++aw) nv sv vt xs bd bz->Q .normal a w):(A2 Gb [1,1,1,1,1,0,0,0,1,0,1,1,1,1,0,1,0,1,1,1,0,1]).wp Ew Q a w:=by
 generalize hc:(Fp len).map (λi=>N0+i)=c at hk;have cq:c.length=len:=by rw[<-hc,Fq,Hr]
 have CZ:∀n,n<len->c[n]?=some (N0+n):=λn hn=>by rw[<-hc,Fu,Gt hn];rfl
 refine wbl 4 rfl ?_;refine wlp rfl (λn a w=>∃m ρ sv,n<=len/\Tm a 136 [(0,vt),(1,.int .i64 depth),(4,.pointer (some ⟨bz,0,none⟩)),(7,.pointer (some ⟨bd,0,none⟩)),(8,sv),(9,C9 at_),(10,.int .i64 op),(15,C9 N0),(17,.int .i64 ((n:Int) - 1))]/\DerI w0 m0 w m ρ N none (c.drop n++aw) nv sv vt xs bd bz) len ⟨m,ρ,sv,Ff _,tm,by rw[<-cq,Ht,Gc];exact hi⟩ ?_;clear tm hi m ρ sv a w;rintro n a w ⟨m,ρ,sv,hn,tm,hi⟩;refine wsq rfl ?_;refine wsq rfl ?_;refine D4 19 2 rfl rfl ?_;refine Pm tm λa tm=>?_;refine Pv tm (B4h tm) λa tm=>?_;refine Wn ?_;refine wcn tm rfl _ rfl ?_;cases n with
 |zero=>
  rw[Ek Eo];refine A5U 4 rfl ?_;simp only[Exit.then,Hw,if_true];have tm:=tm.keep [0,1,4,7,8,9,10];exact hk a w m ρ sv tm hi
 |succ n=>
  rw[El Eo];refine P7 rfl ?_;show(A2 _ _).wp _ _ _ _;have tm:=tm.keep [0,1,4,7,8,9,10,15,17];have n9:(((n+1:Nat):Int) - 1)=(n:Int):=Du
  rw[n9]at tm;refine wsq rfl ?_;refine wbl 5 rfl ?_;have cL:Fc .i64 ((N0:Int)+(n:Int))=((N0+n:Nat):Int):=by rw[A2G Du Du];omega
  refine D4 21 7 rfl rfl ?_;refine Pm tm λa tm=>?_;refine Pm tm λa tm=>?_;refine Pm tm λa tm=>?_;refine Pv tm (A3H tm) λa tm=>?_;rw[cL]at tm;refine Ft rfl λK hK=>A2s tm A05 tz3 rfl rfl rfl rfl rfl (us:=[C9 (N0+n)]) rfl rfl rfl Ep Ep λa tm=>hK _ _ ?_;have eD:=A0r w m (.cells [C9 (N0+n)].toArray 3) hi.z0;have cw:=hi.step eD (λb _ h=>h.elim) (.inl λ_ h=>h) 0 (λh=>absurd rfl h);have eg:ArrN (w.alloc (.cells [C9 (N0+n)].toArray 3)) 1 (.slice (some ⟨w.heap.size,0,none⟩) 1 1) 1 [C9 (N0+n)]:=A4d (w:=w) rfl rfl (Ff _) Eo (λj x hj=>by simpa using hj);obtain⟨ie,z,e1,e2,e3,e4,e5⟩:=A1q tz3;have du:(c.drop (n+1)++aw).length<=1099511627776:=by rw[Ey,Hi];omega
  obtain⟨ow,w2,ah,ci,de,cJ⟩:=A9C (P:=Ew) (t:=151) (u:=151) (ty:=151) (e:=3) (y:=.slice (some ⟨w.heap.size,0,none⟩) 1 1) (k:=1) (ys:=[C9 (N0+n)]) (m:=m) A05 (.inl ⟨3,A05⟩) e1 e2 e4 (by rw[e5];rfl) cw.stk (by simp[Ix]) (eg.first _) rfl (λx hx=>by rcases Hf.1 hx with rfl;rfl) (λb hb=>cw.sys.zr b (by rw[cw.sr b hb];decide)) cw.z0 (by rw[e3];omega) (by rw[e3];decide);refine Ft rfl λK hK=>B1Z tm rfl rfl rfl rfl rfl rfl rfl rfl ah λa tm=>hK _ _ ?_;refine Pa tm λa tm=>?_;refine Fv ?_;show(A2 _ _).wp _ _ _ _;refine D4 20 3 rfl rfl ?_;refine Pm tm λa tm=>?_;refine Pv tm (A2r tm) λa tm=>?_;refine Pa tm λa tm=>?_;refine Fv ?_;have jH:c.drop n=(N0+n)::c.drop (n+1):=by
   have h1:=CZ n Du;have h2:=(Gf.1 h1);rw[Hk h2.1,h2.2]
  have cK:=cw.newStk (stk':=c.drop n++aw) de (λb _ hs=>cw.sr b hs) (by rw[jH,Hl,Ez,Ik,Hq];exact ci) cJ;have hw:Fc .i64 ((n:Int) - 1)=(n:Int) - 1:=A2G Du Du;rw[hw]at tm;exact⟨n,Gu n,m,_,ow,Du,tm.sub ⟨rfl,rfl,rfl,rfl,rfl,rfl,rfl,rfl,rfl,trivial⟩,cK⟩
def KI(l:Nat)(i:Nat):(Fp (i+1)).map (λj=>C9 (l+j))=(Fp i).map (λj=>C9 (l+j))++[C9 (l+i)]:=by
 rw[List.range_succ,Hq];rfl
def D3m{w0:World}{m0:Nat->Nat}{Q:Exit->Act->World->Prop}{vt vr sv nv:Value}{depth op:Int}{at_ bz bd:Nat}{a:Act}{w:World}{m ρ:Nat->Nat}{N:DY}{xs:Ea}{n:Nat}{nd:A1}{r:Eb}{stk:DX}(hN:N[n]?=some nd)(dU:nd.kids=[])(av:N.length+r.length<=1099511627776)(hi:DerI w0 m0 w m ρ N none stk nv sv vt xs bd bz)(db:CRep U6 w m (.sl .str r none) vr)
  (tm:Tm a 136 [(0,vt),(1,.int .i64 depth),(4,.pointer (some ⟨bz,0,none⟩)),(7,.pointer (some ⟨bd,0,none⟩)),(8,sv),(9,C9 at_),(10,.int .i64 op),(11,C9 n),(14,vr),(15,C9 N.length),(16,C9 0)])
  (hk:∀a w m ρ nv xs,Tm a 136 [(0,vt),(1,.int .i64 depth),(4,.pointer (some ⟨bz,0,none⟩)),(7,.pointer (some ⟨bd,0,none⟩)),(8,sv),(9,C9 at_),(10,.int .i64 op),(14,vr),(15,C9 N.length)]->DerI w0 m0 w m ρ (A0x N n nd r) none stk nv sv vt xs bd bz->CRep U6 w m (.sl .str r none) vr->Q .normal a w):(A2 Gb [1,1,1,1,1,0,0,0,1,0,1,1,1,1,0,1,0,1,1,0,1]).wp Ew Q a w:=by
 have mD:=A1g hN;obtain⟨DL,uO,xu,pJ⟩:=hi.rep.kid n nd hN (λe=>by cases e);have pJ:=pJ dU;subst pJ;refine wbl 2 rfl ?_;refine wlp rfl (λq a w=>∃i m ρ nv xs kv,q=r.length - i/\i<=r.length/\Tm a 136 [(0,vt),(1,.int .i64 depth),(4,.pointer (some ⟨bz,0,none⟩)),(7,.pointer (some ⟨bd,0,none⟩)),(8,sv),(9,C9 at_),(10,.int .i64 op),(11,C9 n),(14,vr),(15,C9 N.length),(16,C9 i)]/\DerI w0 m0 w m ρ (N++(r.take i).map (λs=>(⟨s,[],0⟩:A1))) (some n) stk nv sv vt xs bd bz/\xs[n*3+1]?=some kv/\ArrN w 1 kv i ((Fp i).map λj=>C9 (N.length+j))/\(∀b,H4 kv=some b->ρ b=5)/\CRep U6 w m (.sl .str r none) vr/\(i=0->kv=.slice none 0 0)) r.length ⟨0,m,ρ,nv,xs,.slice none 0 0,rfl,Fw _,tm,?_,uO,ArrN.nil,λb hb=>by simp[H4]at hb,db,λ_=>rfl⟩ ?_
 ·rw[List.take_zero,Jv,Fe];exact{hi with rep:=hi.rep.open n}
 clear tm hi db uO xu m ρ nv xs a w;rintro q a w ⟨i,m,ρ,nv,xs,kv,rfl,DM,tm,hi,hx,kG,bX,db,bv⟩;obtain⟨ra,xv,pK⟩:=db.sl_inv;have xw:(N++(r.take i).map (λs=>(⟨s,[],0⟩:A1))).length=N.length+i:=by rw[Ey,Fq,Hg];omega
 refine wsq rfl ?_;refine wsq rfl ?_;refine D4 14 4 rfl rfl ?_;refine Pm tm λa tm=>?_;refine Pm tm λa tm=>?_;refine Pv tm (A1k tm A0d rfl rfl rfl rfl rfl pK) λa tm=>?_;refine Pv tm (C0r tm) λa tm=>?_;refine Wn ?_;refine wcn tm rfl _ rfl ?_;have tm:=tm.keep [0,1,4,7,8,9,10,11,14,15,16];by_cases aH:i<r.length
 ·rw[El (by simpa using aH)];refine P7 rfl ?_;show(A2 _ _).wp _ _ _ _;refine wsq rfl ?_;refine wbl 3 rfl ?_;refine wsq rfl ?_;have xx:r[i]?=some r[i]:=Fi aH;generalize r[i]=s at xx;obtain⟨rb,nr,Ac,pL,qI,kF⟩:=D1h db xx;refine C4Q (S:=λw'=>w'.cell? ⟨bd,0+0,none⟩=some nv/\w'.cell? ⟨rb,nr+i*1,none⟩=some (G5 s)) 10 rfl 16 11 rfl rfl ?_;have kd:=B7r hi.z0;have hi:=hi.step kd (λb _ h=>h.elim) (.inl λ_ h=>h) 0 (λh=>absurd rfl h);have bX:∀b,H4 kv=some b->H1 ρ w.heap.size 0 b=5:=λb hb=>by rw[J8 (kG.lt hb)];exact bX b hb
  have kG:=kd.arr kG (λb _ h=>h);have db:=db.mono u6_ok kd.ext;have qI:=(kd.ext.cell _ _ kF).trans qI
  skip
  generalize H1 ρ w.heap.size 0=ρ at hi bX;generalize ({w with drawn:=w.drawn+1}:World)=w at hi kG db qI ⊢;clear kd;have HS:w.cell? ⟨bd,0+0,none⟩=some nv/\w.cell? ⟨rb,nr+i*1,none⟩=some (G5 s):=⟨hi.d.cell rfl,qI⟩;obtain⟨ie,z,e1,e2,e3,e4,e5⟩:=A1q A5R;refine Lt tm 0 rfl (by exact HS) (λw hS=>A07 tm A5M) λa tm=>?_;refine Lt tm 1 rfl (by exact HS) (λw hS=>A0R tm A7b rfl rfl (hS.1)) λa tm=>?_;refine Lt tm 2 rfl (by exact HS) (λw hS=>A0Z tm) λa tm=>?_;refine Lt tm 3 rfl (by exact HS) (λw hS=>A0Z tm) λa tm=>?_;refine Lt tm 4 rfl (by exact HS) (λw hS=>A1G tm A0d tz9 rfl rfl pL rfl rfl aH) λa tm=>?_;refine Lt tm 5 rfl (by exact HS) (λw hS=>A0R tm pl9 rfl rfl (hS.2)) λa tm=>?_;refine Lt tm 6 rfl (by exact HS) (λw hS=>C3r tm rfl rfl rfl (cs:=(O6 s).toArray) En) λa tm=>?_;refine A3U (i:=7) En rfl rfl λK hK=>?_;have eD:=A0r w m (.cells (O6 s).toArray 153) hi.z0;have cw:=hi.step eD (λb _ h=>h.elim) (.inl λ_ h=>h) 0 (λh=>absurd rfl h);have gK:∀b,H4 kv=some b->H1 ρ w.heap.size 0 b=5:=λb hb=>by rw[J8 (kG.lt hb)];exact bX b hb
  have iK:=eD.arr kG (λb _ h=>h);have ko:=db.mono u6_ok eD.ext;have lZ:=(eD.ext.cell _ _ kF).trans qI;have eg:ArrN (w.alloc (.cells (O6 s).toArray 153)) 3 (.slice (some ⟨w.heap.size,0,none⟩) 1 1) 1 (O6 s):=A4d (w:=w) rfl rfl (Ff _) (by simp[O6]) (λj x hj=>by simpa using hj);generalize xy:w.heap.size=wn at*;refine A2s tm A2Y A5R rfl rfl rfl rfl rfl (us:=O6 s) rfl rfl rfl Ep Ep λa tm=>hK _ _ (λ_=>⟨cw.d.cell rfl,lZ⟩) ?_;rw[xy]at tm;generalize (w.alloc (.cells (O6 s).toArray 153))=w at cw iK ko lZ eg eD ⊢;have HS:w.cell? ⟨bd,0+0,none⟩=some nv/\w.cell? ⟨rb,nr+i*1,none⟩=some (G5 s):=⟨cw.d.cell rfl,lZ⟩;refine A3U (i:=8) En rfl rfl λK hK=>?_;obtain⟨ja,w2,ah,ci,de,cJ⟩:=A9C (P:=Ew) (t:=95) (u:=95) (ty:=95) (e:=153) (y:=.slice (some ⟨wn,0,none⟩) 1 1) (k:=1) (ys:=O6 s) (m:=m) A2Y (.inl ⟨153,A2Y⟩) e1 e2 e4 (by rw[e5];rfl) cw.arr (by simp[Ix]) (eg.first _) rfl (λx hx=>by simp only[O6,Fm,Gq,or_false]at hx;rcases hx with rfl|rfl|rfl<;>rfl) (λb hb=>cw.sys.zr b (by rw[cw.ar b hb];decide)) cw.z0 (by rw[e3,xw];omega) (by rw[e3];decide);have kg:=de.bk cw.d (λhs=>by have:=cw.ar bd hs;rw[cw.dr]at this;cases this);have pM:=(de.ext.cell _ _ kF).trans lZ;refine B1Z tm rfl rfl rfl rfl rfl rfl rfl rfl ah λa tm=>hK _ _ (λ_=>⟨kg.cell rfl,pM⟩) ?_;have HS:w2.cell? ⟨bd,0+0,none⟩=some nv/\w2.cell? ⟨rb,nr+i*1,none⟩=some (G5 s):=⟨kg.cell rfl,pM⟩;refine Lt tm 9 rfl (by exact HS) (λw hS=>A07 tm A5M) λa tm=>?_;refine A3U (i:=10) En rfl rfl λK hK=>?_;obtain⟨q1,q2,q3⟩:=kg.store (m:=m) Ew (off:=0) (vs:=[ja]) Eo (λv hv=>by rcases Hf.1 hv with rfl;obtain⟨pa,nu,rfl⟩:=ci.len;rfl) (cw.sys.zr bd (by rw[cw.dr];decide)) de.zero;have xz:ja.cells=[ja].toArray:=by obtain⟨pa,nu,rfl⟩:=ci.len;rfl
  refine A7g tm C97 rfl rfl rfl rfl (us:=[ja]) xz rfl q1 (hK _ _ (λh=>absurd rfl h) ?_);refine C0e En ?_ _;have fT:∀j,some n=some j->j<(N++(r.take i).map (λs=>(⟨s,[],0⟩:A1))).length:=λj e=>by cases e;rw[xw];omega
  have dE:=(cw.rep.keep de).push s fT;have qg:N++(r.take i).map (λs=>(⟨s,[],0⟩:A1))++[(⟨s,[],0⟩:A1)]=N++(r.take (i+1)).map (λs=>(⟨s,[],0⟩:A1)):=by
   rw[List.take_add_one,xx,Hq,Fb];rfl
  rw[qg]at dE;have pN:(N++(r.take (i+1)).map (λs=>(⟨s,[],0⟩:A1))).length=N.length+(i+1):=by rw[Ey,Fq,Hg];omega
  have l7:ArrN w2 3 ja (N++(r.take (i+1)).map (λs=>(⟨s,[],0⟩:A1))).length (xs++O6 s):=by rw[pN, <-Jp, <-xw];exact ci
  have cK:=cw.newArr de (λb _ hs=>cw.ar b hs) cJ l7 dE q3 q2;have jl:∀b,H4 kv=some b->H1 (H1 ρ wn 0) w.heap.size 4 b=5:=λb hb=>by rw[J8 (iK.lt hb)];exact gK b hb
  have ny:=q3.arr (de.arr iK (λb hb hs=>by have h1:=gK b hb;rw[cw.ar b hs]at h1;cases h1)) (λb hb hs=>by have h1:=gK b hb;rw[hs,cw.dr]at h1;cases h1);have l8:=(ko.mono u6_ok de.ext).mono u6_ok q3.ext;have eb:(xs++O6 s)[n*3+1]?=some kv:=by rw[Gz (A1g hx)];exact hx
  generalize H1 (H1 ρ wn 0) w.heap.size 4=ρ at cK jl;generalize (D5 w2 bd 0 [ja])=w at cK ny l8 ⊢;clear cw gK iK ko lZ eg eD hi bX kG db qI HS ah ci de cJ kg pM q1 q2 q3 dE l7 hx;have tm:=tm.keep [0,1,4,7,8,9,10,11,14,15,16];show(A2 _ _).wp _ _ _ _;obtain⟨nb,pO,kE,tD,di,eu,l9⟩:=cK.arr.at eb;have Ae:n<(N++(r.take (i+1)).map (λs=>(⟨s,[],0⟩:A1))).length:=by rw[pN];omega
  refine C4Q (S:=λw'=>w'.cell? ⟨bd,0+0,none⟩=some ja/\w'.cell? ⟨nb,0+n*3+1,none⟩=some kv) 16 rfl 17 17 rfl rfl ?_;have kd:=B7r cK.z0;have hi:=cK.step kd (λb _ h=>h.elim) (.inl λ_ h=>h) 0 (λh=>absurd rfl h);have bX:∀b,H4 kv=some b->H1 ρ w.heap.size 0 b=5:=λb hb=>by rw[J8 (ny.lt hb)];exact jl b hb
  have kG:=kd.arr ny (λb _ h=>h);have db:=l8.mono u6_ok kd.ext;generalize H1 ρ w.heap.size 0=ρ at hi bX;generalize ({w with drawn:=w.drawn+1}:World)=w at hi kG db ⊢;clear kd cK jl ny l8 eu l9;have fo:∀{w:World}{ρ:Nat->Nat}{x:Value}{xs:Ea}{M:DY}{e:Ed},DerI w0 m0 w m ρ M e stk ja sv vt xs bd bz->xs[n*3+1]?=some x->w.cell? ⟨nb,0+n*3+1,none⟩=some x/\w.frozen? ⟨nb,0+n*3+1,none⟩=false:=λ{w}{ρ}{x}{xs}{M}{e} hi hx=>by
   obtain⟨DN,Af,pP,_,_,h4,h5⟩:=hi.arr.at hx;rw[kE]at pP;simp only[Kl,Gp,Addr.mk.injEq]at pP;obtain⟨⟨rfl,_⟩,_⟩:=pP;rw[Fx];exact⟨h4,h5⟩
  have HS:w.cell? ⟨bd,0+0,none⟩=some ja/\w.cell? ⟨nb,0+n*3+1,none⟩=some kv:=⟨hi.d.cell rfl,(fo hi eb).1⟩;obtain⟨DO,z2,d1,d2,d3,d4,d5⟩:=A1q tz3;have cL:Fc .i64 ((N.length:Int)+(i:Int))=((N.length+i:Nat):Int):=by rw[A2G Du Du];omega
  refine Lt tm 0 rfl (by exact HS) (λw hS=>A07 tm A5M) λa tm=>?_;refine Lt tm 1 rfl (by exact HS) (λw hS=>A0R tm A7b rfl rfl (hS.1)) λa tm=>?_;refine Lt tm 2 rfl (by exact HS) (λw hS=>A0Z tm) λa tm=>?_;refine Lt tm 3 rfl (by exact HS) (λw hS=>A07 tm A5M) λa tm=>?_;refine Lt tm 4 rfl (by exact HS) (λw hS=>A0R tm A7b rfl rfl (hS.1)) λa tm=>?_;refine Lt tm 5 rfl (by exact HS) (λw hS=>A0Z tm) λa tm=>?_;refine Lt tm 6 rfl (by exact HS) (λw hS=>A1G tm A2Y A5R rfl rfl kE rfl rfl Ae) λa tm=>?_;refine Lt tm 7 rfl (by exact HS) (λw hS=>A07 tm C1Z) λa tm=>?_;refine Lt tm 8 rfl (by exact HS) (λw hS=>A0R tm C9e rfl rfl (hS.2)) λa tm=>?_;refine Lt tm 9 rfl (by exact HS) (λw hS=>A0Z tm) λa tm=>?_;refine Lt tm 10 rfl (by exact HS) (λw hS=>A0Z tm) λa tm=>?_;refine Lt tm 11 rfl (by exact HS) (λw hS=>A3H tm) λa tm=>?_;refine A3U (i:=12) En rfl rfl λK hK=>?_;rw[cL]at tm;have eD:=A0r w m (.cells [C9 (N.length+i)].toArray 3) hi.z0;have cw:=hi.step eD (λb _ h=>h.elim) (.inl λ_ h=>h) 0 (λh=>absurd rfl h);have gK:∀b,H4 kv=some b->H1 ρ w.heap.size 0 b=5:=λb hb=>by rw[J8 (kG.lt hb)];exact bX b hb
  have iK:=eD.arr kG (λb _ h=>h);have ko:=db.mono u6_ok eD.ext;have eg:ArrN (w.alloc (.cells [C9 (N.length+i)].toArray 3)) 1 (.slice (some ⟨w.heap.size,0,none⟩) 1 1) 1 [C9 (N.length+i)]:=A4d (w:=w) rfl rfl (Ff _) Eo (λj x hj=>by simpa using hj);generalize xy:w.heap.size=xA at cw gK eg;refine A2s tm A05 tz3 rfl rfl rfl rfl rfl (us:=[C9 (N.length+i)]) rfl rfl rfl Ep Ep λa tm=>hK _ _ (λ_=>⟨cw.d.cell rfl,(fo cw eb).1⟩) ?_;rw[xy]at tm;generalize (w.alloc (.cells [C9 (N.length+i)].toArray 3))=w at cw iK ko eg eD ⊢;refine A3U (i:=13) En rfl rfl λK hK=>?_;obtain⟨ox,w2,ah,ci,de,cJ⟩:=A9C (P:=Ew) (t:=151) (u:=151) (ty:=151) (e:=3) (y:=.slice (some ⟨xA,0,none⟩) 1 1) (k:=1) (ys:=[C9 (N.length+i)]) (m:=m) A05 (.inl ⟨3,A05⟩) d1 d2 d4 (by rw[d5];rfl) iK (by simp[Ix]) (eg.first _) rfl (λx hx=>by rcases Hf.1 hx with rfl;rfl) (λb hb=>cw.sys.zr b (by rw[gK b hb];decide)) cw.z0 (by rw[d3];omega) (by rw[d3];decide);have cK:=cw.step de (λb _ hs=>by rw[gK b hs];decide) (.inr rfl) 5 (λ_=>rfl);have pL:=ko.mono u6_ok de.ext;have jl:∀b,H4 ox=some b->H1 (H1 ρ xA 0) w.heap.size 5 b=5:=λb hb=>by
   rcases cJ b hb with h|h
   ·rw[J8 (iK.lt h)];exact gK b h
   ·exact A0L h
  refine B1Z tm rfl rfl rfl rfl rfl rfl rfl rfl ah λa tm=>hK _ _ (λ_=>⟨cK.d.cell rfl,(fo cK eb).1⟩) ?_;generalize H1 (H1 ρ xA 0) w.heap.size 5=ρ at cK jl;refine A3U (i:=14) En rfl rfl λK hK=>?_;refine A4K tm rfl rfl (A1G tm A2Y A5R rfl rfl kE rfl rfl Ae) λa tm=>hK _ _ (λ_=>⟨cK.d.cell rfl,(fo cK eb).1⟩) ?_;refine A3U (i:=15) En rfl rfl λK hK=>?_;refine A4K tm rfl rfl (A07 tm C1Z rfl rfl) λa tm=>hK _ _ (λ_=>⟨cK.d.cell rfl,(fo cK eb).1⟩) ?_;refine A3U (i:=16) En rfl rfl λK hK=>?_;have xB:ox.cells= #[ox]:=by obtain⟨pa,nu,rfl⟩:=ci.len;rfl
  have xC:ox.oneCell'=true:=by obtain⟨pa,nu,rfl⟩:=ci.len;rfl
  refine B99 (sz:=1) tm D13 rfl rfl rfl rfl xB xC (fo cK eb).1 (fo cK eb).2 (hK _ _ (λh=>absurd rfl h) ?_);refine C0e En ?_ _;have ma:(⟨nb,0+n*3+1,none⟩:Addr)=⟨nb,n*3+1,none⟩:=by rw[Fx]
  rw[ma];have mc:=cK.arr.set (j:=n*3+1) (by rw[pN];omega) kE ox;have tE:=B88 w2 m (b:=nb) (off:=n*3+1) ox (cK.sys.zr nb (by rw[cK.ar nb di];decide)) cK.z0;have qE:=cK.setArr di tE rfl mc (cK.rep.setKid ox);have tF:=tE.arr ci (λb hb hs=>by have h1:=jl b hb;rw[hs,cK.ar nb di]at h1;cases h1);rw[<-KI]at tF;have xD:=pL.mono u6_ok tE.ext;show(A2 _ _).wp _ _ _ _;have tm:=tm.keep [0,1,4,7,8,9,10,11,14,15,16];refine D4 15 3 rfl rfl ?_;refine Pm tm λa tm=>?_;refine Pv tm (A3H tm) λa tm=>?_;refine Pa tm λa tm=>?_;refine Fv ?_;have th:Fc .i64 ((i:Int)+1)=((i+1:Nat):Int):=B0J Du;rw[th]at tm;exact⟨r.length - (i+1),Du,i+1,m,ρ,ja,_,ox,rfl,Du,tm.sub ⟨rfl,rfl,rfl,rfl,rfl,rfl,rfl,rfl,rfl,rfl,rfl,trivial⟩,qE,Jx (A1g eb),tF,jl,xD,λh=>Du⟩
 ·rw[Ek (by simpa using aH)];refine A5U 2 rfl ?_;simp only[Exit.then,Hw,if_true];have bR:i=r.length:=Du
  subst bR;rw[List.take_length]at hi;have ju:∀(j:Nat)(lf:L6),(flat U6 .i64 ((Fp r.length).map λi=>((N.length+i:Nat):Int)))[j]?=some lf->∃u:Value,((Fp r.length).map λj=>C9 (N.length+j))[j]?=some u/\CRep U6 w m lf u:=λj lf hj=>by
   obtain⟨x,h1,h2⟩:=C4H (t:=.i64) hj;have hs:U6.size .i64=1:=rfl;rw[hs,Nat.div_one]at h1;rw[hs,Nat.mod_one]at h2;have h3:=A1g h1;rw[Fq,Hr]at h3;rw[Fu,Gt h3]at h1;cases h1;cases h2;exact⟨_,by rw[Fu,Gt h3];rfl,.int _ _⟩
  obtain⟨m',cq,nA⟩:=B0j (U:=U6) u6_ok (t:=.i64) (l:=(Fp r.length).map λi=>((N.length+i:Nat):Int)) kG Eo ju (λb hb=>hi.sys.zr b (by rw[bX b hb];decide)) hi.z0;obtain⟨ρ',cK⟩:=hi.shut nA (λb _ hs=>by rw[bX b hs];decide);have qg:(N++r.map (λs=>(⟨s,[],0⟩:A1)))[n]?=some nd:=by rw[Gz mD];exact hN
  have oy:=cK.rep.shut qg hx cq (λh0=>bv (by simpa using h0));have hg:(N++r.map (λs=>(⟨s,[],0⟩:A1))).set n {nd with kids:=(Fp r.length).map λi=>((N.length+i:Nat):Int)}=A0x N n nd r:=by
   unfold A0x;rw[List.set_append_left _ _ mD]
  rw[hg]at oy;have xj:(A0x N n nd r).length=(N++r.map (λs=>(⟨s,[],0⟩:A1))).length:=by rw[<-hg,Gm]
  exact hk a w m' ρ' nv xs (tm.sub ⟨rfl,rfl,rfl,rfl,rfl,rfl,rfl,rfl,rfl,trivial⟩) {cK with arr:=by(rw[xj];exact cK.arr),rep:=oy} (db.mono u6_ok nA.ext)
def C5R{Q:Exit->Act->World->Prop}{vt sv:Value}{depth op:Int}{at_ bz bd n:Nat}{sym:DT}{a:Act}{w:World}(tm:Tm a 136 [(0,vt),(1,.int .i64 depth),(4,.pointer (some ⟨bz,0,none⟩)),(7,.pointer (some ⟨bd,0,none⟩)),(8,sv),(9,C9 at_),(10,.int .i64 op),(11,C9 n),(12,G5 sym),(107,G5 sym)])(hk:∀a,Tm a 136 [(0,vt),(1,.int .i64 depth),(4,.pointer (some ⟨bz,0,none⟩)),(7,.pointer (some ⟨bd,0,none⟩)),(8,sv),(9,C9 at_),(10,.int .i64 op),(11,C9 n),(12,G5 sym),(107,G5 sym),(108,.bool (O9 sym))]->Q .normal a w):(A2 Gb [1,1,1,1,1,0,0,0,1,0,1,1,1,1,1,1,0,1,0,0]).wp Ew Q a w:=by
 refine wsq rfl ?_;refine D4 25 2 rfl rfl ?_;refine Pv tm (A7c tm rfl (i:=sym) (j:=[40]) rfl rfl) λa tm=>?_;refine Pa tm λa tm=>?_;refine Wn ?_;refine wcn tm rfl _ rfl ?_;have tm:=tm.keep [0,1,4,7,8,9,10,11,12,107,108];cases h1:(sym==[40])with
 |true=>
  rw[El rfl];rw[h1]at tm;refine P7 rfl (hk a ?_);rw[show O9 sym=true by unfold O9;rw[h1];rfl];exact tm
 |false=>
  rw[Ek Eo];refine wsq rfl ?_;refine D4 26 2 rfl rfl ?_;refine Pv tm (A7c tm rfl (i:=sym) (j:=[91]) rfl rfl) λa tm=>?_;refine Pa tm λa tm=>?_;refine Wn ?_;refine wcn tm rfl _ rfl ?_;have tm:=tm.keep [0,1,4,7,8,9,10,11,12,107,108];cases h2:(sym==[91])with
  |true=>
   rw[El rfl];rw[h2]at tm;refine P7 rfl (hk a ?_);rw[show O9 sym=true by unfold O9;rw[h1,h2];rfl];exact tm
  |false=>
   rw[Ek Eo];refine D4 27 2 rfl rfl ?_;refine Pv tm (A7c tm rfl (i:=sym) (j:=[123]) rfl rfl) λa tm=>?_;refine Pa tm λa tm=>?_;refine Fv ?_;refine hk _ ?_;rw[show O9 sym=(sym==[123])by unfold O9;rw[h1,h2];rfl];exact tm.sub (by repeat' constructor)
def D4q{Q:Exit->Act->World->Prop}{vt sv:Value}{depth op:Int}{at_ bz bd n:Nat}{sym:DT}{a:Act}{w:World}(tm:Tm a 136 [(0,vt),(1,.int .i64 depth),(4,.pointer (some ⟨bz,0,none⟩)),(7,.pointer (some ⟨bd,0,none⟩)),(8,sv),(9,C9 at_),(10,.int .i64 op),(11,C9 n),(12,G5 sym),(107,G5 sym)])(hk:∀a,Tm a 136 [(0,vt),(1,.int .i64 depth),(4,.pointer (some ⟨bz,0,none⟩)),(7,.pointer (some ⟨bd,0,none⟩)),(8,sv),(9,C9 at_),(10,.int .i64 op),(11,C9 n),(12,G5 sym),(107,G5 sym),(119,.bool (A04 sym))]->Q .normal a w):(A2 Gb [1,1,1,1,1,0,0,0,1,0,1,1,1,1,1,1,0,1,0,1,1,0]).wp Ew Q a w:=by
 refine wsq rfl ?_;refine D4 31 2 rfl rfl ?_;refine Pv tm (A7c tm rfl (i:=sym) (j:=[41]) rfl rfl) λa tm=>?_;refine Pa tm λa tm=>?_;refine Wn ?_;refine wcn tm rfl _ rfl ?_;have tm:=tm.keep [0,1,4,7,8,9,10,11,12,107,119];cases h1:(sym==[41])with
 |true=>
  rw[El rfl];rw[h1]at tm;refine P7 rfl (hk a ?_);rw[show A04 sym=true by unfold A04;rw[h1];rfl];exact tm
 |false=>
  rw[Ek Eo];refine wsq rfl ?_;refine D4 32 2 rfl rfl ?_;refine Pv tm (A7c tm rfl (i:=sym) (j:=[93]) rfl rfl) λa tm=>?_;refine Pa tm λa tm=>?_;refine Wn ?_;refine wcn tm rfl _ rfl ?_;have tm:=tm.keep [0,1,4,7,8,9,10,11,12,107,119];cases h2:(sym==[93])with
  |true=>
   rw[El rfl];rw[h2]at tm;refine P7 rfl (hk a ?_);rw[show A04 sym=true by unfold A04;rw[h1,h2];rfl];exact tm
  |false=>
   rw[Ek Eo];refine D4 33 2 rfl rfl ?_;refine Pv tm (A7c tm rfl (i:=sym) (j:=[125]) rfl rfl) λa tm=>?_;refine Pa tm λa tm=>?_;refine Fv ?_;refine hk _ ?_;rw[show A04 sym=(sym==[125])by unfold A04;rw[h1,h2];rfl];exact tm.sub (by repeat' constructor)
def C7p{Q:Exit->Act->World->Prop}{vt sv:Value}{depth op:Int}{at_ bz bd n:Nat}{sym:DT}{a:Act}{w:World}{w0:World}{m0 m ρ:Nat->Nat}{N:DY}{ex:Ed}{stk:DX}{nv:Value}{xs:Ea}(hi:DerI w0 m0 w m ρ N ex stk nv sv vt xs bd bz)(tm:Tm a 136 [(0,vt),(1,.int .i64 depth),(4,.pointer (some ⟨bz,0,none⟩)),(7,.pointer (some ⟨bd,0,none⟩)),(8,sv),(9,C9 at_),(10,.int .i64 op),(11,C9 n),(12,G5 sym)])
  (xE:O9 sym=true->depth<Fc .i64 (op+1)->∀a w m,Tm a 136 [(4,.pointer (some ⟨bz,0,none⟩)),(5,C9 at_),(6,.int .i64 71)]->Bk w bz [.slice none 0 0,.slice none 0 0]->KM w0 m0 w m (λ_=>False)->Q .ret a w)
  (hk:∀a tG,(O9 sym=true->¬depth<Fc .i64 (op+1)/\tG=Fc .i64 (op+1))->(O9 sym=false->tG=(bif A04 sym then Fc .i64 (op - 1)else op))->Tm a 136 [(0,vt),(1,.int .i64 depth),(4,.pointer (some ⟨bz,0,none⟩)),(7,.pointer (some ⟨bd,0,none⟩)),(8,sv),(9,C9 at_),(10,.int .i64 tG),(11,C9 n),(12,G5 sym)]->Q .normal a w):(A2 Gb [1,1,1,1,1,0,0,0,1,0,1,1,1,1,1,1,0]).wp Ew Q a w:=by
 refine wsq rfl ?_;refine D4 24 1 rfl rfl ?_;refine Pm tm λa tm=>?_;refine Wn ?_;refine wbl 6 rfl ?_;refine wsq rfl ?_;refine C5R (tm.sub ⟨rfl,rfl,rfl,rfl,rfl,rfl,rfl,rfl,rfl,rfl,trivial⟩) λa tm=>?_;show(A2 _ _).wp _ _ _ _;refine wcn tm rfl _ rfl ?_;cases ho:O9 sym with
 |true=>
  rw[El rfl];refine wsq rfl ?_;refine D4 28 3 rfl rfl ?_;refine Pm tm λa tm=>?_;refine Pv tm (A3H tm) λa tm=>?_;refine Pa tm λa tm=>?_;refine Wn ?_;refine wsq rfl ?_;refine D4 29 3 rfl rfl ?_;refine Pm tm λa tm=>?_;refine Pm tm λa tm=>?_;refine Pv tm (B06 tm) λa tm=>?_;refine Wn ?_;refine wcn tm rfl _ rfl ?_;have tm:=tm.keep [0,1,4,7,8,9,10,11,12];by_cases hd:depth<Fc .i64 (op+1)
  ·rw[El (by simpa using hd)];refine wsq rfl ?_;obtain⟨q1,q2,q3⟩:=hi.z.store (m:=m) Ew (off:=0) (vs:=[.slice none 0 0,.slice none 0 0]) Eo (λv hv=>by simp only[Fm,Gq,or_false]at hv;rcases hv with rfl|rfl<;>rfl) (hi.sys.zr bz (by rw[hi.zr];decide)) hi.z0;refine D4 30 5 rfl rfl ?_;refine Pv tm (A4J tm rfl rfl (cs:= #[.slice none 0 0,.slice none 0 0]) En) λa tm=>?_;refine Pm tm λa tm=>?_;refine Ps tm A2g q1 ?_;refine Pa tm λa tm=>?_;refine Pa tm λa tm=>?_;refine Wn ?_;refine A5P rfl ?_;exact xE ho hd _ _ m (tm.sub ⟨rfl,rfl,rfl,trivial⟩) q2 (hi.sys.stay q3 (λb _ hs=>by rw[hs,hi.zr];decide)).km
  ·rw[Ek (by simpa using hd)];refine P7 rfl ?_;exact hk a _ (λ_=>⟨hd,rfl⟩) (λh=>by rw[ho]at h;cases h) tm
 |false=>
  rw[Ek Eo];refine wsq rfl ?_;refine D4q (tm.sub ⟨rfl,rfl,rfl,rfl,rfl,rfl,rfl,rfl,rfl,rfl,trivial⟩) λa tm=>?_;show(A2 _ _).wp _ _ _ _;refine wcn tm rfl _ rfl ?_;cases hc:A04 sym with
  |true=>
   rw[El rfl];refine D4 34 3 rfl rfl ?_;refine Pm tm λa tm=>?_;refine Pv tm (A2r tm) λa tm=>?_;refine Pa tm λa tm=>?_;refine Fv ?_;exact hk _ _ (λh=>by rw[ho]at h;cases h) (λ_=>by rw[hc];rfl) (tm.sub ⟨rfl,rfl,rfl,rfl,rfl,rfl,rfl,rfl,rfl,trivial⟩)
  |false=>
   rw[Ek Eo];refine P7 rfl ?_;exact hk _ _ (λh=>by rw[ho]at h;cases h) (λ_=>by rw[hc];rfl) (tm.sub ⟨rfl,rfl,rfl,rfl,rfl,rfl,rfl,rfl,rfl,trivial⟩)
def D3Z{Q:Exit->Act->World->Prop}{vt sv:Value}{depth op:Int}{at_ bz bd n:Nat}{sym:DT}{a:Act}{w:World}{w0:World}{m0 m ρ:Nat->Nat}{N:DY}{stk:DX}{nv:Value}{xs:Ea}{nd:A1}(hi:DerI w0 m0 w m ρ N none stk nv sv vt xs bd bz)(hN:N[n]?=some nd)(Ag:nd.sym=sym)(n8:at_<=1099511627776)(tm:Tm a 136 [(0,vt),(1,.int .i64 depth),(4,.pointer (some ⟨bz,0,none⟩)),(7,.pointer (some ⟨bd,0,none⟩)),(8,sv),(9,C9 at_),(10,.int .i64 op),(11,C9 n),(12,G5 sym)])
  (hk:∀a w xs,Tm a 136 [(0,vt),(1,.int .i64 depth),(4,.pointer (some ⟨bz,0,none⟩)),(7,.pointer (some ⟨bd,0,none⟩)),(8,sv),(9,C9 (bif A4c sym then at_ else at_+1)),(10,.int .i64 op)]->DerI w0 m0 w m ρ (setTok N n nd at_) none stk nv sv vt xs bd bz->Q .normal a w):(A2 Gb [1,1,1,1,1,0,0,0,1,0,1,1,1,1,1,1,1]).wp Ew Q a w:=by
 have mD:=A1g hN;have hx:=hi.rep.tok n nd hN;obtain⟨nb,pO,kE,tD,di,eu,l9⟩:=hi.arr.at hx;have ma:(⟨nb,0+n*3+2,none⟩:Addr)=⟨nb,n*3+2,none⟩:=by rw[Fx]
 refine wsq rfl ?_;refine D4 35 7 rfl rfl ?_;refine Pv tm (A07 tm A5M) λa tm=>?_;refine Pv tm (A0R tm A7b rfl rfl (hi.d.cell rfl)) λa tm=>?_;refine Pm tm λa tm=>?_;refine Pm tm λa tm=>?_;refine Pv tm (A1G tm A2Y A5R rfl rfl kE rfl rfl mD) λa tm=>?_;refine Pv tm (A07 tm D72) λa tm=>?_;refine Ft rfl λK hK=>B99 (sz:=1) tm tz3 rfl rfl rfl rfl rfl rfl (by rw[ma];exact eu) (by rw[ma];exact l9) (hK _ _ ?_);refine Fv ?_;rw[ma];have mc:=hi.arr.set (j:=n*3+2) Du kE (C9 at_);have tE:=B88 w m (b:=nb) (off:=n*3+2) (C9 at_) (hi.sys.zr nb (by rw[hi.ar nb di];decide)) hi.z0;have qE:=hi.setArr di tE (by unfold setTok;rw[Gm]) mc (hi.rep.setTok hN at_);generalize (w.setCell ⟨nb,n*3+2,none⟩ (C9 at_))=w at qE ⊢;show(A2 _ _).wp _ _ _ _;refine wsq rfl ?_;have tm:=tm.keep [0,1,4,7,8,9,10,11,12];refine D4 36 2 rfl rfl ?_;refine Pm tm λa tm=>?_;refine Pv tm (D3F tm rfl (i:=sym) (j:=[101,110,100]) rfl rfl) λa tm=>?_;refine Wn ?_;refine wcn tm rfl _ rfl ?_;have tm:=tm.keep [0,1,4,7,8,9,10,11,12];cases he:A4c sym with
 |true=>
  rw[Ek (by rw[show(sym==[101,110,100])=true from he];simp)];refine P7 rfl ?_;refine hk _ _ _ ?_ qE;rw[he];exact tm.sub (by repeat' constructor)
 |false=>
  rw[El (by rw[show(sym==[101,110,100])=false from he];rfl)];refine D4 37 3 rfl rfl ?_;refine Pm tm λa tm=>?_;refine Pv tm (A3H tm) λa tm=>?_;refine Pa tm λa tm=>?_;refine Fv ?_;have hw:Fc .i64 ((at_:Int)+1)=((at_+1:Nat):Int):=B0J Du;rw[hw]at tm;refine hk _ _ _ ?_ qE;rw[he];exact tm.sub (by repeat' constructor)
def B8D(w0:World)(m0:Nat->Nat)(d:A1B)(at_:Nat)(k:Int)(Q:Exit->Act->World->Prop):Prop:=
 ∀e a w m (us:Ea),(e=.normal\/e=.ret)->a.defers=[]->(results Gb a.tmps).run Ew w=.ok (.tuple #[.agg us.toArray,C9 at_,.int .i64 k]) w->CRep U6 w m (.agg .tree d) (.agg us.toArray)->KM w0 m0 w m (λ_=>False)->Q e a w
def B6G{w0 w:World}{m0 m:Nat->Nat}{d:A1B}{at_:Nat}{k:Int}{Q:Exit->Act->World->Prop}(hQ:B8D w0 m0 d at_ k Q){e:Exit}{a:Act}{bz:Nat}{us:Ea}(he:e=.normal\/e=.ret)(tm:Tm a 136 [(4,.pointer (some ⟨bz,0,none⟩)),(5,C9 at_),(6,.int .i64 k)])(hb:Bk w bz us)(hl:us.length=2)(hr:CRep U6 w m (.agg .tree d) (.agg us.toArray))(hk:KM w0 m0 w m (λ_=>False)):Q e a w:=by
 refine hQ e a w m us he tm.dfr ?_ hr hk;have h4:=tm.get 4 _ rfl;have h5:=tm.get 5 _ rfl;have h6:=tm.get 6 _ rfl;have hl:(loadVar 97 ⟨bz,0,none⟩).run Ew w=.ok (.agg us.toArray) w:=A8R C1K A2g hl (λj u hj=>by rw[Fx];exact hb.cell hj);exact A6H Ew Gb a w [.cell 4 97,.tmp 5,.tmp 6] En (vs:=[.agg us.toArray,C9 at_,.int .i64 k]) (λf hf=>by
  simp[hf.tmp,hf.cell,h4,h5,h6,asAddr,hl])
def C1P{w:World}{m:Nat->Nat}:CRep U6 w m (.agg .tree ⟨[],[]⟩) (.agg [.slice none 0 0,.slice none 0 0].toArray):=A6e ⟨.nil _ _ _ _,.nil _ _ _ _,trivial⟩
def D3I{w:World}{sv:Value}{n:Nat}{aw:DX}(h:ArrN w 1 sv (n::aw).length ((n::aw).reverse.map C9)):
  ∃b cap,sv=.slice (some ⟨b,0,none⟩) (aw.length+1) cap/\aw.length+1<=cap/\w.cell? ⟨b,0+aw.length*1,none⟩=some (C9 n):=by
 obtain⟨b,cap,hv,_,_,bh,hc⟩:=h.blk Eo;refine⟨b,cap,hv,bh,?_⟩;rw[Fx,Jl];exact(hc aw.length _ Eo).1
def C7P{I:Inv}(hb:HB I){w0:World}{m0:Nat->Nat}(hI:I w0 m0)(hz:∀b,w0.heap.size<=b->m0 b=0){toks:DZ}{depth:Int}{d:A1B}{xF:Nat}{k:Int}{Q:Exit->Act->World->Prop}{vt:Value}{F:Nat}
  (ah:L1 toks depth F [⟨P6,[],0⟩] [0] 0 0=some (d,xF,k))(eC:toks.length<=1099511627776)(nB:CRep U6 w0 m0 (.sl .tok toks none) vt)(hQ:B8D w0 m0 d xF k Q){a:Act}(tm:Tm a 136 [(0,vt),(1,.int .i64 depth)]):
  (A2 Gb []).wp Ew Q a w0:=by
 obtain⟨pv,nu,pQ⟩:=nB.sl_inv;refine wsq rfl ?_;refine D4 0 3 rfl rfl ?_;refine Ft rfl λK hK=>A4m tm A2g rfl rfl rfl λa tm=>hK _ _ ?_;refine Pa tm λa tm=>?_;refine Pa tm λa tm=>?_;refine Wn ?_;refine wsq rfl ?_;have k1:=A0r w0 m0 (.cells [.slice none 0 0,.slice none 0 0].toArray 97) hz;have s0:Sys w0 m0 (λ_=>False) w0 m0 (λ_=>0):=⟨KM.refl _ _ _ hz,λb h=>absurd rfl h,λb _ h=>absurd rfl h⟩;have s1:=s0.stepM k1 (λ_ _ h=>h.elim) 1;have b1:Bk (w0.alloc (.cells [.slice none 0 0,.slice none 0 0].toArray 97)) w0.heap.size [.slice none 0 0,.slice none 0 0]:=A5n;have dC:H1 (λ_=>0) w0.heap.size 1 w0.heap.size=1:=A0L (Ff _);generalize w0.heap.size=bz at tm s1 b1 dC;generalize H1 (λ_=>0) bz 1=ρ1 at s1 dC;generalize (w0.alloc (.cells [.slice none 0 0,.slice none 0 0].toArray 97))=w1 at k1 s1 b1 tm ⊢;refine D4 1 6 rfl rfl ?_;refine Pm tm λa tm=>?_;refine Pv tm (C3r tm rfl rfl rfl (v:=G5 P6) (cs:=(O6 P6).toArray) En) λa tm=>?_;refine Ft rfl λK hK=>A2s tm A2Y A5R rfl rfl rfl rfl rfl (us:=O6 P6) rfl rfl rfl Ep Ep λa tm=>hK _ _ ?_;have k2:=A0r w1 m0 (.cells (O6 P6).toArray 153) s1.z;have s2:=s1.stepM k2 (λ_ _ h=>h.elim) 4;have a2:ArrN (w1.alloc (.cells (O6 P6).toArray 153)) 3 (.slice (some ⟨w1.heap.size,0,none⟩) 1 1) 1 (O6 P6):=A4d (w:=w1) rfl rfl (Ff _) (by simp[O6]) (λj x hj=>by simpa using hj);have eH:H1 ρ1 w1.heap.size 4 w1.heap.size=4:=A0L (Ff _);have dC:=(J8 (r:=4) b1.lt).trans dC;have b1:=k2.bk b1 (λh=>h);generalize w1.heap.size=bn at tm s2 a2 dC eH;generalize H1 ρ1 bn 4=ρ2 at s2 dC eH;generalize (w1.alloc (.cells (O6 P6).toArray 153))=w2 at k2 s2 b1 a2 ⊢;refine Pv tm (B62 tm rfl rfl rfl rfl (cs:= #[.slice (some ⟨bn,0,none⟩) 1 1,vt]) (by rw[pQ];kernel_rfl)) λa tm=>?_;refine Ft rfl λK hK=>A4m tm A2g rfl rfl rfl λa tm=>hK _ _ ?_;have k3:=A0r w2 m0 (.cells [.slice none 0 0,.slice none 0 0].toArray 97) s2.z;have s3:=s2.stepM k3 (λ_ _ h=>h.elim) 2;have b3:Bk (w2.alloc (.cells [.slice none 0 0,.slice none 0 0].toArray 97)) w2.heap.size [.slice none 0 0,.slice none 0 0]:=A5n;have fU:H1 ρ2 w2.heap.size 2 w2.heap.size=2:=A0L (Ff _);have dC:=(J8 (r:=2) b1.lt).trans dC;have eH:=(J8 (r:=2) (a2.lt (A0b Ep))).trans eH;have b1:=k3.bk b1 (λh=>h);have a2:=k3.arr a2 (λ_ _ h=>h);generalize w2.heap.size=bd at tm s3 b3 dC eH fU;generalize H1 ρ2 bd 2=ρ3 at s3 dC eH fU;generalize (w2.alloc (.cells [.slice none 0 0,.slice none 0 0].toArray 97))=w3 at k3 s3 b1 a2 b3 ⊢;obtain⟨q1,q2,q3⟩:=b3.store (m:=m0) Ew (off:=0) (vs:=[.slice (some ⟨bn,0,none⟩) 1 1,vt]) Eo (λv hv=>by simp only[Fm,Gq,or_false]at hv;rcases hv with rfl|rfl;rfl;rw[pQ];rfl) (s3.zr bd (by rw[fU];decide)) s3.z;refine Ps tm A2g q1 ?_;have s4:=s3.stay q3 (λb _ hs=>by rw[hs,fU];decide);have b1:=q3.bk b1 (λhs=>by rw[hs,fU]at dC;cases dC);have a2:=q3.arr a2 (λb hb hs=>by rw[A0b Ep]at hb;cases hb;rw[hs,fU]at eH;cases eH);have b3:Bk _ bd [.slice (some ⟨bn,0,none⟩) 1 1,vt]:=q2;generalize (D5 w3 bd 0 [.slice (some ⟨bn,0,none⟩) 1 1,vt])=w4 at s4 b1 a2 b3 ⊢;refine Wn ?_;refine wsq rfl ?_;refine D4 2 2 rfl rfl ?_;refine Ft rfl λK hK=>A2s tm A05 tz3 rfl rfl rfl rfl rfl (us:=[C9 0]) rfl rfl rfl Ep Ep λa tm=>hK _ _ ?_;refine Pa tm λa tm=>?_;refine Fv ?_;have k5:=A0r w4 m0 (.cells [C9 0].toArray 3) s4.z;have s5:=s4.stepM k5 (λ_ _ h=>h.elim) 3;have a5:ArrN (w4.alloc (.cells [C9 0].toArray 3)) 1 (.slice (some ⟨w4.heap.size,0,none⟩) 1 1) 1 [C9 0]:=A4d (w:=w4) rfl rfl (Ff _) Eo (λj x hj=>by simpa using hj);have hi:∃ρ sv,sv=Hy (some ⟨w4.heap.size,0,none⟩) 1 1/\DerI w0 m0 (w4.alloc (.cells [C9 0].toArray 3)) m0 ρ [⟨P6,[],0⟩] none [0] (.slice (some ⟨bn,0,none⟩) 1 1) sv vt (O6 P6) bd bz:=by
  refine⟨_,_,rfl,s5,k5.arr a2 (λ_ _ h=>h),λb hb=>?_,⟨rfl,λi nd hi=>?_,λi nd hi=>?_,λi nd hi _=>?_⟩,a5,λb hb=>?_,k5.bk b3 (λh=>h),?_,k5.bk b1 (λh=>h),?_⟩
  ·have h1:=hb;rw[A0b Ep]at hb;cases hb;rw[J8 (a2.lt h1)];exact eH
  ·match i,hi with
   |0,hi=>cases hi;rfl
   |i+1,hi=>simp at hi
  ·match i,hi with
   |0,hi=>cases hi;rfl
   |i+1,hi=>simp at hi
  ·match i,hi with
   |0,hi=>cases hi;exact⟨_,rfl,.nil _ _ _ _,λ_=>rfl⟩
   |i+1,hi=>simp at hi
  ·rw[A0b Ep]at hb;cases hb;exact A0L (Ff _)
  ·rw[J8 b3.lt];exact fU
  ·rw[J8 b1.lt];exact dC
 obtain⟨ρ,sv,jt,hi⟩:=hi;rw[<-jt]at tm;generalize (w4.alloc (.cells [C9 0].toArray 3))=w at hi ⊢;generalize (Hy (some ⟨bn,0,none⟩) 1 1)=nv at hi;clear jt k1 s1 k2 s2 k3 s3 q1 q2 q3 s4 b1 a2 b3 k5 s5 a5 dC eH fU;show(A2 _ _).wp _ _ _ _;refine wsq rfl ?_;refine D4 3 1 rfl rfl ?_;refine Pa tm λa tm=>?_;refine Wn ?_;refine wsq rfl ?_;refine D4 4 1 rfl rfl ?_;refine Pa tm λa tm=>?_;refine Wn ?_;refine wsq rfl ?_;refine wbl 0 rfl ?_;refine wlp rfl (λq a w=>∃N stk at_ op m ρ nv sv xs,L1 toks depth q N stk at_ op=some (d,xF,k)/\Tm a 136 [(0,vt),(1,.int .i64 depth),(4,.pointer (some ⟨bz,0,none⟩)),(7,.pointer (some ⟨bd,0,none⟩)),(8,sv),(9,C9 at_),(10,.int .i64 op)]/\DerI w0 m0 w m ρ N none stk nv sv vt xs bd bz/\stk.length<=1099511627776) F ⟨_,[0],0,0,m0,ρ,nv,sv,_,ah,tm.sub ⟨rfl,rfl,rfl,rfl,rfl,rfl,rfl,trivial⟩,hi,Eo⟩ ?_;clear tm hi ah s0;rintro q a w ⟨N,stk,at_,op,m,ρ,nv,sv,xs,ah,tm,hi,gz⟩;cases q with
 |zero=>cases ah
 |succ q=>
 obtain⟨pa,cap,jt⟩:=hi.stk.len;refine wsq rfl ?_;refine wsq rfl ?_;refine D4 5 3 rfl rfl ?_;refine Pm tm λa tm=>?_;refine Pv tm (A1k tm A05 rfl rfl rfl rfl rfl jt) λa tm=>?_;refine Pv tm (B06 tm) λa tm=>?_;refine Wn ?_;refine wcn tm rfl _ rfl ?_;cases stk with
 |nil=>
  simp only[L1,Gp,Hn]at ah;obtain⟨rfl,rfl,rfl⟩:=ah;rw[Ek Eo];refine A5U 0 rfl ?_;simp only[Exit.then,Hw,if_true];show(A2 _ _).wp _ _ _ _;refine wsq rfl ?_;obtain⟨m',cq,nA⟩:=B0j (U:=U6) u6_ok (t:=.node) hi.arr rfl hi.rep.flat (λb hb=>hi.sys.zr b (by rw[hi.ar b hb];decide)) hi.z0;obtain⟨na,pO,pS⟩:=hi.arr.len;obtain⟨q1,q2,q3⟩:=hi.z.store (m:=m) Ew (off:=0) (vs:=[nv,vt]) Eo (λv hv=>by simp only[Fm,Gq,or_false]at hv;rcases hv with rfl|rfl;rw[pS];rfl;rw[pQ];rfl) (hi.sys.zr bz (by rw[hi.zr];decide)) hi.z0;refine D4 38 4 rfl rfl ?_;refine Pv tm (A3W tm C1K A2g rfl rfl (us:=[nv,vt]) rfl (λj u hj=>by rw[Fx];exact hi.d.cell hj)) λa tm=>?_;refine Ps tm A2g q1 ?_;refine Pa tm λa tm=>?_;refine Pa tm λa tm=>?_;refine Wn ?_;refine A5P rfl ?_;have s1:=hi.sys.stay q3 (λb _ hs=>by rw[hs,hi.zr];decide);have dE:=hi.rep.keep q3;have ci:=q3.arr hi.arr (λb hb hs=>by have h1:=hi.ar b hb;rw[hs,hi.zr]at h1;cases h1);obtain⟨m',cq,nA⟩:=B0j (U:=U6) u6_ok (t:=.node) ci rfl dE.flat (λb hb=>s1.zr b (by rw[hi.ar b hb];decide)) s1.z;have s2:=s1.close nA (λb _ hs=>by rw[hi.ar b hs];decide) (ρ':=λ_=>0) (λb h=>absurd rfl h);exact B6G hQ (.inr rfl) (tm.sub ⟨rfl,rfl,rfl,trivial⟩) q2 rfl (A6e ⟨cq,nB.mono u6_ok s2.km.ext,trivial⟩) s2.km
 |cons n aw=>
  rw[El Eo];refine P7 rfl ?_;show(A2 _ _).wp _ _ _ _;refine wbl 1 rfl ?_;simp only[L1]at ah;split at ah
  ·cases ah
  rename_i nd hN;split at ah
  ·cases ah
  rename_i t mf;obtain⟨sb,mg,jm,mh,gM⟩:=D3I hi.stk;rw[jm]at jt tm;rw[Ez]at gz;have iL:Fc .i64 (((aw.length+1:Nat):Int) - 1)=(aw.length:Int):=by rw[A2G Du Du];omega
  have tm:=tm.keep [0,1,4,7,8,9,10];refine wsq rfl ?_;refine D4 6 7 rfl rfl ?_;refine Pm tm λa tm=>?_;refine Pm tm λa tm=>?_;refine Pv tm (A1k tm A05) λa tm=>?_;refine Pv tm (A2r tm) λa tm=>?_;refine Pv tm (A1G tm A05 tz3 rfl rfl rfl rfl iL Du) λa tm=>?_;refine Pv tm (A0R tm pl3 rfl rfl (gM)) λa tm=>?_;refine Pa tm λa tm=>?_;refine Wn ?_;refine wsq rfl ?_;refine D4 7 6 rfl rfl ?_;refine Pm tm λa tm=>?_;refine Pm tm λa tm=>?_;refine Pv tm (A1k tm A05) λa tm=>?_;refine Pv tm (A2r tm) λa tm=>?_;refine Pv tm (C45 tm A05 tz3 rfl rfl rfl rfl iL Du mh) λa tm=>?_;refine Pa tm λa tm=>?_;refine Fv ?_;have cN:=hi.stk;rw[jm]at cN;have ci:=cN.cut (k:=aw.length) Eo;have iE:((n::aw).reverse.map C9).take (aw.length*1)=aw.reverse.map C9:=by
   rw[Jl,Ik,Hq,List.take_append_of_le_length Eo];exact Jq Eo
  rw[iE]at ci;have hi:DerI w0 m0 w m ρ N none aw nv (.slice (some ⟨sb,0,none⟩) aw.length mg) vt xs bd bz:={hi with stk:=ci,sr:=λb hb=>hi.sr b (by rw[jm];exact(B3q (m:=aw.length)).trans hb)};generalize xG:(Hy (some ⟨sb,0,none⟩) aw.length mg)=sv at hi tm;obtain⟨tb,mi,pT,mE,qJ⟩:=A7t (nB.mono u6_ok hi.sys.km.ext) mf;have jo:=A1g mf;have mD:=A1g hN;obtain⟨nb,pO,kE,tD,di,eu,l9⟩:=hi.arr.at (hi.rep.sym n nd hN);have jP:w.cell? ⟨nb,0+n*3+0,none⟩=some (G5 nd.sym):=by rw[Fx,Nat.add_zero];exact eu
  have tm:=tm.keep [0,1,4,7,8,9,10,11];show(A2 _ _).wp _ _ _ _;refine wsq rfl ?_;refine D4 8 7 rfl rfl ?_;refine Pv tm (A07 tm A5M) λa tm=>?_;refine Pv tm (A0R tm A7b rfl rfl (hi.d.cell rfl)) λa tm=>?_;refine Pm tm λa tm=>?_;refine Pv tm (A1G tm A2Y A5R rfl rfl kE rfl rfl mD) λa tm=>?_;refine Pv tm (A07 tm D1e) λa tm=>?_;refine Pv tm (A0R tm pl9 rfl rfl (jP)) λa tm=>?_;refine Pa tm λa tm=>?_;refine Wn ?_;refine wsq rfl ?_;refine D4 9 6 rfl rfl ?_;refine Pm tm λa tm=>?_;refine Pm tm λa tm=>?_;refine Pv tm (A1G tm A9U A0B rfl rfl mE rfl rfl jo) λa tm=>?_;refine Pv tm (A3W tm A6y A0B rfl rfl rfl qJ) λa tm=>?_;refine Ft rfl λK hK=>A4m tm A0B rfl rfl rfl λa tm=>hK _ _ ?_;have eD:=A0r w m (.cells [.int .i64 0,.int .i64 0,.int .i64 0,.int .i64 0,.int .i64 0,.string ⟨[].toArray⟩,.string ⟨[].toArray⟩].toArray 102) hi.z0;have hi:=hi.step eD (λb _ h=>h.elim) (.inl λ_ h=>h) 6 (λ_=>rfl);have dc:Bk (w.alloc (.cells [.int .i64 0,.int .i64 0,.int .i64 0,.int .i64 0,.int .i64 0,.string ⟨[].toArray⟩,.string ⟨[].toArray⟩].toArray 102)) w.heap.size _:=A5n;have fK:H1 ρ w.heap.size 6 w.heap.size=6:=A0L (Ff _);generalize xH:w.heap.size=bt at hi dc fK tm;obtain⟨q1,q2,q3⟩:=dc.store (m:=m) Ew (off:=0) (vs:=T8 t) (by simp[T8]) (λv hv=>by simp only[T8,Fm,Gq,or_false]at hv;rcases hv with rfl|rfl|rfl|rfl|rfl|rfl|rfl<;>rfl) (hi.sys.zr bt (by rw[fK];decide)) hi.z0;refine Ps tm A0B q1 ?_;refine Fv ?_;have hi:=hi.step q3 (λb _ hs=>by rw[hs,fK];decide) (.inr rfl) 0 (λh=>absurd rfl h);have dc:Bk _ bt (T8 t):=q2;generalize H1 (H1 ρ bt 6) _ 0=ρ at hi;generalize (D5 _ bt 0 (T8 t))=w at hi dc ⊢;clear kE eu l9 jP mE qJ gM;have tm:=tm.keep [0,1,4,7,8,9,10,11,12,13];cases h1:okR [.bool] (F56 nd.sym)with
  |false=>rw[h1]at ah;cases ah
  |true=>
  rw[h1]at ah;simp only[Eg]at ah;show(A2 _ _).wp _ _ _ _;refine wsq rfl ?_;refine wsq rfl ?_;refine D4 10 3 rfl rfl ?_;refine Pm tm λa tm=>?_;refine Ft rfl λK hK=>A1u tm rfl rfl rfl (A6V hb).enter rfl (A6G tm rfl rfl) (A16 (A6V hb) (ls:=[.str nd.sym]) (A2j (r:=.one (.bool (lB (gL (F56 nd.sym) 0)))) rfl h1) (hb.mono _ _ _ _ hI hi.sys.km.ext) hi.z0 ⟨.str _,trivial⟩ rfl) ?_;rintro e w1 ⟨v1,m1,rfl,k1,e1⟩;have dc:=k1.bk dc (λh=>h);have hi:=hi.step k1 (λb _ h=>h.elim) (.inl λ_ h=>h) 0 (λh=>absurd rfl h);obtain rfl:=CRep.bool_inv e1;refine⟨_,rfl,λa tm=>hK _ _ ?_⟩;refine Pv tm (A9Y tm) λa tm=>?_;refine Wn ?_;refine wcn tm rfl _ rfl ?_;have tm:=tm.keep [0,1,4,7,8,9,10,11,12,13];cases h2:lB (gL (F56 nd.sym) 0)with
  |false=>
   rw[h2]at ah;simp only[Eh]at ah;rw[El (show(!false)=true from rfl)];split at ah
   ·rename_i dU;cases h3:okR [.sl .str none] (F57 nd.sym t)with
    |false=>rw[h3]at ah;cases ah
    |true=>
    rw[h3]at ah;simp only[Eg]at ah;generalize Da:I2 (gL (F57 nd.sym t) 0)=r at ah;cases h4:A0o (N.length+(aw.length+r.length))with
    |false=>rw[h4]at ah;cases ah
    |true=>
    rw[h4]at ah;simp only[Eg]at ah;have av:N.length+(aw.length+r.length)<=1099511627776:=by simpa [A0o]using h4
    refine wsq rfl ?_;refine D4 11 4 rfl rfl ?_;refine Pm tm λa tm=>?_;refine Pv tm (A3W tm A6y A0B rfl rfl rfl (λj u hj=>by rw[Fx];exact dc.cell hj)) λa tm=>?_;refine Ft rfl λK hK=>A1u tm rfl rfl rfl (C13 hb).enter rfl (B0S tm rfl rfl rfl) (A16 (C13 hb) (ls:=[.str nd.sym,.agg .tok t]) (A2j (r:=.one (.sl .str (lL .str (gL (F57 nd.sym t) 0)) none)) rfl h3) (hb.mono _ _ _ _ hI hi.sys.km.ext) hi.z0 ⟨.str _,A94 t,trivial⟩ rfl) ?_;rintro e w1 ⟨v1,m1,rfl,k1,e1⟩;have dc:=k1.bk dc (λh=>h);have hi:=hi.step k1 (λb _ h=>h.elim) (.inl λ_ h=>h) 0 (λh=>absurd rfl h);have db:CRep U6 w1 m1 (.sl .str r none) v1:=by rw[<-Da];exact e1
    refine⟨_,rfl,λa tm=>hK _ _ ?_⟩;refine Pa tm λa tm=>?_;refine Wn ?_;refine wsq rfl ?_;obtain⟨na,Ah,pS⟩:=hi.arr.len;refine D4 12 4 rfl rfl ?_;refine Pv tm (A07 tm A5M) λa tm=>?_;refine Pv tm (A0R tm A7b rfl rfl (hi.d.cell rfl)) λa tm=>?_;refine Pv tm (A1k tm A2Y rfl rfl rfl rfl rfl pS) λa tm=>?_;refine Pa tm λa tm=>?_;refine Wn ?_;refine wsq rfl ?_;refine wsq rfl ?_;refine D4 13 1 rfl rfl ?_;refine Pa tm λa tm=>?_;refine Wn ?_;refine D3m hN dU Du hi db (tm.sub ⟨rfl,rfl,rfl,rfl,rfl,rfl,rfl,rfl,rfl,rfl,rfl,trivial⟩) λa w m ρ nv xs tm hi db=>?_;show(A2 _ _).wp _ _ _ _;refine wsq rfl ?_;refine wsq rfl ?_;obtain⟨ra,xv,pK⟩:=db.sl_inv;refine D4 18 4 rfl rfl ?_;refine Pm tm λa tm=>?_;refine Pv tm (A1k tm A0d rfl rfl rfl rfl rfl pK) λa tm=>?_;refine Pv tm (A2r tm) λa tm=>?_;refine Pa tm λa tm=>?_;refine Fv ?_;have xI:Fc .i64 ((r.length:Int) - 1)=(r.length:Int) - 1:=A2G Du Du;rw[xI]at tm;show(A2 _ _).wp _ _ _ _;refine C87 (len:=r.length) (N0:=N.length) Du hi (tm.sub ⟨rfl,rfl,rfl,rfl,rfl,rfl,rfl,rfl,rfl,trivial⟩) λa w m ρ sv tm hi=>?_;show(A2 _ _).wp _ _ _ _;refine A5U 1 rfl ?_;exact⟨q,Gu q,_,_,at_,op,m,ρ,nv,sv,xs,ah,tm,hi,by rw[Ey,Fq,Hr];omega⟩
   ·cases ah
  |true=>
   rw[h2]at ah;simp only[Eg]at ah;rw[Ek Eo];refine P7 rfl ?_;cases h3:okR [.bool] (F58 nd.sym t)with
   |false=>rw[h3]at ah;cases ah
   |true=>
   rw[h3]at ah;simp only[Eg]at ah;show(A2 _ _).wp _ _ _ _;refine wsq rfl ?_;refine wsq rfl ?_;refine D4 22 4 rfl rfl ?_;refine Pm tm λa tm=>?_;refine Pv tm (A3W tm A6y A0B rfl rfl rfl (λj u hj=>by rw[Fx];exact dc.cell hj)) λa tm=>?_;refine Ft rfl λK hK=>A1u tm rfl rfl rfl (C3z hb).enter rfl (B0S tm rfl rfl rfl) (A16 (C3z hb) (ls:=[.str nd.sym,.agg .tok t]) (A2j (r:=.one (.bool (lB (gL (F58 nd.sym t) 0)))) rfl h3) (hb.mono _ _ _ _ hI hi.sys.km.ext) hi.z0 ⟨.str _,A94 t,trivial⟩ rfl) ?_;rintro e w1 ⟨v1,m1,rfl,k1,e1⟩;have dc:=k1.bk dc (λh=>h);have hi:=hi.step k1 (λb _ h=>h.elim) (.inl λ_ h=>h) 0 (λh=>absurd rfl h);obtain rfl:=CRep.bool_inv e1;refine⟨_,rfl,λa tm=>hK _ _ ?_⟩;refine Pv tm (A9Y tm) λa tm=>?_;refine Wn ?_;refine wcn tm rfl _ rfl ?_;have tm:=tm.keep [0,1,4,7,8,9,10,11,12,13];cases h4:lB (gL (F58 nd.sym t) 0)with
   |false=>
    rw[h4]at ah;simp only[Eh,Gp,Hn]at ah;obtain⟨rfl,rfl,rfl⟩:=ah;rw[El (show(!false)=true from rfl)];refine wsq rfl ?_;obtain⟨q1,q2,q3⟩:=hi.z.store (m:=_) Ew (off:=0) (vs:=[.slice none 0 0,.slice none 0 0]) Eo (λv hv=>by simp only[Fm,Gq,or_false]at hv;rcases hv with rfl|rfl<;>rfl) (hi.sys.zr bz (by rw[hi.zr];decide)) hi.z0;refine D4 23 5 rfl rfl ?_;refine Pv tm (A4J tm rfl rfl (cs:= #[.slice none 0 0,.slice none 0 0]) En) λa tm=>?_;refine Pm tm λa tm=>?_;refine Ps tm A2g q1 ?_;refine Pa tm λa tm=>?_;refine Pa tm λa tm=>?_;refine Wn ?_;refine A5P rfl ?_;exact B6G hQ (.inr rfl) (tm.sub ⟨rfl,rfl,rfl,trivial⟩) q2 rfl C1P (hi.sys.stay q3 (λb _ hs=>by rw[hs,hi.zr];decide)).km
   |true=>
    rw[h4]at ah;simp only[Eg]at ah;rw[Ek Eo];refine P7 rfl ?_;show(A2 _ _).wp _ _ _ _;refine wsq rfl ?_;generalize Ag:nd.sym=sym at ah tm;refine C7p hi (tm.sub ⟨rfl,rfl,rfl,rfl,rfl,rfl,rfl,rfl,rfl,trivial⟩) (λho hd a w m tm xJ nA=>?_) (λa tG ai xK tm=>?_)
    ·rw[ho]at ah;simp only[Eg,Ei hd,Gp,Hn]at ah;obtain⟨rfl,rfl,rfl⟩:=ah;exact B6G hQ (.inr rfl) tm xJ rfl C1P nA
    ·show(A2 _ _).wp _ _ _ _;refine D3Z hi hN Ag Du tm λa w xs tm hi=>?_;refine⟨q,Gu q,_,aw,_,tG,_,_,nv,sv,xs,?_,tm,hi,Du⟩;cases ho:O9 sym with
     |true=>
      rw[ho]at ah;obtain⟨h8,h9⟩:=ai ho;simp only[Eg,Ej h8,Eh]at ah;rw[h9];exact ah
     |false=>
      rw[ho]at ah;simp only[Eh]at ah;rw[xK ho];exact ah
def C5g{n:Nat}{vs:Ea}(hn:vs.length<=n){fr:List (Nat×Value)}(h:∀i v,W5 fr i=some v->vs[i]?=some v):Tm {tmps:=vs.toArray++Kj (n - vs.toArray.size) undef,defers:=[]} n fr:=by
 refine⟨Es,rfl,λi v hv=>?_⟩;have h1:=h i v hv;have h2:=(Gf.1 h1).1;rw[Array.getD_eq_getD_getElem?,Array.getElem?_append_left (by simpa using h2)];simp[h1]
def B2W{I:Inv}(hb:HB I):Sound Ew U6 I 25 (sG S25):=by
 refine⟨Tryz.call25,λls r hr=>?_⟩;unfold sG at hr;unfold S25 at hr;split at hr
 ·rename_i toks depth;obtain⟨h1,h2⟩:=A2Z hr;unfold F25 at h1 h2;cases eC:A0o toks.length with
  |false=>rw[eC]at h1;cases h1
  |true=>
  rw[eC]at h1 h2;simp only[Eg]at h1 h2;split at h2
  ·rename_i d at_ k ah;intro w0 g vs hI hz ax _ _
   match vs,ax with
   |[vt,vd],⟨e1,e2,_⟩=>
    obtain rfl:=CRep.int_inv e2.1;refine calls_of_wp Tryz.func25 (show Tryz.f25.body=some (A2 Gb [])from En) ?_;refine C7P hb hI hz ah (by simpa [A0o]using eC) e1.1 (λe a w m us he hd hv hr hk=>?_) (C5g (show 2<=136 from Ep) λi v h=>?_)
    ·have cy:∃v g',Ending.returned (.tuple #[.agg us.toArray,C9 at_,.int .i64 k])=.returned v/\Post U6 ⟨w0,g.wm,λb=>P0 [.sl .tok toks none,(.int .i64 depth:L6)]=true/\spare (g.G 0)=some b,0,λ_=>undef⟩ g' r v w:=by
      refine⟨_,{g with wm:=m},rfl,?_⟩;rw[<-h2];exact B5W (ls:=[.agg .tree d,.int .i64 (at_:Int),.int .i64 k]) (vs:=[.agg us.toArray,C9 at_,.int .i64 k]) hk (λ_ h=>h.elim) ⟨hr,.int _ _,.int _ _,trivial⟩ rfl _ rfl
     rcases he with rfl|rfl<;>exact⟨hd,_,hv,cy⟩
    ·unfold W5 at h
     match i,h with
     |0,h=>cases h;rfl
     |1,h=>cases h;rfl
  ·rename_i hn;rw[hn]at h1;cases h1
 ·cases hr
end Go.Aev
namespace Go.Aev
open Go.Proofs
variable {I:Inv}
def C2T(hb:HB I):∀d,Sound Ew U6 I 148 (sG (A92 ((A8x d))))
 |0=>by
  exact⟨Jg,λls r h=>by
   unfold sG A92 at h;split at h<;>cases h⟩
 |d+1=>by
  have tH:=C2T hb d;exact G0 (Z7 ((A8x d))) hb rfl ⟨(B0l hb),(B56 hb),tH,trivial⟩ trivial Tryz.func148 rfl Jg (λls r h=>by
   unfold sG A92 at h;split at h
   ·exact D9 (D1z NN ((A8x d))) rfl h
   ·cases h)
def C2f(hb:HB I):Sound Ew U6 I 148 (sG B6T):=(C2T hb DD)
def B8b(hb:HB I):∀d,Sound Ew U6 I 147 (sG (B01 ((A9d d))))
 |0=>by
  exact⟨Jh,λls r h=>by
   unfold sG B01 at h;split at h<;>cases h⟩
 |d+1=>by
  have tI:=B8b hb d;exact G0 (A0n ((A9d d))) hb rfl ⟨(B0l hb),(B5N hb),(B56 hb),tI,(C2f hb),trivial⟩ trivial Tryz.func147 rfl Jh (λls r h=>by
   unfold sG B01 at h;split at h
   ·exact D9 (D3y NN ((A9d d))) rfl h
   ·cases h)
def D5R(hb:HB I):Sound Ew U6 I 147 (sG B7R):=(B8b hb DD)
end Go.Aev
namespace Go.Aev
open Go.Proofs
variable {I:Inv}
def C4n(hb:HB I):Sound Ew U6 I 74 (sG S74):=A8y E74 hb rfl ⟨(B56 hb),(D5R hb),(C2f hb),trivial⟩ trivial Tryz.func74 rfl Tryz.call74 (λls r h=>by
 unfold sG S74 at h;split at h
 ·exact A78 (D2a NN) rfl h
 ·cases h)
def A9S(hb:HB I):Sound Ew U6 I 76 (sG S76):=G0 E76 hb rfl trivial trivial Tryz.func76 rfl Tryz.call76 (λls r h=>by
 unfold sG S76 at h;split at h
 ·exact D9 D6Z rfl h
 ·cases h)
def B6A(hb:HB I):Sound Ew U6 I 34 (sG S34):=G0 E34 hb rfl ⟨(B9a hb),trivial⟩ trivial Tryz.func34 rfl Tryz.call34 (λls r h=>by
 unfold sG S34 at h;split at h
 ·exact D9 (B5s NN) rfl h
 ·cases h)
def A0h(hb:HB I):D7 Ew U6 I 60 (sGB S60):=M2 E60 hb rfl trivial trivial Tryz.func60 rfl Tryz.call60 (λls cs r h=>by
 unfold sGB S60 at h;split at h
 ·exact fN B4P rfl h
 ·cases h)
def A41(hb:HB I):D7 Ew U6 I 136 (sGB A1m):=M2 C3s hb rfl trivial trivial Tryz.func136 rfl Tryz.call136 (λls cs r h=>by
 unfold sGB A1m at h;split at h
 ·exact fN D44 rfl h
 ·cases h)
end Go.Aev
namespace Go.Aev
open Go.Proofs
variable {I:Inv}
def A3y(hb:HB I):D7 Ew U6 I 61 (sGB S61):=A1b E61 hb rfl trivial trivial ⟨(A0h hb),(A41 hb),trivial⟩ ⟨A0M,A5c,trivial⟩ Tryz.func61 rfl Tryz.call61 (λls cs r h=>by
 unfold sGB S61 at h;split at h
 ·exact fN (B6k NN) rfl h
 ·cases h)
def A30(hb:HB I):D7 Ew U6 I 134 (sGB A1a):=M2 C1M hb rfl trivial trivial Tryz.func134 rfl Tryz.call134 (λls cs r h=>by
 unfold sGB A1a at h;split at h
 ·exact fN D6H rfl h
 ·cases h)
def B7m(hb:HB I):D7 Ew U6 I 132 (sGB A5x):=A1b A5b hb rfl ⟨(A6V hb),trivial⟩ trivial ⟨(A0h hb),(A30 hb),trivial⟩ ⟨A0M,A3S,trivial⟩ Tryz.func132 rfl Tryz.call132 (λls cs r h=>by
 unfold sGB A5x at h;split at h
 ·exact fN (C9K NN) rfl h
 ·cases h)
end Go.Aev
namespace Go.Aev
open Go.Proofs
variable {I:Inv}
def B7W(hb:HB I):∀d,D7 Ew U6 I 187 (sGB (A6O ((I1 d).1)))/\D7 Ew U6 I 216 (sGB (B1I ((I1 d).2)))
 |0=>by
  exact⟨⟨Jd,λls cs rs ay h=>by
   unfold sGB A6O at h;split at h
   ·obtain⟨_,h⟩:=T3 h;cases h
   ·cases h⟩,⟨Jc,λls cs rs ay h=>by
   unfold sGB B1I at h;split at h
   ·obtain⟨_,h⟩:=T3 h;cases h
   ·cases h⟩⟩
 |d+1=>by
  obtain⟨tJ,tK⟩:=B7W hb d;exact⟨A1b (C0z ((I1 d).1) ((I1 d).2)) hb rfl trivial ⟨tK,trivial⟩ ⟨(B7m hb),trivial⟩ ⟨B3n,trivial⟩ Tryz.func187 rfl Jd (λls cs r h=>by
   unfold sGB A6O at h;split at h
   ·exact fN (D7y ((I1 d).1) ((I1 d).2)) rfl h
   ·cases h),A1b (A3p ((I1 d).1) ((I1 d).2)) hb rfl trivial trivial ⟨(A0h hb),(A3y hb),(A30 hb),tJ,trivial⟩ ⟨A0M,A72,A3S,(C4O d),trivial⟩ Tryz.func216 rfl Jc (λls cs r h=>by
   unfold sGB B1I at h;split at h
   ·obtain⟨hc,h⟩:=T3 h;simp only[Fj,A0W]at hc;obtain⟨⟨⟨⟨rfl,rfl⟩,⟨rfl,rfl⟩⟩,rfl⟩,rfl⟩:=hc;exact A8c (D24 NN ((I1 d).1) ((I1 d).2)) rfl rfl h
   ·cases h)⟩
def B98(hb:HB I):D7 Ew U6 I 187 (sGB B1M):=(B7W hb DD).1
end Go.Aev
namespace Go.Aev
open Go.Proofs
variable {I:Inv}
def C6s(hb:HB I):D7 Ew U6 I 215 (sGB A8p):=A1b B7P hb rfl trivial trivial ⟨(A0h hb),(A30 hb),(B98 hb),trivial⟩ ⟨A0M,A3S,C4k,trivial⟩ Tryz.func215 rfl Tryz.call215 (λls cs r h=>by
 unfold sGB A8p at h;split at h
 ·exact fN C8v rfl h
 ·cases h)
def B9B(hb:HB I):D7 Ew U6 I 185 (sGB A7v):=A1b A5J hb rfl trivial trivial ⟨(A0h hb),(A3y hb),(A41 hb),(C6s hb),trivial⟩ ⟨A0M,A72,A5c,C6r,trivial⟩ Tryz.func185 rfl Tryz.call185 (λls cs r h=>by
 unfold sGB A7v at h;split at h
 ·exact fN (D4S NN) rfl h
 ·cases h)
end Go.Aev
namespace Go.Aev
open Go.Proofs
variable {I:Inv}
def B3s(hb:HB I):D7 Ew U6 I 135 (sGB A4D):=A1b A4I hb rfl trivial trivial ⟨(A0h hb),(A30 hb),(A41 hb),(B9B hb),trivial⟩ ⟨A0M,A3S,A5c,C4c,trivial⟩ Tryz.func135 rfl Tryz.call135 (λls cs r h=>by
 unfold sGB A4D at h;split at h
 ·exact fN (C83 NN) rfl h
 ·cases h)
end Go.Aev
namespace Go.Aev
open Go.Proofs
variable {I:Inv}
def C0h(hb:HB I):∀d,D7 Ew U6 I 133 (sGB (A6I ((H9 d).1)))/\D7 Ew U6 I 184 (sGB (A6S ((H9 d).2)))
 |0=>by
  exact⟨⟨Ji,λls cs rs ay h=>by
   unfold sGB A6I at h;split at h
   ·obtain⟨_,h⟩:=T3 h;cases h
   ·cases h⟩,⟨Jf,λls cs rs ay h=>by
   unfold sGB A6S at h;split at h
   ·obtain⟨_,h⟩:=T3 h;cases h
   ·cases h⟩⟩
 |d+1=>by
  obtain⟨tL,tM⟩:=C0h hb d;exact⟨A1b (A4U ((H9 d).1) ((H9 d).2)) hb rfl trivial trivial ⟨(A0h hb),(A3y hb),tM,trivial⟩ ⟨A0M,A72,(D4K d),trivial⟩ Tryz.func133 rfl Ji (λls cs r h=>by
   unfold sGB A6I at h;split at h
   ·exact fN (D2u NN ((H9 d).1) ((H9 d).2)) rfl h
   ·cases h),A1b (C4D ((H9 d).1) ((H9 d).2)) hb rfl trivial trivial ⟨(A0h hb),(B7m hb),tL,(A30 hb),(B3s hb),(A41 hb),(B9B hb),trivial⟩ ⟨A0M,B3n,(B8L d),A3S,B4s,A5c,C4c,trivial⟩ Tryz.func184 rfl Jf (λls cs r h=>by
   unfold sGB A6S at h;split at h
   ·exact fN (D1t ((H9 d).1) ((H9 d).2)) rfl h
   ·cases h)⟩
def C56(hb:HB I):D7 Ew U6 I 133 (sGB B4b):=(C0h hb DD).1
end Go.Aev
namespace Go.Aev
open Go.Proofs
variable {I:Inv}
def C1n(hb:HB I):∀d,D7 Ew U6 I 186 (sGB (A7w ((A2n d))))
 |0=>by
  exact⟨Je,λls cs rs ay h=>by
   unfold sGB A7w at h;split at h
   ·obtain⟨_,h⟩:=T3 h;cases h
   ·cases h⟩
 |d+1=>by
  have tN:=C1n hb d;exact A1b (C2y ((A2n d))) hb rfl trivial trivial ⟨(A0h hb),(A30 hb),(A41 hb),tN,trivial⟩ ⟨A0M,A3S,A5c,(C3S d),trivial⟩ Tryz.func186 rfl Je (λls cs r h=>by
   unfold sGB A7w at h;split at h
   ·exact fN (D0n ((A2n d))) rfl h
   ·cases h)
def C7j(hb:HB I):D7 Ew U6 I 186 (sGB B6s):=(C1n hb DD)
def D4v(hb:HB I):D7 Ew U6 I 137 (sGB A8T):=A1b B9s hb rfl trivial trivial ⟨(A0h hb),(A30 hb),(B3s hb),(A41 hb),(C7j hb),(B98 hb),trivial⟩ ⟨A0M,A3S,B4s,A5c,C7v,C4k,trivial⟩ Tryz.func137 rfl Tryz.call137 (λls cs r h=>by
 unfold sGB A8T at h;split at h
 ·exact fN D6T rfl h
 ·cases h)
end Go.Aev
namespace Go.Aev
open Go.Proofs
variable {I:Inv}
def B6n(hb:HB I):D7 Ew U6 I 59 (sGB S59):=D54 E59 hb rfl trivial trivial ⟨(A0h hb),(A3y hb),(B7m hb),(C56 hb),(A30 hb),(B3s hb),(A41 hb),(D4v hb),trivial⟩ ⟨A0M,A72,B3n,D0s,A3S,B4s,A5c,C7T,trivial⟩ Tryz.func59 rfl Tryz.call59 (λls cs r h=>by
 unfold sGB S59 at h;split at h
 ·exact fN (B46 NN) rfl h
 ·cases h)
end Go.Aev
namespace Go.Aev
open Go.Proofs
variable {I:Inv}
def C11(hb:HB I):D7 Ew U6 I 26 (sGB S26):=A1b E26 hb rfl trivial trivial ⟨(B6n hb),(A0h hb),(A3y hb),trivial⟩ ⟨D6n,A0M,A72,trivial⟩ Tryz.func26 rfl Tryz.call26 (λls cs r h=>by
 unfold sGB S26 at h;split at h
 ·exact fN (D4R NN) rfl h
 ·cases h)
def A9g(hb:HB I):Sound Ew U6 I 174 (sG A4T):=G0 A5C hb rfl trivial trivial Tryz.func174 rfl Tryz.call174 (λls r h=>by
 unfold sG A4T at h;split at h
 ·exact D9 (D2S NN) rfl h
 ·cases h)
def C27(hb:HB I):Sound Ew U6 I 175 (sG B0W):=G0 C07 hb rfl trivial trivial Tryz.func175 rfl Tryz.call175 (λls r h=>by
 unfold sG B0W at h;split at h
 ·exact D9 C8n rfl h
 ·cases h)
def D6D(hb:HB I):Sound Ew U6 I 121 (sG B7N):=G0 C3k hb rfl ⟨(A9g hb),(C27 hb),trivial⟩ trivial Tryz.func121 rfl Tryz.call121 (λls r h=>by
 unfold sG B7N at h;split at h
 ·exact D9 C8X rfl h
 ·cases h)
def A83(hb:HB I):Sound Ew U6 I 53 (sG S53):=G0 E53 hb rfl ⟨(D6D hb),trivial⟩ trivial Tryz.func53 rfl Tryz.call53 (λls r h=>by
 unfold sG S53 at h;split at h
 ·exact D9 (B5Q NN) rfl h
 ·cases h)
end Go.Aev
namespace Go.Aev
open Go.Proofs
variable {I:Inv}
def D3f(hb:HB I):Sound Ew U6 I 122 (sG B3t):=G0 A5D hb rfl trivial trivial Tryz.func122 rfl Tryz.call122 (λls r h=>by
 unfold sG B3t at h;split at h
 ·exact D9 (C6b NN) rfl h
 ·cases h)
def B0c(hb:HB I):Sound Ew U6 I 54 (sG S54):=G0 E54 hb rfl ⟨(D3f hb),trivial⟩ trivial Tryz.func54 rfl Tryz.call54 (λls r h=>by
 unfold sG S54 at h;split at h
 ·exact D9 (B6Q NN) rfl h
 ·cases h)
def D73(hb:HB I):Sound Ew U6 I 176 (sG B64):=G0 C0O hb rfl ⟨(A9g hb),trivial⟩ trivial Tryz.func176 rfl Tryz.call176 (λls r h=>by
 unfold sG B64 at h;split at h
 ·exact D9 D4i rfl h
 ·cases h)
def D3P(hb:HB I):Sound Ew U6 I 123 (sG B6R):=G0 E123 hb rfl ⟨(D73 hb),trivial⟩ trivial Tryz.func123 rfl Tryz.call123 (λls r h=>by
 unfold sG B6R at h;split at h
 ·exact D9 (D6G NN) rfl h
 ·cases h)
def C5K(hb:HB I):Sound Ew U6 I 177 (sG B2Z):=G0 C3T hb rfl ⟨(A9g hb),trivial⟩ trivial Tryz.func177 rfl Tryz.call177 (λls r h=>by
 unfold sG B2Z at h;split at h
 ·exact D9 C9x rfl h
 ·cases h)
end Go.Aev
namespace Go.Aev
open Go.Proofs
variable {I:Inv}
def snd208(hb:HB I):Sound Ew U6 I 208 (sG S208):=G0 A08 hb rfl ⟨(A9g hb),trivial⟩ trivial Tryz.func208 rfl Tryz.call208 (λls r h=>by
 unfold sG S208 at h;split at h
 ·exact D9 B5r rfl h
 ·cases h)
def C65(hb:HB I):Sound Ew U6 I 178 (sG B4Q):=G0 A5H hb rfl ⟨(snd208 hb),trivial⟩ trivial Tryz.func178 rfl Tryz.call178 (λls r h=>by
 unfold sG B4Q at h;split at h
 ·exact D9 (C7A NN) rfl h
 ·cases h)
def D09(hb:HB I):Sound Ew U6 I 179 (sG B5K):=G0 C02 hb rfl ⟨(A9g hb),trivial⟩ trivial Tryz.func179 rfl Tryz.call179 (λls r h=>by
 unfold sG B5K at h;split at h
 ·exact D9 D1M rfl h
 ·cases h)
def C88(hb:HB I):Sound Ew U6 I 230 (sG B3P):=G0 C4o hb rfl trivial trivial Tryz.func230 rfl Tryz.call230 (λls r h=>by
 unfold sG B3P at h;split at h
 ·exact D9 C8q rfl h
 ·cases h)
def D4T(hb:HB I):Sound Ew U6 I 231 (sG B43):=G0 C5b hb rfl trivial trivial Tryz.func231 rfl Tryz.call231 (λls r h=>by
 unfold sG B43 at h;split at h
 ·exact D9 C5t rfl h
 ·cases h)
def snd209(hb:HB I):Sound Ew U6 I 209 (sG S209):=G0 K5 hb rfl ⟨(C88 hb),(D4T hb),trivial⟩ trivial Tryz.func209 rfl Tryz.call209 (λls r h=>by
 unfold sG S209 at h;split at h
 ·exact D9 (B23 NN) rfl h
 ·cases h)
def D6E(hb:HB I):Sound Ew U6 I 180 (sG B5w):=G0 C0k hb rfl ⟨(snd208 hb),(snd209 hb),trivial⟩ trivial Tryz.func180 rfl Tryz.call180 (λls r h=>by
 unfold sG B5w at h;split at h
 ·exact D9 C9f rfl h
 ·cases h)
def snd210(hb:HB I):Sound Ew U6 I 210 (sG S210):=G0 M1 hb rfl trivial trivial Tryz.func210 rfl Tryz.call210 (λls r h=>by
 unfold sG S210 at h;split at h
 ·exact D9 B3B rfl h
 ·cases h)
end Go.Aev
namespace Go.Aev
open Go.Proofs
variable {I:Inv}
def D2D(hb:HB I):Sound Ew U6 I 211 (sG B3f):=G0 A4z hb rfl ⟨(snd210 hb),trivial⟩ trivial Tryz.func211 rfl Tryz.call211 (λls r h=>by
 unfold sG B3f at h;split at h
 ·exact D9 (D60 NN) rfl h
 ·cases h)
def D69(hb:HB I):Sound Ew U6 I 213 (sG B50):=G0 A4Z hb rfl trivial trivial Tryz.func213 rfl Tryz.call213 (λls r h=>by
 unfold sG B50 at h;split at h
 ·exact D9 (D7a NN) rfl h
 ·cases h)
def D2Z(hb:HB I):Sound Ew U6 I 181 (sG B7O):=G0 C2E hb rfl ⟨(snd210 hb),(D2D hb),hb.s212,(D69 hb),hb.s214,trivial⟩ trivial Tryz.func181 rfl Tryz.call181 (λls r h=>by
 unfold sG B7O at h;split at h
 ·exact D9 D0J rfl h
 ·cases h)
def D0Q(hb:HB I):Sound Ew U6 I 182 (sG B7B):=G0 A5Y hb rfl ⟨(snd210 hb),trivial⟩ trivial Tryz.func182 rfl Tryz.call182 (λls r h=>by
 unfold sG B7B at h;split at h
 ·exact D9 (C78 NN) rfl h
 ·cases h)
def C9V(hb:HB I):Sound Ew U6 I 124 (sG B6m):=G0 C25 hb rfl ⟨(C5K hb),(C65 hb),(D09 hb),(D6E hb),(D2Z hb),(D0Q hb),trivial⟩ trivial Tryz.func124 rfl Tryz.call124 (λls r h=>by
 unfold sG B6m at h;split at h
 ·exact D9 C7Z rfl h
 ·cases h)
def C6g(hb:HB I):Sound Ew U6 I 172 (sG B3L):=G0 C03 hb rfl ⟨(C27 hb),trivial⟩ trivial Tryz.func172 rfl Tryz.call172 (λls r h=>by
 unfold sG B3L at h;split at h
 ·exact D9 D0f rfl h
 ·cases h)
end Go.Aev
namespace Go.Aev
open Go.Proofs
variable {I:Inv}
def D7V(hb:HB I):Sound Ew U6 I 125 (sG B7q):=G0 A5X hb rfl ⟨(C6g hb),trivial⟩ trivial Tryz.func125 rfl Tryz.call125 (λls r h=>by
 unfold sG B7q at h;split at h
 ·exact D9 (D6m NN) rfl h
 ·cases h)
def B38(hb:HB I):Sound Ew U6 I 55 (sG S55):=G0 E55 hb rfl ⟨(D3P hb),(C9V hb),(D7V hb),trivial⟩ trivial Tryz.func55 rfl Tryz.call55 (λls r h=>by
 unfold sG S55 at h;split at h
 ·exact D9 B22 rfl h
 ·cases h)
def B6i(hb:HB I):Sound Ew U6 I 24 (sG S24):=G0 E24 hb rfl ⟨hb.s52,(A83 hb),(B0c hb),(B38 hb),trivial⟩ trivial Tryz.func24 rfl Tryz.call24 (λls r h=>by
 unfold sG S24 at h;split at h
 ·exact D9 (D7L NN) rfl h
 ·cases h)
def B3c(hb:HB I):D7 Ew U6 I 62 (sGB S62):=M2 E62 hb rfl trivial ⟨hb.s138,trivial⟩ Tryz.func62 rfl Tryz.call62 (λls cs r h=>by
 unfold sGB S62 at h;split at h
 ·exact fP B3G rfl h
 ·cases h)
def Z1(hb:HB I):D7 Ew U6 I 27 (sGB S27):=M2 E27 hb rfl trivial ⟨(B3c hb),trivial⟩ Tryz.func27 rfl Tryz.call27 (λls cs r h=>by
 unfold sGB S27 at h;split at h
 ·exact fP (B3m NN) rfl h
 ·cases h)
def D2H(hb:HB I):D7 Ew U6 I 139 (sGB B57):=M2 B77 hb rfl ⟨hb.s47,trivial⟩ ⟨(Z1 hb),trivial⟩ Tryz.func139 rfl Tryz.call139 (λls cs r h=>by
 unfold sGB B57 at h;split at h
 ·exact fP D7T rfl h
 ·cases h)
def C26(hb:HB I):Sound Ew U6 I 64 (sG S64):=G0 E64 hb rfl trivial trivial Tryz.func64 rfl Tryz.call64 (λls r h=>by
 unfold sG S64 at h;split at h
 ·exact D9 (D0e NN) rfl h
 ·cases h)
def B6d(hb:HB I):Sound Ew U6 I 86 (sG S86):=G0 E86 hb rfl ⟨hb.s155,hb.s156,trivial⟩ trivial Tryz.func86 rfl Tryz.call86 (λls r h=>by
 unfold sG S86 at h;split at h
 ·exact D9 D5y rfl h
 ·cases h)
def B0V(hb:HB I):D7 Ew U6 I 101 (sGB A6c):=M2 C0a hb rfl trivial ⟨(Z1 hb),trivial⟩ Tryz.func101 rfl Tryz.call101 (λls cs r h=>by
 unfold sGB A6c at h;split at h
 ·exact fP C5m rfl h
 ·cases h)
end Go.Aev
