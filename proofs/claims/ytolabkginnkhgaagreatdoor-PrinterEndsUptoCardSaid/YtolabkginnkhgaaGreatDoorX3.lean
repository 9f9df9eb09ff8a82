/- Proved here: lemmas that the claim's text uses. Conditions: those that each lemma states. -/
import Derived.Test.YtolabkginnkhgaaGreatDoorRows
import Derived.WalkKit
import Derived.ProofKit
import Derived.OpenShut
import Derived.ChangeMaps5
import Derived.Deep.Matrix
import Derived.Deep.DeepHandedRow
import Derived.SizedLaws
import Derived.Carry
import Derived.PinnedBridge
import Derived.Lib.LaidU8T
import Derived.Lib.LaidTab
import Derived.Test.YtolabkginnkhgaaGreatDoorX2
set_option maxRecDepth 100000
set_option linter.unusedVariables false
set_option linter.unusedSimpArgs false
set_option linter.defProp false
open Option renaming some->J,none->O
open Bool renaming true->Z,false->V
open Go.Proofs.Tryz
open List renaming length->Aaa,range->Aag,replicate->Aah
open Go.IntKind renaming wrap->Aab,i32->Aay
open Nat renaming beq->Aac,blt->Aae,max->Aak,ble->Aal,mul_add->Aav,and_le_right->Aaw
open Int renaming toNat->Aad
open Go.Proofs.Tryz renaming prog->Aaf,f84->Aap,f44->Aaq,f153->Aar
open Go.Lib renaming repeatL->Aai
open BitVec renaming ofInt->Aaj,toNat_and->Aaz
open Go.Value renaming int->Aam,cells->Aat
open Go.Utf8 renaming decode->Aan
open UInt8 renaming toNat->Aao,ofNat->Aau
open Eq renaming trans->Aas
open Go.Lib.laidMet renaming reads->Aax
open List.Pairwise renaming imp->Aa0
namespace Go.Aev
section
variable {R:Type}{P:Option R->Prop}
def B5e{nn:Nat}{l st:Gp}{i e:Nat}{z:Int}{k2:List A4->Gp->Int->Int->Int->Bool->Option R}(he:e<=2000000)(hz:st[i]?=J z)(h2:∀ps:List A4,ps.length=e->P (k2 ps st (i:Int) (e:Int) (e:Int) V)):
  ∀(n j:Nat)(ps:List A4),j<=e->e<n+j->ps.length=j->P (TM nn l n ps st (i:Int) (e:Int) (j:Int) k2)
 |0,j,ps,a1,a2,_=>FK
 |n+1,j,ps,a1,a2,a3=>by
  unfold TM;by_cases hj:j<e;have aE:decide ((j:Int)<(e:Int))=Z:=GG FK;have hr:A3 (ps.length+1) 16=Z:=by unfold A3;exact GG FK
  simp only[MK,Oe,gd,kC,kP,kO,aE,GD,B1,hz,hr,E7 (i:=j) FK];exact B5e he hz h2 n (j+1) _ FK FK GQ;have qY:j=e:=FK;subst qY;have aE:decide ((j:Int)<(j:Int))=V:=GH FK;simp only[MK,Oe,gd,kC,kP,kO,aE,GF];exact h2 ps a3
def B6I{nn:Nat}(qh:2000000<nn){l:Gp}{ns:Gv}{k2:List A4->Gp->Int->Bool->Option R}(hs:l.length<=1048576)(hp:ns.Pairwise (· < ·))(hm:∀e∈ns,e<=l.length)(hl:ns.length<=1048577)
  (h2:∀ps:List A4,ps.length=l.length+1->P (k2 ps (ns.map (λ(n:Nat)=>(n:Int))) (ns.length:Int) V)):
  ∀(n i:Nat)(ps:List A4),i<=ns.length->ns.length<n+i->(∀a,ns[i]?=J a->ps.length=a)->(i=ns.length->ps.length=l.length+1)->P (WB nn l n ps (ns.map (λ(n:Nat)=>(n:Int))) (i:Int) k2)
 |0,i,ps,a1,a2,_,_=>FK
 |n+1,i,ps,a1,a2,a3,a4=>by
  unfold WB;have w1:Aab .i64 ((i:Int)+1)=((i+1:Nat):Int):=U0 (k:=1) FK;have w2:Aab .i64 ((l.length:Int)+1)=((l.length+1:Nat):Int):=U0 (k:=1) FK;by_cases hi:i<ns.length;have vD:ns[i]?=J ns[i]:=GE hi;have bw:=hm ns[i] (IG hi);have aA:=a3 _ vD;have dg:(ns.map (λ(n:Nat)=>(n:Int)))[i]?=J ((ns[i]:Nat):Int):=by rw[HG,vD];rfl
  have aE:decide ((i:Int)<((ns.map (λ(n:Nat)=>(n:Int))).length:Int))=Z:=GG (by rw[HR];omega);by_cases cL:i+1<ns.length;have uD:ns[i+1]?=J ns[i+1]:=GE cL;have fg:=hm ns[i+1] (IG cL);have gH:ns[i]<=ns[i+1]:=KA (Ju.1 hp i (i+1) hi cL FK);have yi:(ns.map (λ(n:Nat)=>(n:Int)))[i+1]?=J ((ns[i+1]:Nat):Int):=by rw[HG,uD];rfl
  have mP:decide (((i+1:Nat):Int)<((ns.map (λ(n:Nat)=>(n:Int))).length:Int))=Z:=GG (by rw[HR];omega);generalize ns[i]=a at*;generalize ns[i+1]=b at*;simp only[MK,Oe,gd,kC,kP,kO,aE,GD,B1,dg,yi,w1,w2,mP];refine B5e (e:=b) FK dg (λyj qZ=>?_) nn a ps gH FK aA;simp only[w1];refine B6I qh hs hp hm hl h2 n (i+1) yj FK FK (λa' qQ=>?_) (λh=>FK);rw[uD]at qQ;cases qQ;exact qZ;have mP:decide (((i+1:Nat):Int)<((ns.map (λ(n:Nat)=>(n:Int))).length:Int))=V:=GH (by rw[HR];omega);generalize ns[i]=a at*;simp only[MK,Oe,gd,kC,kP,kO,aE,GD,GF,B1,dg,w1,w2,mP];refine B5e (e:=l.length+1) FK dg (λyj qZ=>?_) nn a ps FK FK aA;simp only[w1];refine B6I qh hs hp hm hl h2 n (i+1) yj FK FK (λa' qQ=>?_) (λ_=>qZ);have:=LM qQ;omega;have bO:i=ns.length:=FK;have aE:decide ((i:Int)<((ns.map (λ(n:Nat)=>(n:Int))).length:Int))=V:=GH (by rw[HR];omega);simp only[MK,Oe,gd,kC,kP,kO,aE,GF];subst bO;exact h2 ps (a4 rfl)
end
def D4v{l:Gp}(hs:l.length<=1048576):∃ps:List A4,MK l=J (.one (.sl .pos ps (J 1)))/\ps.length=l.length+1:=by
 let P:Gq->Prop:=λo=>∃ps:List A4,o=J (.one (.sl .pos ps (J 1)))/\ps.length=l.length+1
 show P (MK l);obtain⟨st,e,⟨ns,h1,h2,h3,h4⟩,aA⟩:=B84 hs;have hl:ns.length<=l.length+1:=by rw[h1,HR]at aA;exact aA
 have h0:=LM h2;simp only[MK,Oe,gd,kC,kP,kO,e,C4c,B9A,GD];rw[h1];refine B6I (P:=P) (by rw[NNv];decide) hs h3 h4 FK (λps gz=>⟨ps,rfl,gz⟩) NN 0 [] FK (by rw[NNv];omega) (λa ha=>?_) (λh=>FK);rw[h2]at ha;cases ha;rfl
def C1u{s:Gp}:∀(n k:Nat)(x:Int),k<=n->s[k]?=J x->x<0->∃M:Nat,M<=k/\(∃y:Int,s[M]?=J y/\y<0)/\∀j,j<M->∃y:Int,s[j]?=J y/\0<=y
 |n,k,x,hn,hk,hx=>by
  by_cases h:∃j,j<k/\∃y:Int,s[j]?=J y/\y<0;obtain⟨j,h1,y,h2,h3⟩:=h
  match n,hn with
  |0,hn=>omega
  |n+1,hn=>
   obtain⟨M,a1,a2,a3⟩:=C1u n j y FK h2 h3;exact⟨M,FK,a2,a3⟩
  refine⟨k,GU _,⟨x,hk,hx⟩,λj hj=>?_⟩;have hl:=LM hk;refine⟨s[j],GE FK,?_⟩;rcases Int.lt_or_le s[j] 0 with h'|h';exact absurd ⟨j,hj,_,GE FK,h'⟩ h;exact h'
def D32(l:Gp)(n:Int):okR [.sl .i32 (J 1),.int .i64] (J (.tup [.sl .i32 l (J 1),.int .i64 n]):Gq)=Z:=rfl
def D68(l:Gp)(r:Gt):V5 (gL (J (.tup (.sl .i32 l (J 1)::r)):Gq) 0)=l:=rfl
def C9e(l:Gp):okR [.sl .i32 (J 1)] (J (.one (.sl .i32 l (J 1))):Gq)=Z:=rfl
def D6h(l:Gp):V5 (gL (J (.one (.sl .i32 l (J 1))):Gq) 0)=l:=rfl
def C8e(l:List A4):okR [.sl .pos (J 1)] (J (.one (.sl .pos l (J 1))):Gq)=Z:=rfl
def D5J(l:List A4):C08 (gL (J (.one (.sl .pos l (J 1))):Gq) 0)=l:=rfl
def C3T{a0:Gp}(hl:a0.length<=1048576):∃ts,Km a0=J (.one (.sl .tok ts (J 1)))/\TW ts:=by
 let P:Gq->Prop:=λo=>∃ts,o=J (.one (.sl .tok ts (J 1)))/\TW ts
 show P (Km a0);obtain⟨cs,m,DP,aA⟩:=D36 (l:=a0) FK;obtain⟨s,DQ,fe,x,fG,DR⟩:=D0Q (l:=cs) (m==(a0.length:Int)) FK;obtain⟨ps,DS,gz⟩:=D4v (l:=cs) FK;obtain⟨M,m1,m2,m3⟩:=C1u cs.length cs.length x (GU _) fG DR;have vP:Stp s M:=⟨m2,m3,FK⟩;simp only[Km,ZQ,gd,kC,kP,kO,DP,D32,D68,WK,DQ,C9e,D6h,DS,C8e,D5J,GD];exact l24 (P:=P) vP FK (λts h=>⟨ts,rfl,h⟩) NN 0 [] FK (by rw[NNv];omega) GN (λt ht=>by cases ht)
end Go.Aev
namespace Go.Aev
open Go.Proofs Go.ChangeShapes Go.WideShapes Go.ChangeAt Go.RowKit Go.Deep Go.Proofs.YtolabkginnkhgaaGreatDoor
def wm0(W:World)(b:Nat):Nat:=match W.heap[b]? with|J (.cells c _ _)=>c.size|_=>0
def D0F(W:World)(b:Nat)(h:W.heap.size<=b):wm0 W b=0:=by
 unfold wm0;rw[IQ h]
def B8V{W:World}{b off:Nat}{v:Value}(h:W.cell? ⟨b,off,O⟩=J v):off+1<=wm0 W b:=by
 unfold World.cell? at h;unfold wm0;dsimp only at h;split at h;rename_i c t fr he;rw[he];simp at h;have:=(HJ.1 h).1;exact this;cases h
def C5t:laidOutB Aaf=Z:=GM
def D2b:prog.cellsOf 5=1:=GM
def C1J(l:Gp)(j:Nat)(lf:L6)(h:(flat U6 .u8 l)[j]?=J lf):∃n,l[j]?=J n/\lf=.int .u8 n:=by
 have h1:flat U6 .u8 l=l.map λn=>.int .u8 n:=B0M l;rw[h1,HG]at h;obtain⟨n,hn,rfl⟩:=Hi.1 h;exact⟨n,hn,rfl⟩
def C8R{W:World}{l:Gp}{b off C:Nat}{t7:Nat->Int}(hl:l.length<=C)(aH:∀c,c<C->W.cell? ⟨b,off+c,O⟩=J (.int .u8 (t7 c)))(hV:∀(j:Nat)(n:Int),l[j]?=J n->t7 j=n):
  CRep U6 W (wm0 W) (.sl .u8 l O) (.slice (J ⟨b,off,O⟩) l.length C):=by
 by_cases h0:l.length=0;have:l=[]:=Hr h0;subst this;exact .nil _ _ _ _;refine CRep.sl (U:=U6) (w:=W) (wm:=wm0 W) .u8 l O b off C (λj=>.int .u8 (t7 j)) hl ?_ (λj lf hj=>?_) (λj lf hj=>?_);have:=B8V (aH (l.length - 1) FK);show off+l.length*1<=_;omega;obtain⟨n,hn,rfl⟩:=C1J _ _ _ hj;have bD:=(HN.1 hn).1;exact aH j FK;obtain⟨n,hn,rfl⟩:=C1J _ _ _ hj;rw[hV j n hn];exact .int _ _
def C9S{W:World}{A:Option Addr}{L C:Nat}{zs:Gp}(FW:L<=C)(hz:zs.length=C)(hA:A=O->C=0)(hc:∀a',A=J a'->∀c,c<C->W.cell? (a'.add c)=J (.int .u8 (zs.getD c 0))):
  CRep U6 W (wm0 W) (.sl .u8 (zs.take L) O) (.slice A L C):=by
 by_cases hL:L=0;subst hL;exact .nil _ _ _ _;cases A with
 |none=>have:=hA rfl;omega
 |some a=>
  obtain⟨b,off,yk⟩:=a;have h0:=hc _ rfl 0 FK;have hs:yk=O:=by
   have:=World.cell?_spot h0;unfold Addr.add at this;simpa using this
  subst hs;have aA:(zs.take L).length=L:=by rw[IK];omega
  have:=C8R (W:=W) (l:=zs.take L) (b:=b) (off:=off) (C:=C) (t7:=λc=>zs.getD c 0) FK (λc cT=>by rw[<-add_plain];exact hc _ rfl c cT) (λj n hn=>by
   rw[Hn]at hn;split at hn;rw[HQ,hn];rfl;cases hn)
  rw[aA]at this;exact this
def C6N{H:Type}(d:DataW H):1<=Rows.uptoBulk d:=by
 cases d with
 |lit l=>cases l<;>simp[Rows.uptoBulk]
 |nil=>simp[Rows.uptoBulk]
 |ptr d=>simp[Rows.uptoBulk]
 |slice Bq spare=>simp[Rows.uptoBulk]
 |agg parts=>simp[Rows.uptoBulk]
 |iface t d=>simp[Rows.uptoBulk]
 |map vQ=>simp[Rows.uptoBulk]
 |held h=>simp[Rows.uptoBulk]
def C3q{H:Type}{d:DataW H}{l:List (DataW H)}(h:d∈l):Rows.uptoBulk d<=Rows.uptoBulkAll l:=by
 induction l with
 |nil=>cases h
 |cons x r ih=>
  simp only[Rows.uptoBulkAll];cases HC.1 h with
  |inl e=>subst e;omega
  |inr e=>have:=ih e;omega
def D0I{H:Type}(l:List (DataW H)):l.length<=Rows.uptoBulkAll l:=by
 induction l with
 |nil=>simp[Rows.uptoBulkAll]
 |cons x r ih=>have:=C6N x;simp only[Rows.uptoBulkAll,Fr];omega
def C7T{H:Type}{l:List (DataW H)}(hk:Rows.uptoSmall H l=Z):Rows.uptoBulkAll l<=1048576:=GK hk
section
variable {H:Type}{enc:TypeId×Value->H}{W:World}
def C16{a0:Option Addr}{l0 c0:Nat}{d:DataW H}{ps:List MemPlace}(h:DataW.Trod enc Aaf W 0 (λ_=>Z) Z 22 (.slice a0 l0 c0) d ps):
  ∃l:Gp,CRep U6 W (wm0 W) (.sl .u8 l O) (.slice a0 l0 c0)/\isB l=Z/\l.length<=Rows.uptoBulk d:=by
 obtain⟨fuel,hf⟩:=h;rcases open_ints underlying22 underlying5 D2b hf with⟨cN,hx⟩|⟨a,len,cap,zs,cN,_,hl,hm,hz,hx,aH,DT⟩;simp[Aat]at cN;obtain⟨rfl,rfl,rfl⟩:=cN;exact⟨[],.nil _ _ _ _,rfl,HH _⟩;simp[Aat]at cN;obtain⟨rfl,rfl,rfl⟩:=cN;simp only[if_true]at hz;simp only[He]at hx;obtain⟨rfl,rfl⟩:=hx;refine⟨zs.take l0,C9S hl hz (λe=>by cases e) (λa' ha c hc=>by cases ha;exact aH c FK),HM.2 λn hn=>?_,?_⟩;have h1:=DT n (IP hn);simp only[Lit.wf,Fn,decide_eq_true_eq]at h1;simp only[Fn,decide_eq_true_eq];exact h1;have:=D0I (lits (H:=H) .u8 (zs.take l0));simp only[lits,HR]at this;simp only[Rows.uptoBulk,lits];omega
end
def D0R:U8Extra Aaf lays260_ren:={n3:=GM,n4:=GM,y3:=GM,y4:=GM,c5:=GM,c119:=GM,c138:=GM}
theorem D20:Rows.laid_unicode_utf8_acceptRanges=Lib.acceptData:=GM
theorem D3q:Rows.laid_unicode_utf8_first=Lib.firstData:=Pinned.utf8First_eq
def laidL:List (String×DataW Unit):=[("unicode/utf8.acceptRanges",Rows.laid_unicode_utf8_acceptRanges),("unicode/utf8.first",Rows.laid_unicode_utf8_first)]
def C75:(laidL.filter λx=>x.2.handleName?.isSome)=[]:=GM
def D1m{W:World}(h:laidMetH Aaf laidL W):laidMet Aaf laidL W:=by
 unfold laidMetH at h;rw[C75]at h;exact h
def D3O{W:World}(h:laidMetH Aaf laidL W):Bv.IB W (wm0 W):=by
 have h1:=D1m h;have h2:=Aax h1 (n:= "unicode/utf8.acceptRanges") (d:=Rows.laid_unicode_utf8_acceptRanges) (by unfold laidL;exact HO);have h3:=Aax h1 (n:= "unicode/utf8.first") (d:=Rows.laid_unicode_utf8_first) (by unfold laidL;exact Ha _ HO);rw[D20]at h2;rw[D3q]at h3;have h4:Lib.Utf8Tabs 1 2 W:=utf8Tabs_of_readsT (U8Types.of260 lays260) D0R h3 h2;exact⟨h4,B8V (h4.1 255 GO),B8V (h4.2 15 GO).2⟩
def C5D(c:Array Value):Obj->Obj
 | .cells _ t frozen=>.cells c t frozen
 |o=>o
def B5M(W:World):World:=
 {W with heap:=(W.heap.modify 1 (C5D (Lib.firstTab.map λz=>Aam .u8 z).toArray)).modify 2 (C5D ((Aag 16).flatMap λi=>[Aam .u8 (Lib.accLo i:Int),Aam .u8 (Lib.accHi i:Int)]).toArray)}
def D1g(os:Os)(args:Array Value):laidMet Aaf laidL ((B5M (World.holding Aaf os ⟨#[], #[],[]⟩)).forCall (λ_ _=>0) ⟨#[],args,[]⟩).memory:=
 laidMet_of_run' 8 GM GM
end Go.Aev
namespace Go.Aev
def C8:rg:=[110,97,109,101]
def T4:rg:=[98,117,116,79,110]
def N5:rg:=[111,110]
def LO:rg:=[108,105,116]
def U8:rg:=[101,110,100]
def Og:rg:=[110,111,110,101]
def Q9:rg:=[123]
def NM:rg:=[125]
def LQ:rg:=[40]
def Oh:rg:=[41]
def X9:rg:=[91]
def NO:rg:=[93]
def W2:rg:=[36]
def X8:rg:=[58]
def ZR:rg:=[61]
def Wo:rg:=[33]
def Wp:rg:=[64]
def Qn:rg:=[46,46,46]
def B2G:rg:=[68,111,99,117,109,101,110,116]
def Z2:rg:=[68,101,102,115]
def U1:rg:=[68,101,102]
def Th:rg:=[79,112,116,78,97,109,101]
def Ti:rg:=[79,112,116,86,97,114,115]
def Wq:rg:=[86,97,114,115]
def Qo:rg:=[86,97,114]
def B0B:rg:=[79,112,116,68,101,102,97,117,108,116]
def Oi:rg:=[84,121,112,101]
def NQ:rg:=[66,97,110,103]
def I9:rg:=[83,101,116]
def Ws:rg:=[83,101,108,115]
def NW:rg:=[83,101,108]
def Qp:rg:=[65,108,105,97,115]
def Qq:rg:=[79,112,116,83,101,116]
def Tj:rg:=[82,101,115,116]
def F1:rg:=[68,105,114,115]
def V1:rg:=[65,114,103,115]
def Oj:rg:=[77,111,114,101]
def MM:rg:=[65,114,103]
def P8:rg:=[86,97,108,117,101]
def Ol:rg:=[73,116,101,109,115]
def Om:rg:=[70,105,101,108,100,115]
def Tl:rg:=[70,105,101,108,100]
def cs(c:Bool)(x:rg):rg:=bif c then 67::x else x
def cC(c:Bool):rg:=bif c then [67]else []
def pu(t:A0)(p:rg):Bool:=bif(t.kind==2)==Z then(t.text==p)else V
def wd(t:A0)(p:rg):Bool:=bif(t.kind==3)==Z then(t.text==p)else V
def rlS(l:Gy):Gq:=J (.one (.sl .str l O))
section
variable {t:A0}
def ZS(t:A0)(p:rg):Z5 t p=J (.one (.bool (pu t p))):=by unfold Z5 pu;cases (t.kind==2)<;>rfl
def B3A(t:A0)(p:rg):MD t p=J (.one (.bool (wd t p))):=by unfold MD wd;cases (t.kind==3)<;>rfl
def X6(t:A0)(p:rg)(x y:Gy):R1 t p x y=rlS (bif pu t p then x else y):=by unfold R1;rw[ZS];cases h:pu t p<;>rfl
def NX{X:rg}{l:Gy}{k:GA}(h:U9 X t=J (.tup [.sl .str l k,.bool Z])):Ke X t=rlS l:=by
 unfold Ke;rw[h];rfl
def Wt{X:rg}{l:Gy}{k:GA}(h1:U9 X t=J (.tup [.sl .str [] (J 1),.bool V]))(h:ME X t=J (.tup [.sl .str l k,.bool Z])):Ke X t=rlS l:=by
 unfold Ke;rw[h1,h];rfl
def Qr{X:rg}{l:Gy}{k:GA}(c:Bool)(h1:U9 (cs c X) t=J (.tup [.sl .str [] (J 1),.bool V]))(h2:ME (cs c X) t=J (.tup [.sl .str [] (J 1),.bool V]))(hX:∃a r,X=a::r/\((Aao a:Int)==67)=V)
  (h:W9 X (cC c) t=J (.one (.sl .str l k))):Ke (cs c X) t=rlS l:=by
 obtain⟨a,r,rfl,ha⟩:=hX;unfold Ke;rw[h1,h2];cases c with
 |true=>
  have e1:idx (67::a::r) 0=J (67:UInt8):=rfl;have e2:sub (67::a::r) 1 (Aaa (67::a::r):Int)=J (a::r):=by
   unfold sub;rw[show(decide ((0:Int)<=1)&&(decide ((1:Int)<=(Aaa (67::a::r):Int))&&decide ((Aaa (67::a::r):Int)<=(Aaa (67::a::r):Int))))=Z from GQ];simp;exact Iw GQ
  simp only[cs,GD,e1,e2];rw[show W9 (a::r) [67] t=_ from h];rfl
 |false=>
  have e1:idx (a::r) 0=J a:=rfl;simp only[cs,GF,e1,ha];rw[show W9 (a::r) [] t=_ from h];rfl
def C1C:Ke B2G t=rlS [U1,Z2,U8]:=NX (k:=J 1) GM
def C4N:Ke Z2 t=rlS (bif t.kind==0 then []else [U1,Z2]):=NX (k:=J 1) (by unfold U9;cases t.kind==0<;>kernel_rfl)
def C0U:Ke U1 t=rlS (bif pu t Q9 then [I9]else bif wd t [113,117,101,114,121]||(wd t [109,117,116,97,116,105,111,110]||wd t [115,117,98,115,99,114,105,112,116,105,111,110])then [C8,Th,Ti,F1,I9]else bif wd t [102,114,97,103,109,101,110,116]then [C8,T4,N5,C8,F1,I9]else [Og]):=NX (k:=J 1) (by
 unfold U9 Q9;simp only[ZS,B3A];cases pu t [123]<;>cases wd t [113,117,101,114,121]<;>cases wd t [109,117,116,97,116,105,111,110]<;>cases wd t [115,117,98,115,99,114,105,112,116,105,111,110]<;>cases wd t [102,114,97,103,109,101,110,116]<;>kernel_rfl)
def B9h:Ke Th t=rlS (bif t.kind==3 then [C8]else []):=NX (k:=J 1) (by unfold U9;cases t.kind==3<;>kernel_rfl)
def C21:Ke Ti t=rlS (bif pu t LQ then [LQ,Qo,Wq,Oh]else []):=NX (k:=O) (by unfold U9;simp only[X6];kernel_rfl)
def C3d:Ke Wq t=rlS (bif pu t W2 then [Qo,Wq]else []):=NX (k:=O) (by unfold U9;simp only[X6];kernel_rfl)
def C4z:Ke B0B t=rlS (bif pu t ZR then [ZR,cs Z P8]else []):=NX (k:=O) (by unfold U9;simp only[X6];kernel_rfl)
def C5a:Ke Oi t=rlS (bif pu t X9 then [X9,Oi,NO,NQ]else [C8,NQ]):=NX (k:=O) (by unfold U9;simp only[X6];kernel_rfl)
def C3Y:Ke NQ t=rlS (bif pu t Wo then [Wo]else []):=NX (k:=O) (by unfold U9;simp only[X6];kernel_rfl)
def B9V:Ke Qo t=rlS [W2,C8,X8,Oi,B0B,cs Z F1]:=NX (k:=J 1) GM
def B4c:Ke I9 t=rlS [Q9,NW,Ws,NM]:=Wt (k:=J 1) GM GM
def C2t:Ke Ws t=rlS (bif pu t NM then []else [NW,Ws]):=Wt (k:=O) GM (by unfold ME;simp only[X6];kernel_rfl)
def C1D:Ke NW t=rlS (bif pu t Qn then [Qn,Tj]else [C8,Qp,V1,F1,Qq]):=Wt (k:=O) GM (by unfold ME;simp only[X6];kernel_rfl)
def C1z:Ke Qp t=rlS (bif pu t X8 then [X8,C8]else []):=Wt (k:=O) GM (by unfold ME;simp only[X6];kernel_rfl)
def C18:Ke Qq t=rlS (bif pu t Q9 then [I9]else []):=Wt (k:=O) GM (by unfold ME;simp only[X6];kernel_rfl)
def C0P:Ke Tj t=rlS (bif wd t N5 then [N5,C8,F1,I9]else bif t.kind==3 then [T4,F1]else [F1,I9]):=Wt (k:=J 1) GM (by
 unfold ME N5;simp only[B3A];cases wd t [111,110]<;>cases t.kind==3<;>kernel_rfl)
def B6i(c:Bool):Ke (cs c F1) t=rlS (bif pu t Wp then [Wp,C8,cs c V1,cs c F1]else []):=Qr (k:=O) c (by cases c<;>kernel_rfl) (by cases c<;>kernel_rfl) ⟨_,_,rfl,rfl⟩ (by unfold W9;simp only[X6];cases c<;>kernel_rfl)
def B4K(c:Bool):Ke (cs c V1) t=rlS (bif pu t LQ then [LQ,cs c MM,cs c Oj,Oh]else []):=Qr (k:=O) c (by cases c<;>kernel_rfl) (by cases c<;>kernel_rfl) ⟨_,_,rfl,rfl⟩ (by unfold W9;simp only[X6];cases c<;>kernel_rfl)
def B4J(c:Bool):Ke (cs c Oj) t=rlS (bif pu t Oh then []else [cs c MM,cs c Oj]):=Qr (k:=O) c (by cases c<;>kernel_rfl) (by cases c<;>kernel_rfl) ⟨_,_,rfl,rfl⟩ (by unfold W9;simp only[X6];cases c<;>kernel_rfl)
def B8k(c:Bool):Ke (cs c Ol) t=rlS (bif pu t NO then []else [cs c P8,cs c Ol]):=Qr (k:=O) c (by cases c<;>kernel_rfl) (by cases c<;>kernel_rfl) ⟨_,_,rfl,rfl⟩ (by unfold W9;simp only[X6];cases c<;>kernel_rfl)
def B8i(c:Bool):Ke (cs c Om) t=rlS (bif pu t NM then []else [cs c Tl,cs c Om]):=Qr (k:=O) c (by cases c<;>kernel_rfl) (by cases c<;>kernel_rfl) ⟨_,_,rfl,rfl⟩ (by unfold W9;simp only[X6];cases c<;>kernel_rfl)
def B6E(c:Bool):Ke (cs c MM) t=rlS ([C8,X8,cs c P8]):=Qr (k:=J 1) c (by cases c<;>kernel_rfl) (by cases c<;>kernel_rfl) ⟨_,_,rfl,rfl⟩ (by unfold W9;cases c<;>kernel_rfl)
def B6r(c:Bool):Ke (cs c Tl) t=rlS ([C8,X8,cs c P8]):=Qr (k:=J 1) c (by cases c<;>kernel_rfl) (by cases c<;>kernel_rfl) ⟨_,_,rfl,rfl⟩ (by unfold W9;cases c<;>kernel_rfl)
def B6T(c:Bool):Ke (cs c P8) t=rlS (bif pu t W2&& !c then [W2,C8]else bif pu t X9 then [X9,cs c Ol,NO]else bif pu t Q9 then [Q9,cs c Om,NM]else bif t.kind==3 then [C8]else [LO]):=Qr (k:=J 1) c (by cases c<;>kernel_rfl) (by cases c<;>kernel_rfl) ⟨_,_,rfl,rfl⟩ (by
 unfold W9 W2 X9 Q9;simp only[ZS];cases c<;>cases pu t [36]<;>cases pu t [91]<;>cases pu t [123]<;>cases t.kind==3<;>kernel_rfl)
end
end Go.Aev
namespace Go.Aev
open Go.Proofs
def W0(n:Nat):Bool:=Aal n 1099511627776
def L1(s:rg):Bool:=(s==[40])||((s==[91])||(s==[123]))
def LR(s:rg):Bool:=(s==[41])||((s==[93])||(s==[125]))
def Qs(s:rg):Bool:=s==[101,110,100]
def setTok(N:Gx)(n:Nat)(nd:A1)(at_:Nat):Gx:=N.set n {nd with tok:=(at_:Int)}
def Y5(N:Gx)(n:Nat)(nd:A1)(r:Gy):Gx:=
 N.set n {nd with kids:=(Aag r.length).map λi=>((N.length+i:Nat):Int)}++r.map λs=>⟨s,[],0⟩
def I4(toks:Gu)(depth:Int):Nat->Gx->Gv->Nat->Int->Option (Lu×Nat×Int)
 |0,_,_,_,_=>O
 |_+1,N,[],_,_=>J (⟨N,toks⟩,0,0)
 |f+1,N,n::ao,at_,op=>
  match N[n]? with
  |none=>O
  |some nd=>
   match toks[at_]? with
  |none=>O
  |some t=>
   bif okR [.bool] (Kh nd.sym)then
    bif lB (gL (Kh nd.sym) 0)then
     bif okR [.bool] (Ko nd.sym t)then
      bif lB (gL (Ko nd.sym t) 0)then
       bif L1 nd.sym then
        bif decide (depth<Aab .i64 (op+1))then J (⟨[],[]⟩,at_,71)
        else I4 toks depth f (setTok N n nd at_) ao (bif Qs nd.sym then at_ else at_+1) (Aab .i64 (op+1))
       else I4 toks depth f (setTok N n nd at_) ao (bif Qs nd.sym then at_ else at_+1) (bif LR nd.sym then Aab .i64 (op - 1)else op)
      else J (⟨[],[]⟩,at_,70)
     else O
    else
     match nd.kids with
     |[]=>
      bif okR [.sl .str O] (Ke nd.sym t)then
       bif W0 (N.length+(ao.length+(F0 (gL (Ke nd.sym t) 0)).length))then
        I4 toks depth f (Y5 N n nd (F0 (gL (Ke nd.sym t) 0))) ((Aag (F0 (gL (Ke nd.sym t) 0)).length).map (λi=>N.length+i)++ao) at_ op
       else O
      else O
     |_::_=>O
   else O
def L8:rg:=[68,111,99,117,109,101,110,116]
def NY(a0:Gu)(a1:Int):Gq:=
 bif W0 a0.length then
  match I4 a0 a1 NN [⟨L8,[],0⟩] [0] 0 0 with
  |some (d,at_,k)=>J (.tup [.agg .tree d,.int .i64 (at_:Int),.int .i64 k])
  |none=>O
 else O
def S25:Gt->Option (Bool×E6)
 |[.sl .tok a0 O,.int .i64 a1]=>J (okR [.agg .tree,.int .i64,.int .i64] (NY a0 a1),O9 [.agg .tree,.int .i64,.int .i64] (NY a0 a1))
 |_=>O
end Go.Aev
namespace Go.Aev
def Sy(N:Gx)(n:Nat)(X:rg):Prop:=∃nd,N[n]?=J nd/\nd.sym=X
section
variable {T:Gu}{D:Int}{N N':Gx}{st:Gv}{i n:Nat}{o:Int}{f:Nat}
def B3L{N:Gx}{n m:Nat}{nd:A1}(h:m≠n):(N.set n nd)[m]?=N[m]? :=by rw[Ie];rw[GI (λe=>h e.symm)]
def Qt{N:Gx}{m:Nat}{nd:A1}(h:N[m]?=J nd):m<N.length:=(HN.1 h).1
def ZT{N:Gx}{n m:Nat}{nd x:A1}{r:Gy}(h:N[m]?=J x):(Y5 N n nd r)[m]?=J (if m=n then{nd with kids:=(Aag r.length).map λi=>((N.length+i:Nat):Int)}else x):=by
 have hl:=Qt h;unfold Y5;rw[HV (by simpa using hl),Ie];by_cases e:m=n;subst e;rw[GJ rfl,GJ rfl,GJ hl];rw[GI (λh=>e h.symm),GI e,h]
def B5V{N:Gx}{n j:Nat}{nd:A1}{r:Gy}{X:rg}(h:r[j]?=J X):(Y5 N n nd r)[N.length+j]?=J ⟨X,[],0⟩:=by
 unfold Y5;rw[Hk GN,IT,Nat.add_sub_cancel_left,HG,h];rfl
def Tn:∀(f:Nat)(N:Gx)(st:Gv)(i:Nat)(o:Int),I4 T D f N st i o=J (⟨N',T⟩,0,0)->
  (∀(n:Nat)(nd:A1),n∉st->N[n]?=J nd->N'[n]?=J nd)/\∀(n:Nat)(nd:A1),N[n]?=J nd->∃pI,N'[n]?=J pI/\pI.sym=nd.sym
 |0,_,_,_,_,h=>by cases h
 |f+1,N,[],i,o,h=>by
  unfold I4 at h;cases h;exact⟨λ_ _ _ h=>h,λ_ nd h=>⟨nd,h,rfl⟩⟩
 |f+1,N,n::ao,i,o,h=>by
  unfold I4 at h;have vP:∀{i':Nat}{o':Int}{nd:A1},N[n]?=J nd->I4 T D f (setTok N n nd i) ao i' o'=J (⟨N',T⟩,0,0)->(∀(m:Nat)(x:A1),m∉n::ao->N[m]?=J x->N'[m]?=J x)/\∀(m:Nat)(x:A1),N[m]?=J x->∃x',N'[m]?=J x'/\x'.sym=x.sym:=λ{i' o' nd} hn h=>by
   obtain⟨h1,h2⟩:=Tn f _ _ _ _ h;refine⟨λm x hm hx=>h1 m x (λe=>hm (Ha _ e)) ?_,λm x hx=>?_⟩;unfold setTok;rw[B3L (λe=>hm (by rw[e];exact HO))];exact hx;by_cases e:m=n;subst e;rw[hn]at hx;cases hx;obtain⟨x',e1,e2⟩:=h2 m {nd with tok:=(i:Int)} (by unfold setTok;rw[Ie,GJ rfl,GJ (Qt hn)]);exact⟨x',e1,e2⟩;exact h2 m x (by unfold setTok;rw[B3L e];exact hx)
  split at h;cases h;rename_i nd hn;split at h;cases h;rename_i t ht;obtain⟨_,h⟩:=A5 h;cases hT:lB (gL (Kh nd.sym) 0)with
  |true=>
   rw[hT]at h;obtain⟨_,h⟩:=A5 h;cases hM:lB (gL (Ko nd.sym t) 0)with
   |false=>rw[hM]at h;cases h
   |true=>
    rw[hM]at h;simp only[GD]at h;cases hO:L1 nd.sym with
    |true=>
     rw[hO]at h;cases hd:decide (D<Aab .i64 (o+1))with
     |true=>rw[hd]at h;cases h
     |false=>rw[hd]at h;exact vP hn h
    |false=>rw[hO]at h;exact vP hn h
  |false=>
   rw[hT]at h;simp only[GF]at h;split at h;obtain⟨_,h⟩:=A5 h;obtain⟨_,h⟩:=A5 h;obtain⟨h1,h2⟩:=Tn f _ _ _ _ h;refine⟨λm x hm hx=>?_,λm x hx=>?_⟩;have DU:m≠n:=λe=>hm (by rw[e];exact HO);refine h1 m x (λe=>?_) (by rw[ZT hx,GI DU]);rcases Hg.1 e with e|e
   obtain⟨k,_,rfl⟩:=Ii.1 e;have:=Qt hx;omega;exact hm (Ha _ e);obtain⟨x',e1,e2⟩:=h2 m _ (ZT (n:=n) (nd:=nd) (r:=F0 (gL (Ke nd.sym t) 0)) hx);refine⟨x',e1,e2.trans ?_⟩;by_cases e:m=n;subst e;rw[GJ rfl];rw[hn]at hx;cases hx;rfl;rw[GI e];cases h
def Ad(T:Gu)(D:Int)(N':Gx)(st:Gv)(i:Nat)(o:Int):Prop:=
 i<=T.length/\∃f N,I4 T D f N st i o=J (⟨N',T⟩,0,0)/\st.Nodup/\∀n∈st,∃nd,N[n]?=J nd/\nd.kids=[]
def Ad.le(h:Ad T D N' st i o):i<=T.length:=h.1
def Ad.lt(h:Ad T D N' (n::st) i o):i<T.length:=by
 obtain⟨_,f,N,h,_,hk⟩:=h
 match f with
 |0=>cases h
 |f+1=>
  unfold I4 at h;split at h;cases h;split at h;cases h;rename_i t ht;exact(HN.1 ht).1
def Kd(N:Gx)(n:Nat)(ks:Gp):Prop:=∃nd,N[n]?=J nd/\nd.kids=ks
def Tk(N:Gx)(n i:Nat):Prop:=∃nd,N[n]?=J nd/\nd.tok=(i:Int)
def mt(X:rg)(t:A0):Bool:=lB (gL (Ko X t) 0)
def br(X:rg):Int:=bif L1 X then 1 else bif LR X then -1 else 0
def Sy.eq{X:rg}{nd:A1}(h:Sy N n X)(hn:N[n]?=J nd):nd.sym=X:=by
 obtain⟨x,h1,h2⟩:=h;rw[hn]at h1;cases h1;exact h2
def kI(b:Nat)(l:Gy):Gp:=(Aag l.length).map λj=>((b+j:Nat):Int)
def kN_(b:Nat)(l:Gy):Gv:=(Aag l.length).map λj=>b+j
def C5y{l:Gy}{k:Nat}(gE:(n::st).Nodup)(h:∀m∈n::st,m<k):(kN_ k l++st).Nodup:=by
 refine List.nodup_append.2 ⟨?_,(Ib.1 gE).2,λa ha b hb e=>?_⟩;show((Aag l.length).map λj=>k+j).Pairwise (· ≠ ·);rw[List.pairwise_map];exact Aa0 (λh e=>h FK) List.nodup_range;obtain⟨j,_,e'⟩:=Ii.1 ha;have:=h b (Ha _ hb);omega
def Ad.rule{X:rg}{l:A0->Gy}(hX:∀t,Ke X t=rlS (l t))(hT:Kh X=J (.one (.bool V)))(h:Ad T D N' (n::st) i o)(hs:Sy N' n X):
  ∃t b,T[i]?=J t/\Kd N' n (kI b (l t))/\(∀(j:Nat) Y,(l t)[j]?=J Y->Sy N' (b+j) Y)/\Ad T D N' (kN_ b (l t)++st) i o:=by
 obtain⟨_,f,N,h,gE,hk⟩:=h;obtain⟨nd,hn,jf⟩:=hk n HO;have rc:nd.sym=X:=by
  obtain⟨x,h1,h2⟩:=(Tn f _ _ _ _ h).2 n nd hn;rw[<-h2];exact hs.eq h1
 match f with
 |0=>cases h
 |f+1=>
  unfold I4 at h;rw[hn]at h
  match ht:T[i]? with
  |none=>rw[ht]at h;cases h
  |some t=>
   rw[ht]at h;simp only[rc,hT,jf,hX]at h;obtain⟨_,h⟩:=A5 h;simp only[show lB (gL (J (.one (.bool V)):Gq) 0)=V from rfl,GF]at h;obtain⟨_,h⟩:=A5 h;have e:F0 (gL (rlS (l t)) 0)=l t:=rfl;rw[e]at h;obtain⟨_,h⟩:=A5 h;obtain⟨k1,k2⟩:=Tn f _ _ _ _ h;have aE:=Qt hn;have gR:n∉st:=(Ib.1 gE).1;refine⟨t,N.length,rfl,⟨_,k1 n _ (λe=>?_) (ZT hn),by rw[GJ rfl];rfl⟩,λj Y hj=>?_,KA (HN.1 ht).1,f,_,h,?_,λm hm=>?_⟩;rcases Hg.1 e with e|e;obtain⟨k,_,e⟩:=Ii.1 e;omega;exact gR e;obtain⟨x,e1,e2⟩:=k2 _ _ (B5V (N:=N) (n:=n) (nd:=nd) hj);exact⟨x,e1,e2⟩;exact C5y gE λb hb=>by
    obtain⟨x,hx,_⟩:=hk b hb;exact Qt hx
   rcases Hg.1 hm with hm|hm;obtain⟨k,fV,rfl⟩:=Ii.1 hm;have DV:=Iy.1 fV;exact⟨_,B5V (N:=N) (n:=n) (nd:=nd) (GE DV),rfl⟩;obtain⟨x,hx,dC⟩:=hk m (Ha _ hm);exact⟨_,ZT hx,by rw[GI (λe=>gR (by rw[<-e];exact hm))];exact dC⟩
def Ad.term{X:rg}(hT:Kh X=J (.one (.bool Z)))(h:Ad T D N' (n::st) i o)(hs:Sy N' n X)(o0:0<=o)(o1:o<=1000):
  ∃t,T[i]?=J t/\mt X t=Z/\Tk N' n i/\(L1 X=Z->o+1<=D)/\Ad T D N' st (bif Qs X then i else i+1) (o+br X):=by
 obtain⟨_,f,N,h,gE,hk⟩:=h;obtain⟨nd,hn,jf⟩:=hk n HO;have rc:nd.sym=X:=by
  obtain⟨x,h1,h2⟩:=(Tn f _ _ _ _ h).2 n nd hn;rw[<-h2];exact hs.eq h1
 match f with
 |0=>cases h
 |f+1=>
  unfold I4 at h;rw[hn]at h
  match ht:T[i]? with
  |none=>rw[ht]at h;cases h
  |some t=>
   rw[ht]at h;simp only[rc,hT]at h;obtain⟨_,h⟩:=A5 h;simp only[show lB (gL (J (.one (.bool Z)):Gq) 0)=Z from rfl,GD]at h;obtain⟨_,h⟩:=A5 h;have gR:n∉st:=(Ib.1 gE).1;have aE:=(HN.1 ht).1;have bQ:∀{i':Nat}{o':Int},I4 T D f (setTok N n nd i) st i' o'=J (⟨N',T⟩,0,0)->i'<=T.length->Tk N' n i/\Ad T D N' st i' o':=λh qX=>by
    obtain⟨k1,k2⟩:=Tn f _ _ _ _ h;refine⟨⟨_,k1 n {nd with tok:=(i:Int)} gR (by unfold setTok;rw[Ie,GJ rfl,GJ (Qt hn)]),rfl⟩,qX,f,_,h,(Ib.1 gE).2,λm hm=>?_⟩;obtain⟨x,hx,dC⟩:=hk m (Ha _ hm);exact⟨x,by unfold setTok;rw[B3L (λe=>gR (by rw[<-e];exact hm))];exact hx,dC⟩
   cases hM:lB (gL (Ko X t) 0)with
   |false=>rw[hM]at h;cases h
   |true=>
    rw[hM]at h;simp only[GD]at h;have w1:Aab .i64 (o+1)=o+1:=P0 FK FK;have w2:Aab .i64 (o - 1)=o+ -1:=by rw[P0 FK FK];omega
    cases hO:L1 X with
    |true=>
     rw[hO,w1]at h;simp only[GD]at h;cases hd:decide (D<o+1)with
     |true=>rw[hd]at h;cases h
     |false=>
      rw[hd]at h;obtain⟨q1,q2⟩:=bQ h (by cases Qs X<;>simp<;>omega);have:=of_decide_eq_false hd;refine⟨t,rfl,hM,q1,λ_=>FK,?_⟩;unfold br;rw[hO];exact q2
    |false=>
     rw[hO,w2]at h;simp only[GF]at h;obtain⟨q1,q2⟩:=bQ h (by cases Qs X<;>simp<;>omega);refine⟨t,rfl,hM,q1,λh=>(by cases h),?_⟩;unfold br;rw[hO,GF];cases hc:LR X with
     |true=>rw[hc]at q2;exact q2
     |false=>rw[hc]at q2;rw[GF,IX];exact q2
end
def NS:List (rg×List Gy):=[(Z2,[[],[U1,Z2]]),(U1,[[I9],[C8,Th,Ti,F1,I9],[C8,T4,N5,C8,F1,I9],[Og]]),(Th,[[C8],[]]),(Ti,[[LQ,Qo,Wq,Oh],[]]),(Wq,[[Qo,Wq],[]]),(Qo,[[W2,C8,X8,Oi,B0B,cs Z F1]]),(B0B,[[ZR,cs Z P8],[]]),(Oi,[[X9,Oi,NO,NQ],[C8,NQ]]),(NQ,[[Wo],[]]),(I9,[[Q9,NW,Ws,NM]]),(Ws,[[],[NW,Ws]]),(NW,[[Qn,Tj],[C8,Qp,V1,F1,Qq]]),(Qp,[[X8,C8],[]]),(Qq,[[I9],[]]),(Tj,[[N5,C8,F1,I9],[T4,F1],[F1,I9]]),(cs V F1,[[Wp,C8,cs V V1,cs V F1],[]]),(cs V V1,[[LQ,cs V MM,cs V Oj,Oh],[]]),(cs V Oj,[[],[cs V MM,cs V Oj]]),(cs V Ol,[[],[cs V P8,cs V Ol]]),(cs V Om,[[],[cs V Tl,cs V Om]]),(cs V MM,[[C8,X8,cs V P8]]),(cs V Tl,[[C8,X8,cs V P8]]),(cs V P8,[[W2,C8],[X9,cs V Ol,NO],[Q9,cs V Om,NM],[C8],[LO]]),(cs Z F1,[[Wp,C8,cs Z V1,cs Z F1],[]]),(cs Z V1,[[LQ,cs Z MM,cs Z Oj,Oh],[]]),(cs Z Oj,[[],[cs Z MM,cs Z Oj]]),(cs Z Ol,[[],[cs Z P8,cs Z Ol]]),(cs Z Om,[[],[cs Z Tl,cs Z Om]]),(cs Z MM,[[C8,X8,cs Z P8]]),(cs Z Tl,[[C8,X8,cs Z P8]]),(cs Z P8,[[W2,C8],[X9,cs Z Ol,NO],[Q9,cs Z Om,NM],[C8],[LO]])]
def TS:Gy:=[C8,T4,N5,LO,Og,Q9,NM,LQ,Oh,X9,NO,W2,X8,ZR,Wo,Wp,Qn]
def NOk(p:rg×List Gy):Prop:=Kh p.1=J (.one (.bool V))/\∀t,∃l,Ke p.1 t=rlS l/\l∈p.2
def H9{α:Type}{b:Bool}{x y:α}{A:List α}(hx:x∈A)(hy:y∈A):(bif b then x else y)∈A:=by cases b<;>assumption
def C5o:∀p∈NS,NOk p:=by
 unfold NS;simp only[KL];exact⟨⟨GM,λt=>⟨_,C4N,(H9 (.head _) (.tail _ (.head _)))⟩⟩,⟨GM,λt=>⟨_,C0U,(H9 (.head _) (H9 (.tail _ (.head _)) (H9 (.tail _ (.tail _ (.head _))) (.tail _ (.tail _ (.tail _ (.head _)))))))⟩⟩,⟨GM,λt=>⟨_,B9h,(H9 (.head _) (.tail _ (.head _)))⟩⟩,⟨GM,λt=>⟨_,C21,(H9 (.head _) (.tail _ (.head _)))⟩⟩,⟨GM,λt=>⟨_,C3d,(H9 (.head _) (.tail _ (.head _)))⟩⟩,⟨GM,λt=>⟨_,B9V,(.head _)⟩⟩,⟨GM,λt=>⟨_,C4z,(H9 (.head _) (.tail _ (.head _)))⟩⟩,⟨GM,λt=>⟨_,C5a,(H9 (.head _) (.tail _ (.head _)))⟩⟩,⟨GM,λt=>⟨_,C3Y,(H9 (.head _) (.tail _ (.head _)))⟩⟩,⟨GM,λt=>⟨_,B4c,(.head _)⟩⟩,⟨GM,λt=>⟨_,C2t,(H9 (.head _) (.tail _ (.head _)))⟩⟩,⟨GM,λt=>⟨_,C1D,(H9 (.head _) (.tail _ (.head _)))⟩⟩,⟨GM,λt=>⟨_,C1z,(H9 (.head _) (.tail _ (.head _)))⟩⟩,⟨GM,λt=>⟨_,C18,(H9 (.head _) (.tail _ (.head _)))⟩⟩,⟨GM,λt=>⟨_,C0P,(H9 (.head _) (H9 (.tail _ (.head _)) (.tail _ (.tail _ (.head _)))))⟩⟩,⟨GM,λt=>⟨_,(B6i V),(H9 (.head _) (.tail _ (.head _)))⟩⟩,⟨GM,λt=>⟨_,(B4K V),(H9 (.head _) (.tail _ (.head _)))⟩⟩,⟨GM,λt=>⟨_,(B4J V),(H9 (.head _) (.tail _ (.head _)))⟩⟩,⟨GM,λt=>⟨_,(B8k V),(H9 (.head _) (.tail _ (.head _)))⟩⟩,⟨GM,λt=>⟨_,(B8i V),(H9 (.head _) (.tail _ (.head _)))⟩⟩,⟨GM,λt=>⟨_,(B6E V),(.head _)⟩⟩,⟨GM,λt=>⟨_,(B6r V),(.head _)⟩⟩,⟨GM,λt=>⟨_,(B6T V),(H9 (.head _) (H9 (.tail _ (.head _)) (H9 (.tail _ (.tail _ (.head _))) (H9 (.tail _ (.tail _ (.tail _ (.head _)))) (.tail _ (.tail _ (.tail _ (.tail _ (.head _)))))))))⟩⟩,⟨GM,λt=>⟨_,(B6i Z),(H9 (.head _) (.tail _ (.head _)))⟩⟩,⟨GM,λt=>⟨_,(B4K Z),(H9 (.head _) (.tail _ (.head _)))⟩⟩,⟨GM,λt=>⟨_,(B4J Z),(H9 (.head _) (.tail _ (.head _)))⟩⟩,⟨GM,λt=>⟨_,(B8k Z),(H9 (.head _) (.tail _ (.head _)))⟩⟩,⟨GM,λt=>⟨_,(B8i Z),(H9 (.head _) (.tail _ (.head _)))⟩⟩,⟨GM,λt=>⟨_,(B6E Z),(.head _)⟩⟩,⟨GM,λt=>⟨_,(B6r Z),(.head _)⟩⟩,⟨GM,λt=>⟨_,(B6T Z),(H9 (.head _) (H9 (.tail _ (.head _)) (H9 (.tail _ (.tail _ (.head _))) (H9 (.tail _ (.tail _ (.tail _ (.head _)))) (.tail _ (.tail _ (.tail _ (.tail _ (.head _)))))))))⟩⟩,λ_ h=>by cases h⟩
def B3i(X:rg):Bool:=match Kh X with
 |some (.one (.bool b))=>b
 |_=>V
def B4g:∀X∈TS,Kh X=J (.one (.bool Z))/\Qs X=V/\X≠[]:=by
 unfold TS;simp only[KL];exact⟨⟨GM,GM,λh=>by cases h⟩,⟨GM,GM,λh=>by cases h⟩,⟨GM,GM,λh=>by cases h⟩,⟨GM,GM,λh=>by cases h⟩,⟨GM,GM,λh=>by cases h⟩,⟨GM,GM,λh=>by cases h⟩,⟨GM,GM,λh=>by cases h⟩,⟨GM,GM,λh=>by cases h⟩,⟨GM,GM,λh=>by cases h⟩,⟨GM,GM,λh=>by cases h⟩,⟨GM,GM,λh=>by cases h⟩,⟨GM,GM,λh=>by cases h⟩,⟨GM,GM,λh=>by cases h⟩,⟨GM,GM,λh=>by cases h⟩,⟨GM,GM,λh=>by cases h⟩,⟨GM,GM,λh=>by cases h⟩,⟨GM,GM,λh=>by cases h⟩,λ_ h=>by cases h⟩
section
variable {t:A0}{X:rg}
def D6o:mt C8 t=(t.kind==3):=GM
def C30:mt Og t=V:=GM
def C6r:mt N5 t=wd t N5:=by unfold mt Ko;simp only[B3A];kernel_rfl
def C8q:mt T4 t=bif t.kind==3 then !(t.text==N5)else V:=by
 unfold mt Ko;show lB (gL (bif(t.kind==3)==Z then _ else _) 0)=_;cases t.kind==3<;>rfl
def C0t(h:mt LO t=Z):4<=t.kind/\t.kind<=7:=by
 have e:mt LO t=lB (gL (Qb t) 0):=by
  unfold mt Ko;show lB (gL (gd (okR [.bool] (Qb t)) _) 0)=_;unfold Qb;cases t.kind==4<;>cases t.kind==5<;>cases t.kind==6<;>rfl
 rw[e]at h;unfold Qb at h;cases h4:t.kind==4 with
 |true=>
     have:t.kind=4:=by simpa using h4
     omega
 |false=>
  cases h5:t.kind==5 with
  |true=>
      have:t.kind=5:=by simpa using h5
      omega
  |false=>
   cases h6:t.kind==6 with
   |true=>
       have:t.kind=6:=by simpa using h6
       omega
   |false=>
    rw[h4,h5,h6]at h;have h:(t.kind==7)=Z:=h;have:t.kind=7:=by simpa using h
    omega
def B34{p:rg}(h:pu t p=Z):t.kind=2/\t.text=p:=by
 unfold pu at h;cases hk:t.kind==2 with
 |false=>rw[hk]at h;cases h
 |true=>rw[hk]at h;exact⟨by simpa using hk,by simpa using h⟩
def B70{p:rg}(h:wd t p=Z):t.kind=3/\t.text=p:=by
 unfold wd at h;cases hk:t.kind==3 with
 |false=>rw[hk]at h;cases h
 |true=>rw[hk]at h;exact⟨by simpa using hk,by simpa using h⟩
def C3j(X:rg)(t:A0):∃b,Ko X t=J (.one (.bool b)):=by
 let P:Gq->Prop:=λo=>∃b,o=J (.one (.bool b))
 have c:∀{b:Bool}{x y:Gq},P x->P y->P (bif b then x else y):=λ{b x y} h1 h2=>by cases b<;>assumption
 show P (Ko X t);unfold Ko;simp only[ZS,B3A];refine c ⟨_,rfl⟩ (c (c ⟨_,rfl⟩ ⟨_,rfl⟩) (c ⟨_,rfl⟩ (c ?_ (c ⟨_,rfl⟩ (c ⟨_,rfl⟩ ⟨_,rfl⟩)))));unfold Qb;cases t.kind==4<;>cases t.kind==5<;>cases t.kind==6<;>exact⟨_,rfl⟩
def B4Q(X:rg):Bool:= !([C8,T4,N5,LO,U8,Og].contains X)
def B6g(h:B4Q X=Z):mt X t=pu t X:=by
 have n:∀y,[C8,T4,N5,LO,U8,Og].contains y=Z->(X==y)=V:=λy hy=>by
  cases e:X==y with
  |false=>rfl
  |true=>
   have:X=y:=by simpa using e
   subst this;unfold B4Q at h;rw[hy]at h;cases h
 have a1:(X==[110,97,109,101])=V:=n C8 GM;have a2:(X==[98,117,116,79,110])=V:=n T4 GM;have a3:(X==[111,110])=V:=n N5 GM;have a4:(X==[108,105,116])=V:=n LO GM;have a5:(X==[101,110,100])=V:=n U8 GM;have a6:(X==[110,111,110,101])=V:=n Og GM;unfold mt Ko;simp only[a1,a2,a3,a4,a5,a6,GF,ZS];rfl
def B83(hX:X∈TS)(h:mt X t=Z):2<=t.kind:=by
 have bm:TS.all (λX=>B4Q X||[C8,T4,N5,LO,Og].contains X)=Z:=GM;have:=HM.1 bm X hX;rw[Hx]at this;rcases this with h1|h1;rw[B6g h1]at h;have:=(B34 h).1;omega;have h1:X∈[C8,T4,N5,LO,Og]:=by simpa using h1
 simp only[HC,Hh,or_false]at h1;rcases h1 with rfl|rfl|rfl|rfl|rfl;rw[D6o]at h;have:t.kind=3:=by simpa using h
 omega;rw[C8q]at h;cases hk:t.kind==3 with
 |false=>rw[hk]at h;cases h
 |true=>
  have:t.kind=3:=by simpa using hk
  omega
 rw[C6r]at h;have:=(B70 h).1;omega;have:=C0t h;omega;rw[C30]at h;cases h
def nul(X:rg):Bool:=NS.any λp=>p.1==X&&p.2.any List.isEmpty
def rkd:Nat->rg->Nat
 |0,_=>0
 |d+1,X=>NS.foldl (λm p=>bif p.1==X then p.2.foldl (λm c=>match c with
  |[]=>Aak m 1
  |Y::r=>Aak m (Aak (rkd d Y+1) (bif nul Y then(match r with|zO::_=>rkd d zO+1|[]=>0)else 0))) m else m) 0
def rk(X:rg):Nat:=rkd 8 X
def inS(X:rg):Bool:=NS.any (λp=>p.1==X)||TS.contains X
def B6v:(NS.all λp=>Aae (rk p.1) 10&&p.2.all λc=>c.all inS&&(Aal c.length 6&&(match c with
 |[]=>Z
 |Y::r=>Aae (rk Y) (rk p.1)&&(!nul Y||(match r with|zO::_=>Aae (rk zO) (rk p.1)&& !nul zO|[]=>V)))))=Z:=GM
def D7f:(TS.all λX=>Aac (rk X) 0)=Z:=GM
def B6X(h:inS X=Z):(∃p∈NS,p.1=X)\/X∈TS:=by
 unfold inS at h;rw[Hx]at h;rcases h with h|h;obtain⟨p,h1,h2⟩:=Hm.1 h;exact .inl ⟨p,h1,by simpa using h2⟩;exact .inr (by simpa using h)
def ZU(h:inS X=Z):rk X<10:=by
 rcases B6X h with⟨p,h1,rfl⟩|h;have:=HM.1 B6v p h1;rw[Fn,HU]at this;exact this.1;have:=HZ (HM.1 D7f X h);omega
def nz(t:A0)(X:rg):Bool:= !B3i X&&(F0 (gL (Ke X t) 0)).isEmpty
def hh(t:A0):Gy->Nat
 |[]=>0
 |X::r=>bif nz t X then hh t r else 1000*rk X
def B3Q:∀(l:Gy),(∀X∈l,inS X=Z)->hh t l<=9000
 |[],_=>HH _
 |X::r,h=>by
  have h1:=ZU (h X HO);have h2:=B3Q r λY hY=>h Y (Ha _ hY);unfold hh;cases nz t X
  show 1000*rk X<=9000;omega;exact h2
def nzF(h:inS X=Z)(hn:nul X=V):nz t X=V:=by
 rcases B6X h with⟨p,h1,rfl⟩|h;obtain⟨_,h2⟩:=C5o p h1;obtain⟨l,e,hl⟩:=h2 t;unfold nz;rw[e];cases hi:(F0 (gL (rlS l) 0)).isEmpty with
 |false=>rw[In]
 |true=>
  have hi:l.isEmpty=Z:=hi;have:nul p.1=Z:=by
   unfold nul;exact Hm.2 ⟨p,h1,by rw[Fn];exact⟨GN,Hm.2 ⟨l,hl,hi⟩⟩⟩
  rw[hn]at this;cases this
 unfold nz B3i;rw[(B4g X h).1];rfl
def C9U{p:rg×List Gy}(hp:p∈NS){c:Gy}(hc:c∈p.2)(h0:c≠[])(r:Gy):hh t (c++r)+1000<=1000*rk p.1:=by
 have h1:=HM.1 B6v p hp;rw[Fn]at h1;have h2:=HM.1 h1.2 c hc;rw[Fn,Fn]at h2;obtain⟨h3,_,h4⟩:=h2
 match c,h0,h3,h4 with
 |Y::q,_,h3,h4=>
  simp only[Fn,Hx,HU]at h4;obtain⟨h5,h6⟩:=h4;rw[IZ];unfold hh;cases hY:nz t Y with
  |false=>show 1000*rk Y+1000<=_;omega
  |true=>
   show hh t (q++r)+1000<=_;rcases h6 with h6|h6;rw[nzF (HM.1 h3 Y HO) (by simpa using h6)]at hY;cases hY
   match q,h6,h3 with
   |[],h6,_=>cases h6
   |zO::q,h6,h3=>
    rw[Fn]at h6;obtain⟨h7,h8⟩:=h6;rw[IZ];unfold hh;rw[nzF (HM.1 h3 zO (Ha _ HO)) (by simpa using h8)];show 1000*rk zO+1000<=_;rw[HU]at h7;omega
end
section
variable {T:Gu}{D:Int}
def Rs(N:Gx):Gv->Gy->Prop
 |[],[]=>True
 |n::r,X::s=>(∃nd,N[n]?=J nd/\nd.sym=X/\nd.kids=[])/\Rs N r s
 |_,_=>False
def Rs.len{N:Gx}:∀{st:Gv}{l:Gy},Rs N st l->st.length=l.length
 |[],[],_=>rfl
 |_::_,_::_,h=>by rw[Fr,Fr,Rs.len h.2]
def Rs.lt{N:Gx}:∀{st:Gv}{l:Gy},Rs N st l->∀m∈st,m<N.length
 |[],[],_,_,h=>by cases h
 |n::_,_::_,h,m,hm=>by
  rcases HC.1 hm with rfl|hm;obtain⟨⟨nd,h1,_⟩,_⟩:=h;exact Qt h1;exact Rs.lt h.2 m hm
def Rs.mono{N N':Gx}:∀{st:Gv}{l:Gy},Rs N st l->(∀m∈st,∀nd,N[m]?=J nd->∃pI,N'[m]?=J pI/\pI.sym=nd.sym/\pI.kids=nd.kids)->Rs N' st l
 |[],[],_,_=>trivial
 |n::r,X::s,h,hm=>by
  obtain⟨⟨nd,h1,h2,h3⟩,h4⟩:=h;obtain⟨pI,e1,e2,e3⟩:=hm n HO nd h1;exact⟨⟨pI,e1,e2.trans h2,e3.trans h3⟩,Rs.mono h4 λm oM=>hm m (Ha _ oM)⟩
def Rs.new{N:Gx}{st:Gv}{l:Gy}(h:Rs N st l){k:Nat}:∀{c:Gy}{ks:Gv},ks.length=c.length->(∀(j:Nat) n X,ks[j]?=J n->c[j]?=J X->∃nd,N[n]?=J nd/\nd.sym=X/\nd.kids=[])->Rs N (ks++st) (c++l)
 |[],[],_,_=>h
 |X::c,n::ks,hl,hk=>⟨hk 0 n X rfl rfl,Rs.new h (k:=k) (by simpa using hl) λj n X h1 h2=>hk (j+1) n X (by simpa using h1) (by simpa using h2)⟩
def Oks(T:Gu)(r:Option (Lu×Nat×Int)):Prop:=(∃N',r=J (⟨N',T⟩,0,0))\/∃j k,r=J (⟨[],[]⟩,j,k)/\k≠0/\j<T.length
def B6W(tw:TW T):∀(n:Nat)(N:Gx)(st:Gv)(l:Gy)(i:Nat)(o:Int)(t:A0),(∀s∈l,inS s=Z)->Rs N st (l++[U8])->st.Nodup->T[i]?=J t->20000*(T.length - i)+100*l.length+hh t l<n->
  N.length+(20000*(T.length - i)+100*l.length+hh t l)<=30000000000->Oks T (I4 T D (n+3) N st i o)
 |0,_,_,_,_,_,_,_,_,_,_,h,_=>FK
 |n+1,N,[],[],i,o,t,_,hR,_,_,_,_=>hR.elim
 |n+1,N,[],_::_,i,o,t,_,hR,_,_,_,_=>hR.elim
 |n+1,N,m::st,l,i,o,t,hl,hR,gE,ht,hn,hb=>by
  have mg:i<T.length:=(HN.1 ht).1;have kq:∀k:Int,k≠0->Oks T (J (⟨[],[]⟩,i,k)):=λk hk=>.inr ⟨i,k,rfl,hk,mg⟩;have gR:m∉st:=(Ib.1 gE).1;have yl:=(Ib.1 gE).2;show Oks T (I4 T D (n+3+1) N (m::st) i o);unfold I4
  match l,hl,hR,hn,hb with
  |[],_,hR,_,_=>
   obtain⟨⟨nd,h1,h2,h3⟩,h4⟩:=hR
   match st,h4 with
   |[],_=>
    obtain⟨b,e⟩:=C3j U8 t;have e0:Kh U8=J (.one (.bool Z)):=GM;simp only[h1,ht,h2,e0,e,show L1 U8=V from GM,GF];cases b;exact kq 70 GO;exact .inl ⟨_,rfl⟩
  |X::l,hl,hR,hn,hb=>
   obtain⟨⟨nd,h1,h2,h3⟩,h4⟩:=hR;have hX:=hl X HO;have dX:∀s∈l,inS s=Z:=λs hs=>hl s (Ha _ hs);have ym:=Qt h1;rw[Fr]at hn hb;have h9:=B3Q (t:=t) l dX;simp only[h1,ht,h2];rcases B6X hX with⟨p,hp,rfl⟩|hT
   obtain⟨e0,h5⟩:=C5o p hp;obtain⟨c,e,hc⟩:=h5 t;have hk:=HM.1 B6v p hp;rw[Fn]at hk;have cK:=HM.1 hk.2 c hc;rw[Fn,Fn]at cK;obtain⟨q1,q2,_⟩:=cK;have q2:=Hu q2;have sl:st.length=(l++[U8]).length:=h4.len;rw[Fd,Hl]at sl;have hs:W0 (N.length+(st.length+c.length))=Z:=by unfold W0;rw[Ih];omega
   simp only[e0,h3,e,show lB (gL (J (.one (.bool V)):Gq) 0)=V from rfl,GF,show F0 (gL (rlS c) 0)=c from rfl,hs,GD];have yn:(Y5 N m nd c).length=N.length+c.length:=by unfold Y5;simp
   have ci:hh t (c++l)+101*c.length<hh t (p.1::l)+100:=by
    cases c with
    |nil=>
     have:nz t p.1=Z:=by unfold nz B3i;rw[e0,e];rfl
     show hh t l+0<(bif nz t p.1 then hh t l else 1000*rk p.1)+100;rw[this];show hh t l+0<hh t l+100;omega
    |cons Y q=>
     have:nz t p.1=V:=by unfold nz B3i;rw[e0,e];rfl
     have hf:=C9U (t:=t) hp hc GN l;show _<(bif nz t p.1 then hh t l else 1000*rk p.1)+100;rw[this];show _<1000*rk p.1+100;rw[Fr]at q2 ⊢;omega
   refine B6W tw n (Y5 N m nd c) (kN_ N.length c++st) (c++l) i o t (λs hs=>(Hg.1 hs).elim (HM.1 q1 s) (dX s)) ?_ (C5y gE λx hx=>?_) ht ?_ ?_;rw[GV];refine Rs.new (k:=0) (h4.mono λx hx y hy=>⟨_,ZT hy,by rw[GI (λe=>gR (by rw[<-e];exact hx))],by rw[GI (λe=>gR (by rw[<-e];exact hx))]⟩) (by unfold kN_;simp) λj x Y kX lP=>?_;unfold kN_ at kX;rw[HG,Ho (G7 lP)]at kX;cases kX;exact⟨_,B5V lP,rfl,rfl⟩
   rcases HC.1 hx with rfl|hx;exact ym;exact h4.lt x hx;rw[Fd];omega;rw[Fd,yn];omega;obtain⟨e0,e1,_⟩:=B4g X hT;obtain⟨b,e⟩:=C3j X t;simp only[e0,e,e1,show lB (gL (J (.one (.bool Z)):Gq) 0)=Z from rfl,GD,GF];cases b with
   |false=>exact kq 70 GO
   |true=>
    have yo:=B83 (t:=t) hT (by unfold mt;rw[e];rfl);have aE:=tw.lst i t ht yo;have nx:∀o',Oks T (I4 T D (n+3) (setTok N m nd i) st (i+1) o'):=λo'=>by
     have rY:=B3Q (t:=T[i+1]) l dX;refine B6W tw n _ st l (i+1) o' T[i+1] dX (h4.mono λx hx y hy=>?_) yl (GE aE) FK (by unfold setTok;rw[IT];omega);exact⟨y,by unfold setTok;rw[B3L (λe=>gR (by rw[<-e];exact hx))];exact hy,rfl,rfl⟩
    show Oks T (bif L1 X then _ else _);cases L1 X with
    |false=>exact nx _
    |true=>
     show Oks T (bif decide (D<Aab .i64 (o+1))then _ else _);cases decide (D<Aab .i64 (o+1))with
     |true=>exact kq 71 GO
     |false=>exact nx _
def C87(tw:TW T):Oks T (I4 T D NN [⟨L8,[],0⟩] [0] 0 0):=by
 have hl:=tw.len;have aP:=tw.ne;have e0:Kh L8=J (.one (.bool V)):=GM;have e1:Ke L8 T[0]=rlS [U1,Z2,U8]:=C1C;have h9:=B3Q (t:=T[0]) [U1,Z2] GO;have bm:∀m,20000*T.length+10000<m->Oks T (I4 T D (m+3+1) [⟨L8,[],0⟩] [0] 0 0):=λm hm=>by
  have h1:=B6W (D:=D) tw m (Y5 [⟨L8,[],0⟩] 0 ⟨L8,[],0⟩ [U1,Z2,U8]) [1,2,3] [U1,Z2] 0 0 T[0] GO ⟨⟨⟨U1,[],0⟩,rfl,rfl,rfl⟩,⟨⟨Z2,[],0⟩,rfl,rfl,rfl⟩,⟨⟨U8,[],0⟩,rfl,rfl,rfl⟩,trivial⟩ GO (GE aP)
   (by simp only[Fr,GT];omega) (by show 4+_<=_;simp only[Fr,GT];omega)
  unfold I4;simp only[JR,GE aP,e0,e1,show lB (gL (J (.one (.bool V)):Gq) 0)=V from rfl,GF,show F0 (gL (rlS [U1,Z2,U8]) 0)=[U1,Z2,U8]from rfl,show W0 ([(⟨L8,[],0⟩:A1)].length+(([]:Gv).length+[U1,Z2,U8].length))=Z from rfl,GD];exact h1
 have:=bm 18446744073709551612 FK;exact this
def C8a(tw:TW T):∃d j k,NY T D=J (.tup [.agg .tree d,.int .i64 ((j:Nat):Int),.int .i64 k])/\j<T.length/\(k=0->d.toks=T/\Sy d.nodes 0 B2G/\Ad T D d.nodes [0] 0 0):=by
 have hl:=tw.len;have aP:=tw.ne;have hs:W0 T.length=Z:=by unfold W0;rw[Ih];omega
 have hR:Rs [⟨L8,[],0⟩] [0] [B2G]:=⟨⟨_,rfl,rfl,rfl⟩,trivial⟩;have bm:=C87 (D:=D) tw;unfold NY;rw[hs];rcases bm with⟨N',e⟩|⟨j,k,e,hk,hj⟩;refine⟨⟨N',T⟩,0,0,by rw[e];rfl,aP,λ_=>⟨rfl,?_,HH _,NN,_,e,GO,λn hn=>?_⟩⟩;obtain⟨x,h1,h2⟩:=(Tn _ _ _ _ _ e).2 0 _ rfl;exact⟨x,h1,h2⟩;obtain rfl:n=0:=by simpa using hn
 exact⟨⟨L8,[],0⟩,rfl,rfl⟩;exact⟨_,j,k,by rw[e];rfl,hj,λh=>absurd h hk⟩
end
end Go.Aev
namespace Go.Aev
open Go.Proofs
def C9G{R}(nn a0)(K:Kt R):∀n x3 x7 x8,Wm nn a0 n x3 x7 x8 (λx3 x7 x8 x9=>K (.exit 0) ⟨[eO 3 .part x3 103,eL 6 .sel a0,eI 7 x7,eI 8 x8,eB 9 x9],[103]⟩)=LP E64 nn f64 75 n ⟨[eO 3 .part x3 103,eL 6 .sel a0,eI 7 x7,eI 8 x8],[103]⟩ K:=λn=>n.rec (by intros;rfl) λn i=>by
 intros;rw[Wm];simp only[i];kernel_rfl
def B47(nn:Nat)(a0:GC):Gq:=Wm nn a0 nn [] (Aaa a0:Int) 0 (λz1 z2 z3 z4=>J (.one (.sl .part z1 (J 1))))
def ZV(a0:GC):Gq:=B47 NN a0
def S64:KY
 |[.sl .sel a0 O]=>pR [.sl .part (J 1)] (ZV a0)
 |_=>O
def To{R:Type}(nn:Nat)(a0:rg):Nat->Gp->Nat->(Gp->Int->Option R)->(Gp->Nat->Option R)->Option R
 |0,_,_,_,_=>O
 |n+1,x5,cZ,k1,k3=>let k2:=λx5 cZ=>To nn a0 n x5 cZ k1 k3;bif decide (cZ<Aaa a0)then(let z1:=(cZ+(Aan ⟨a0.toArray⟩ cZ).2);let z2:=((Aan ⟨a0.toArray⟩ cZ).1:Int);bif(z2==65533)then(match sub a0 (cZ:Int) (Aaa a0:Int)with|O=>O|J y3=>(gd (okR [.int .i32,.int .i64] (Sb y3)) (let z4:=(lI (gL (Sb y3) 1));bif(z4==1)then(k1 x5 (cZ:Int))else(gd (A3 (Aaa x5+1) 4) (k2 (x5++[z2]) z1)))))else(gd (A3 (Aaa x5+1) 4) (k2 (x5++[z2]) z1)))else(k3 x5 cZ)
def B3v(nn:Nat)(a0:rg):Gq:=To nn a0 nn [] 0 (λz1 z2=>J (.tup [.sl .i32 z1 (J 1),.int .i64 z2])) (λz3 z4=>J (.tup [.sl .i32 z3 (J 1),.int .i64 (Aaa a0:Int)]))
def On(a0:rg):Gq:=B3v NN a0
def ZW(a0:Gp)(a1:Int):Gq:=match idx a0 a1 with|O=>O|J y1=>(bif(y1==10)then(J (.one (.bool Z)))else(bif(y1==13)then(bif((Aab .i64 (a1+1))==(Aaa a0:Int))==V then(match idx a0 (Aab .i64 (a1+1))with|O=>O|J y2=>(J (.one (.bool (y2 !=10)))))else(J (.one (.bool Z))))else(J (.one (.bool V)))))
def Wu{R:Type}(nn:Nat)(a0:Gp):Nat->List Gp->Gp->Int->Int->(List Gp->Gp->Int->Int->Bool->Option R)->Option R
 |0,_,_,_,_,_=>O
 |n+1,x3,x4,x8,x9,k2=>let k1:=λx3 x4 x8 x9=>Wu nn a0 n x3 x4 x8 x9 k2;let z1:=decide (x9<x8);bif z1 then(let j2:List Gp->Gp->Int->Int->Option R:=λz3 z4 z5 z6=>k1 z3 z4 z5 (Aab .i64 (z6+1));match idx a0 x9 with|O=>O|J y7=>(gd (okR [.bool] (ZW a0 x9)) (bif(lB (gL (ZW a0 x9) 0))then(gd (A3 (Aaa x3+1) 24) (j2 (x3++[x4]) [] x8 x9))else(bif(y7==13)then(k1 x3 x4 x8 (Aab .i64 (x9+1)))else(gd (A3 (Aaa x4+1) 4) (j2 x3 (x4++[y7]) x8 x9))))))else(k2 x3 x4 x8 x9 z1)
def B1x(nn:Nat)(a0:Gp):Gq:=Wu nn a0 nn [] [] (Aaa a0:Int) 0 (λz1 z2 z3 z4 z5=>gd (A3 (Aaa z1+1) 24) (J (.one (.sl .rs (z1++[z2]) (J 1)))))
def ZX(a0:Gp):Gq:=B1x NN a0
def Oo(a0:Int):Gq:=bif(a0==9)==V then(J (.one (.bool (a0==32))))else(J (.one (.bool Z)))
def Wv{R:Type}(nn:Nat)(a0:Gp):Nat->Int->(Int->Bool->Option R)->Option R
 |0,_,_=>O
 |n+1,x3,k2=>let k1:=λx3=>Wv nn a0 n x3 k2;let j1:Int->Bool->Option R:=λz2 z3=>k1 (Aab .i64 (z2+1));bif(decide (x3<(Aaa a0:Int)))==Z then(match idx a0 x3 with|O=>O|J y4=>(gd (okR [.bool] (Oo y4)) (let z5:=(lB (gL (Oo y4) 0));bif z5 then(j1 x3 z5)else(k2 x3 z5))))else(k2 x3 V)
def B7l(nn:Nat)(a0:Gp):Gq:=Wv nn a0 nn 0 (λz1 z2=>J (.one (.int .i64 z1)))
def B3p(a0:Gp):Gq:=B7l NN a0
def Oq(a0:Gp):Gq:=gd (okR [.int .i64] (B3p a0)) (J (.one (.bool ((lI (gL (B3p a0) 0))==(Aaa a0:Int)))))
def Tp{R:Type}(nn:Nat)(a0:List Gp):Nat->Int->Int->Option R->(Int->Int->Bool->Option R)->Option R
 |0,_,_,_,_=>O
 |n+1,gr,fw,k1,k3=>let k2:=λgr fw=>Tp nn a0 n gr fw k1 k3;let z1:=decide (fw<gr);bif z1 then(let j2:Int->Int->Bool->Option R:=λz3 z4 z5=>k2 z3 (Aab .i64 (z4+1));match idx a0 fw with|O=>O|J y6=>(gd (okR [.bool] (Oq y6)) (bif(!(lB (gL (Oq y6) 0)))==Z then(match idx y6 0 with|O=>O|J y7=>(gd (okR [.bool] (Oo y7)) (let z8:= !(lB (gL (Oo y7) 0));bif z8 then k1 else(j2 gr fw z8))))else(j2 gr fw V))))else(k3 gr fw z1)
def B3M(nn:Nat)(a0:List Gp):Gq:=let j1:Bool->Gq:=λz2=>let z3:=(Aaa a0:Int)==1;bif z3 then(J (.one (.bool Z)))else(Tp nn a0 nn (Aaa a0:Int) 0 (J (.one (.bool Z))) (λz4 z5 z6=>J (.one (.bool V))));match idx a0 0 with|O=>O|J y7=>(gd (okR [.bool] (Oq y7)) (bif(lB (gL (Oq y7) 0))==V then(match idx a0 (Aab .i64 ((Aaa a0:Int) - 1))with|O=>O|J y8=>(gd (okR [.bool] (Oq y8)) (let z9:=(lB (gL (Oq y8) 0));bif z9 then(J (.one (.bool V)))else(j1 z9))))else(J (.one (.bool V)))))
def ZY(a0:List Gp):Gq:=B3M NN a0
def ZZ(a0:Int):Gq:=let j1:Gq:=J (.one (.bool V));bif(decide (0<=a0))==Z then(bif(decide (a0<55296))then(J (.one (.bool Z)))else(bif(decide (57343<a0))==Z then(bif(decide (a0<=1114111))then(J (.one (.bool Z)))else j1)else j1))else(bif(decide (57343<a0))==Z then(bif(decide (a0<=1114111))then(J (.one (.bool Z)))else j1)else j1)
def Za(a0:Gp)(a1:Int):Gq:=let z1:=Aab .u32 a1;bif(decide (z1<=2047))then(gd (A3 (Aaa a0+2) 1) (J (.one (.sl .u8 (a0++[bits .or .u8 192 (Aab .u8 (a1 / 2^(Aad 6))),bits .or .u8 128 (bits .and .u8 (Aab .u8 a1) 63)]) (J 0)))))else(let j2:Int->Bool->Gq:=λz3 z4=>bif z4 then(gd (A3 (Aaa a0+3) 1) (J (.one (.sl .u8 (a0++[bits .or .u8 224 (Aab .u8 (a1 / 2^(Aad 12))),bits .or .u8 128 (bits .and .u8 (Aab .u8 (a1 / 2^(Aad 6))) 63),bits .or .u8 128 (bits .and .u8 (Aab .u8 a1) 63)]) (J 0)))))else(bif(decide (z3>65535))==Z then(bif(decide (z3<=1114111))then(gd (A3 (Aaa a0+4) 1) (J (.one (.sl .u8 (a0++[bits .or .u8 240 (Aab .u8 (a1 / 2^(Aad 18))),bits .or .u8 128 (bits .and .u8 (Aab .u8 (a1 / 2^(Aad 12))) 63),bits .or .u8 128 (bits .and .u8 (Aab .u8 (a1 / 2^(Aad 6))) 63),bits .or .u8 128 (bits .and .u8 (Aab .u8 a1) 63)]) (J 0)))))else(gd (A3 (Aaa a0+3) 1) (J (.one (.sl .u8 (a0++[239,191,189]) (J 0))))))else(gd (A3 (Aaa a0+3) 1) (J (.one (.sl .u8 (a0++[239,191,189]) (J 0))))));let z5:=decide (z1<55296);bif z5 then(j2 z1 z5)else(bif(decide (57343<z1))==Z then(j2 z1 (decide (z1<=65535)))else(j2 z1 V)))
def Zb(a0:Gp)(a1:Int):Gq:=bif(decide ((Aab .u32 a1)<=127))then(gd (A3 (Aaa a0+1) 1) (J (.one (.sl .u8 (a0++[Aab .u8 a1]) (J 0)))))else(gd (okR [.sl .u8 (J 0)] (Za a0 a1)) (J (.one (.sl .u8 (B3 (gL (Za a0 a1) 0)) (J 0)))))
def Ww{R:Type}(nn:Nat)(a0:Gp):Nat->Gp->Int->Int->Option R->(Gp->Int->Int->Bool->Option R)->Option R
 |0,_,_,_,_,_=>O
 |n+1,x4,x8,x9,k1,k3=>let k2:=λx4 x8 x9=>Ww nn a0 n x4 x8 x9 k1 k3;let z1:=decide (x9<x8);bif z1 then(match idx a0 x9 with|O=>O|J y2=>(gd (okR [.bool] (ZZ y2)) (let z3:= !(lB (gL (ZZ y2) 0));bif z3 then k1 else(gd (okR [.sl .u8 (J 0)] (Zb x4 y2)) (k2 (B3 (gL (Zb x4 y2) 0)) x8 (Aab .i64 (x9+1)))))))else(k3 x4 x8 x9 z1)
def B2A(nn:Nat)(a0:Gp):Gq:=Ww nn a0 nn [] (Aaa a0:Int) 0 (J (.tup [.str [],.bool V])) (λz1 z2 z3 z4=>J (.tup [.str (List.map (λ(n:Int)=>Aau n.toNat) z1),.bool Z]))
def Qu(a0:Gp):Gq:=B2A NN a0
def Zc(a0:Int):Gq:=bif(decide (a0<32))then(bif(a0==9)==V then(bif(a0==10)==V then(J (.one (.bool (a0==13))))else(J (.one (.bool Z))))else(J (.one (.bool Z))))else(bif(decide (a0<=65535))==Z then(bif(decide (a0<55296))==V then(J (.one (.bool (decide (a0>=57344)))))else(J (.one (.bool Z))))else(J (.one (.bool V))))
def Wx{R:Type}(nn:Nat)(a0:rg):Nat->Gp->Gp->Int->Int->Option R->(Gp->Gp->Int->Int->Bool->Option R)->Option R
 |0,_,_,_,_,_,_=>O
 |n+1,x4,ij,lV,fv,k1,k3=>let k2:=λx4 ij lV fv=>Wx nn a0 n x4 ij lV fv k1 k3;let z1:=decide (fv<lV);bif z1 then(let j2:Gp->Gp->Int->Int->Bool->Option R:=λz3 z4 z5 z6 z7=>k2 z3 z4 z5 (Aab .i64 (z6+1));match idx ij fv with|O=>O|J y8=>(gd (okR [.bool] (Zc y8)) (bif(!(lB (gL (Zc y8) 0)))==V then(bif(y8==13)then k1 else(j2 x4 ij lV fv (y8==13)))else k1)))else(k3 x4 ij lV fv z1)
def Wy(a0:Gp):Gq:=bif(decide ((Aaa a0:Int)>=3))==Z then(match idx a0 0 with|O=>O|J y1=>(bif(y1==34)==Z then(match idx a0 1 with|O=>O|J y2=>(bif(y2==34)==Z then(match idx a0 2 with|O=>O|J y3=>(J (.one (.bool (y3==34)))))else(J (.one (.bool V)))))else(J (.one (.bool V)))))else(J (.one (.bool V)))
def Qv{R:Type}(nn:Nat)(a0:rg):Nat->Gp->Gp->Int->(Gp->Gp->Int->Bool->Option R)->Option R
 |0,_,_,_,_=>O
 |n+1,x4,x9,aI,k2=>let k1:=λx4 x9 aI=>Qv nn a0 n x4 x9 aI k2;let z1:=decide (aI<(Aaa x4:Int));bif z1 then(let j2:Gp->Gp->Int->Option R:=λz3 z4 z5=>k1 z3 z4 (Aab .i64 (z5+1));match sub x4 aI (Aaa x4:Int)with|O=>O|J y6=>(gd (okR [.bool] (Wy y6)) (let z7:=(lB (gL (Wy y6) 0));bif z7 then(gd (A3 (Aaa x9+4) 4) (j2 x4 (x9++[92,34,34,34]) (Aab .i64 (aI+2))))else(match idx x4 aI with|O=>O|J y8=>(gd (A3 (Aaa x9+1) 4) (j2 x4 (x9++[y8]) aI))))))else(k2 x4 x9 aI z1)
def B09(nn:Nat)(a0:rg):Gq:=bif(a0==[])then(J (.tup [.str [34,34,34,34,34,34],.bool Z]))else(gd (okR [.sl .i32 (J 1),.int .i64] (On a0)) (let z1:=(lI (gL (On a0) 1));let z2:=decide (z1<(Aaa a0:Int));bif z2 then(J (.tup [.str [],.bool V]))else(let z3:=(V5 (gL (On a0) 0));Wx nn a0 nn z3 z3 (Aaa z3:Int) 0 (J (.tup [.str [],.bool V])) (λz4 z5 z6 z7 z8=>gd (okR [.sl .rs (J 1)] (ZX z4)) (let z9:=(B1r (gL (ZX z4) 0));gd (okR [.bool] (ZY z9)) (let bP:= !(lB (gL (ZY z9) 0));bif bP then(J (.tup [.str [],.bool V]))else(let pz:Gp->Gp->Gq:=λcr cR=>Qv nn a0 nn cr cR 0 (λcM cH dD fu=>gd (A3 (Aaa cH+4) 4) (let mN:=Qu (cH++[10,34,34,34]);gd (okR [.str,.bool] mN) (J (.tup [.str (lS (gL mN 0)),.bool Z]))));let yf:Gp->Gp->Bool->Gq:=λz20 z21 fL=>Qv nn a0 nn z20 z21 0 (λfD jE ig lc=>gd (A3 (Aaa jE+4) 4) (let kj:=Qu (jE++[10,34,34,34]);gd (okR [.str,.bool] kj) (J (.tup [.str (lS (gL kj 0)),.bool Z]))));bif(decide ((Aaa z9:Int)>1))==V then(match idx z4 0 with|O=>O|J uA=>(gd (okR [.bool] (Oo uA)) (let lR:= !(lB (gL (Oo uA) 0));bif lR then(gd (A3 (Aaa [34,34,34]+1) 4) (pz z4 ([34,34,34]++[10])))else(yf z4 [34,34,34] lR))))else(gd (A3 (Aaa [34,34,34]+1) 4) (pz z4 ([34,34,34]++[10]))))))))))
def Zd(a0:rg):Gq:=B09 NN a0
def B5u:KY
 |[.str a0]=>pR [.str,.bool] (Zd a0)
 |_=>O
end Go.Aev
namespace Go.Aev
def B5Y(c:Int):∃b,Oo c=J (.one (.bool b)):=by
 unfold Oo;cases ((c==9)==V)<;>exact⟨_,rfl⟩
def D1O(c:Int):∃b,Zc c=J (.one (.bool b)):=by
 let P:Gq->Prop:=λo=>∃b,o=J (.one (.bool b))
 show P _;unfold Zc
 repeat' first|exact⟨_,rfl⟩|refine A7 (P:=P) (λ_=>?_) λ_=>?_
def C5V(c:Int):∃b,ZZ c=J (.one (.bool b)):=by
 let P:Gq->Prop:=λo=>∃b,o=J (.one (.bool b))
 show P _;unfold ZZ
 repeat' first|exact⟨_,rfl⟩|refine A7 (P:=P) (λ_=>?_) λ_=>?_
def D6S{l:Gp}{i:Nat}(hs:l.length<=1099511627776)(hi:i<l.length):∃b,ZW l (i:Int)=J (.one (.bool b)):=by
 let P:Gq->Prop:=λo=>∃b,o=J (.one (.bool b))
 obtain⟨y,hy,_⟩:=E3 hi;show P _;simp only[ZW,B1,hy,wk1 (i:=i) FK];refine A7 (P:=P) (λ_=>⟨_,rfl⟩) λ_=>A7 (P:=P) (λ_=>A7 (P:=P) (λh=>?_) λ_=>⟨_,rfl⟩) λ_=>⟨_,rfl⟩;have h1:¬((i+1:Nat):Int)=(l.length:Int):=by simpa using h
 obtain⟨z,hz,_⟩:=E3 (l:=l) (i:=i+1) FK;simp only[hz];exact⟨_,rfl⟩
section
variable {R:Type}{P:Option R->Prop}
def B81{nn:Nat}{l:Gp}{k2:Int->Bool->Option R}(hs:l.length<=1099511627776)(h2:∀(j:Nat) b,j<=l.length->P (k2 (j:Int) b)):∀(n i:Nat),i<=l.length->l.length<n+i->P (Wv nn l n (i:Int) k2)
 |0,i,a1,a2=>FK
 |n+1,i,a1,a2=>by
  unfold Wv;by_cases hi:i<l.length;obtain⟨y,hy,_⟩:=E3 hi;obtain⟨b,e⟩:=B5Y y;simp only[gd,GG (FK:(i:Int)<(l.length:Int)),bT,GD,B1,hy,e,oB1,gB1,E7 (i:=i) FK];exact A7 (P:=P) (λ_=>B81 hs h2 n (i+1) FK FK) λ_=>h2 i _ a1
  simp only[gd,GH (FK:¬(i:Int)<(l.length:Int)),bF,GF];exact h2 i _ a1
end
def B5Z{l:Gp}(hs:l.length<=1099511627776):∃b,Oq l=J (.one (.bool b))/\(b=V->0<l.length):=by
 let P:Gq->Prop:=λo=>∃j:Nat,o=J (.one (.int .i64 (j:Int)))/\j<=l.length
 obtain⟨j,e,hj⟩:P (B3p l):=B81 (P:=P) hs (λj b h=>⟨j,rfl,h⟩) NN 0 FK (by rw[NNv];omega);simp only[Oq,gd,e,oI,gI,GD];refine⟨_,rfl,λh=>?_⟩;have h1:¬(j:Int)=(l.length:Int):=by simpa using h
 omega
section
variable {R:Type}{P:Option R->Prop}
def B1V{nn:Nat}{l:Gp}{k2:List Gp->Gp->Int->Int->Bool->Option R}(hs:l.length<=1099511627776 / 2)(h2:∀x y a b c,x.length<=l.length->tl x+y.length<=l.length->P (k2 x y a b c)):
  ∀(n i:Nat)(x:List Gp)(y:Gp),i<=l.length->l.length<n+i->x.length<=i->tl x+y.length<=i->P (Wu nn l n x y (l.length:Int) (i:Int) k2)
 |0,i,x,y,a1,a2,a3,a4=>FK
 |n+1,i,x,y,a1,a2,a3,a4=>by
  unfold Wu;by_cases hi:i<l.length;obtain⟨c,hc,_⟩:=E3 hi;obtain⟨b,e⟩:=D6S (l:=l) FK hi;simp only[gd,GG (FK:(i:Int)<(l.length:Int)),GD,B1,hc,e,oB1,gB1,E7 (i:=i) FK,ZL (n:=x.length+1) FK,O1 (n:=y.length+1) FK];refine A7 (P:=P) (λ_=>?_) λ_=>A7 (P:=P) (λ_=>?_) λ_=>?_
  exact B1V hs h2 n (i+1) _ _ FK FK GQ (by rw[Qm,Wd];simp;omega);exact B1V hs h2 n (i+1) _ _ FK FK FK FK;exact B1V hs h2 n (i+1) _ _ FK FK FK GQ;simp only[GH (FK:¬(i:Int)<(l.length:Int)),GF];exact h2 _ _ _ _ _ FK FK
def B8q{nn:Nat}{l:List Gp}{k1:Option R}{k3:Int->Int->Bool->Option R}(hs:l.length<=1099511627776)(hl:∀y∈l,y.length<=1099511627776)(h1:P k1)(h3:∀a b c,P (k3 a b c)):
  ∀(n i:Nat),i<=l.length->l.length<n+i->P (Tp nn l n (l.length:Int) (i:Int) k1 k3)
 |0,i,a1,a2=>FK
 |n+1,i,a1,a2=>by
  unfold Tp;by_cases hi:i<l.length;obtain⟨y,hy,hm⟩:=E3 hi;obtain⟨b,e,hb⟩:=B5Z (hl y hm);simp only[gd,GG (FK:(i:Int)<(l.length:Int)),GD,B1,hy,e,oB1,gB1,E7 (i:=i) FK];refine A7 (P:=P) (λh=>?_) λ_=>B8q hs hl h1 h3 n (i+1) FK FK;have h0:b=V:=by simpa using h
  obtain⟨c,hc,_⟩:=E3 (l:=y) (i:=0) (hb h0);obtain⟨t,e2⟩:=B5Y c;have il:idx y 0=J c:=(B1 y 0).trans hc;simp only[il,e2,oB1,gB1,GD];exact A7 (P:=P) (λ_=>h1) λ_=>B8q hs hl h1 h3 n (i+1) FK FK
  simp only[GH (FK:¬(i:Int)<(l.length:Int)),GF];exact h3 _ _ _
end
def D1o{l:Gp}(hs:l.length<=8400000):∃x,ZX l=J (.one (.sl .rs x (J 1)))/\1<=x.length/\x.length<=l.length+1/\tl x<=l.length:=by
 let P:Gq->Prop:=λo=>∃x,o=J (.one (.sl .rs x (J 1)))/\1<=x.length/\x.length<=l.length+1/\tl x<=l.length
 show P _;unfold ZX B1x;refine B1V (P:=P) FK (λx y a b c h1 h2=>?_) NN 0 [] [] FK (by rw[NNv];omega) GN (by simp[tl]);simp only[gd,ZL (n:=x.length+1) FK,GD];exact⟨_,rfl,GN,GQ,by rw[Qm,Wd];exact h2⟩
def D2d{l:List Gp}(h1:1<=l.length)(hs:l.length<=1099511627776)(hl:∀y∈l,y.length<=1099511627776):∃b,ZY l=J (.one (.bool b)):=by
 let P:Gq->Prop:=λo=>∃b,o=J (.one (.bool b))
 obtain⟨y,hy,hm⟩:=E3 (l:=l) (i:=0) FK;obtain⟨z,hz,fq⟩:=E3 (l:=l) (i:=l.length - 1) FK;obtain⟨b,e,_⟩:=B5Z (hl y hm);obtain⟨c,e2,_⟩:=B5Z (hl z fq);have uo:idx l 0=J y:=(B1 l 0).trans hy;have w1:Aab .i64 ((l.length:Int) - 1)=((l.length - 1:Nat):Int):=by rw[P0 FK FK];omega
 have jB:P (Tp NN l NN (l.length:Int) 0 (J (.one (.bool Z))) λz4 z5 z6=>J (.one (.bool V))):=B8q (P:=P) hs hl ⟨_,rfl⟩ (λ_ _ _=>⟨_,rfl⟩) NN 0 FK (by rw[NNv];omega);show P _;simp only[ZY,B3M,gd,uo,e,e2,w1,B1,hz,oB1,gB1,GD]
 repeat' first|exact jB|exact⟨_,rfl⟩|refine A7 (P:=P) (λ_=>?_) λ_=>?_
def D7p(l:Gp):∃b,Wy l=J (.one (.bool b))/\(b=Z->3<=l.length):=by
 let P:Gq->Prop:=λo=>∃b,o=J (.one (.bool b))/\(b=Z->3<=l.length)
 have no:P (J (.one (.bool V))):=⟨V,rfl,λh=>by cases h⟩;show P _;by_cases h:3<=l.length
 ·obtain⟨y,h0,_⟩:=E3 (l:=l) (i:=0) FK;obtain⟨y1,h1,_⟩:=E3 (l:=l) (i:=1) FK;obtain⟨y2,h2,_⟩:=E3 (l:=l) (i:=2) FK;have g0:idx l 0=J y:=(B1 l 0).trans h0;have g1:idx l 1=J y1:=(B1 l 1).trans h1;have g2:idx l 2=J y2:=(B1 l 2).trans h2;simp only[Wy,g0,g1,g2]
  repeat' first|exact no|exact⟨_,rfl,λ_=>h⟩|refine A7 (P:=P) (λ_=>?_) λ_=>?_
 simp only[Wy,GH (FK:¬(l.length:Int)>=3),bF,GF];exact no
def ew(c:Int):Nat:=if 0<=c/\c<128 then 1 else 4
def sew(l:Gp):Nat:=(l.map ew).sum
def Tq(x y:Gp):sew (x++y)=sew x+sew y:=by simp[sew]
def Ze(c:Int):1<=ew c/\ew c<=4:=by unfold ew;split<;>omega
def B1o(c:Int):sew [c]=ew c:=by simp[sew]
def Wz:∀l:Gp,l.length<=sew l/\sew l<=4*l.length
 |[]=>by simp[sew]
 |c::r=>by
  have:=Wz r;have:=Ze c;rw[show sew (c::r)=ew c+sew r by simp[sew],Fr];omega
def oU0(l:Gp):okR [.sl .u8 (J 0)] (J (.one (.sl .u8 l (J 0))):Gq)=Z:=rfl
def gU0(l:Gp):B3 (gL (J (.one (.sl .u8 l (J 0))):Gq) 0)=l:=rfl
def C9a{a:Gp}(hs:a.length<=1099511627776)(c:Int):∃u,Zb a c=J (.one (.sl .u8 u (J 0)))/\u.length<=a.length+ew c:=by
 let P:Gq->Prop:=λo=>∃u,o=J (.one (.sl .u8 u (J 0)))/\u.length<=a.length+4
 have r:∀k,k<=4->A3 (a.length+k) 1=Z:=λk hk=>B8S (by unfold MB;omega);obtain⟨u,e,hu⟩:P (Za a c):=by
  show P _;simp only[Za,gd,r 2 FK,r 3 FK,r 4 FK,GD]
  repeat' first|exact⟨_,rfl,GN⟩|refine A7 (P:=P) (λ_=>?_) λ_=>?_
 have he:=Ze c;simp only[Zb,gd,r 1 FK,e,oU0,gU0,GD];cases h:decide (Aab .u32 c<=127)with
 |true=>exact⟨_,rfl,GQ⟩
 |false=>
  refine⟨u,rfl,?_⟩;have h1:=of_decide_eq_false h;have:ew c=4:=by
   unfold ew;rw[GI];rintro⟨h2,h3⟩;exact h1 (by rw[Go.IntWalk.u32_in c ⟨h2,FK⟩];omega)
  omega
section
variable {R:Type}{P:Option R->Prop}
def D0c{l:Gp}{i:Nat}{y:Int}(h:l[i]?=J y):sew (l.take (i+1))=sew (l.take i)+ew y:=by
 have hi:=LM h;rw[GE hi]at h;cases h;rw[Jg hi,Tq,B1o]
def C4i{nn:Nat}{l:Gp}{k1:Option R}{k3:Gp->Int->Int->Bool->Option R}(hs:l.length<=1099511627776 / 8)(h1:P k1)(h3:∀x a b c,x.length<=sew l->P (k3 x a b c)):
  ∀(n i:Nat)(x:Gp),i<=l.length->l.length<n+i->x.length<=sew (l.take i)->P (Ww nn l n x (l.length:Int) (i:Int) k1 k3)
 |0,i,x,a1,a2,a3=>FK
 |n+1,i,x,a1,a2,a3=>by
  unfold Ww;by_cases hi:i<l.length;obtain⟨c,hc,_⟩:=E3 hi;obtain⟨b,e⟩:=C5V c;have h4:=(Wz (l.take i)).2;have h5:(l.take i).length<=l.length:=by rw[IK];omega
  obtain⟨u,e2,hu⟩:=C9a (a:=x) FK c;have tI:=D0c hc;simp only[gd,GG (FK:(i:Int)<(l.length:Int)),GD,B1,hc,e,e2,oB1,gB1,oU0,gU0,E7 (i:=i) FK];exact A7 (P:=P) (λ_=>h1) λ_=>C4i hs h1 h3 n (i+1) _ FK FK FK
  have bO:i=l.length:=FK;subst bO;simp only[GH (FK:¬((l.length:Nat):Int)<(l.length:Int)),GF];rw[JQ]at a3;exact h3 _ _ _ _ a3
end
def C47{l:Gp}(hs:l.length<=1099511627776 / 8):∃t b,Qu l=J (.tup [.str t,.bool b])/\t.length<=sew l:=by
 let P:Gq->Prop:=λo=>∃t b,o=J (.tup [.str t,.bool b])/\t.length<=sew l
 show P _;unfold Qu B2A;exact C4i (P:=P) hs ⟨_,_,rfl,GN⟩ (λx a b c h=>⟨_,_,rfl,by rw[HR];exact h⟩) NN 0 [] FK (by rw[NNv];omega) GN
end Go.Aev
namespace Go.Aev
open Go.Proofs
def Tr(a0:Int):Gq:=let j1:Gq:=let z2:=Aab .i32 (a0 - 65536);J (.tup [.int .i32 (Aab .i32 (55296+(z2 / 2^(Aad 10)))),.int .i32 (Aab .i32 (56320+(bits .and .i32 z2 1023))),.bool Z]);bif(decide (a0<65536))==V then(bif(decide (a0>1114111))then(J (.tup [.int .i32 0,.int .i32 0,.bool V]))else j1)else(J (.tup [.int .i32 0,.int .i32 0,.bool V]))
def Ot{R:Type}(nn:Nat)(a0:Gp)(a1:Int):Nat->Gp->Int->(Gp->Int->Bool->Option R)->Option R
 |0,_,_,_=>O
 |n+1,x0,x5,k2=>let k1:=λx0 x5=>Ot nn a0 a1 n x0 x5 k2;let z1:=decide (x5>=0);bif z1 then(gd (decide (0<=x5)&&decide (x5<=31)&&decide (Aay=Aay)) (match idx [48,49,50,51,52,53,54,55,56,57,65,66,67,68,69,70] (bits .and .i32 (a1 / 2^(Aad x5)) 15)with|O=>O|J y2=>(gd (A3 (Aaa x0+1) 4) (k1 (x0++[Aab .i32 (Aao y2:Int)]) (Aab .i64 (x5 - 4))))))else(k2 x0 x5 z1)
def B2n(nn:Nat)(a0:Gp)(a1:Int):Gq:=gd (A3 (Aaa a0+2) 4) (Ot nn a0 a1 nn (a0++[92,117]) 12 (λz1 z2 z3=>J (.one (.sl .i32 z1 (J 0)))))
def NZ(a0:Gp)(a1:Int):Gq:=B2n NN a0 a1
def Zf(a0:Gp)(a1:Int):Gq:=let j1:Gq:=gd (okR [.int .i32,.int .i32,.bool] (Tr a1)) (let z2:=(lI (gL (Tr a1) 0));let z3:=(lI (gL (Tr a1) 1));bif(lB (gL (Tr a1) 2))then(gd (okR [.sl .i32 (J 0)] (NZ a0 z2)) (let r4:=NZ (V5 (gL (NZ a0 z2) 0)) z3;gd (okR [.sl .i32 (J 0)] r4) (J (.one (.sl .i32 (V5 (gL r4 0)) (J 0))))))else(let j5:Gq:=gd (A3 (Aaa a0+1) 4) (J (.one (.sl .i32 (a0++[a1]) (J 0))));bif(decide (a1<32))==V then(bif(a1==127)then(gd (okR [.sl .i32 (J 0)] (NZ a0 a1)) (J (.one (.sl .i32 (V5 (gL (NZ a0 a1) 0)) (J 0)))))else j5)else(gd (okR [.sl .i32 (J 0)] (NZ a0 a1)) (J (.one (.sl .i32 (V5 (gL (NZ a0 a1) 0)) (J 0)))))));let j6:Bool->Gq:=λz7=>bif z7 then(gd (A3 (Aaa a0+2) 4) (J (.one (.sl .i32 (a0++[92,a1]) (J 0)))))else(bif(a1==8)then(gd (A3 (Aaa a0+2) 4) (J (.one (.sl .i32 (a0++[92,98]) (J 0)))))else(bif(a1==9)then(gd (A3 (Aaa a0+2) 4) (J (.one (.sl .i32 (a0++[92,116]) (J 0)))))else(bif(a1==10)then(gd (A3 (Aaa a0+2) 4) (J (.one (.sl .i32 (a0++[92,110]) (J 0)))))else(bif(a1==12)then(gd (A3 (Aaa a0+2) 4) (J (.one (.sl .i32 (a0++[92,102]) (J 0)))))else(bif(a1==13)then(gd (A3 (Aaa a0+2) 4) (J (.one (.sl .i32 (a0++[92,114]) (J 0)))))else j1)))));bif(a1==34)then(j6 (a1==34))else(j6 (a1==92))
def XA{R:Type}(nn:Nat)(a0:rg):Nat->Gp->Gp->Int->Int->(Gp->Gp->Int->Int->Bool->Option R)->Option R
 |0,_,_,_,_,_=>O
 |n+1,x6,nL,gr,fw,k2=>let k1:=λx6 nL gr fw=>XA nn a0 n x6 nL gr fw k2;let z1:=decide (fw<gr);bif z1 then(match idx nL fw with|O=>O|J y2=>(gd (okR [.sl .i32 (J 0)] (Zf x6 y2)) (k1 (V5 (gL (Zf x6 y2) 0)) nL gr (Aab .i64 (fw+1)))))else(k2 x6 nL gr fw z1)
def B3C(nn:Nat)(a0:rg):Gq:=gd (okR [.sl .i32 (J 1),.int .i64] (On a0)) (let z1:=(lI (gL (On a0) 1));let z2:=decide (z1<(Aaa a0:Int));bif z2 then(J (.tup [.str [],.int .i64 1]))else(let z3:=(V5 (gL (On a0) 0));XA nn a0 nn [34] z3 (Aaa z3:Int) 0 (λz4 z5 z6 z7 z8=>gd (A3 (Aaa z4+1) 4) (let r9:=Qu (z4++[34]);gd (okR [.str,.bool] r9) (J (.tup [.str (lS (gL r9 0)),.int .i64 0]))))))
def Zg(a0:rg):Gq:=B3C NN a0
def B5K:KY
 |[.str a0]=>pR [.str,.int .i64] (Zg a0)
 |_=>O
def E86:Env Ty6 A2:=mkE [(155,B5u),(156,B5K)] [] noD 22 [] 0 [] []
def Qw(a0:Bool)(a1:rg):Gq:=bif a0 then(gd (okR [.str,.bool] (Zd a1)) (J (.one (.str (lS (gL (Zd a1) 0))))))else(gd (okR [.str,.int .i64] (Zg a1)) (J (.one (.str (lS (gL (Zg a1) 0))))))
def Zh:KY
 |[.bool a0,.str a1]=>pR [.str] (Qw a0 a1)
 |_=>O
def D1y:Env Ty6 A2:=mkE [] [(27,Kk)] noD 9 [] 1 [] []
def Na(a1:Int)(aa:Gp):Gr:=bif(decide (a1>0))then(let r1:=Kc [[44,32]] aa;gd (okB [] kP r1) (J ([],[[.ptr 900000 A9,.sl .u8 (B3 (gC r1 0 1)) (J 92000001)]])))else(J ([],[[.ptr 900000 A9,.sl .u8 aa (J 92000001)]]))
def Ts:Ka
 |[.ptr d0 o0,.int .i64 a1],[[.ptr p0 q0,.sl .u8 aa (J aO)]]=>bif bq d0 o0&&pq p0 q0&&(Aac aO 92000001)then pB [] kP (Na a1 aa)else O
 |_,_=>O
def B0W(g:LitT->Gp->Gr):Ka
 |[.ptr d0 o0,.agg .lit a1],[[.ptr p0 q0,.sl .u8 aa (J aO)]]=>bif bq d0 o0&&pq p0 q0&&(Aac aO 92000001)then pB [] kP (g a1 aa)else O
 |_,_=>O
def E44(fE:LitT->Gp->Gr):Env Ty6 A2:=mkE [(86,Zh)] [(27,Kk),(44,B0W fE),(101,Ts)] (lkR [(0,1,1),(0,1000105,1),(0,1000107,1),(1,8,1),(1,1000105,1),(1,1000107,1),(2,11,1),(2,1000105,1),(2,1000107,1),(3,3,1),(3,9,2),(3,12,5),(3,1000103,1),(3,1000105,1),(3,1000107,1),(4,10,1),(4,18,1),(4,1000105,1),(4,1000107,1),(5,19,1),(5,1000105,1),(5,1000107,1),(6,20,1),(6,1000105,1),(6,1000107,1),(7,21,1),(7,1000105,1),(7,1000107,1),(8,3,1),(8,9,1),(8,17,1),(8,22,5),(8,1000103,1),(8,1000105,1),(8,1000107,1),(9,17,1),(9,28,1),(9,1000105,1),(9,1000107,1),(10,3,1),(10,9,1),(10,27,1),(10,29,3),(10,1000103,1),(10,1000105,1),(10,1000107,1),(11,27,1),(11,33,1),(11,1000105,1),(11,1000107,1),(12,3,1),(12,9,1),(12,32,1),(12,34,8),(12,1000103,1),(12,1000105,1),(12,1000107,1),(13,32,1),(13,43,1),(13,1000105,1),(13,1000107,1),(14,9,1),(14,42,1),(14,44,3),(14,1000105,1),(14,1000107,1),(15,3,1),(15,47,1),(15,1000103,1),(15,1000105,1),(15,1000107,1),(16,1000103,1),(16,1000105,1),(16,1000107,1),(17,51,4),(17,1000103,1),(17,1000107,1),(18,4,1),(18,55,3),(18,1000103,1),(18,1000107,1),(19,5,1),(19,58,3),(19,1000103,1),(19,1000105,1),(19,1000107,1),(20,61,1),(20,1000103,1),(20,1000105,1),(20,1000107,1),(21,48,4),(21,62,3),(21,1000103,1),(21,1000105,1),(21,1000107,1),(22,9,1),(22,42,1),(22,66,1),(22,1000105,1),(22,1000107,1),(23,65,1),(23,67,3),(23,1000105,1),(23,1000107,1),(24,3,1),(24,70,1),(24,1000103,1),(24,1000105,1),(24,1000107,1),(25,1000103,1),(25,1000105,1),(25,1000107,1),(26,74,4),(26,1000103,1),(26,1000105,1),(27,6,1),(27,78,3),(27,1000103,1),(27,1000105,1),(28,81,5),(28,1000103,1),(28,1000105,1),(29,7,1),(29,86,4),(29,1000103,1),(29,1000105,1),(29,1000107,1),(30,90,1),(30,1000103,1),(30,1000105,1),(30,1000107,1),(31,71,4),(31,91,3),(31,1000103,1),(31,1000105,1),(31,1000107,1),(10016,1000103,1),(10016,1000105,1),(10016,1000107,1),(10025,1000103,1),(10025,1000105,1),(10025,1000107,1)]) 94 [5,7] 1 [] []
def XB{R:Type}(nn:Nat)(fE:LitT->Gp->Gr)(a1:LitT)(aa:Gp)(lW:GB)(kg ju:Int)(ac:Gp)(k1:GB->Int->Int->Gp->Option R)(k2:GB->Int->Int->Bool->Gp->Option R):Option R:=let z1:=decide (ju<kg);bif z1 then(match idx lW ju with|O=>O|J y2=>(let r5:=Na ju ac;gd (okB [] kP r5) (let z3:=(B3 (gC r5 0 1));let r4:=fE (LitT.mk y2.kind y2.text y2.block y2.items y2.fields (⟨y2.pos.line,y2.pos.col⟩:A4)) z3;gd (okB [] kP r4) (k1 lW kg (Aab .i64 (ju+1)) (B3 (gC r4 0 1))))))else(k2 lW kg ju z1 ac)
def Tt{R:Type}(nn:Nat)(fE:LitT->Gp->Gr)(a1:LitT)(aa:Gp):Nat->GB->Int->Int->Gp->(GB->Int->Int->Bool->Gp->Option R)->Option R
 |0,_,_,_,_,_=>O
 |n+1,lW,kg,ju,ac,k2=>XB nn fE a1 aa lW kg ju ac (λlW kg ju ac=>Tt nn fE a1 aa n lW kg ju ac k2) k2
def D2C{R}(nn fE a1 aa)(K:Kt R):∀n lW kg ju ac,Tt nn fE a1 aa n lW kg ju ac (λlW kg ju DW ac=>K (.exit 1) (Q7 (eB 51 DW) (pg [eL 48 .lit lW,eI 49 kg,eI 50 ju] ac)))=LP (E44 fE) nn Aaq 307195 n (pg [eL 48 .lit lW,eI 49 kg,eI 50 ju] ac) K:=λn=>n.rec (by intros;rfl) λn i=>by
 intros;rw[Tt];simp only[i];kernel_rfl
def XC{R:Type}(nn:Nat)(fE:LitT->Gp->Gr)(a1:LitT)(aa:Gp)(lX:List LfT)(lY ku:Int)(ac:Gp)(k1:List LfT->Int->Int->Gp->Option R)(k2:List LfT->Int->Int->Bool->Gp->Option R):Option R:=let z1:=decide (ku<lY);bif z1 then(match idx lX ku with|O=>O|J y2=>(let z3:=y2.value.fields;let z4:=y2.value.pos.line;let z5:=y2.value.pos.col;let cF:=Na ku ac;gd (okB [] kP cF) (let z6:=(B3 (gC cF 0 1));let r9:=Kc [y2.name,[58,32]] z6;gd (okB [] kP r9) (let z7:=(B3 (gC r9 0 1));let r8:=fE (LitT.mk y2.value.kind y2.value.text y2.value.block y2.value.items z3 (⟨z4,z5⟩:A4)) z7;gd (okB [] kP r8) (k1 lX lY (Aab .i64 (ku+1)) (B3 (gC r8 0 1)))))))else(k2 lX lY ku z1 ac)
def Tu{R:Type}(nn:Nat)(fE:LitT->Gp->Gr)(a1:LitT)(aa:Gp):Nat->List LfT->Int->Int->Gp->(List LfT->Int->Int->Bool->Gp->Option R)->Option R
 |0,_,_,_,_,_=>O
 |n+1,lX,lY,ku,ac,k2=>XC nn fE a1 aa lX lY ku ac (λlX lY ku ac=>Tu nn fE a1 aa n lX lY ku ac k2) k2
def C6R{R}(nn fE a1 aa)(K:Kt R):∀n lX lY ku ac,Tu nn fE a1 aa n lX lY ku ac (λlX lY ku DX ac=>K (.exit 3) (Q7 (eB 74 DX) (pg [eL 71 .lf lX,eI 72 lY,eI 73 ku] ac)))=LP (E44 fE) nn Aaq 1228795 n (pg [eL 71 .lf lX,eI 72 lY,eI 73 ku] ac) K:=λn=>n.rec (by intros;rfl) λn i=>by
 intros;rw[Tu];simp only[i];kernel_rfl
def Qx(nn:Nat)(fE:LitT->Gp->Gr)(a1:LitT)(aa:Gp):Gr:=bif(a1.kind==1)then(let r1:=Kc [[36],a1.text] aa;gd (okB [] kP r1) (J ([],[[.ptr 900000 A9,.sl .u8 (B3 (gC r1 0 1)) (J 92000001)]])))else(let j2:Int->Bool->Gr:=λz3 z4=>bif z4 then(let r5:=Kc [a1.text] aa;gd (okB [] kP r5) (J ([],[[.ptr 900000 A9,.sl .u8 (B3 (gC r5 0 1)) (J 92000001)]])))else(bif(z3==6)then(let r6:=Kc [[110,117,108,108]] aa;gd (okB [] kP r6) (J ([],[[.ptr 900000 A9,.sl .u8 (B3 (gC r6 0 1)) (J 92000001)]])))else(bif(z3==4)then(let r8:=Qw a1.block a1.text;gd (okR [.str] r8) (let r7:=Kc [(lS (gL r8 0))] aa;gd (okB [] kP r7) (J ([],[[.ptr 900000 A9,.sl .u8 (B3 (gC r7 0 1)) (J 92000001)]]))))else(bif(z3==8)then(let ft:=Kc [[91]] aa;gd (okB [] kP ft) (Tt nn fE a1 aa nn a1.items (Aaa a1.items:Int) 0 (B3 (gC ft 0 1)) (λz9 bP bY cr cR=>let eF:=Kc [[93]] cR;gd (okB [] kP eF) (J ([],[[.ptr 900000 A9,.sl .u8 (B3 (gC eF 0 1)) (J 92000001)]])))))else(bif(z3==9)then(let jG:=Kc [[123]] aa;gd (okB [] kP jG) (Tu nn fE a1 aa nn a1.fields (Aaa a1.fields:Int) 0 (B3 (gC jG 0 1)) (λdD fu dB eX z20=>let lZ:=Kc [[125]] z20;gd (okB [] kP lZ) (J ([],[[.ptr 900000 A9,.sl .u8 (B3 (gC lZ 0 1)) (J 92000001)]])))))else(J ([],[[.ptr 900000 A9,.sl .u8 aa (J 92000001)]]))))));bif(a1.kind==2)then(j2 a1.kind (a1.kind==2))else(bif(a1.kind==3)then(j2 a1.kind (a1.kind==3))else(bif(a1.kind==5)then(j2 a1.kind (a1.kind==5))else(j2 a1.kind (a1.kind==7)))))
def Tv(fE:LitT->Gp->Gr)(a1:LitT)(aa:Gp):Gr:=Qx NN fE a1 aa
end Go.Aev
namespace Go.Aev
def C9P{s:rg}{a b:Nat}(h1:a<=b)(h2:b<=s.length):∃l,sub s (a:Int) (b:Int)=J l:=by
 unfold sub;rw[GG FK,GG FK,GG FK];exact⟨_,rfl⟩
section
variable {R:Type}{P:Option R->Prop}
def C0h{nn:Nat}{l:rg}{k1:Gp->Int->Option R}{k3:Gp->Nat->Option R}(hs:l.length<=1099511627776)(h1:∀x (j:Nat),x.length<=l.length->j<l.length->P (k1 x (j:Int)))(h3:∀x j,x.length<=l.length->(0<l.length->0<x.length)->P (k3 x j)):
  ∀(n i:Nat)(x:Gp),0<n->(i<=l.length->l.length<n+i)->x.length<=i->(0<i->0<x.length)->x.length<=l.length->P (To nn l n x i k1 k3)
 |0,i,x,a1,a2,a3,a4,a5=>FK
 |n+1,i,x,a1,a2,a3,a4,a5=>by
  unfold To;by_cases hi:i<l.length
  ·obtain⟨y,hy⟩:=C9P (s:=l) (a:=i) (b:=l.length) FK (GU _);have hw:=Go.Lib.width_pos ⟨l.toArray⟩ i;have hx:x.length<l.length:=FK;simp only[gd,Sb,GG hi,GD,hy,oII,O1 (n:=x.length+1) FK];have next:∀z:Int,P (To nn l n (x++[z]) (i+(Aan ⟨l.toArray⟩ i).2) k1 k3):=λz=>C0h hs h1 h3 n _ _ FK (λ_=>FK) GQ (λ_=>GN) GQ
   repeat' first|exact next _|exact h1 _ _ a5 hi|refine A7 (P:=P) (λ_=>?_) λ_=>?_
  simp only[GH hi,GF];exact h3 _ _ a5 λh=>a4 FK
end
def C4Y{l:rg}(hs:l.length<=1099511627776):∃x m,On l=J (.tup [.sl .i32 x (J 1),.int .i64 m])/\x.length<=l.length/\((l.length:Int)<=m->0<l.length->0<x.length):=by
 let P:Gq->Prop:=λo=>∃x m,o=J (.tup [.sl .i32 x (J 1),.int .i64 m])/\x.length<=l.length/\((l.length:Int)<=m->0<l.length->0<x.length)
 show P _;unfold On B3v;exact C0h (P:=P) hs (λx j h1 h2=>⟨_,_,rfl,h1,λh=>FK⟩) (λx j h1 h2=>⟨_,_,rfl,h1,λ_=>h2⟩) NN 0 [] (by rw[NNv];omega) (λ_=>by rw[NNv];omega) GN FK GN
def C1a(x:Gp)(m:Int):okR [.sl .i32 (J 1),.int .i64] (J (.tup [.sl .i32 x (J 1),.int .i64 m]):Gq)=Z:=rfl
def B8Z(x:Gp)(r:Gt):V5 (gL (J (.tup (.sl .i32 x (J 1)::r)):Gq) 0)=x:=rfl
def gD1(l:L6)(m:Int):lI (gL (J (.tup [l,.int .i64 m]):Gq) 1)=m:=rfl
section
variable {R:Type}{P:Option R->Prop}
def C3r{nn:Nat}{s:rg}{l:Gp}{k1:Option R}{k3:Gp->Gp->Int->Int->Bool->Option R}(hs:l.length<=1099511627776)(h1:P k1)(h3:∀a b c,P (k3 l l a b c)):
  ∀(n i:Nat),i<=l.length->l.length<n+i->P (Wx nn s n l l (l.length:Int) (i:Int) k1 k3)
 |0,i,a1,a2=>FK
 |n+1,i,a1,a2=>by
  unfold Wx;by_cases hi:i<l.length
  ·obtain⟨c,hc,_⟩:=E3 hi;obtain⟨b,e⟩:=D1O c;simp only[gd,GG (FK:(i:Int)<(l.length:Int)),GD,B1,hc,e,oB1,gB1,E7 (i:=i) FK]
   repeat' first|exact h1|exact C3r hs h1 h3 n (i+1) FK FK|refine A7 (P:=P) (λ_=>?_) λ_=>?_
  simp only[GH (FK:¬(i:Int)<(l.length:Int)),GF];exact h3 _ _ _
def B5B{nn:Nat}{s:rg}{l:Gp}{k2:Gp->Gp->Int->Bool->Option R}(hs:l.length<=8400000)(h2:∀x a b,sew x<=4+4*l.length->P (k2 l x a b)):
  ∀(n i:Nat)(x:Gp),i<=l.length->l.length<n+i->sew x<=4+4*i->P (Qv nn s n l x (i:Int) k2)
 |0,i,x,a1,a2,a3=>FK
 |n+1,i,x,a1,a2,a3=>by
  unfold Qv;have hx:=(Wz x).1;by_cases hi:i<l.length;obtain⟨c,hc,_⟩:=E3 hi;obtain⟨y,hy,gw⟩:=Tf (s:=l) (a:=i) (b:=l.length) a1 (GU _);obtain⟨b,e,hb⟩:=D7p y;have he:=Ze c;simp only[gd,GG (FK:(i:Int)<(l.length:Int)),GD,B1,hc,hy,e,oB1,gB1,wk2 (i:=i) FK,E7 (i:=i+2) FK,E7 (i:=i) FK,O1 (n:=x.length+4) FK,O1 (n:=x.length+1) FK];refine A7 (P:=P) (λh=>?_) λ_=>?_
  have:=hb h;exact B5B hs h2 n (i+2+1) _ FK FK (by rw[Tq,show sew [92,34,34,34]=4 from rfl];omega);exact B5B hs h2 n (i+1) _ FK FK (by rw[Tq,B1o];omega);simp only[GH (FK:¬(i:Int)<(l.length:Int)),GF];exact h2 _ _ _ FK
end
def D0J{s:rg}(hs:s.length<=8400000):∃t b,Zd s=J (.tup [.str t,.bool b])/\t.length+2<=101000000:=by
 let P:Gq->Prop:=λo=>∃t b,o=J (.tup [.str t,.bool b])/\t.length+2<=101000000
 have no:P (J (.tup [.str [],.bool V])):=⟨_,_,rfl,GN⟩;obtain⟨x,m,e,hx,hm⟩:=C4Y (l:=s) FK;show P _;simp only[Zd,B09,gd,e,C1a,B8Z,gD1,GD];refine A7 (P:=P) (λ_=>⟨_,_,rfl,GN⟩) λh0=>A7 (P:=P) (λ_=>no) λh1=>?_;have ut:0<s.length:=KQ.2 (by simpa using h0);have sT:=hm (by have:=of_decide_eq_false h1;omega) ut;refine C3r (P:=P) FK no (λa b c=>?_) NN 0 FK (by rw[NNv];omega);obtain⟨z,e2,z1,z2,z3⟩:=D1o (l:=x) FK;obtain⟨b,e3⟩:=D2d (l:=z) z1 FK λy hy=>HT (ZM hy) FK;obtain⟨c0,il,_⟩:=E3 (l:=x) (i:=0) sT;obtain⟨b2,e4⟩:=B5Y c0;have g0:idx x 0=J c0:=(B1 x 0).trans il;have bQ:∀w:Gp,sew w<=4->P (Qv NN s NN x w 0 (λcM cH dD fu=>bif A3 (Aaa cH+4) 4 then(bif okR [.str,.bool] (Qu (cH++[10,34,34,34]))then(J (.tup [.str (lS (gL (Qu (cH++[10,34,34,34])) 0)),.bool Z]))else O)else O)):=λw hw=>by
  refine B5B (P:=P) FK (λv a b hv=>?_) NN 0 w FK (by rw[NNv];omega) FK;have:=(Wz v).1;obtain⟨t,c,e5,ht⟩:=C47 (l:=v++[10,34,34,34]) GQ;rw[Tq,show sew [10,34,34,34]=4 from rfl]at ht;simp only[e5,oSt,gSt,O1 (n:=v.length+4) FK,GD];exact⟨_,_,rfl,FK⟩
 simp only[e2,e3,e4,g0,oRS,gRS,oB1,gB1,GD,show A3 (Aaa [34,34,34]+1) 4=Z from rfl]
 repeat' first|exact no|exact bQ _ GO|refine A7 (P:=P) (λ_=>?_) λ_=>?_
def B1E(x:Int):∃d:Nat,d<16/\bits .and .i32 x 15=(d:Int):=by
 refine⟨(Aaj 32 x&&& Aaj 32 15).toNat,?_,?_⟩;rw[Aaz];exact KW Aaw GO;have h:(Aaj 32 x&&& Aaj 32 15).toNat<16:=by
  rw[Aaz];exact KW Aaw GO
 show IntKind.i32.wrap ((Aaj 32 x&&& Aaj 32 15).toNat:Int)=_;exact w32 FK FK
def B33:rg:=[48,49,50,51,52,53,54,55,56,57,65,66,67,68,69,70]
def B26{d:Nat}(h:d<16):∃y,B33[d]?=J y/\y.toNat<128:=by
 obtain⟨y,hy,hm⟩:=E3 (l:=B33) (i:=d) h;exact⟨y,hy,(GO:∀y∈B33,y.toNat<128) y hm⟩
def oL0(l:Gp):okR [.sl .i32 (J 0)] (J (.one (.sl .i32 l (J 0))):Gq)=Z:=rfl
def gL0(l:Gp):V5 (gL (J (.one (.sl .i32 l (J 0))):Gq) 0)=l:=rfl
def B5W{a:Gp}(hs:a.length<=1099511627776 / 2)(c:Int):∃u,NZ a c=J (.one (.sl .i32 u (J 0)))/\sew u=sew a+6/\u.length=a.length+6:=by
 obtain⟨d3,h3,e3⟩:=B1E (c / 2^(Aad 12));obtain⟨d2,h2,e2⟩:=B1E (c / 2^(Aad 8));obtain⟨d1,h1,e1⟩:=B1E (c / 2^(Aad 4));obtain⟨d0,h0,e0⟩:=B1E (c / 2^(Aad 0));obtain⟨y3,g3,q3⟩:=B26 h3;obtain⟨y2,g2,q2⟩:=B26 h2;obtain⟨y1,g1,q1⟩:=B26 h1;obtain⟨y0,g0,q0⟩:=B26 h0;have r:∀k,k<=10->A3 (a.length+k) 4=Z:=λk hk=>O1 FK;have step:∀(nn:Nat)(x:Gp)(s:Int)(d:Nat)(y:UInt8)(n:Nat),0<=s->s<=31->bits .and .i32 (c / 2^(Aad s)) 15=(d:Int)->B33[d]?=J y->y.toNat<128->x.length<=a.length+8->Ot nn a c (n+1) x s (λz1 z2 z3=>(J (.one (.sl .i32 z1 (J 0))):Gq))=Ot nn a c n (x++[(y.toNat:Int)]) (Aab .i64 (s - 4)) (λz1 z2 z3=>J (.one (.sl .i32 z1 (J 0)))):=by
  intro nn x s d y n p1 p2 p3 p4 p5 p6;rw[Ot];have hi:idx [48,49,50,51,52,53,54,55,56,57,65,66,67,68,69,70] (bits .and .i32 (c / 2^(Aad s)) 15)=J y:=by rw[p3,B1];exact p4
  have hw:Aab .i32 (y.toNat:Int)=(y.toNat:Int):=w32 FK FK;simp only[gd,GG (show s>=0 from p1),GG p1,GG p2,hi,hw,O1 (n:=x.length+1) FK,GD,Hy,decide_true]
 have e:∀y:UInt8,y.toNat<128->ew (y.toNat:Int)=1:=λy h=>by unfold ew;rw[GJ ⟨FK,FK⟩]
 refine⟨a++[92,117]++[(y3.toNat:Int)]++[(y2.toNat:Int)]++[(y1.toNat:Int)]++[(y0.toNat:Int)],?_,?_,GN⟩;simp only[NZ,B2n,gd,r 2 FK,GD];have all:∀nn n:Nat,Ot nn a c (n+5) (a++[92,117]) 12 (λz1 z2 z3=>(J (.one (.sl .i32 z1 (J 0))):Gq))=J (.one (.sl .i32 (a++[92,117]++[(y3.toNat:Int)]++[(y2.toNat:Int)]++[(y1.toNat:Int)]++[(y0.toNat:Int)]) (J 0))):=by
  intro nn n;rw[step nn _ 12 d3 y3 (n+4) GO GO e3 g3 q3 GN,show Aab .i64 (12 - 4)=8 from rfl,step nn _ 8 d2 y2 (n+3) GO GO e2 g2 q2 GN,show Aab .i64 (8 - 4)=4 from rfl,step nn _ 4 d1 y1 (n+2) GO GO e1 g1 q1 GN,show Aab .i64 (4 - 4)=0 from rfl,step nn _ 0 d0 y0 (n+1) GO GO e0 g0 q0 GN,Ot];rfl
 have:=all NN (NN - 5);rw[show NN - 5+5=NN from rfl]at this;exact this;simp only[Tq,B1o,e y3 q3,e y2 q2,e y1 q1,e y0 q0,show sew [92,117]=2 from rfl]
def C93(a b:Int)(c:Bool):okR [.int .i32,.int .i32,.bool] (J (.tup [.int .i32 a,.int .i32 b,.bool c]):Gq)=Z:=rfl
def C7G(a b:Int)(c:Bool):lI (gL (J (.tup [.int .i32 a,.int .i32 b,.bool c]):Gq) 0)=a:=rfl
def C6K(a b:Int)(c:Bool):lI (gL (J (.tup [.int .i32 a,.int .i32 b,.bool c]):Gq) 1)=b:=rfl
def C6M(a b:Int)(c:Bool):lB (gL (J (.tup [.int .i32 a,.int .i32 b,.bool c]):Gq) 2)=c:=rfl
def D1N(c:Int):∃a b t,Tr c=J (.tup [.int .i32 a,.int .i32 b,.bool t]):=by
 let P:Gq->Prop:=λo=>∃a b t,o=J (.tup [.int .i32 a,.int .i32 b,.bool t])
 show P _;unfold Tr
 repeat' first|exact⟨_,_,_,rfl⟩|refine A7 (P:=P) (λ_=>?_) λ_=>?_
def C7B{a:Gp}(hs:a.length<=1099511627776 / 4)(c:Int):∃u,Zf a c=J (.one (.sl .i32 u (J 0)))/\sew u<=sew a+12:=by
 let P:Gq->Prop:=λo=>∃u,o=J (.one (.sl .i32 u (J 0)))/\sew u<=sew a+12
 obtain⟨p,q,t,e⟩:=D1N c;obtain⟨u,e2,h2,l2⟩:=B5W (a:=a) FK p;obtain⟨v,e3,h3,l3⟩:=B5W (a:=u) FK q;obtain⟨w,e4,h4,l4⟩:=B5W (a:=a) FK c;have he:=Ze c;have k:∀x:Gp,sew x<=12->P (J (.one (.sl .i32 (a++x) (J 0)))):=λx hx=>⟨_,rfl,by rw[Tq];omega⟩;have kv:P (J (.one (.sl .i32 v (J 0)))):=⟨_,rfl,FK⟩;have kw:P (J (.one (.sl .i32 w (J 0)))):=⟨_,rfl,FK⟩;have k1:=k [c] (by rw[B1o];omega);have k2:=k [92,c] (by rw[show sew [92,c]=ew 92+ew c by simp[sew]];have:=Ze 92;omega);show P _;simp only[Zf,gd,e,e2,e3,e4,C93,C7G,C6K,C6M,oL0,gL0,O1 (n:=a.length+1) FK,O1 (n:=a.length+2) FK,GD]
 repeat' first|exact kv|exact kw|exact k1|exact k2|exact k _ GO|refine A7 (P:=P) (λ_=>?_) λ_=>?_
section
variable {R:Type}{P:Option R->Prop}
def C5B{nn:Nat}{s:rg}{l:Gp}{k2:Gp->Gp->Int->Int->Bool->Option R}(hs:l.length<=8400000)(h2:∀x a b c,sew x<=1+12*l.length->P (k2 x l a b c)):
  ∀(n i:Nat)(x:Gp),i<=l.length->l.length<n+i->sew x<=1+12*i->P (XA nn s n x l (l.length:Int) (i:Int) k2)
 |0,i,x,a1,a2,a3=>FK
 |n+1,i,x,a1,a2,a3=>by
  unfold XA;have hx:=(Wz x).1;by_cases hi:i<l.length;obtain⟨c,hc,_⟩:=E3 hi;obtain⟨u,e,hu⟩:=C7B (a:=x) FK c;simp only[gd,GG (FK:(i:Int)<(l.length:Int)),GD,B1,hc,e,oL0,gL0,E7 (i:=i) FK];exact C5B hs h2 n (i+1) _ FK FK FK;simp only[GH (FK:¬(i:Int)<(l.length:Int)),GF];exact h2 _ _ _ _ FK
end
def D2j{s:rg}(hs:s.length<=8400000):∃t b,Zg s=J (.tup [.str t,.int .i64 b])/\t.length+2<=101000000:=by
 let P:Gq->Prop:=λo=>∃t b,o=J (.tup [.str t,.int .i64 b])/\t.length+2<=101000000
 obtain⟨x,m,e,hx,_⟩:=C4Y (l:=s) FK;show P _;simp only[Zg,B3C,gd,e,C1a,B8Z,gD1,GD];refine A7 (P:=P) (λ_=>⟨_,_,rfl,GN⟩) λ_=>?_;refine C5B (P:=P) FK (λv a b c hv=>?_) NN 0 [34] FK (by rw[NNv];omega) GO;have:=(Wz v).1;obtain⟨t,c,e5,ht⟩:=C47 (l:=v++[34]) GQ;rw[Tq,show sew [34]=1 from rfl]at ht;simp only[e5,oSt,gSt,O1 (n:=v.length+1) FK,GD];exact⟨_,_,rfl,FK⟩
end Go.Aev
namespace Go.Aev
open Go.Proofs
def C59(nn:Nat)(fE:LitT->Gp->Gr){a1:LitT}{aa:Gp}:D7 (E44 fE) nn Aaq [0] [.ptr 900000 0,.agg .lit a1] [[.ptr 900000 A9,.sl .u8 aa (J 92000001)]]=Qx nn fE a1 aa:=by
 unfold Qx;simp(disch:=exact krl)only[lc1 (kB [0] [[.ptr 900000 A9,.sl .u8 aa (J 92000001)]]) (D2C ..),lc1 (kB [0] [[.ptr 900000 A9,.sl .u8 aa (J 92000001)]]) (C6R ..)];kernel_rfl
def Ou:Nat->LitT->Gp->Gr
 |0,_,_=>O
 |d+1,a1,aa=>Tv (Ou d) a1 aa
def LS(a1:LitT)(aa:Gp):Gr:=Ou DD a1 aa
def Zi:Ka
 |[.ptr d0 o0,.agg .lit a1],[[.ptr p0 q0,.sl .u8 aa (J aO)]]=>bif bq d0 o0&&pq p0 q0&&(Aac aO 92000001)then pB [] kP (LS a1 aa)else O
 |_,_=>O
def B5E:Env Ty6 A2:=mkE [] [(27,Kk),(44,Zi),(101,Ts)] (lkR [(0,6,2),(0,1000105,1),(1,8,4),(1,1000105,1),(2,1,1),(2,1000105,1),(3,1000105,1),(4,15,4),(5,4,1),(5,19,3),(6,22,5),(7,5,1),(7,27,4),(7,1000105,1),(8,31,1),(8,1000105,1),(9,12,4),(9,32,3),(9,1000105,1),(10003,1000105,1)]) 35 [5] 1 [] []
def Ov{R:Type}(nn:Nat)(a1:List E0)(aa:Gp):Nat->Int->Int->Gp->(Int->Int->Bool->Gp->Option R)->Option R
 |0,_,_,_,_=>O
 |n+1,ck,cv,ac,k2=>let k1:=λck cv ac=>Ov nn a1 aa n ck cv ac k2;let z1:=decide (cv<ck);bif z1 then(match idx a1 cv with|O=>O|J y2=>(let z3:=y2.value.fields;let z4:=y2.value.pos.line;let z5:=y2.value.pos.col;let cF:=Na cv ac;gd (okB [] kP cF) (let z6:=(B3 (gC cF 0 1));let r9:=Kc [y2.name,[58,32]] z6;gd (okB [] kP r9) (let z7:=(B3 (gC r9 0 1));let r8:=LS (LitT.mk y2.value.kind y2.value.text y2.value.block y2.value.items z3 (⟨z4,z5⟩:A4)) z7;gd (okB [] kP r8) (k1 ck (Aab .i64 (cv+1)) (B3 (gC r8 0 1)))))))else(k2 ck cv z1 ac)
def D6L{R}(nn a1 aa)(K:Kt R):∀n ck cv ac,Ov nn a1 aa n ck cv ac (λck cv eQ ac=>K (.exit 0) (Q7 (eB 15 eQ) (pg [eL 12 .arg a1,eI 13 ck,eI 14 cv] ac)))=LP B5E nn f142 75 n (pg [eL 12 .arg a1,eI 13 ck,eI 14 cv] ac) K:=λn=>n.rec (by intros;rfl) λn i=>by
 intros;rw[Ov];simp only[i];kernel_rfl
def B0y(nn:Nat)(a1:List E0)(aa:Gp):Gr:=let z1:=(Aaa a1:Int)==0;bif z1 then(J ([],[[.ptr 900000 A9,.sl .u8 aa (J 92000001)]]))else(let r7:=Kc [[40]] aa;gd (okB [] kP r7) (Ov nn a1 aa nn (Aaa a1:Int) 0 (B3 (gC r7 0 1)) (λz2 z3 z4 z5=>let r6:=Kc [[41]] z5;gd (okB [] kP r6) (J ([],[[.ptr 900000 A9,.sl .u8 (B3 (gC r6 0 1)) (J 92000001)]])))))
def Zj(a1:List E0)(aa:Gp):Gr:=B0y NN a1 aa
def C5U(nn:Nat){a1:List E0}{aa:Gp}:D7 B5E nn f142 [0] [.ptr 900000 0,.sl .arg a1 O] [[.ptr 900000 A9,.sl .u8 aa (J 92000001)]]=B0y nn a1 aa:=by
 unfold B0y;simp(disch:=exact krl)only[lc1 (kB [0] [[.ptr 900000 A9,.sl .u8 aa (J 92000001)]]) (D6L ..)];kernel_rfl
def B0Q:Ka
 |[.ptr d0 o0,.sl .arg a1 O],[[.ptr p0 q0,.sl .u8 aa (J aO)]]=>bif bq d0 o0&&pq p0 q0&&(Aac aO 92000001)then pB [] kP (Zj a1 aa)else O
 |_,_=>O
def E68:Env Ty6 A2:=mkE [] [(27,Kk),(142,B0Q)] (lkR [(0,1,1),(0,1000105,1),(1,1000105,1),(2,9,3),(3,12,5),(4,5,1),(4,17,4),(4,1000105,1),(5,21,1),(5,1000105,1),(10001,1000105,1)]) 22 [] 1 [] []
def Ox{R:Type}(nn:Nat)(a1:List C3)(aa:Gp):Nat->Int->Int->Gp->(Int->Int->Bool->Gp->Option R)->Option R
 |0,_,_,_,_=>O
 |n+1,x7,x8,ac,k2=>let k1:=λx7 x8 ac=>Ox nn a1 aa n x7 x8 ac k2;let z1:=decide (x8<x7);bif z1 then(match idx a1 x8 with|O=>O|J y2=>(let r5:=Kc [[32,64],y2.name] ac;gd (okB [] kP r5) (let z3:=(B3 (gC r5 0 1));let r4:=Zj y2.args z3;gd (okB [] kP r4) (k1 x7 (Aab .i64 (x8+1)) (B3 (gC r4 0 1))))))else(k2 x7 x8 z1 ac)
def C8h{R}(nn a1 aa)(K:Kt R):∀n x7 x8 ac,Ox nn a1 aa n x7 x8 ac (λx7 x8 x9 ac=>K (.exit 0) (Q7 (eB 9 x9) (pg [eL 6 .dir a1,eI 7 x7,eI 8 x8] ac)))=LP E68 nn f68 9 n (pg [eL 6 .dir a1,eI 7 x7,eI 8 x8] ac) K:=λn=>n.rec (by intros;rfl) λn i=>by
 intros;rw[Ox];simp only[i];kernel_rfl
def B6O(nn:Nat)(a1:List C3)(aa:Gp):Gr:=Ox nn a1 aa nn (Aaa a1:Int) 0 aa (λz1 z2 z3 z4=>J ([],[[.ptr 900000 A9,.sl .u8 z4 (J 92000001)]]))
def Oy(a1:List C3)(aa:Gp):Gr:=B6O NN a1 aa
def D0d(nn:Nat){a1:List C3}{aa:Gp}:D7 E68 nn f68 [0] [.ptr 900000 0,.sl .dir a1 O] [[.ptr 900000 A9,.sl .u8 aa (J 92000001)]]=B6O nn a1 aa:=by
 unfold B6O;simp(disch:=exact krl)only[lc1 (kB [0] [[.ptr 900000 A9,.sl .u8 aa (J 92000001)]]) (C8h ..)];kernel_rfl
def Oz:Ka
 |[.ptr d0 o0,.sl .dir a1 O],[[.ptr p0 q0,.sl .u8 aa (J aO)]]=>bif bq d0 o0&&pq p0 q0&&(Aac aO 92000001)then pB [] kP (Oy a1 aa)else O
 |_,_=>O
def E66:Env Ty6 A2:=mkE [] [] noD 8 [] 0 [] []
def Tw(a0:Int):Gq:=bif(a0==2)then(J (.one (.str [109,117,116,97,116,105,111,110])))else(bif(a0==3)then(J (.one (.str [115,117,98,115,99,114,105,112,116,105,111,110])))else(J (.one (.str [113,117,101,114,121]))))
def S66:KY
 |[.int .i64 a0]=>pR [.str] (Tw a0)
 |_=>O
def C5j:Env Ty6 A2:=mkE [(66,S66)] [(27,Kk)] noD 14 [] 2 [] []
def B0T(a0:RdT)(a2:Int)(aa:Gp):Gr:=gd (okR [.str] (Tw a0.op)) (let r1:=Kc [(lS (gL (Tw a0.op) 0)),[58,32],a0.type_] aa;gd (okB [] kP r1) (J ([],[[.ptr 900000 A9,.sl .u8 (B3 (gC r1 0 1)) (J 92000001)]])))
def D5G{a0:RdT}{a2:Int}{aa:Gp}:D7 C5j NN Tryz.f264 [1] [.agg .rd a0,.ptr 900000 0,.int .i64 a2] [[.ptr 900000 A9,.sl .u8 aa (J 92000001)]]=B0T a0 a2 aa:=GM
def B5o:Ka
 |[.agg .rd a0,.ptr d0 o0,.int .i64 a2],[[.ptr p0 q0,.sl .u8 aa (J aO)]]=>bif bq d0 o0&&pq p0 q0&&(Aac aO 92000001)then pB [] kP (B0T a0 a2 aa)else O
 |_,_=>O
def E18:Env Ty6 A2:=mkE [(47,Vd),(48,S48)] [] noD 13 [] 0 [] []
def Nb(a0:F6):Gq:=let r2:=SY a0.wrap [93];gd (okR [.int .i64] r2) (let r1:=LC [91] (lI (gL r2 0));gd (okR [.str] r1) (gd (decide (Aaa (lS (gL r1 0))+Aaa a0.name<=9223372036854775807)) (gd (decide (Aaa ((lS (gL r1 0))++a0.name)+Aaa a0.wrap<=9223372036854775807)) (J (.one (.str (((lS (gL r1 0))++a0.name)++a0.wrap)))))))
def Tx:KY
 |[.agg .tref a0]=>pR [.str] (Nb a0)
 |_=>O
def E37:Env Ty6 A2:=mkE [(86,Zh)] [(27,Kk)] noD 17 [] 1 [] []
def MN(a1:G5)(a2:rg)(aa:Gp):Gr:=bif a1.has then(let r2:=Qw a1.block a1.text;gd (okR [.str] r2) (let r1:=Kc [(lS (gL r2 0)),a2] aa;gd (okB [] kP r1) (J ([],[[.ptr 900000 A9,.sl .u8 (B3 (gC r1 0 1)) (J 92000001)]]))))else(J ([],[[.ptr 900000 A9,.sl .u8 aa (J 92000001)]]))
def Zk:Ka
 |[.ptr d0 o0,.agg .note a1,.str a2],[[.ptr p0 q0,.sl .u8 aa (J aO)]]=>bif bq d0 o0&&pq p0 q0&&(Aac aO 92000001)then pB [] kP (MN a1 a2 aa)else O
 |_,_=>O
def D2o:Env Ty6 A2:=mkE [] [(27,Kk),(44,Zi)] noD 13 [] 1 [] []
def Qy(a1:Bool)(a2:LitT)(aa:Gp):Gr:=bif a1 then(let r2:=Kc [[32,61,32]] aa;gd (okB [] kP r2) (let z1:=(B3 (gC r2 0 1));gd (okB [] kP (LS a2 z1)) (J ([],[[.ptr 900000 A9,.sl .u8 (B3 (gC (LS a2 z1) 0 1)) (J 92000001)]]))))else(J ([],[[.ptr 900000 A9,.sl .u8 aa (J 92000001)]]))
def B3o:Ka
 |[.ptr d0 o0,.bool a1,.agg .lit a2],[[.ptr p0 q0,.sl .u8 aa (J aO)]]=>bif bq d0 o0&&pq p0 q0&&(Aac aO 92000001)then pB [] kP (Qy a1 a2 aa)else O
 |_,_=>O
def C8E:Env Ty6 A2:=mkE [(18,Tx)] [(27,Kk),(68,Oz),(141,B3o)] noD 22 [] 1 [] []
def PA(a1:IvT)(aa:Gp):Gr:=let r6:=Nb a1.type_;gd (okR [.str] r6) (let r5:=Kc [a1.name,[58,32],(lS (gL r6 0))] aa;gd (okB [] kP r5) (let z1:=(B3 (gC r5 0 1));let r4:=Qy a1.hasDefault (LitT.mk a1.dflt.kind a1.dflt.text a1.dflt.block a1.dflt.items a1.dflt.fields a1.dflt.pos) z1;gd (okB [] kP r4) (let z2:=(B3 (gC r4 0 1));let r3:=Oy a1.dirs z2;gd (okB [] kP r3) (J ([],[[.ptr 900000 A9,.sl .u8 (B3 (gC r3 0 1)) (J 92000001)]])))))
def B1j:Ka
 |[.ptr d0 o0,.agg .iv a1],[[.ptr p0 q0,.sl .u8 aa (J aO)]]=>bif bq d0 o0&&pq p0 q0&&(Aac aO 92000001)then pB [] kP (PA a1 aa)else O
 |_,_=>O
def E88:Env Ty6 A2:=mkE [] [(27,Kk),(37,Zk),(101,Ts),(157,B1j)] (lkR [(0,6,2),(0,1000105,1),(1,8,4),(1,1000105,1),(2,1,1),(2,1000105,1),(3,1000105,1),(4,15,4),(5,4,1),(5,19,3),(6,22,4),(7,5,1),(7,26,3),(7,1000105,1),(8,29,1),(8,1000105,1),(9,12,4),(9,30,3),(9,1000105,1),(10003,1000105,1)]) 33 [5] 1 [] []
end Go.Aev
namespace Go.Aev
def bI(s:rg):Gp:=s.map λ(c:UInt8)=>(c.toNat:Int)
def C9(a b:rg):bI (a++b)=bI a++bI b:=Ic
def C1(a:rg):(bI a).length=a.length:=HR ..
def C4f(s:rg):toB (bI s)=s:=by
 unfold toB bI;rw[Iz];have:((λ(n:Int)=>Aau n.toNat)∘λ(c:UInt8)=>(c.toNat:Int))=id:=by
  funext c;simp
 rw[this,JX]
def o44(l:Gp):okB [] [[.ptr 900000 A9,.sl .u8 (J 92000001)]] (J ([],B7 l))=Z:=rfl
def C2(r:Gt)(l:Gp):B3 (gC (J (r,B7 l)) 0 1)=l:=rfl
def o62(k:Int)(l:Gp):okB [.int .i64,.any] [[.ptr 900000 A9,.sl .u8 (J 92000001)]] (J ([.int .i64 k,.any],B7 l))=Z:=rfl
def D47(b:Gp):Sa b=J ([],B7 b):=rfl
def C6u{a:rg}{b:Gp}(h:b.length+a.length<=MB):F62 a b=J ([.int .i64 (a.length:Int),.any],B7 (b++bI a)):=by
 simp only[F62,gd,kC,kP,kO,D47,o44,C2,B8S h,GD];rfl
def C4D{R:Type}{nn:Nat}{a1:Gy}{b0:Gp}{k2:Int->Int->Bool->Gp->Option R}(hs:a1.length<=1000):∀(n i:Nat)(buf:Gp),i<=a1.length->a1.length<n+i->buf.length+(a1.drop i).flatten.length<=MB->
  Wk nn a1 b0 n (a1.length:Int) (i:Int) buf k2=k2 (a1.length:Int) (a1.length:Int) V (buf++bI (a1.drop i).flatten)
 |0,i,buf,h1,h2,h3=>FK
 |n+1,i,buf,h1,h2,h3=>by
  unfold Wk;by_cases hi:i<a1.length;have hg:a1[i]?=J a1[i]:=GE hi;have hd:a1.drop i=a1[i]::a1.drop (i+1):=Ht hi;rw[hd]at h3 ⊢;rw[GZ,Fd]at h3;have aE:decide ((i:Int)<(a1.length:Int))=Z:=GG FK;simp only[Kc,Wl,gd,kC,kP,kO,aE,GD,B1,hg,C6u (a:=a1[i]) (b:=buf) FK,o62,C2,E7 (i:=i) FK];rw[C4D hs n (i+1) (buf++bI a1[i]) FK FK (by rw[Fd,C1];omega),GZ,C9,GV];have bO:i=a1.length:=FK;subst bO;have aE:decide ((a1.length:Int)<(a1.length:Int))=V:=GH FK;simp only[Kc,Wl,gd,kC,kP,kO,aE,GF];rw[IL];simp[bI]
def X2{a:Gy}{b:Gp}(hs:a.length<=1000)(h:b.length+a.flatten.length<=MB):Kc a b=J ([],B7 (b++bI a.flatten)):=by
 have re:NN=18446744073709551616:=rfl;have bm:=C4D (nn:=NN) (b0:=b) (k2:=λ(x7:Int)(x8:Int)(x9:Bool)(x:Gp)=>J (([]:Gt),[[(.ptr 900000 A9:L6),.sl .u8 x (J 92000001)]])) hs NN 0 b FK (by rw[re];omega) (by simpa using h);simp only[Kc,Wl,gd,kC,kP,kO];exact bm
def B4I{i:Nat}{b:Gp}(h:b.length+2<=MB):Na (i:Int) b=J ([],B7 (b++bI (if i=0 then []else [44,32]))):=by
 simp only[Na,gd,kC,kP,kO,X2 (a:=[[44,32]]) (b:=b) GO (by simpa using h),o44,C2,GD];by_cases hi:i=0;subst hi;simp[bI];rfl;have:decide ((i:Int)>0)=Z:=GG FK;rw[this,GI hi];rfl
def qq(block:Bool)(text:rg):rg:=lS (gL (Qw block text) 0)
def C2r(bl:Bool){t:rg}(h:t.length<=8400000):∃s,Qw bl t=J (.one (.str s))/\s.length+2<=101000000:=by
 obtain⟨s,b,e,h1⟩:=D0J h;obtain⟨u,c,e2,h2⟩:=D2j h;simp only[Qw,gd,e,e2,oS,oSi,gS,GD];cases bl;exact⟨u,rfl,h2⟩;exact⟨s,rfl,h1⟩
def C4h{t:rg}(h:t.length<=8400000)(bl:Bool):Qw bl t=J (.one (.str (qq bl t))):=by
 obtain⟨s,e,_⟩:=C2r bl h;unfold qq;rw[e];rfl
def B7C(b:Bool){t:rg}(h:t.length<=8400000):(qq b t).length+2<=101000000:=by
 obtain⟨s,e,h1⟩:=C2r b h;unfold qq;rw[e];exact h1
def jn:Nat->Gy->rg
 |_,[]=>[]
 |i,x::r=>(if i=0 then []else [44,32])++x++jn (i+1) r
section
variable {R:Type}{p:LitT->rg}
def C1e{nn:Nat}{g:LitT->Gp->Option (Gt×Gz)}{a1:LitT}{b0:Gp}{k2:GB->Int->Int->Bool->Gp->Option R}{xs:GB}(hs:xs.length<=4611686018427387904)
  (hg:∀x∈xs,∀b:Gp,b.length+(p x).length+4<=MB->g x b=J ([],B7 (b++bI (p x)))):∀(n i:Nat)(buf:Gp),i<=xs.length->xs.length<n+i->buf.length+(jn i ((xs.drop i).map p)).length+4<=MB->
  Tt nn g a1 b0 n xs (xs.length:Int) (i:Int) buf k2=k2 xs (xs.length:Int) (xs.length:Int) V (buf++bI (jn i ((xs.drop i).map p)))
 |0,i,buf,h1,h2,h3=>FK
 |n+1,i,buf,h1,h2,h3=>by
  unfold Tt;by_cases hi:i<xs.length;have fa:xs[i]?=J xs[i]:=GE hi;have hd:xs.drop i=xs[i]::xs.drop (i+1):=Ht hi;have dR:xs[i]∈xs:=IG hi;generalize xs[i]=y at*;rw[hd]at h3 ⊢;simp only[IN,jn,Fd]at h3 ⊢;have aE:decide ((i:Int)<(xs.length:Int))=Z:=GG FK;have hc:(bI (if i=0 then []else [44,32])).length<=2:=by rw[C1];split<;>simp
  have cT:(bI (if i=0 then []else [44,32])).length=(if i=0 then []else([44,32]:rg)).length:=C1 _;have e:LitT.mk y.kind y.text y.block y.items y.fields ⟨y.pos.line,y.pos.col⟩=y:=LitT.eta y;simp only[LS,Tv,Qx,XB,XC,gd,kC,kP,kO,aE,GD,B1,fa,B4I (i:=i) (b:=buf) FK,o44,C2,E7 (i:=i) FK,e];rw[hg y dR _ (by rw[Fd];omega)];simp only[o44,C2,GD];rw[C1e hs hg n (i+1) _ FK FK (by simp only[Fd,C1]at*;omega)];simp only[C9,GV];have bO:i=xs.length:=FK;subst bO;have aE:decide ((xs.length:Int)<(xs.length:Int))=V:=GH FK;simp only[LS,Tv,Qx,XB,XC,gd,kC,kP,kO,aE,GF];rw[IL];simp[bI,jn]
def fp(p:LitT->rg)(f:LfT):rg:=f.name++[58,32]++p f.value
def C1r{nn:Nat}{g:LitT->Gp->Option (Gt×Gz)}{a1:LitT}{b0:Gp}{k2:List LfT->Int->Int->Bool->Gp->Option R}{xs:List LfT}(hs:xs.length<=4611686018427387904)
  (hg:∀x∈xs,∀b:Gp,b.length+(p x.value).length+4<=MB->g x.value b=J ([],B7 (b++bI (p x.value)))):∀(n i:Nat)(buf:Gp),i<=xs.length->xs.length<n+i->buf.length+(jn i ((xs.drop i).map (fp p))).length+4<=MB->
  Tu nn g a1 b0 n xs (xs.length:Int) (i:Int) buf k2=k2 xs (xs.length:Int) (xs.length:Int) V (buf++bI (jn i ((xs.drop i).map (fp p))))
 |0,i,buf,h1,h2,h3=>FK
 |n+1,i,buf,h1,h2,h3=>by
  unfold Tu;by_cases hi:i<xs.length;have fa:xs[i]?=J xs[i]:=GE hi;have hd:xs.drop i=xs[i]::xs.drop (i+1):=Ht hi;have dR:xs[i]∈xs:=IG hi;generalize xs[i]=y at*;rw[hd]at h3 ⊢;simp only[IN,jn,Fd,fp]at h3 ⊢;have aE:decide ((i:Int)<(xs.length:Int))=Z:=GG FK;have cT:(bI (if i=0 then []else [44,32])).length=(if i=0 then []else([44,32]:rg)).length:=C1 _;have hc:(if i=0 then []else([44,32]:rg)).length<=2:=by split<;>simp
  have FX:([58,32]:rg).length=2:=rfl;have hn:([y.name,[58,32]]:Gy).flatten=y.name++[58,32]:=GN;have e:LitT.mk y.value.kind y.value.text y.value.block y.value.items y.value.fields ⟨y.value.pos.line,y.value.pos.col⟩=y.value:=LitT.eta y.value;have DY:Kc [y.name,[58,32]] (buf++bI (if i=0 then []else [44,32]))=J ([],B7 ((buf++bI (if i=0 then []else [44,32]))++bI (y.name++[58,32]))):=by
   have:=X2 (a:=[y.name,[58,32]]) (b:=buf++bI (if i=0 then []else [44,32])) GN (by rw[hn,Fd,Fd];omega);rw[hn]at this;exact this
  simp only[LS,Tv,Qx,XB,XC,gd,kC,kP,kO,aE,GD,B1,fa,B4I (i:=i) (b:=buf) FK,o44,C2,E7 (i:=i) FK,e,DY];rw[hg y dR _ (by simp only[Fd,C1]at*;omega)];simp only[o44,C2,GD];rw[C1r hs hg n (i+1) _ FK FK (by simp only[Fd,C1]at*;omega)];simp only[C9,GV];have bO:i=xs.length:=FK;subst bO;have aE:decide ((xs.length:Int)<(xs.length:Int))=V:=GH FK;simp only[LS,Tv,Qx,XB,XC,gd,kC,kP,kO,aE,GF];rw[IL];simp[bI,jn]
end
def prN:Nat->LitT->rg
 |0,_=>[]
 |d+1,v=>if v.kind=1 then [36]++v.text else if v.kind=6 then [110,117,108,108]else if v.kind=4 then qq v.block v.text
  else if v.kind=8 then [91]++(jn 0 (v.items.map (prN d))++[93])else if v.kind=9 then [123]++(jn 0 (v.fields.map (fp (prN d)))++[125])else if v.kind=0\/9<v.kind then []else v.text
def Zl{α:Type}{f:α->rg}{g:α->Nat}:∀(i:Nat)(l:List α),(∀x∈l,(f x).length+2<=g x)->(jn i (l.map f)).length<=sw g l
 |_,[],_=>by simp[jn,sw]
 |i,x::r,h=>by
  have h1:=h x HO;have h2:=Zl (i+1) r (λy hy=>h y (Ha _ hy));have hc:(if i=0 then []else([44,32]:rg)).length<=2:=by split<;>simp
  simp only[IN,jn,Fd,sw];omega
def B4v{α:Type}(k:Nat)(f:α->Nat):∀(l:List α),sw (λx=>k*f x) l=k*sw f l
 |[]=>by simp[sw]
 |x::l=>by simp only[sw,B4v k f l,Aav]
def Zm:∀(d:Nat)(v:LitT),F5 d v->(prN d v).length+2<=101000000*wt d v
 |0,v,h=>h.elim
 |d+1,v,h=>by
  obtain⟨h1,h2,h3,h4,h5,h6⟩:=h;have hi:(jn 0 (v.items.map (prN d))).length<=101000000*sw (wt d) v.items:=by
   rw[<-B4v];exact Zl 0 v.items λx hx=>Zm d x (h5 x hx)
  have hf:(jn 0 (v.fields.map (fp (prN d)))).length<=101000000*sw (λ(f:LfT)=>1+wt d f.value) v.fields:=by
   rw[<-B4v];refine Zl 0 v.fields λf hf=>?_;obtain⟨k1,k2⟩:=h6 f hf;have:=Zm d f.value k2;show(f.name++[58,32]++prN d f.value).length+2<=101000000*(1+wt d f.value);simp only[Fd,Fr,GT];omega
  have hq:=B7C v.block h3;simp only[prN,wt];split;simp only[Fd,Fr,GT];omega;split;simp only[Fr,GT];omega;split;omega;split;simp only[Fd,Fr,GT];omega;split;simp only[Fd,Fr,GT];omega;split;simp;omega;omega
def C7a{t:rg}(h:t.length<=8400000):smS t=Z:=by
 unfold smS;exact GG FK
def C9z{d:Nat}{v:LitT}(h:wt (d+1) v<=4611686018427387903)(hg:F5 (d+1) v):v.items.length<=4611686018427387904:=by
 cases d with
 |zero=>
  have:v.items=[]:=by
   cases hv:v.items with
   |nil=>rfl
   |cons x r=>exact absurd (hg.2.2.2.2.1 x (by rw[hv];exact HO)) (λh=>h)
  rw[this];simp
 |succ d=>
  have:=C6o (d:=d+1) (Jz d) v;have h2:wt (d+1+1) v=W (d+1) v:=rfl;omega
def D1F{d:Nat}{v:LitT}(h:wt (d+1) v<=4611686018427387903):v.fields.length<=4611686018427387904:=by
 have:=D17 (d:=d) v;have h2:wt (d+1) v=W d v:=rfl;omega
def B7m:∀(d:Nat)(v:LitT)(b:Gp),F5 d v->wt d v<=1100000->b.length+(prN d v).length+4<=MB->Ou d v b=J ([],B7 (b++bI (prN d v)))
 |0,v,b,h,_,_=>h.elim
 |d+1,v,b,h,hw,hl=>by
  have hg:=h;obtain⟨h1,h2,h3,h4,h5,h6⟩:=h;have FY:=Zm (d+1) v hg;have yg:=C9z FK hg;have kV:=D1F (v:=v) (d:=d) FK;have yp:∀x∈v.items,wt d x<=1100000:=λx hx=>by
   have:=Yj (wt d) v.items x hx;have h2:wt (d+1) v=W d v:=rfl;unfold W at h2;omega
  have DZ:∀f∈v.fields,wt d f.value<=1100000:=λf hf=>by
   have:=Yj (λ(f:LfT)=>1+wt d f.value) v.fields f hf;have h2:wt (d+1) v=W d v:=rfl;unfold W at h2;have h3:(λ(f:LfT)=>1+wt d f.value) f=1+wt d f.value:=rfl;omega
  have re:NN=18446744073709551616:=rfl;have iN:=h3;show Tv (Ou d) v b=_;have hk:v.kind=1\/v.kind=2\/v.kind=3\/v.kind=4\/v.kind=5\/v.kind=6\/v.kind=7\/v.kind=8\/v.kind=9\/(v.kind=0\/v.kind=10\/v.kind=11):=FK;have text:∀(k:Int),v.kind=k->k=2\/k=3\/k=5\/k=7->prN (d+1) v=v.text:=λk e h=>by
   simp only[prN];rw[GI FK,GI FK,GI FK,GI FK,GI FK,GI FK]
  simp only[LS,Tv,Qx,XB,XC,gd,kC,kP,kO];rcases hk with hk|hk|hk|hk|hk|hk|hk|hk|hk|hk;have hp:prN (d+1) v=([[36],v.text]:Gy).flatten:=by simp[prN,hk]
  rw[hp]at hl ⊢;have e:=X2 (a:=[[36],v.text]) (b:=b) GN FK;simp only[hk,e,o44,C2,GD];rfl;have hp:=text 2 hk FK;rw[hp]at hl ⊢;have e:=X2 (a:=[v.text]) (b:=b) GN GQ;rw[show([v.text]:Gy).flatten=v.text from GN]at e;simp only[hk,e,o44,C2,GD];rfl;have hp:=text 3 hk FK;rw[hp]at hl ⊢;have e:=X2 (a:=[v.text]) (b:=b) GN GQ;rw[show([v.text]:Gy).flatten=v.text from GN]at e;simp only[hk,e,o44,C2,GD];rfl;have hp:prN (d+1) v=qq v.block v.text:=by simp[prN,hk]
  rw[hp]at hl ⊢;have e:=X2 (a:=[qq v.block v.text]) (b:=b) GN GQ;rw[show([qq v.block v.text]:Gy).flatten=qq v.block v.text from GN]at e;simp only[hk,C4h iN,oS1,gS1,e,o44,C2,GD];rfl;have hp:=text 5 hk FK;rw[hp]at hl ⊢;have e:=X2 (a:=[v.text]) (b:=b) GN GQ;rw[show([v.text]:Gy).flatten=v.text from GN]at e;simp only[hk,e,o44,C2,GD];rfl;have hp:prN (d+1) v=[110,117,108,108]:=by simp[prN,hk]
  rw[hp]at hl ⊢;have e:=X2 (a:=[[110,117,108,108]]) (b:=b) GN (by simp at hl ⊢;omega);rw[show([[110,117,108,108]]:Gy).flatten=[110,117,108,108]from GN]at e;simp only[hk,e,o44,C2,GD];rfl;have hp:=text 7 hk FK;rw[hp]at hl ⊢;have e:=X2 (a:=[v.text]) (b:=b) GN GQ;rw[show([v.text]:Gy).flatten=v.text from GN]at e;simp only[hk,e,o44,C2,GD];rfl;have hp:prN (d+1) v=[91]++(jn 0 (v.items.map (prN d))++[93]):=by simp[prN,hk]
  rw[hp]at hl ⊢;simp only[Fd,Fr,GT]at hl;have e:=X2 (a:=[[91]]) (b:=b) GN GQ;have e2:=X2 (a:=[[93]]) (b:=(b++bI [91])++bI (jn 0 (v.items.map (prN d)))) GN (by simp[C1,Fd];omega);rw[show([[91]]:Gy).flatten=[91]from GN]at e;rw[show([[93]]:Gy).flatten=[93]from GN]at e2;simp only[hk,e,o44,C2,GD];show Tt NN (Ou d) v b NN v.items (v.items.length:Int) ((0:Nat):Int) (b++bI [91]) _=_;rw[C1e (p:=prN d) yg (λx hx b' bC=>B7m d x b' (h5 x hx) (yp x hx) FK) NN 0 (b++bI [91]) FK (by rw[re];omega) (by simp[C1,Fd];omega)];rw[JA];simp only[e2,o44,C2,GD,C9];simp only[GV];rfl;have hp:prN (d+1) v=[123]++(jn 0 (v.fields.map (fp (prN d)))++[125]):=by simp[prN,hk]
  rw[hp]at hl ⊢;simp only[Fd,Fr,GT]at hl;have e:=X2 (a:=[[123]]) (b:=b) GN GQ;have e2:=X2 (a:=[[125]]) (b:=(b++bI [123])++bI (jn 0 (v.fields.map (fp (prN d))))) GN (by simp[C1,Fd];omega);rw[show([[123]]:Gy).flatten=[123]from GN]at e;rw[show([[125]]:Gy).flatten=[125]from GN]at e2;simp only[hk,e,o44,C2,GD];show Tu NN (Ou d) v b NN v.fields (v.fields.length:Int) ((0:Nat):Int) (b++bI [123]) _=_;rw[C1r (p:=prN d) kV (λx hx b' bC=>B7m d x.value b' (h6 x hx).2 (DZ x hx) FK) NN 0 (b++bI [123]) FK (by rw[re];omega) (by simp[C1,Fd];omega)];rw[JA];simp only[e2,o44,C2,GD,C9];simp only[GV];rfl;have hp:prN (d+1) v=[]:=by
   simp only[prN];rw[GI FK,GI FK,GI FK,GI FK,GI FK,GJ FK]
  rw[hp];rcases hk with hk|hk|hk<;>simp only[hk]<;>simp[bI]<;>rfl
def XD:∀(d:Nat)(v:LitT),F5 d v->F5 (d+1) v/\wt (d+1) v=wt d v
 |0,_,h=>h.elim
 |d+1,v,⟨h1,h2,h3,h4,h5,h6⟩=>by
  have Ea:∀l:GB,(∀x∈l,F5 d x)->sw (wt (d+1)) l=sw (wt d) l:=λl=>by
   induction l with
   |nil=>intro _;rfl
   |cons x l qE=>
    intro hx;simp only[sw];rw[qE (λy hy=>hx y (Ha _ hy)),(XD d x (hx x HO)).2]
  have Eb:∀l:List LfT,(∀f∈l,f.name.length<=8400000/\F5 d f.value)->sw (λ(f:LfT)=>1+wt (d+1) f.value) l=sw (λ(f:LfT)=>1+wt d f.value) l:=λl=>by
   induction l with
   |nil=>intro _;rfl
   |cons x l qE=>
    intro hx;simp only[sw];rw[qE (λy hy=>hx y (Ha _ hy)),(XD d x.value (hx x HO).2).2]
  refine⟨⟨h1,h2,h3,h4,λx hx=>(XD d x (h5 x hx)).1,λf hf=>⟨(h6 f hf).1,(XD d f.value (h6 f hf).2).1⟩⟩,?_⟩;show 1+sw (wt (d+1)) v.items+sw (λ(f:LfT)=>1+wt (d+1) f.value) v.fields=1+sw (wt d) v.items+sw (λ(f:LfT)=>1+wt d f.value) v.fields;rw[Ea _ h5,Eb _ h6]
def B4a{n:Nat}{v:LitT}(h:F5 n v):∀k,F5 (n+k) v/\wt (n+k) v=wt n v
 |0=>⟨h,rfl⟩
 |k+1=>⟨(XD _ v (B4a h k).1).1,(XD _ v (B4a h k).1).2.trans (B4a h k).2⟩
def C2m:∀(n:Nat),Aai [91] n=Aah n 91
 |0=>rfl
 |n+1=>by rw[Aai,C2m n];rfl
def prT(r:F6):rg:=Aah (r.wrap.count 93) 91++r.name++r.wrap
def B2P(r:F6):(prT r).length<=2*r.wrap.length+r.name.length:=by
 have:r.wrap.count 93<=r.wrap.length:=KN;unfold prT;rw[Fd,Fd,Ia];omega
def B97{r:F6}(h1:r.name.length<=8400000)(h2:r.wrap.length<=8400000):Nb r=J (.one (.str (prT r))):=by
 have hc:r.wrap.count 93<=8400000:=HT KN h2;have Ec:SY r.wrap [93]=J (.one (.int .i64 ((r.wrap.count 93:Nat):Int))):=by
  unfold SY;rw[C7a FK];rfl
 have Ed:LC [91] ((r.wrap.count 93:Nat):Int)=J (.one (.str (Aah (r.wrap.count 93) 91))):=by
  unfold LC;rw[GG GO,GG FK,GG FK];show(J (.one (.str (Aai [91] ((r.wrap.count 93:Nat):Int).toNat))):Gq)=_;rw[Jh,C2m]
 have d1:Aaa (Aah (r.wrap.count 93) (91:UInt8))+Aaa r.name<=9223372036854775807:=by rw[Ia];omega
 have d2:Aaa (Aah (r.wrap.count 93) (91:UInt8)++r.name)+Aaa r.wrap<=9223372036854775807:=by rw[Fd,Ia];omega
 simp only[Nb,gd,kC,kP,kO,Ec,oI,gI,Ed,oS1,gS1,GD,d1,d2,decide_true];rfl
def KB:Nat:=120000000
def lq(n i j:Nat):Prop:=n+KB*i<=KB*j
section
variable {a b n m w i j k:Nat}
def lq.comp(h:lq a i j)(h':lq b j k):lq (a+b) i k:=by unfold lq at*;omega
def lq.le(h:lq m i j)(h':n<=m):lq n i j:=by unfold lq at*;omega
def lq.nil(h:i<=j):lq 0 i j:=by
 have:=Ip KB h;unfold lq;omega
def lq.tok(h:i<j)(hn:n<=120000000):lq n i j:=by
 have h1:=Ip KB (Nat.succ_le_of_lt h);rw[Nat.mul_succ]at h1;have:KB=120000000:=rfl;unfold lq;omega
def lq.wt(h:w+i<=j)(hn:n<=120000000*w):lq n i j:=by
 have h1:=Ip KB h;rw[Aav]at h1;have:KB*w=120000000*w:=rfl;unfold lq;omega
end
def sl{α:Type}(p:α->rg)(l:List α):Nat:=sw (λx=>(p x).length+2) l
def GL{α:Type}(G:α->Prop)(l:List α):Prop:=l.length<=1100000/\∀x∈l,G x
def Rg{α:Type}(G:α->Prop)(p:α->rg)(l:List α)(i j:Nat):Prop:=(∀x∈l,G x)/\l.length+i<=j/\lq (sl p l) i j
section
variable {α:Type}{G:α->Prop}{p:α->rg}{l:List α}{i j k:Nat}
def D7m(l:List α)(x:α):sl p (l++[x])=sl p l+((p x).length+2):=by
 unfold sl;rw[B1d];simp[sw]
def C3f(p:α->rg)(l:List α):(jn 0 (l.map p)).length<=sl p l:=Zl 0 l λx _=>GU _
def B4N(p:α->rg):∀(l:List α),(l.flatMap p).length<=sl p l
 |[]=>HH _
 |x::l=>by
  have:=B4N p l;unfold sl at*;rw[ID,Fd];simp only[sw];omega
def Rg.nil:Rg G p [] i i:=⟨λx hx=>(by cases hx),GN,lq.nil (GU _)⟩
def Rg.add{x:α}(h:Rg G p l i j)(hx:G x)(hj:j<k)(hl:lq ((p x).length+2) j k):Rg G p (l++[x]) i k:=
 ⟨λy hy=>(Hg.1 hy).elim (h.1 y) λhy=>by rw[HW.1 hy];exact hx,by have:=h.2.1;rw[Fd,Hl];omega,by rw[D7m];exact h.2.2.comp hl⟩
def GL.nil:GL G []:=⟨HH _,λx h=>(by cases h)⟩
def Rg.gl(h:Rg G p l i j)(hj:j<=1100000):GL G l:=⟨by have:=h.2.1;omega,h.1⟩
def Rg.rm{c:Nat}(h:Rg G p l i j)(hj:j<=1100000)(hc:c<=1000):A3 (l.length+1) c=Z:=by
 have:=h.2.1;have h1:(l.length+1)*c<=1100001*1000:=JV FK hc;unfold A3;exact GG FK
end
def Y8(a:E0):Prop:=a.name.length<=8400000/\F5 DD a.value/\wt DD a.value<=1100000
def Q2(a:E0):rg:=a.name++[58,32]++prN DD a.value
def X1(l:List E0):rg:=if l=[]then []else [40]++jn 0 (l.map Q2)++[41]
def K1(d:C3):Prop:=d.name.length<=8400000/\GL Y8 d.args
def X5(d:C3):rg:=[32,64]++d.name++X1 d.args
def E2(l:List C3):rg:=l.flatMap X5
section
variable {i j n:Nat}
def B2y{v:LitT}{j n:Nat}(hg:F5 DD v)(hw:wt DD v+i<=j)(hp:1<=wt DD v)(hn:n<=(prN DD v).length+1000):lq n i j:=by
 have:=Zm DD v hg;exact lq.wt hw FK
def wt1(v:LitT):1<=wt DD v:=B22 (by have:DD=1000000:=rfl;omega) v
def C0G(l:List E0):(X1 l).length<=2+sl Q2 l:=by
 have:=C3f Q2 l;unfold X1;split;simp;simp only[Fd,Fr,GT];omega
end
section
variable {N:Gx}{T:Gu}{D:Int}{st:Gv}{i j n m b:Nat}{o:Int}{t:A0}{X:rg}
def J4{α:Type}(l:List α)(i:Nat):idx l (i:Int)=l[i]? :=by unfold idx;simp
def kid{l:Gy}(h:Kd N n (kI b l))(j:Nat)(hj:j<l.length):KZ (n:Int) (j:Int) N T=J ([.int .i64 ((b+j:Nat):Int)],bxN N T):=by
 obtain⟨nd,h1,h2⟩:=h;unfold KZ;rw[J4,h1];simp only[h2,J4];unfold kI;rw[HG,Ho hj];rfl
def PB(h:Kd N n []):K8 (n:Int) N T=J ([.bool Z],bxN N T):=by
 obtain⟨nd,h1,h2⟩:=h;unfold K8;rw[J4,h1];simp only[h2];rfl
def PC{l:Gy}(h:Kd N n (kI b l))(hl:l≠[]):K8 (n:Int) N T=J ([.bool V],bxN N T):=by
 obtain⟨nd,h1,h2⟩:=h;unfold K8;rw[J4,h1];simp only[h2];have:(((kI b l).length:Nat):Int)≠0:=by
  unfold kI;rw[HR,JL];cases l with
  |nil=>exact absurd rfl hl
  |cons=>simp;omega
 rw[show((((kI b l).length:Nat):Int)==0)=V from by simpa using this]
def Zn(h:Tk N n i)(ht:T[i]?=J t):J9 (n:Int) N T=J ([.agg .tok t],bxN N T):=by
 obtain⟨nd,h1,h2⟩:=h;unfold J9;rw[J4,h1];simp only[h2,J4,ht]
inductive Fst (N:Gx):Nat->Nat->Nat->Prop
 |tok {n i:Nat} {X:rg}:Sy N n X->Kh X=J (.one (.bool Z))->Tk N n i->Fst N 0 n i
 |go {d n i b:Nat} {X:rg} {l:Gy}:Sy N n X->Kh X=J (.one (.bool V))->Kd N n (kI b l)->0<l.length->Fst N d b i->Fst N (d+1) n i
def XE{d:Nat}(h:Fst N d n i)(hd:d<1000)(ht:T[i]?=J t):Mw (n:Int) N T=J ([.agg .tok t],bxN N T):=by
 have bm:∀(d n:Nat),Fst N d n i->∀(a:Int)(k:Nat)(K:Int->Bool->Gr),∃m:Nat,Tk N m i/\OW NN a N T (d+1+k) (n:Int) K=K (m:Int) V:=λd=>by
  induction d with
  |zero=>
   intro n h a k K;cases h with|tok h1 h2 h3=>
   refine⟨n,h3,?_⟩;obtain⟨nd,e1,e2⟩:=h1;rw[show 0+1+k=k+1 from FK,OW];simp only[gd,J4,e1,e2,h2];rfl
  |succ d ih=>
   intro n h a k K;cases h with| @go _ _ _ b X l h1 h2 h3 h4 h5=>
   obtain⟨m,q1,q2⟩:=ih b h5 a k K;refine⟨m,q1,?_⟩;obtain⟨nd,e1,e2⟩:=h1;have hk:=kid (T:=T) h3 0 h4;rw[show d+1+1+k=(d+1+k)+1 from FK,OW];rw[show((0:Nat):Int)=0 from rfl]at hk;simp only[gd,J4,e1,e2,h2,hk];exact q2
 obtain⟨m,q1,q2⟩:=bm d n h (n:Int) (NN - (d+1)) (λz1 z2=>let r3:=J9 z1 N T;gd (okB [.agg .tok] kN r3) (J ([.agg .tok (⟨((G3 (gB r3 0)).kind),(⟨(((G3 (gB r3 0)).pos).line),(((G3 (gB r3 0)).pos).col)⟩:A4),((G3 (gB r3 0)).from_),((G3 (gB r3 0)).to_),((G3 (gB r3 0)).text),((G3 (gB r3 0)).value)⟩:A0)],bxN N T)));rw[show d+1+(NN - (d+1))=NN from by have:NN=18446744073709551616:=rfl;omega]at q2;have:Mw (n:Int) N T=_:=q2;rw[this];simp only[Zn q1 ht];rfl
def Chn(N:Gx):Nat->Gv->Prop
 |r,[]=>Kd N r []
 |r,e::L=>∃b,e=b/\Kd N r (kI b [[],[]])/\Chn N (b+1) L
def XF{L:Gv}(h:Chn N n L)(hL:L.length<=1100000):Mv (n:Int) N T=J ([.sl .i64 (L.map λ(e:Nat)=>(e:Int)) (J 1)],bxN N T):=by
 have bm:∀(L:Gv)(n:Nat)(a7:Gp),Chn N n L->L.length+a7.length<=1100000->∀(a:Int)(k:Nat)(K:Int->Gp->Bool->Gr),∃m:Int,OU NN a N T (L.length+1+k) (n:Int) a7 K=K m (a7++L.map λ(e:Nat)=>(e:Int)) V:=λL=>by
  induction L with
  |nil=>
   intro n a7 h _ a k K;refine⟨n,?_⟩;rw[show([]:Gv).length+1+k=k+1 from GQ,OU];simp only[gd,PB h];simp;rfl
  |cons e L ih=>
   intro n a7 h hl a k K;obtain⟨b,rfl,h1,h2⟩:=h;rw[Fr]at hl;obtain⟨m,hm⟩:=ih (e+1) (a7++[(e:Int)]) h2 (by rw[Fd,Hl];omega) a k K;refine⟨m,?_⟩;rw[show(e::L).length+1+k=(L.length+1+k)+1 from GQ,OU];have k0:KZ (n:Int) 0 N T=_:=kid (T:=T) h1 0 GO;have k1:KZ (n:Int) 1 N T=_:=kid (T:=T) h1 1 GO;have hr:A3 (Aaa a7+1) 8=Z:=by unfold A3;exact GG FK
   simp only[gd,PC h1 GN,k0,k1];show(bif A3 (Aaa a7+1) 8 then _ else O)=_;rw[hr];refine hm.trans ?_;rw[GV];rfl
 obtain⟨m,hm⟩:=bm L n [] h (by simpa using hL) (n:Int) (NN - (L.length+1)) (λz1 z2 z3=>J ([.sl .i64 z2 (J 1)],bxN N T));rw[show L.length+1+(NN - (L.length+1))=NN from by have:NN=18446744073709551616:=rfl;omega]at hm;exact hm
end
section
variable {N:Gx}{T:Gu}{D:Int}{st:Gv}{i j n m b:Nat}{o:Int}{t:A0}{X:rg}
def PH{l:Gy}(h:Kd N n (kI b l))(hl:0<l.length:=by simp):KZ (n:Int) 0 N T=J ([.int .i64 (b:Int)],bxN N T):=kid h 0 hl
def Ss(N:Gx)(b:Nat)(l:Gy):Prop:=∀(j:Nat) Y,l[j]?=J Y->Sy N (b+j) Y
def Ad.tm(tw:TW T)(h:Ad T D N (n::st) i o)(hs:Sy N n X)(hX:TS.contains X=Z)(o0:0<=o)(o1:o<=1000):
  ∃t,T[i]?=J t/\LH t/\mt X t=Z/\Tk N n i/\Fst N 0 n i/\i+1<T.length/\(L1 X=Z->o+1<=D)/\Ad T D N st (i+1) (o+br X):=by
 have hX:X∈TS:=by simpa using hX
 obtain⟨e0,e1,_⟩:=B4g X hX;obtain⟨t,ht,hm,hk,hd,ha⟩:=h.term e0 hs o0 o1;rw[e1]at ha;exact⟨t,ht,tw.ok t (HI ht),hm,hk,.tok hs e0 hk,tw.lst i t ht (B83 hX hm),hd,ha⟩
def Ad.rl{l:A0->Gy}(tw:TW T)(h:Ad T D N (n::st) i o)(hs:Sy N n X)(hX:∀t,Ke X t=rlS (l t))(hT:Kh X=J (.one (.bool V)):=by kernel_rfl):
  ∃t b,T[i]?=J t/\LH t/\i<T.length/\Kd N n (kI b (l t))/\Ss N b (l t)/\Ad T D N (kN_ b (l t)++st) i o:=by
 have hl:=h.lt;obtain⟨t,b,ht,h1,h2,h3⟩:=h.rule hX hT hs;exact⟨t,b,ht,tw.ok t (HI ht),hl,h1,h2,h3⟩
def kb(x:Bool):okB [.bool] kN (J ([.bool x],bxN N T))=Z:=rfl
def kz(x:Int):okB [.int .i64] kN (J ([.int .i64 x],bxN N T))=Z:=rfl
def kt_(x:A0):okB [.agg .tok] kN (J ([.agg .tok x],bxN N T))=Z:=rfl
def kr(x:F6):okB [.agg .tref] kN (J ([.agg .tref x],bxN N T))=Z:=rfl
def kl(x:LitT):okB [.agg .lit] kN (J ([.agg .lit x],bxN N T))=Z:=rfl
def kc(x:Gp):okB [.sl .i64 (J 1)] kN (J ([.sl .i64 x (J 1)],bxN N T))=Z:=rfl
def qb(b:Bool)(x:Gz):lB (gB (J ([.bool b],x)) 0)=b:=rfl
def qz(b:Int)(x:Gz):lI (gB (J ([.int .i64 b],x)) 0)=b:=rfl
def qt(y:A0)(x:Gz):G3 (gB (J ([.agg .tok y],x)) 0)=y:=rfl
def qr(y:F6)(x:Gz):Lv (gB (J ([.agg .tref y],x)) 0)=y:=rfl
def ql(y:LitT)(x:Gz):G9 (gB (J ([.agg .lit y],x)) 0)=y:=rfl
def qc(y:Gp)(x:Gz):Mn (gB (J ([.sl .i64 y (J 1)],x)) 0)=y:=rfl
def FA{α:Type}(Rd:Nat->α->Prop):Gv->List α->Prop
 |[],[]=>True
 |e::L,x::l=>Rd e x/\FA Rd L l
 |_,_=>False
def FA.len{α:Type}{Rd:Nat->α->Prop}:∀{L:Gv}{l:List α},FA Rd L l->L.length=l.length
 |[],[],_=>rfl
 |_::_,_::_,h=>by rw[Fr,Fr,FA.len h.2]
def Tz{α:Type}{E:rg}{Rd:Nat->α->Prop}{G:α->Prop}{μ:α->Nat}{kb:Nat}(tw:TW T)(hX:∀t,∃c:Bool,Ke X t=rlS (bif c then []else [E,X]))(hT:Kh X=J (.one (.bool V)))
  (step:∀(e i:Nat)(st:Gv),Ad T D N (e::st) i o->Sy N e E->∃x j,Rd e x/\Ad T D N st j o/\i<j/\G x/\μ x+kb*i<=kb*j):
  ∀(m r i:Nat),T.length<m+i->Ad T D N (r::st) i o->Sy N r X->∃L l j,Chn N r L/\FA Rd L l/\Ad T D N st j o/\i<=j/\(∀x∈l,G x)/\l.length+i<=j/\sw μ l+kb*i<=kb*j
 |0,r,i,hm,ha,hs=>by have:=ha.lt;omega
 |m+1,r,i,hm,ha,hs=>by
  have hE:∀t,Ke X t=rlS (F0 (gL (Ke X t) 0)):=λt=>by obtain⟨c,e⟩:=hX t;rw[e];rfl
  obtain⟨t,b,ht,hk,hl,h1,h2,h3⟩:=ha.rl tw hs hE hT;obtain⟨c,e⟩:=hX t;have e':F0 (gL (Ke X t) 0)=bif c then []else [E,X]:=by rw[e];rfl
  rw[e']at h1 h2 h3;cases c with
  |true=>exact⟨[],[],i,h1,trivial,h3,GU _,λx hx=>(by cases hx),GN,by simp[sw]⟩
  |false=>
   have h3:Ad T D N (b::(b+1)::st) i o:=h3;obtain⟨x,j,q1,q2,q3,q4,q5⟩:=step b i ((b+1)::st) h3 (h2 0 _ rfl);obtain⟨L,l,k,w1,w2,w3,w4,w5,w6,w7⟩:=Tz tw hX hT step m (b+1) j FK q2 (h2 1 _ rfl);refine⟨b::L,x::l,k,⟨b,rfl,h1,w1⟩,⟨q1,w2⟩,w3,FK,λy hy=>?_,by rw[Fr];omega,?_⟩;rcases HC.1 hy with rfl|hy;exact q4;exact w5 y hy;simp only[sw];omega
def rdl{α S R:Type}{Rd:Nat->α->Prop}{L0:Gv}(Lf:Nat->List α->Nat->S->Option R)(K:List α->Option R)(dV:∀n a7 s,Lf (n+1) a7 L0.length s=K a7)
  (ez:∀n a7 i e x s,L0[i]?=J e->i<L0.length->Rd e x->a7.length<=1100001->∃s',Lf (n+1) a7 i s=Lf n (a7++[x]) (i+1) s'):
  ∀(L:Gv)(l:List α)(n i:Nat)(a7:List α)(s:S),FA Rd L l->L=L0.drop i->i<=L0.length->L0.length<n+i->a7.length+l.length<=1100001->Lf n a7 i s=K (a7++l)
 |_,_,0,i,a7,s,_,_,_,h,_=>FK
 |[],[],n+1,i,a7,s,_,hd,hi,_,_=>by
  have:L0.length<=i:=by
   have:=congrArg Aaa hd;rw[IR]at this;simp at this;omega
  rw[show i=L0.length from FK,dV,GY]
 |e::L,x::l,n+1,i,a7,s,hf,hd,hi,hn,ha=>by
  have aE:i<L0.length:=by
   have:=congrArg Aaa hd;rw[IR,Fr]at this;omega
  rw[Ht aE]at hd;obtain⟨h1,h2⟩:=List.cons.inj hd;rw[Fr]at ha;obtain⟨s',e1⟩:=ez n a7 i e x s (by rw[GE aE, <-h1]) aE hf.1 FK;rw[e1,rdl Lf K dV ez L l n (i+1) (a7++[x]) s' hf.2 h2 FK FK (by rw[Fd,Hl];omega),GV];rfl
def XG{α S R:Type}{Rd:Nat->α->Prop}{L:Gv}{l:List α}(Lf:Nat->List α->Nat->S->Option R)(K:List α->Option R)(hf:FA Rd L l)(hL:L.length<=1100000)(dV:∀n a7 s,Lf (n+1) a7 L.length s=K a7)
  (ez:∀n a7 i e x s,L[i]?=J e->i<L.length->Rd e x->a7.length<=1100001->∃s',Lf (n+1) a7 i s=Lf n (a7++[x]) (i+1) s')(a7:List α)(s:S)(ha:a7.length<=1):Lf NN a7 0 s=K (a7++l):=
 rdl Lf K dV ez L l NN 0 a7 s hf rfl (HH _) (by have:NN=18446744073709551616:=rfl;omega) (by rw[<-hf.len];omega)
def XH{L:Gv}{i e:Nat}(h:L[i]?=J e):idx (L.map λ(e:Nat)=>(e:Int)) (i:Int)=J (e:Int):=by rw[J4,HG,h];rfl
def LT(L:Gv):(((L.map λ(e:Nat)=>(e:Int)).length:Nat):Int)=(L.length:Int):=by rw[HR]
def wrI(h:i<=4400000):Aab .i64 ((i:Int)+1)=((i+1:Nat):Int):=by rw[P0 FK FK];omega
def ltT{a b:Nat}(h:a<b):decide ((a:Int)<(b:Int))=Z:=GG FK
def ltF(a:Nat):decide ((a:Int)<(a:Int))=V:=GH FK
def XI{a c:Nat}(h:a<=1100001)(hc:c<=1000:=by decide):A3 (a+1) c=Z:=by
 have h1:(a+1)*c<=1100002*1000:=JV FK hc;unfold A3;exact GG FK
def D1c(tw:TW T)(h:Ad T D N (n::st) i o)(hs:Sy N n NQ)(o0:0<=o)(o1:o<=1000):∃(x:Bool)(j:Nat),K8 (n:Int) N T=J ([.bool x],bxN N T)/\Ad T D N st j o/\i<=j:=by
 obtain⟨t,b,ht,hk,hl,h1,h2,h3⟩:=h.rl tw hs (λ_=>C3Y);cases hb:pu t Wo with
 |false=>rw[hb]at h1 h3;exact⟨_,i,PB h1,h3,GU _⟩
 |true=>
  rw[hb]at h1 h2 h3;obtain⟨_,_,_,_,_,_,_,_,h4⟩:=Ad.tm tw (show Ad T D N (b::st) i o from h3) (h2 0 _ rfl) GM o0 o1;exact⟨_,i+1,PC h1 GN,by simpa [show br Wo=0 from GM]using h4,IS _⟩
def Zo(tw:TW T)(hD:D<=200):∀(d n i:Nat)(o:Int)(st:Gv),D - o<(d:Int)->0<=o->o<=D->Ad T D N (n::st) i o->Sy N n Oi->
  ∃r j,My d (n:Int) N T=J ([.agg .tref r],bxN N T)/\Ad T D N st j o/\i<j/\r.name.length<=8400000/\(r.wrap.length:Int)<=2*(D - o)+1
 |0,n,i,o,st,h,h0,h1,_,_=>FK
 |d+1,n,i,o,st,h,h0,h1,ha,hs=>by
  obtain⟨t,b,ht,hk,hl,c1,c2,c3⟩:=ha.rl tw hs (λ_=>C5a);rw[My];unfold Yt;have bQ:∀(q:Nat)(nm w:rg)(j:Nat),Sy N q NQ->Ad T D N (q::st) j o->(w.length:Int)<=2*(D - o)->nm.length<=8400000->i<j->
    ∃(r:F6)(j':Nat),(let cF:=K8 (q:Int) N T;gd (okB [.bool] kN cF) (bif(!(lB (gB cF 0)))then(gd (decide (Aaa w+Aaa [33]<=9223372036854775807)) (J ([.agg .tref (⟨nm,w++[33]⟩:F6)],bxN N T)))else(J ([.agg .tref (⟨nm,w⟩:F6)],bxN N T))):Gr)=J ([.agg .tref r],bxN N T)/\Ad T D N st j' o/\i<j'/\r.name.length<=8400000/\(r.wrap.length:Int)<=2*(D - o)+1:=λq nm w j hq hA hw hn cJ=>by
   obtain⟨x,j',e,a1,a2⟩:=D1c tw hA hq h0 FK;simp only[e,gd,kb,qb,GD];cases x with
   |false=>
    rw[GG (by rw[Hl];omega:Aaa w+Aaa [33]<=9223372036854775807)];exact⟨_,j',rfl,a1,FK,hn,by rw[Fd,Hl];omega⟩
   |true=>exact⟨_,j',rfl,a1,FK,hn,by show(w.length:Int)<=_;omega⟩
  cases hb:pu t X9 with
  |false=>
   rw[hb]at c1 c2 c3;simp only[GF]at c1 c2 c3;have c3:Ad T D N (b::(b+1)::st) i o:=c3;obtain⟨t',cQ,fV,_,hT,_,_,_,h4⟩:=Ad.tm tw c3 (c2 0 _ rfl) GM h0 FK;rw[show br C8=0 from GM,IX]at h4;have k0:=PH (T:=T) c1;have k1:KZ (n:Int) 1 N T=_:=kid (T:=T) c1 1 GO;obtain⟨nd,e1,e2⟩:=c1;simp only[J4,e1,e2,show(((kI b [C8,NQ]).length:Nat):Int)=2 from rfl,show Aab .i64 ((2:Int) - 1)=1 from rfl,show((2:Int)==4)=V from rfl,GF,gd,k0,k1,kz,qz,GD,Zn hT cQ,kt_,qt];exact bQ (b+1) t'.text [] (i+1) (c2 1 _ rfl) h4 GQ fV.1 FK
  |true=>
   rw[hb]at c1 c2 c3;simp only[GD]at c1 c2 c3;have c3:Ad T D N (b::(b+1)::(b+2)::(b+3)::st) i o:=c3;obtain⟨_,_,_,_,_,_,_,dW,h4⟩:=Ad.tm tw c3 (c2 0 _ rfl) GM h0 FK;have dW:=dW GM;rw[show br X9=1 from GM]at h4;obtain⟨r,j,e,h5,h6,h7,h8⟩:=Zo tw hD d (b+1) (i+1) (o+1) _ FK FK FK h4 (c2 1 _ rfl);obtain⟨_,_,_,_,_,_,_,_,h9⟩:=Ad.tm tw h5 (c2 2 _ rfl) GM FK FK;rw[show br NO= -1 from GM,show o+1+ -1=o from FK]at h9;have k1:KZ (n:Int) 1 N T=_:=kid (T:=T) c1 1 GO;have k3:KZ (n:Int) 3 N T=_:=kid (T:=T) c1 3 GO;obtain⟨nd,e1,e2⟩:=c1;have hw:decide (Aaa r.wrap+Aaa [93]<=9223372036854775807)=Z:=GG (by rw[Hl];omega);simp only[J4,e1,e2,show(((kI b [X9,Oi,NO,NQ]).length:Nat):Int)=4 from rfl,show Aab .i64 ((4:Int) - 1)=3 from rfl,show((4:Int)==4)=Z from rfl,GD,gd,k1,k3,kz,qz,e,kr,qr,hw];exact bQ (b+3) r.name (r.wrap++[93]) (j+1) (c2 3 _ rfl) h9 (by rw[Fd,Hl];omega) h7 FK
def GTy(r:F6):Prop:=r.name.length<=8400000/\r.wrap.length<=8000000
def GTy.len{r:F6}(h:GTy r):(prT r).length<=25000000:=by
 have:=B2P r;have:=h.1;have:=h.2;omega
def B3w(tw:TW T)(hD:D<=200)(h0:0<=o)(h1:o<=D)(h:Ad T D N (n::st) i o)(hs:Sy N n Oi):∃r j,B7w (n:Int) N T=J ([.agg .tref r],bxN N T)/\Ad T D N st j o/\i<j/\GTy r:=by
 obtain⟨r,j,e,c,h1,h2,h3⟩:=Zo tw hD DD n i o st (by have:DD=1000000:=rfl;omega) h0 h1 h hs;exact⟨r,j,e,c,h1,h2,FK⟩
end
def XJ{d:Nat}{k:Int}{x:rg}{b:Bool}{p:A4}(h1:1<=k)(h2:k<=9)(h3:x.length<=8400000)(h4:k=4->b=Z->(btF x).2=Z):F5 (d+1) (.mk k x b [] [] p)/\wt (d+1) (.mk k x b [] [] p)=1:=
 ⟨⟨by show 0<=k;omega,by show k<=11;omega,h3,h4,λx hx=>(by cases hx),λf hf=>(by cases hf)⟩,rfl⟩
def C3P:F5 DD (.mk 0 [] V [] [] ⟨0,0⟩)/\wt DD (.mk 0 [] V [] [] ⟨0,0⟩)<=1100000:=
 have h:F5 (999999+1) (.mk 0 [] V [] [] ⟨0,0⟩)/\wt (999999+1) (.mk 0 [] V [] [] ⟨0,0⟩)<=1100000:=⟨⟨by show(0:Int)<=0;omega,by show(0:Int)<=11;omega,HH _,λh=>absurd (show(0:Int)=4 from h) FK,λ_ h=>(by cases h),λ_ h=>(by cases h)⟩,by show 1+0+0<=1100000;omega⟩
 h
def B2T{d:Nat}{k:Int}{l:GB}{fl:List LfT}{p:A4}(h1:k=8\/k=9)(h2:∀x∈l,F5 d x)(h3:∀f∈fl,f.name.length<=8400000/\F5 d f.value):F5 (d+1) (.mk k [] V l fl p):=
 ⟨by show 0<=k;omega,by show k<=11;omega,HH _,λ_ h=>(by cases h),h2,h3⟩
section
variable {N:Gx}{T:Gu}{D:Int}{st:Gv}{i j n m b:Nat}{o:Int}{t:A0}{X:rg}
def B6C{g187:Int->Gx->Gu->Gr}{aZ:Int->A0->Gx->Gu->Int->rg->Bool->GB->List LfT->Int->Int->Gr}{k:Int}{x:rg}{dU:GB}{fs:List LfT}(hf:Mw (n:Int) N T=J ([.agg .tok t],bxN N T))(hk:t.kind=2)
  (e:aZ (n:Int) t N T 0 t.text V [] [] t.pos.line t.pos.col=J ([],[[.sl .node N O,.sl .tok T O],[.int .i64 k,.str x,.bool V,.sl .lit dU (J 92000103),.sl .lf fs (J 92000104),.int .i64 t.pos.line,.int .i64 t.pos.col]])):
  W5 g187 aZ (n:Int) N T=J ([.agg .lit (.mk k x V dU fs t.pos)],bxN N T):=by
 unfold W5;simp only[hf,gd,kt_,qt,GD,hk,show((2:Int)==4)=V from rfl,show((2:Int)==5)=V from rfl,show((2:Int)==6)=V from rfl,show((2:Int)==7)=V from rfl,show((2:Int)==3)=V from rfl,show((2:Int)==2)=Z from rfl,GF,e];rfl
def RdL(N:Gx)(T:Gu)(d e:Nat)(v:LitT):Prop:=(G8 d).1 (e:Int) N T=J ([.agg .lit v],bxN N T)
def RdF(N:Gx)(T:Gu)(d e:Nat)(f:LfT):Prop:=∃(a c:Nat)(t:A0),KZ (e:Int) 0 N T=J ([.int .i64 (a:Int)],bxN N T)/\J9 (a:Int) N T=J ([.agg .tok t],bxN N T)/\KZ (e:Int) 2 N T=J ([.int .i64 (c:Int)],bxN N T)/\RdL N T d c f.value/\f=⟨t.text,f.value,t.pos⟩
def C7j{d:Nat}{L:Gv}{l:GB}(hx:t.text=[91])(k1:KZ (n:Int) 1 N T=J ([.int .i64 (m:Int)],bxN N T))(hc:Chn N m L)(hL:L.length<=1100000)(hf:FA (RdL N T d) L l){tx:rg}{p q:Int}:
  OX (G8 d).1 (G8 d).2 (n:Int) t N T 0 tx V [] [] p q=J ([],[[.sl .node N O,.sl .tok T O],[.int .i64 8,.str [],.bool V,.sl .lit l (J 92000103),.sl .lf [] (J 92000104),.int .i64 p,.int .i64 q]]):=by
 simp only[OX,Su,hx,gd,k1,kz,qz,XF hc hL,kc,qc,GD,GF,show(([91]:rg)==[36])=V from rfl,show(([91]:rg)==[91])=Z from rfl];have:=XG (S:=Unit) (R:=B6) (λk a7 i _=>MG NN (G8 d).1 (G8 d).2 (n:Int) t N T 0 tx V [] [] p q k (L.map λ(e:Nat)=>(e:Int)) (i:Int) a7 (λz3 z4 z5 z6=>J ([],[[.sl .node N O,.sl .tok T O],[.int .i64 8,.str [],.bool V,.sl .lit z6 (J 92000103),.sl .lf [] (J 92000104),.int .i64 p,.int .i64 q]])))
  (λa7=>J ([],[[.sl .node N O,.sl .tok T O],[.int .i64 8,.str [],.bool V,.sl .lit a7 (J 92000103),.sl .lf [] (J 92000104),.int .i64 p,.int .i64 q]])) hf hL
  (λk a7 _=>by show MG _ _ _ _ _ _ _ _ _ _ _ _ _ _ (k+1) _ _ _ _=_;unfold MG;simp only[B10,LT,ltF,GF])
  (λk a7 i e x _ he hi hr ha=>⟨(),by
   show MG _ _ _ _ _ _ _ _ _ _ _ _ _ _ (k+1) _ _ _ _=_
   conv=>lhs;unfold MG
   have hr:(G8 d).1 (e:Int) N T=_:=hr;simp only[B10,LT,ltT hi,GD,XH he,hr,gd,kl,ql,XI (c:=96) ha,wrI (show i<=4400000 from FK),decide_true,Hy]⟩) [] () GN
 exact this
def D7n{d:Nat}{L:Gv}{l:List LfT}(hx:t.text=[123])(k1:KZ (n:Int) 1 N T=J ([.int .i64 (m:Int)],bxN N T))(hc:Chn N m L)(hL:L.length<=1100000)(hf:FA (RdF N T d) L l){tx:rg}{p q:Int}:
  OX (G8 d).1 (G8 d).2 (n:Int) t N T 0 tx V [] [] p q=J ([],[[.sl .node N O,.sl .tok T O],[.int .i64 9,.str [],.bool V,.sl .lit [] (J 92000103),.sl .lf l (J 92000104),.int .i64 p,.int .i64 q]]):=by
 simp only[OX,Su,hx,gd,k1,kz,qz,XF hc hL,kc,qc,GD,GF,show(([123]:rg)==[36])=V from rfl,show(([123]:rg)==[91])=V from rfl,show(([123]:rg)==[123])=Z from rfl];have:=XG (S:=Unit) (R:=B6) (λk a7 i _=>MH NN (G8 d).1 (G8 d).2 (n:Int) t N T 0 tx V [] [] p q k (L.map λ(e:Nat)=>(e:Int)) (i:Int) a7 (λz3 z4 z5 z6=>J ([],[[.sl .node N O,.sl .tok T O],[.int .i64 9,.str [],.bool V,.sl .lit [] (J 92000103),.sl .lf z6 (J 92000104),.int .i64 p,.int .i64 q]])))
  (λa7=>J ([],[[.sl .node N O,.sl .tok T O],[.int .i64 9,.str [],.bool V,.sl .lit [] (J 92000103),.sl .lf a7 (J 92000104),.int .i64 p,.int .i64 q]])) hf hL
  (λk a7 _=>by show MH _ _ _ _ _ _ _ _ _ _ _ _ _ _ (k+1) _ _ _ _=_;unfold MH;simp only[B1Q,LT,ltF,GF])
  (λk a7 i e x _ he hi hr ha=>⟨(),by
   show MH _ _ _ _ _ _ _ _ _ _ _ _ _ _ (k+1) _ _ _ _=_
   conv=>lhs;unfold MH
   obtain⟨a,c,t',w1,w2,w3,w4,w5⟩:=hr;have w4:(G8 d).1 (c:Int) N T=_:=w4;simp only[B1Q,LT,ltT hi,GD,XH he,w1,w2,w3,w4,kz,qz,kt_,qt,gd,kl,ql,XI (c:=128) ha,wrI (show i<=4400000 from FK),decide_true,Hy];rw[w5];cases x.value;rfl⟩) [] () GN
 exact this
def Qz(tw:TW T)(hD:D<=200)(c:Bool):∀(g d n i:Nat)(o:Int)(st:Gv),D - o<(g:Int)->2*g<=d->0<=o->o<=D->Ad T D N (n::st) i o->Sy N n (cs c P8)->
  ∃v j,RdL N T d n v/\Ad T D N st j o/\i<j/\F5 g v/\wt g v+i<=j
 |0,d,n,i,o,st,h,_,h0,h1,_,_=>FK
 |g+1,0,n,i,o,st,h,h2,h0,h1,_,_=>FK
 |g+1,1,n,i,o,st,h,h2,h0,h1,_,_=>FK
 |g+1,d+2,n,i,o,st,h,h2,h0,h1,ha,hs=>by
  have gK:=tw.len;have hV:Kh (cs c P8)=J (.one (.bool V)):=by cases c<;>kernel_rfl
  obtain⟨t,b,ht,hk,hl,c1,c2,c3⟩:=ha.rl tw hs (λ_=>B6T c) hV;have go:∀v,W5 (G8 (d+1)).1 (G8 (d+1)).2 (n:Int) N T=J ([.agg .lit v],bxN N T)->RdL N T (d+2) n v:=λv e=>e;have aZ:(G8 (d+1)).2=OX (G8 d).1 (G8 d).2:=rfl;have one:∀{Y:rg}{l:Gy},Kd N n (kI b (Y::l))->Ss N b (Y::l)->Ad T D N (b::(kN_ (b+1) l++st)) i o->TS.contains Y=Z->mt Y t=Z/\i+1<T.length/\(L1 Y=Z->o+1<=D)/\Ad T D N (kN_ (b+1) l++st) (i+1) (o+br Y)/\Mw (n:Int) N T=J ([.agg .tok t],bxN N T):=λ{Y l} q1 q2 q3 q4=>by
   obtain⟨t',cQ,_,w1,_,w2,w3,w4,w5⟩:=Ad.tm tw q3 (q2 0 _ rfl) q4 h0 FK;rw[ht]at cQ;cases cQ;exact⟨w1,w3,w4,w5,XE (.go hs hV q1 GN w2) FK ht⟩
  cases b1:pu t W2&& !c with
  |true=>
   rw[b1]at c1 c2 c3;simp only[GD]at c1 c2 c3;obtain⟨w1,w3,_,w5,w6⟩:=one c1 c2 c3 GM;obtain⟨k2,kx⟩:=B34 (B6g GM ▸ w1);rw[show br W2=0 from GM,IX]at w5;obtain⟨t2,jz,cK,_,Ee,_,js,_,w7⟩:=Ad.tm tw (show Ad T D N ((b+1)::st) (i+1) o from w5) (c2 1 _ rfl) GM h0 FK;rw[show br C8=0 from GM,IX]at w7;have k1:KZ (n:Int) 1 N T=_:=kid (T:=T) c1 1 GN;have lf:=XJ (d:=g) (k:=1) (x:=t2.text) (b:=V) (p:=t.pos) FK FK cK.1 (λh=>FK);refine⟨.mk 1 t2.text V [] [] t.pos,i+1+1,go _ (B6C w6 k2 ?_),w7,FK,lf.1,by rw[lf.2];omega⟩;rw[aZ];simp only[OX,Su,kx,show(W2==[36])=Z from rfl,gd,k1,kz,qz,GD,Zn Ee jz,kt_,qt]
  |false=>
   rw[b1]at c1 c2 c3;simp only[GF]at c1 c2 c3;cases b2:pu t X9 with
  |true=>
   rw[b2]at c1 c2 c3;simp only[GD]at c1 c2 c3;obtain⟨w1,w3,dW,w5,w6⟩:=one c1 c2 c3 GM;obtain⟨k2,kx⟩:=B34 b2;have dW:=dW GM;rw[show br X9=1 from GM]at w5;obtain⟨L,l,j,q1,q2,q3,q4,q5,q6,q7⟩:=Tz (α:=LitT) (Rd:=RdL N T d) (G:=F5 g) (μ:=wt g) (kb:=1) (E:=cs c P8) tw (λt=>⟨_,B8k c⟩) (by cases c<;>kernel_rfl)
    (λe i st hA hS=>by
     obtain⟨v,j,e1,e2,e3,e4,e5⟩:=Qz tw hD c g d e i (o+1) st FK FK FK FK hA hS;exact⟨v,j,e1,e2,e3,e4,FK⟩) (T.length+1) (b+1) (i+1) FK (show Ad T D N ((b+1)::(b+2)::st) (i+1) (o+1)from w5) (c2 1 _ rfl)
   obtain⟨_,_,_,_,_,_,Ef,_,w8⟩:=Ad.tm tw q3 (c2 2 _ rfl) GM FK FK;rw[show br NO= -1 from GM,show o+1+ -1=o from FK]at w8;have k1:KZ (n:Int) 1 N T=_:=kid (T:=T) c1 1 GN;refine⟨.mk 8 [] V l [] t.pos,j+1,go _ (B6C w6 k2 ?_),w8,FK,B2T (.inl rfl) q5 (λf hf=>by cases hf),?_⟩;rw[aZ];exact C7j kx k1 q1 (by rw[q2.len];omega) q2;show 1+sw (wt g) l+0+i<=j+1;omega
  |false=>
   rw[b2]at c1 c2 c3;simp only[GF]at c1 c2 c3;cases b3:pu t Q9 with
  |true=>
   rw[b3]at c1 c2 c3;simp only[GD]at c1 c2 c3;obtain⟨w1,w3,dW,w5,w6⟩:=one c1 c2 c3 GM;obtain⟨k2,kx⟩:=B34 b3;have dW:=dW GM;rw[show br Q9=1 from GM]at w5;obtain⟨L,l,j,q1,q2,q3,q4,q5,q6,q7⟩:=Tz (α:=LfT) (Rd:=RdF N T d) (G:=λf=>f.name.length<=8400000/\F5 g f.value) (μ:=λf=>1+wt g f.value) (kb:=1) (E:=cs c Tl) tw (λt=>⟨_,B8i c⟩) (by cases c<;>kernel_rfl)
    (λe i st hA hS=>by
     obtain⟨_,b',_,_,_,d1,d2,d3⟩:=hA.rl tw hS (λ_=>B6r c) (by cases c<;>kernel_rfl);obtain⟨t',cQ,fV,_,Eg,_,_,_,d4⟩:=Ad.tm tw (show Ad T D N (b'::(b'+1)::(b'+2)::st) i (o+1)from d3) (d2 0 _ rfl) GM FK FK;rw[show br C8=0 from GM,IX]at d4;obtain⟨_,_,_,_,_,_,_,_,d5⟩:=Ad.tm tw d4 (d2 1 _ rfl) GM FK FK;rw[show br X8=0 from GM,IX]at d5;obtain⟨v,j,e1,e2,e3,e4,e5⟩:=Qz tw hD c g d (b'+2) (i+1+1) (o+1) st FK FK FK FK d5 (d2 2 _ rfl);exact⟨⟨t'.text,v,t'.pos⟩,j,⟨b',b'+2,t',PH d1,Zn Eg cQ,kid d1 2 GN,e1,rfl⟩,e2,FK,⟨fV.1,e4⟩,by show 1+wt g v+1*i<=1*j;omega⟩) (T.length+1) (b+1) (i+1) FK (show Ad T D N ((b+1)::(b+2)::st) (i+1) (o+1)from w5) (c2 1 _ rfl)
   obtain⟨_,_,_,_,_,_,Ef,_,w8⟩:=Ad.tm tw q3 (c2 2 _ rfl) GM FK FK;rw[show br NM= -1 from GM,show o+1+ -1=o from FK]at w8;have k1:KZ (n:Int) 1 N T=_:=kid (T:=T) c1 1 GN;refine⟨.mk 9 [] V [] l t.pos,j+1,go _ (B6C w6 k2 ?_),w8,FK,B2T (.inr rfl) (λx hx=>by cases hx) q5,?_⟩;rw[aZ];exact D7n kx k1 q1 (by rw[q2.len];omega) q2;show 1+0+sw (λ(f:LfT)=>1+wt g f.value) l+i<=j+1;omega
  |false=>
   rw[b3]at c1 c2 c3;simp only[GF]at c1 c2 c3;cases b4:t.kind==3 with
  |true=>
   rw[b4]at c1 c2 c3;simp only[GD]at c1 c2 c3;obtain⟨_,w3,_,w5,w6⟩:=one c1 c2 c3 GM;rw[show br C8=0 from GM,IX]at w5;have k3:t.kind=3:=by simpa using b4
   have bm:∃v:LitT,W5 (G8 (d+1)).1 (G8 (d+1)).2 (n:Int) N T=J ([.agg .lit v],bxN N T)/\F5 (g+1) v/\wt (g+1) v=1:=by
    unfold W5;simp only[w6,gd,kt_,qt,GD,k3,show((3:Int)==4)=V from rfl,show((3:Int)==5)=V from rfl,show((3:Int)==6)=V from rfl,show((3:Int)==7)=V from rfl,show((3:Int)==3)=Z from rfl,GF];have gg:∀k x,5<=k/\k<=7->x.length<=8400000->∃v:LitT,(J ([.agg .lit (LitT.mk k x V [] [] (⟨t.pos.line,t.pos.col⟩:A4))],[[.sl .node N O,.sl .tok T O]]):Gr)=J ([.agg .lit v],bxN N T)/\F5 (g+1) v/\wt (g+1) v=1:=λk x hk hx=>⟨_,rfl,XJ FK FK hx (λh=>FK)⟩;cases t.text==[116,114,117,101]<;>cases t.text==[102,97,108,115,101]<;>cases t.text==[110,117,108,108]<;>first|exact gg 5 _ FK hk.1|exact gg 6 [] FK GN|exact gg 7 _ FK hk.1
   obtain⟨v,ev,g1,g2⟩:=bm;exact⟨v,i+1,go v ev,w5,FK,g1,FK⟩
  |false=>
   rw[b4]at c1 c2 c3;simp only[GF]at c1 c2 c3;obtain⟨w1,w3,_,w5,w6⟩:=one c1 c2 c3 GM;rw[show br LO=0 from GM,IX]at w5;obtain⟨q1,q2⟩:=C0t w1;have bQ:∀k x bl,1<=k->k<=9->x.length<=8400000->(k=4->bl=Z->(btF x).2=Z)->W5 (G8 (d+1)).1 (G8 (d+1)).2 (n:Int) N T=J ([.agg .lit (.mk k x bl [] [] t.pos)],bxN N T)->∃v j,RdL N T (d+2) n v/\Ad T D N st j o/\i<j/\F5 (g+1) v/\wt (g+1) v+i<=j:=λk x bl p1 p2 p3 p4 e=>by
    have lf:=XJ (d:=g) (p:=t.pos) p1 p2 p3 p4;exact⟨_,i+1,go _ e,w5,FK,lf.1,by rw[lf.2];omega⟩
   have hc:t.kind=4\/t.kind=5\/t.kind=6\/t.kind=7:=FK;rcases hc with k|k|k|k;exact bQ 2 t.text V FK FK hk.1 (λh=>FK) (by unfold W5;simp only[w6,gd,kt_,qt,GD,k];rfl);exact bQ 3 t.text V FK FK hk.1 (λh=>FK) (by unfold W5;simp only[w6,gd,kt_,qt,GD,k];rfl);exact bQ 4 t.value V FK FK hk.2.1 (λ_ h=>by cases h) (by unfold W5;simp only[w6,gd,kt_,qt,GD,k];rfl);exact bQ 4 t.value Z FK FK hk.2.1 (λ_ _=>hk.2.2.1 k) (by unfold W5;simp only[w6,gd,kt_,qt,GD,k];rfl)
end
def B5U{α:Type}{f g:α->Nat}:∀(l:List α),(∀x∈l,f x=g x)->sw f l=sw g l
 |[],_=>rfl
 |x::l,h=>by simp only[sw];rw[h x HO,B5U l λy hy=>h y (Ha _ hy)]
def Zp:∀(d:Nat)(v:LitT),F5 d v->∀e,d<=e->F5 e v/\wt e v=wt d v
 |0,v,h,_,_=>h.elim
 |d+1,v,h,0,he=>FK
 |d+1,v,h,e+1,he=>by
  obtain⟨h1,h2,h3,h4,h5,h6⟩:=h;refine⟨⟨h1,h2,h3,h4,λx hx=>(Zp d x (h5 x hx) e FK).1,λf hf=>⟨(h6 f hf).1,(Zp d f.value (h6 f hf).2 e FK).1⟩⟩,?_⟩;show 1+sw (wt e) v.items+sw (λ(f:LfT)=>1+wt e f.value) v.fields=1+sw (wt d) v.items+sw (λ(f:LfT)=>1+wt d f.value) v.fields;rw[B5U v.items λx hx=>(Zp d x (h5 x hx) e FK).2,B5U (f:=λ(f:LfT)=>1+wt e f.value) (g:=λ(f:LfT)=>1+wt d f.value) v.fields λf hf=>by rw[(Zp d f.value (h6 f hf).2 e FK).2]]
section
variable {N:Gx}{T:Gu}{D:Int}{st:Gv}{i j n m b:Nat}{o:Int}{t:A0}{X:rg}
def ka(x:E0):okB [.agg .arg] kN (J ([.agg .arg x],bxN N T))=Z:=rfl
def kas(x:List E0):okB [.sl .arg (J 1)] kN (J ([.sl .arg x (J 1)],bxN N T))=Z:=rfl
def kd(x:List C3):okB [.sl .dir (J 1)] kN (J ([.sl .dir x (J 1)],bxN N T))=Z:=rfl
def qa(y:E0)(x:Gz):N3 (gB (J ([.agg .arg y],x)) 0)=y:=rfl
def qas(y:List E0)(x:Gz):B8N (gB (J ([.sl .arg y (J 1)],x)) 0)=y:=rfl
def qd(y:List C3)(x:Gz):O5 (gB (J ([.sl .dir y (J 1)],x)) 0)=y:=rfl
def C15(tw:TW T)(hD:D<=200)(c:Bool)(h0:0<=o)(h1:o<=D)(ha:Ad T D N (n::st) i o)(hs:Sy N n (cs c P8)):∃v j,B1Y (n:Int) N T=J ([.agg .lit v],bxN N T)/\Ad T D N st j o/\i<j/\F5 DD v/\wt DD v+i<=j:=by
 have FZ:DD=1000000:=rfl;obtain⟨v,j,e,a1,a2,a3,a4⟩:=Qz tw hD c 201 DD n i o st FK FK h0 h1 ha hs;obtain⟨g1,g2⟩:=Zp 201 v a3 DD FK;exact⟨v,j,e,a1,a2,g1,by rw[g2];exact a4⟩
def N4(tw:TW T)(h:Ad T D N (n::st) i o)(hs:Sy N n X)(hX:(TS.contains X&&(br X==0))=Z)(o0:0<=o)(o1:o<=D)(hD:D<=200):∃t,T[i]?=J t/\LH t/\mt X t=Z/\J9 (n:Int) N T=J ([.agg .tok t],bxN N T)/\Fst N 0 n i/\i+1<T.length/\Ad T D N st (i+1) o:=by
 rw[Fn,beq_iff_eq]at hX;obtain⟨t,ht,hk,hm,hT,hf,hl,_,ha⟩:=Ad.tm tw h hs hX.1 o0 FK;rw[hX.2,IX]at ha;exact⟨t,ht,hk,hm,Zn hT ht,hf,hl,ha⟩
def RdA(N:Gx)(T:Gu)(e:Nat)(x:E0):Prop:=OY (e:Int) N T=J ([.agg .arg x],bxN N T)
def C1G(tw:TW T)(hD:D<=200)(c:Bool)(h0:0<=o)(h1:o<=D)(ha:Ad T D N (n::st) i o)(hs:Sy N n (cs c MM)):∃x j,RdA N T n x/\Ad T D N st j o/\i<j/\Y8 x/\lq ((Q2 x).length+2) i j:=by
 have gK:=tw.len;obtain⟨_,b,_,_,_,c1,c2,c3⟩:=ha.rl tw hs (λ_=>B6E c) (by cases c<;>kernel_rfl);obtain⟨t,_,hk,_,e1,_,_,c4⟩:=N4 tw (show Ad T D N (b::(b+1)::(b+2)::st) i o from c3) (c2 0 _ rfl) GM h0 h1 hD;obtain⟨_,_,_,_,_,_,_,c5⟩:=N4 tw c4 (c2 1 _ rfl) GM h0 h1 hD;obtain⟨v,j,e2,c6,hj,g1,g2⟩:=C15 tw hD c h0 h1 c5 (c2 2 _ rfl);have k0:=PH (T:=T) c1;have k2:KZ (n:Int) 2 N T=_:=kid (T:=T) c1 2 GN;have bD:=c6.le;refine⟨⟨t.text,v,t.pos⟩,j,?_,c6,FK,⟨hk.1,g1,by show wt DD v<=1100000;omega⟩,((lq.tok (n:=t.text.length+4) (FK:i<i+1+1) (by have:=hk.1;omega)).comp (B2y g1 g2 (wt1 v) (IY _ _))).le ?_⟩;unfold RdA OY;simp only[gd,k0,kz,qz,e1,kt_,qt,k2,e2,kl,ql,GD];cases v;rfl;simp only[Q2,Fd,Fr,GT];omega
def C4V(tw:TW T)(hD:D<=200)(c:Bool)(h0:0<=o)(h1:o<=D)(ha:Ad T D N (n::st) i o)(hs:Sy N n (cs c V1)):∃l j,Qd (n:Int) N T=J ([.sl .arg l (J 1)],bxN N T)/\Ad T D N st j o/\i<=j/\GL Y8 l/\lq (X1 l).length i j:=by
 have gK:=tw.len;obtain⟨t,b,_,_,_,c1,c2,c3⟩:=ha.rl tw hs (λ_=>B4K c) (by cases c<;>kernel_rfl);cases hb:pu t LQ with
 |false=>
  rw[hb]at c1 c3;refine⟨[],i,?_,c3,GU _,GL.nil,lq.nil (GU _)⟩;unfold Qd Vr;simp only[gd,PB c1,kb,qb,GD]
 |true=>
  rw[hb]at c1 c2 c3;simp only[GD]at c1 c2 c3;obtain⟨_,_,_,_,_,_,_,dW,c4⟩:=Ad.tm tw (show Ad T D N (b::(b+1)::(b+2)::(b+3)::st) i o from c3) (c2 0 _ rfl) GM h0 FK;have dW:=dW GM;rw[show br LQ=1 from GM]at c4;obtain⟨x,j,e1,c5,hj,gx,lx⟩:=C1G tw hD c FK FK c4 (c2 1 _ rfl);obtain⟨L,l,k,q1,q2,q3,q4,q5,q6,q7⟩:=Tz (α:=E0) (Rd:=RdA N T) (G:=Y8) (μ:=λx=>(Q2 x).length+2) (kb:=KB) (E:=cs c MM) tw (λt=>⟨_,B4J c⟩) (by cases c<;>kernel_rfl)
   (λe i st hA hS=>C1G tw hD c FK FK hA hS) (T.length+1) (b+2) j FK c5 (c2 2 _ rfl)
  obtain⟨_,_,_,_,_,_,Eh,_,c6⟩:=Ad.tm tw q3 (c2 3 _ rfl) GM FK FK;rw[show br Oh= -1 from GM,show o+1+ -1=o from FK]at c6;have k1:KZ (n:Int) 1 N T=_:=kid (T:=T) c1 1 GN;have k2:KZ (n:Int) 2 N T=_:=kid (T:=T) c1 2 GN;have hL:L.length<=1100000:=by rw[q2.len];omega
  have e1:OY (((b+1:Nat)):Int) N T=J ([.agg .arg x],bxN N T):=e1;refine⟨x::l,k+1,?_,c6,FK,⟨by rw[Fr];omega,λy hy=>(HC.1 hy).elim (λh=>h ▸ gx) (q5 y)⟩,?_⟩
  ·unfold Qd Vr;simp only[gd,PC c1 GN,kb,qb,GF,k1,k2,kz,qz,e1,ka,qa,GD,XF q1 hL,kc,qc,show A3 (0+1) 128=Z from rfl];have:=XG (S:=rg×Int×rg×Bool×GB×List LfT×Int×Int×Int×Int) (R:=B6)
    (λk a7 i s=>OZ NN (n:Int) N T k a7 (L.map λ(e:Nat)=>(e:Int)) (i:Int) s.1 s.2.1 s.2.2.1 s.2.2.2.1 s.2.2.2.2.1 s.2.2.2.2.2.1 s.2.2.2.2.2.2.1 s.2.2.2.2.2.2.2.1 s.2.2.2.2.2.2.2.2.1 s.2.2.2.2.2.2.2.2.2 (λcr cR cM cH dD fu dB eX z20 z21 fL fD jE ig=>J ([.sl .arg cr (J 1)],bxN N T)))
    (λa7=>J ([.sl .arg a7 (J 1)],bxN N T)) q2 hL
    (λk a7 s=>by unfold OZ;simp only[LT,ltF,GF])
    (λk a7 i e y s he hi hr ha=>⟨(y.name,y.value.kind,y.value.text,y.value.block,y.value.items,y.value.fields,y.value.pos.line,y.value.pos.col,y.pos.line,y.pos.col),by
     have hr:OY (e:Int) N T=_:=hr;dsimp only
     conv=>lhs;unfold OZ
     simp only[LT,ltT hi,GD,XH he,hr,gd,ka,qa,XI (c:=128) ha,wrI (show i<=4400000 from FK)];obtain⟨y1,y2,y3⟩:=y;cases y2;rfl⟩) [x] (x.name,x.value.kind,x.value.text,x.value.block,x.value.items,x.value.fields,x.value.pos.line,x.value.pos.col,x.pos.line,x.pos.col) GN
   refine Aas ?_ this;obtain⟨y1,y2,y3⟩:=x;cases y2;rfl
  refine((lq.tok (n:=2) (HX i) FK).comp (lx.comp (show lq (sl Q2 l) j k from q7))).comp (lq.nil (IS k))|>.le ?_
  have:=C0G (x::l);have h2:sl Q2 (x::l)=((Q2 x).length+2)+sl Q2 l:=by unfold sl;simp only[sw]
  omega
def Zq(tw:TW T)(hD:D<=200)(c:Bool)(h0:0<=o)(h1:o<=D){R:Type}{a:Int}{k2:Int->List C3->Bool->Option R}{i0:Nat}(K:List C3->Option R)(hK:∀x l,k2 x l V=K l):∀(m n i:Nat)(a7:List C3),T.length<m+i->Ad T D N (n::st) i o->Sy N n (cs c F1)->Rg K1 X5 a7 i0 i->
  ∃ds j,Oa NN a N T m (n:Int) a7 k2=K ds/\Ad T D N st j o/\i<=j/\Rg K1 X5 ds i0 j
 |0,n,i,a7,hm,ha,_,_=>by have:=ha.lt;omega
 |m+1,n,i,a7,hm,ha,hs,hR=>by
  have gK:=tw.len;obtain⟨t,b,_,_,mg,c1,c2,c3⟩:=ha.rl tw hs (λ_=>B6i c) (by cases c<;>kernel_rfl);cases hb:pu t Wp with
  |false=>
   rw[hb]at c1 c3;refine⟨a7,i,?_,c3,GU _,hR⟩;unfold Oa;simp only[gd,PB c1,kb,qb,HY,GD,GF,hK]
  |true=>
   rw[hb]at c1 c2 c3;simp only[GD]at c1 c2 c3;obtain⟨t1,_,_,_,e0,_,_,c4⟩:=N4 tw (show Ad T D N (b::(b+1)::(b+2)::(b+3)::st) i o from c3) (c2 0 _ rfl) GM h0 h1 hD;obtain⟨t2,_,cK,_,e1,_,_,c5⟩:=N4 tw c4 (c2 1 _ rfl) GM h0 h1 hD;obtain⟨l,j,e2,c6,hj,gl,ll⟩:=C4V tw hD c h0 h1 c5 (c2 2 _ rfl);have si:=c6.le;have k0:=PH (T:=T) c1;have k1:KZ (n:Int) 1 N T=_:=kid (T:=T) c1 1 GN;have Ei:KZ (n:Int) 2 N T=_:=kid (T:=T) c1 2 GN;have k3:KZ (n:Int) 3 N T=_:=kid (T:=T) c1 3 GN;have Ej:Rg K1 X5 (a7++[⟨t2.text,l,t1.pos⟩]) i0 j:=hR.add ⟨cK.1,gl⟩ FK (((lq.tok (n:=t2.text.length+4) (FK:i<i+1+1) (by have:=cK.1;omega)).comp ll).le (by unfold X5;simp only[Fd,Fr,GT];omega));obtain⟨ds,k,w1,w2,w3,w4⟩:=Zq tw hD c h0 h1 (a:=a) (i0:=i0) K hK m (b+3) j _ FK c6 (c2 3 _ rfl) Ej;refine⟨ds,k,?_,w2,FK,w4⟩
   conv=>lhs;unfold Oa
   simp only[gd,PC c1 GN,kb,qb,HP,GD,k0,k1,Ei,k3,kz,qz,e0,e1,e2,kt_,qt,kas,qas,hR.rm (show i<=1100000 from FK) (show 56<=1000 from GO)];exact w1
def V2(tw:TW T)(hD:D<=200)(c:Bool)(h0:0<=o)(h1:o<=D)(ha:Ad T D N (n::st) i o)(hs:Sy N n (cs c F1)):∃l j,Y6 (n:Int) N T=J ([.sl .dir l (J 1)],bxN N T)/\Ad T D N st j o/\i<=j/\GL K1 l/\lq (E2 l).length i j:=by
 have gK:=tw.len;obtain⟨ds,j,e,c1,h2,h3⟩:=Zq tw hD c h0 h1 (R:=B6) (a:=(n:Int)) (i0:=i) (k2:=λz1 z2 z3=>J ([.sl .dir z2 (J 1)],bxN N T)) (λl=>J ([.sl .dir l (J 1)],bxN N T)) (λ_ _=>rfl) NN n i [] (by have:NN=18446744073709551616:=rfl;omega) ha hs Rg.nil;have:=c1.le;exact⟨ds,j,e,c1,h2,h3.gl FK,h3.2.2.le (B4N _ _)⟩
end
def ind(lv:Nat):rg:=Aah (2*lv) 32
def Zr(s:SelT):rg:=
 bif s.kind==2 then [46,46,46]++s.name else bif s.kind==3 then [46,46,46]++(if s.on_=[]then []else [32,111,110,32]++s.on_)else bif s.kind==1 then(if s.alias_=[]then []else s.alias_++[58,32])++s.name++X1 s.args else []
def brS(f:SelT->rg)(lv:Nat)(l:GC):rg:=[123]++(l.flatMap λx=>[10]++ind (lv+1)++f x)++[10]++ind lv++[125]
def E1:Nat->Nat->SelT->rg
 |0,_,_=>[]
 |d+1,lv,s=>Zr s++E2 s.dirs++(bif s.kind==2 then []else if s.sels=[]then []else [32]++brS (E1 d (lv+1)) lv s.sels)
def V6:Nat->SelT->Prop
 |0,_=>False
 |d+1,s=>(0<=s.kind/\s.kind<=4)/\s.alias_.length<=8400000/\s.name.length<=8400000/\s.on_.length<=8400000/\GL Y8 s.args/\GL K1 s.dirs/\s.sels.length<=1100000/\∀x∈s.sels,V6 d x
def UA{g:Nat}{k:Int}{al nm on:rg}{xs:List E0}{ds:List C3}{l:GC}{p:A4}(h1:0<=k/\k<=4)(h2:al.length<=8400000)(h3:nm.length<=8400000)(h4:on.length<=8400000)(h5:GL Y8 xs)(h6:GL K1 ds)(h8:l.length<=1100000)(h9:∀x∈l,V6 g x):V6 (g+1) (.mk k al nm on xs ds l p):=
 ⟨h1,h2,h3,h4,h5,h6,h8,h9⟩
def C5A{s:SelT}(h1:s.alias_.length<=8400000)(h2:s.name.length<=8400000)(h3:s.on_.length<=8400000):(Zr s).length<=17000000+(X1 s.args).length:=by
 unfold Zr;cases s.kind==2<;>cases s.kind==3<;>cases s.kind==1<;>simp only[GD,GF,Fd,Fr,GT]<;>(try split)<;>(try simp only[Fd,Fr,GT])<;>omega
def B5b{f:SelT->rg}{lv:Nat}(hl:lv<=201)(l:GC):(brS f lv l).length+10<=1000+sw (λx=>(f x).length+500) l:=by
 have fl:∀l:GC,(l.flatMap λx=>[10]++ind (lv+1)++f x).length<=sw (λx=>(f x).length+500) l:=λl=>by
  induction l with
  |nil=>exact HH _
  |cons x l ih=>
   rw[ID,Fd];simp only[sw,Fd,Fr,GT,ind,Ia]at ih ⊢;omega
 have:=fl l;unfold brS;simp only[Fd,Fr,GT,ind,Ia]at this ⊢;omega
section
variable {N:Gx}{T:Gu}{D:Int}{st:Gv}{i j n m b:Nat}{o:Int}{t:A0}{X:rg}
def ke(x:SelT):okB [.agg .sel] kN (J ([.agg .sel x],bxN N T))=Z:=rfl
def kes(x:GC):okB [.sl .sel (J 1)] kN (J ([.sl .sel x (J 1)],bxN N T))=Z:=rfl
def qe(y:SelT)(x:Gz):O8 (gB (J ([.agg .sel y],x)) 0)=y:=rfl
def qes(y:GC)(x:Gz):Mo (gB (J ([.sl .sel y (J 1)],x)) 0)=y:=rfl
def RdS(N:Gx)(T:Gu)(d e:Nat)(x:SelT):Prop:=(H2 d).2 (e:Int) N T=J ([.agg .sel x],bxN N T)
def RdB(N:Gx)(T:Gu)(d e:Nat)(l:GC):Prop:=(H2 d).1 (e:Int) N T=J ([.sl .sel l (J 1)],bxN N T)
def C2W(N:Gx)(T:Gu)(D:Int)(g d:Nat):Prop:=∀(n i:Nat)(o:Int)(st:Gv),D - o<(g:Int)->0<=o->o<=D->Ad T D N (n::st) i o->Sy N n I9->
 ∃l j,RdB N T d n l/\Ad T D N st j o/\i<j/\l≠[]/\GL (V6 g) l/\lq ((brS (E1 g (o.toNat+1)) o.toNat l).length+10) i j
def C5Y(tw:TW T)(hD:D<=200){g d:Nat}(IH:C2W N T D g d)(hg:D - o<(g:Int))(h0:0<=o)(h1:o<=D)(ha:Ad T D N (n::st) i o)(hs:Sy N n NW):
  ∃x j,RdS N T (d+1) n x/\Ad T D N st j o/\i<j/\V6 (g+1) x/\(E1 (g+1) o.toNat x).length+500+KB*i<=KB*j:=by
 obtain⟨t,b,ht,hk,hl,c1,c2,c3⟩:=ha.rl tw hs (λ_=>C1D);have go:∀x,Mx (H2 d).1 (H2 d).2 (n:Int) N T=J ([.agg .sel x],bxN N T)->RdS N T (d+1) n x:=λx e=>e;have sj:Kh NW=J (.one (.bool V)):=GM
 have hv:(F1:rg)=cs V F1:=rfl;have Ga:(V1:rg)=cs V V1:=rfl;have len:∀(x:SelT)(A B:Nat),x.alias_.length<=8400000->x.name.length<=8400000->x.on_.length<=8400000->(X1 x.args).length+(E2 x.dirs).length<=A->(if x.sels=[]then 0 else(brS (E1 g (o.toNat+1)) o.toNat x.sels).length)<=B->(E1 (g+1) o.toNat x).length+500<=17000600+(A+B):=λx A B p1 p2 p3 p4 p5=>by
  have:=C5A p1 p2 p3;unfold E1;simp only[Fd];cases x.kind==2;simp only[GF];split;rename_i h;rw[GJ h]at p5;simp only[GT];omega;rename_i h;rw[GI h]at p5;simp only[Fd,Fr,GT];omega;simp only[GD,GT];omega
 cases hb:pu t Qn with
 |true=>
  rw[hb]at c1 c2 c3;simp only[GD]at c1 c2 c3;obtain⟨t',cQ,_,_,_,hf,_,c4⟩:=N4 tw (show Ad T D N (b::(b+1)::st) i o from c3) (c2 0 _ rfl) GM h0 h1 hD;rw[ht]at cQ;cases cQ;have e1:=XE (.go hs sj c1 GN hf) FK ht;have k1:KZ (n:Int) 1 N T=_:=kid (T:=T) c1 1 GN;obtain⟨t2,b2,jz,cK,js,d1,d2,d3⟩:=c4.rl tw (c2 1 _ rfl) (λ_=>C0P);obtain⟨nd,n1,n2⟩:=c1;cases w1:wd t2 N5 with
  |true=>
   rw[w1]at d1 d2 d3;simp only[GD]at d1 d2 d3;obtain⟨_,_,_,_,_,_,_,d4⟩:=N4 tw (show Ad T D N (b2::(b2+1)::(b2+2)::(b2+3)::st) (i+1) o from d3) (d2 0 _ rfl) GM h0 h1 hD;obtain⟨t3,_,jh,_,e2,_,_,d5⟩:=N4 tw d4 (d2 1 _ rfl) GM h0 h1 hD;obtain⟨ds,j,e3,d6,hj,ji,ld⟩:=V2 tw hD V h0 h1 d5 (d2 2 _ rfl);obtain⟨l,k,e4,d7,fV,ln,gl,ll⟩:=IH (b2+3) j o st hg h0 h1 d6 (d2 3 _ rfl);have ll:=ll.le (IY _ 10);have e4:(H2 d).1 ((b2+3:Nat):Int) N T=_:=e4;obtain⟨md,m1,m2⟩:=d1;refine⟨.mk 3 [] [] t3.text [] ds l t.pos,k,go _ ?_,d7,FK,UA GO GN GN jh.1 GL.nil ji gl.1 gl.2,?_⟩;unfold Mx;have uE:idx N ((b+1:Nat):Int)=J md:=by rw[J4];exact m1
   simp only[gd,e1,kt_,qt,GD,J4 N n,n1,n2,show(((kI b [Qn,Tj]).length:Nat):Int)=2 from rfl,show((2:Int)==2)=Z from rfl,k1,kz,qz,uE,m2,show(((kI b2 [N5,C8,F1,I9]).length:Nat):Int)=4 from rfl,show((4:Int)==4)=Z from rfl,show idx (kI b2 [N5,C8,F1,I9]) 1=J ((b2+1:Nat):Int)from rfl,show idx (kI b2 [N5,C8,F1,I9]) 2=J ((b2+2:Nat):Int)from rfl,show idx (kI b2 [N5,C8,F1,I9]) 3=J ((b2+3:Nat):Int)from rfl,e2,e3,e4,kd,qd,kes,qes];exact((lq.tok (n:=17000600) (FK:i<i+1+1+1) FK).comp (ld.comp ll)).le (len _ _ _ (by simp[SelT.alias_]) (by simp[SelT.name]) jh.1 (by show 0+_<=_;exact Jf (HL _)) (by show(if l=[]then 0 else _)<=_;rw[GI ln];exact GU _))
  |false=>
   rw[w1]at d1 d2 d3;simp only[GF]at d1 d2 d3;cases w2:t2.kind==3 with
  |true=>
   rw[w2]at d1 d2 d3;simp only[GD]at d1 d2 d3;obtain⟨t3,_,jh,_,e2,_,_,d5⟩:=N4 tw (show Ad T D N (b2::(b2+1)::st) (i+1) o from d3) (d2 0 _ rfl) GM h0 h1 hD;obtain⟨ds,j,e3,d6,hj,ji,ld⟩:=V2 tw hD V h0 h1 d5 (d2 1 _ rfl);obtain⟨md,m1,m2⟩:=d1;obtain⟨bd,b1,yq⟩:=d2 0 _ rfl;refine⟨.mk 2 [] t3.text [] [] ds [] t.pos,j,go _ ?_,d6,FK,UA GO GN jh.1 GN GL.nil ji GN (λx hx=>by cases hx),?_⟩;unfold Mx;have uE:idx N ((b+1:Nat):Int)=J md:=by rw[J4];exact m1
   have yr:idx N (b2:Int)=J bd:=by rw[J4];exact b1
   simp only[gd,e1,kt_,qt,GD,GF,J4 N n,n1,n2,show(((kI b [Qn,Tj]).length:Nat):Int)=2 from rfl,show((2:Int)==2)=Z from rfl,k1,kz,qz,uE,m2,show(((kI b2 [T4,F1]).length:Nat):Int)=2 from rfl,show((2:Int)==4)=V from rfl,show idx (kI b2 [T4,F1]) 0=J (b2:Int)from rfl,show idx (kI b2 [T4,F1]) 1=J ((b2+1:Nat):Int)from rfl,yr,yq,show(T4==[98,117,116,79,110])=Z from rfl,e2,e3,kd,qd];exact((lq.tok (n:=17000600) (FK:i<i+1+1) FK).comp ld).le (HT (len _ _ 0 (by simp[SelT.alias_]) jh.1 (by simp[SelT.on_]) (by show 0+_<=_;exact Jf (HL _)) (by show(if([]:GC)=[]then 0 else _)<=0;rw[GJ rfl];exact GU _)) (GU _))
  |false=>
   rw[w2]at d1 d2 d3;simp only[GF]at d1 d2 d3;obtain⟨ds,j,e3,d6,hj,ji,ld⟩:=V2 tw hD V h0 h1 (show Ad T D N (b2::(b2+1)::st) (i+1) o from d3) (d2 0 _ rfl);obtain⟨l,k,e4,d7,fV,ln,gl,ll⟩:=IH (b2+1) j o st hg h0 h1 d6 (d2 1 _ rfl);have ll:=ll.le (IY _ 10);have e4:(H2 d).1 ((b2+1:Nat):Int) N T=_:=e4;have e3:Y6 (b2:Int) N T=_:=e3;obtain⟨md,m1,m2⟩:=d1;obtain⟨bd,b1,yq⟩:=d2 0 _ rfl;refine⟨.mk 3 [] [] [] [] ds l t.pos,k,go _ ?_,d7,FK,UA GO GN GN GN GL.nil ji gl.1 gl.2,?_⟩;unfold Mx;have uE:idx N ((b+1:Nat):Int)=J md:=by rw[J4];exact m1
   have yr:idx N (b2:Int)=J bd:=by rw[J4];exact b1
   simp only[gd,e1,kt_,qt,GD,GF,J4 N n,n1,n2,show(((kI b [Qn,Tj]).length:Nat):Int)=2 from rfl,show((2:Int)==2)=Z from rfl,k1,kz,qz,uE,m2,show(((kI b2 [F1,I9]).length:Nat):Int)=2 from rfl,show((2:Int)==4)=V from rfl,show idx (kI b2 [F1,I9]) 0=J (b2:Int)from rfl,show idx (kI b2 [F1,I9]) 1=J ((b2+1:Nat):Int)from rfl,yr,yq,show(F1==[98,117,116,79,110])=V from rfl,e3,e4,kd,qd,kes,qes];exact((lq.tok (n:=17000600) (FK:i<i+1) FK).comp (ld.comp ll)).le (len _ _ _ (by simp[SelT.alias_]) (by simp[SelT.name]) (by simp[SelT.on_]) (by show 0+_<=_;exact Jf (HL _)) (by show(if l=[]then 0 else _)<=_;rw[GI ln];exact GU _))
 |false=>
  rw[hb]at c1 c2 c3;simp only[GF]at c1 c2 c3;obtain⟨t',cQ,_,_,_,hf,_,c4⟩:=N4 tw (show Ad T D N (b::(b+1)::(b+2)::(b+3)::(b+4)::st) i o from c3) (c2 0 _ rfl) GM h0 h1 hD;rw[ht]at cQ;cases cQ;have e1:=XE (.go hs sj c1 GN hf) FK ht;have k1:KZ (n:Int) 1 N T=_:=kid (T:=T) c1 1 GN;have k2:KZ (n:Int) 2 N T=_:=kid (T:=T) c1 2 GN;have k3:KZ (n:Int) 3 N T=_:=kid (T:=T) c1 3 GN;have k4:KZ (n:Int) 4 N T=_:=kid (T:=T) c1 4 GN;obtain⟨p,al,nm,ia,ea,c5,jm,jW,rV⟩:∃(p:Bool)(al nm:rg)(ia:Nat),(K8 ((b+1:Nat):Int) N T=J ([.bool (!p)],bxN N T)/\(p=Z->∃(q:Nat)(t2:A0),KZ ((b+1:Nat):Int) 1 N T=J ([.int .i64 (q:Int)],bxN N T)/\J9 (q:Int) N T=J ([.agg .tok t2],bxN N T)/\al=t.text/\nm=t2.text)/\(p=V->al=[]/\nm=t.text))/\Ad T D N ((b+2)::(b+3)::(b+4)::st) ia o/\al.length<=8400000/\nm.length<=8400000/\i+1<=ia:=by
   obtain⟨t2,b2,jz,cK,_,d1,d2,d3⟩:=c4.rl tw (c2 1 _ rfl) (λ_=>C1z);cases w:pu t2 X8 with
   |false=>
    rw[w]at d1 d3;exact⟨V,[],t.text,i+1,⟨PB d1,λh=>(by cases h),λ_=>⟨rfl,rfl⟩⟩,d3,GN,hk.1,GU _⟩
   |true=>
    rw[w]at d1 d2 d3;simp only[GD]at d1 d2 d3;obtain⟨_,_,_,_,_,_,_,d4⟩:=N4 tw (show Ad T D N (b2::(b2+1)::(b+2)::(b+3)::(b+4)::st) (i+1) o from d3) (d2 0 _ rfl) GM h0 h1 hD;obtain⟨t3,_,jh,_,e2,_,_,d5⟩:=N4 tw d4 (d2 1 _ rfl) GM h0 h1 hD;exact⟨Z,t.text,t3.text,i+1+1+1,⟨PC d1 GN,λ_=>⟨b2+1,t3,kid d1 1 GN,e2,rfl,rfl⟩,λh=>(by cases h)⟩,d5,hk.1,jh.1,FK⟩
  obtain⟨xs,j1,e2,c6,kX,ga,la⟩:=C4V tw hD V h0 h1 c5 (c2 2 _ rfl);obtain⟨ds,j2,e3,c7,lP,ji,ld⟩:=V2 tw hD V h0 h1 c6 (c2 3 _ rfl);obtain⟨q,l,j3,es,c8,Gb,gl1,Ek,ll⟩:∃(q:Bool)(l:GC)(j3:Nat),(K8 ((b+4:Nat):Int) N T=J ([.bool (!q)],bxN N T)/\(q=Z->∃(m:Nat),KZ ((b+4:Nat):Int) 0 N T=J ([.int .i64 (m:Int)],bxN N T)/\(H2 d).1 (m:Int) N T=J ([.sl .sel l (J 1)],bxN N T))/\(q=V->l=[]))/\Ad T D N st j3 o/\j2<=j3/\l.length<=1100000/\(∀x∈l,V6 g x)/\lq (if l=[]then 0 else(brS (E1 g (o.toNat+1)) o.toNat l).length) j2 j3:=by
   obtain⟨t2,b2,jz,cK,_,d1,d2,d3⟩:=c7.rl tw (c2 4 _ rfl) (λ_=>C18);cases w:pu t2 Q9 with
   |false=>
    rw[w]at d1 d3;exact⟨V,[],j2,⟨PB d1,λh=>(by cases h),λ_=>rfl⟩,d3,GU _,GN,λx hx=>(by cases hx),by rw[GJ rfl];exact lq.nil (GU _)⟩
   |true=>
    rw[w]at d1 d2 d3;simp only[GD]at d1 d2 d3;obtain⟨l,k,e4,d7,fV,ln,gl,ll⟩:=IH b2 j2 o st hg h0 h1 d3 (d2 0 _ rfl);have ll:=ll.le (IY _ 10);exact⟨Z,l,k,⟨PC d1 GN,λ_=>⟨b2,PH d1,e4⟩,λh=>(by cases h)⟩,d7,FK,gl.1,gl.2,by rw[GI ln];exact ll⟩
  have bQ:Mx (H2 d).1 (H2 d).2 (n:Int) N T=J ([.agg .sel (.mk 1 al nm [] xs ds l t.pos)],bxN N T):=by
   obtain⟨nd,n1,n2⟩:=c1;obtain⟨s1,s2,s3⟩:=es;obtain⟨a1,a2,a3⟩:=ea;unfold Mx;cases p with
   |true=>
    obtain⟨p1,p2,p3,p4,rfl,rfl⟩:=a2 rfl;cases q with
    |true=>
     obtain⟨r1,r2,r3⟩:=s2 rfl;simp only[gd,e1,kt_,qt,GD,GF,J4 N n,n1,n2,show(((kI b [C8,Qp,V1,F1,Qq]).length:Nat):Int)=5 from rfl,show((5:Int)==2)=V from rfl,k1,k2,k3,k4,kz,qz,e2,kas,qas,e3,kd,qd,a1,kb,qb,HY,HP,p3,p4,s1,r2,r3,kes,qes]
    |false=>
     cases s3 rfl;simp only[gd,e1,kt_,qt,GD,GF,J4 N n,n1,n2,show(((kI b [C8,Qp,V1,F1,Qq]).length:Nat):Int)=5 from rfl,show((5:Int)==2)=V from rfl,k1,k2,k3,k4,kz,qz,e2,kas,qas,e3,kd,qd,a1,kb,qb,HY,HP,p3,p4,s1]
   |false=>
    obtain⟨rfl,rfl⟩:=a3 rfl;cases q with
    |true=>
     obtain⟨r1,r2,r3⟩:=s2 rfl;simp only[gd,e1,kt_,qt,GD,GF,J4 N n,n1,n2,show(((kI b [C8,Qp,V1,F1,Qq]).length:Nat):Int)=5 from rfl,show((5:Int)==2)=V from rfl,k1,k2,k3,k4,kz,qz,e2,kas,qas,e3,kd,qd,a1,kb,qb,HY,HP,s1,r2,r3,kes,qes]
    |false=>
     cases s3 rfl;simp only[gd,e1,kt_,qt,GD,GF,J4 N n,n1,n2,show(((kI b [C8,Qp,V1,F1,Qq]).length:Nat):Int)=5 from rfl,show((5:Int)==2)=V from rfl,k1,k2,k3,k4,kz,qz,e2,kas,qas,e3,kd,qd,a1,kb,qb,HY,HP,s1]
  refine⟨.mk 1 al nm [] xs ds l t.pos,j3,go _ bQ,c8,FK,UA GO jm jW GN ga ji gl1 Ek,?_⟩;exact((lq.tok (n:=17000600) (FK:i<ia) FK).comp ((la.comp ld).comp ll)).le (len _ _ _ jm jW (by simp[SelT.on_]) (GU _) (GU _))
def C0L(tw:TW T)(hD:D<=200):∀(g d:Nat),2*g<=d->C2W N T D g d
 |0,_,_=>λ_ _ _ _ h h0 h1 _ _=>FK
 |g+1,0,h=>FK
 |g+1,1,h=>FK
 |g+1,d+2,h=>λn i o st hg h0 h1 ha hs=>by
  have gK:=tw.len;have IH:=C0L tw hD g d FK;obtain⟨_,b,_,_,_,c1,c2,c3⟩:=ha.rl tw hs (λ_=>B4c);obtain⟨_,_,_,_,_,_,_,dW,c4⟩:=Ad.tm tw (show Ad T D N (b::(b+1)::(b+2)::(b+3)::st) i o from c3) (c2 0 _ rfl) GM h0 FK;have dW:=dW GM;rw[show br Q9=1 from GM]at c4;have hn:(o+1).toNat=o.toNat+1:=FK;have step:∀(e i:Nat)(st:Gv),Ad T D N (e::st) i (o+1)->Sy N e NW->∃x j,RdS N T (d+1) e x/\Ad T D N st j (o+1)/\i<j/\V6 (g+1) x/\(E1 (g+1) (o.toNat+1) x).length+500+KB*i<=KB*j:=λe i st hA hS=>by
   have:=C5Y tw hD IH FK FK FK hA hS;rw[hn]at this;exact this
  obtain⟨x,j,e1,c5,hj,gx,lx⟩:=step (b+1) (i+1) _ c4 (c2 1 _ rfl);obtain⟨L,l,k,q1,q2,q3,q4,q5,q6,q7⟩:=Tz (α:=SelT) (Rd:=RdS N T (d+1)) (G:=V6 (g+1)) (μ:=λx=>(E1 (g+1) (o.toNat+1) x).length+500) (kb:=KB) (E:=NW) tw (λt=>⟨_,C2t⟩) GM step (T.length+1) (b+2) j FK c5 (c2 2 _ rfl);obtain⟨_,_,_,_,_,_,Eh,_,c6⟩:=Ad.tm tw q3 (c2 3 _ rfl) GM FK FK;rw[show br NM= -1 from GM,show o+1+ -1=o from FK]at c6;have k1:KZ (n:Int) 1 N T=_:=kid (T:=T) c1 1 GN;have k2:KZ (n:Int) 2 N T=_:=kid (T:=T) c1 2 GN;have hL:L.length<=1100000:=by rw[q2.len];omega
  have e1:(H2 (d+1)).2 ((b+1:Nat):Int) N T=J ([.agg .sel x],bxN N T):=e1;refine⟨x::l,k+1,?_,c6,FK,GN,⟨by rw[Fr];omega,λy hy=>(HC.1 hy).elim (λh=>h ▸ gx) (q5 y)⟩,?_⟩
  ·show Ys (H2 (d+1)).1 (H2 (d+1)).2 (n:Int) N T=_;unfold Ys Yr;simp only[gd,k1,k2,kz,qz,e1,ke,qe,GD,XF q1 hL,kc,qc,show A3 (0+1) 144=Z from rfl];have:=XG (S:=Int×rg×rg×rg×List E0×List C3×GC×Int×Int) (R:=B6)
    (λk a7 i s=>Ob NN (H2 (d+1)).1 (H2 (d+1)).2 (n:Int) N T k a7 (L.map λ(e:Nat)=>(e:Int)) (i:Int) s.1 s.2.1 s.2.2.1 s.2.2.2.1 s.2.2.2.2.1 s.2.2.2.2.2.1 s.2.2.2.2.2.2.1 s.2.2.2.2.2.2.2.1 s.2.2.2.2.2.2.2.2 (λbP bY cr cR cM cH dD fu dB eX z20 z21 fL=>J ([.sl .sel bP (J 1)],bxN N T)))
    (λa7=>J ([.sl .sel a7 (J 1)],bxN N T)) q2 hL
    (λk a7 s=>by unfold Ob;simp only[LT,ltF,GF])
    (λk a7 i e y s he hi hr ha=>⟨(y.kind,y.alias_,y.name,y.on_,y.args,y.dirs,y.sels,y.pos.line,y.pos.col),by
     have hr:(H2 (d+1)).2 (e:Int) N T=_:=hr;dsimp only
     conv=>lhs;unfold Ob
     simp only[LT,ltT hi,GD,XH he,hr,gd,ke,qe,XI (c:=144) ha,wrI (show i<=4400000 from FK)];cases y;rfl⟩) [x] (x.kind,x.alias_,x.name,x.on_,x.args,x.dirs,x.sels,x.pos.line,x.pos.col) GN
   refine Aas ?_ this;cases x;rfl
  have h3:lq (sw (λx=>(E1 (g+1) (o.toNat+1) x).length+500) (x::l)) (i+1) k:=by
   show sw _ (x::l)+KB*(i+1)<=KB*k;simp only[sw];omega
  have:=B5b (f:=E1 (g+1) (o.toNat+1)) (show o.toNat<=201 from FK) (x::l);exact(((lq.tok (n:=1000) (HX i) FK).comp h3).comp (lq.nil (IS k))).le FK
def B4F(tw:TW T)(hD:D<=200)(h0:0<=o)(h1:o<=D)(ha:Ad T D N (n::st) i o)(hs:Sy N n I9):∃l j,Vv (n:Int) N T=J ([.sl .sel l (J 1)],bxN N T)/\Ad T D N st j o/\i<j/\l≠[]/\GL (V6 201) l/\lq ((brS (E1 201 (o.toNat+1)) o.toNat l).length+10) i j:=
 C0L tw hD 201 DD (by have:DD=1000000:=rfl;omega) n i o st FK h0 h1 ha hs
end
def GVd(v:VdT):Prop:=v.name.length<=8400000/\GTy v.type_/\(∀{b:Bool},v.hasDefault=b->F5 DD v.dflt/\wt DD v.dflt<=1100000)/\GL K1 v.dirs
def UB(b:Bool)(v:LitT):rg:=bif b then [32,61,32]++prN DD v else []
def J5(v:VdT):rg:=[36]++v.name++[58,32]++prT v.type_++UB v.hasDefault v.dflt++E2 v.dirs
def Nc(l:List VdT):rg:=if l=[]then []else [40]++jn 0 (l.map J5)++[41]
def opW(k:Int):rg:=bif k==2 then [109,117,116,97,116,105,111,110]else bif k==3 then [115,117,98,115,99,114,105,112,116,105,111,110]else [113,117,101,114,121]
def Zs(d:D9):rg:=bif d.kind==4 then [102,114,97,103,109,101,110,116,32]++d.name++[32,111,110,32]++d.on_ else opW d.kind++(if d.name=[]then []else [32]++d.name)++Nc d.vars
def I8(d:D9):rg:=(bif d.short&& !(d.kind==4)then []else Zs d++E2 d.dirs++[32])++brS (E1 201 1) 0 d.sels
structure PI(d:D9):Prop where
 nm:d.name.length<=8400000
 on:d.on_.length<=8400000
 vs:GL GVd d.vars
 ds:GL K1 d.dirs
 ss:GL (V6 201) d.sels
 ne:d.sels≠[]
section
variable {N:Gx}{T:Gu}{D:Int}{st:Gv}{i j n m b:Nat}{o:Int}{t:A0}{X:rg}
def kv(x:VdT):okB [.agg .vd] kN (J ([.agg .vd x],bxN N T))=Z:=rfl
def kf(x:D9):okB [.agg .dfn] kN (J ([.agg .dfn x],bxN N T))=Z:=rfl
def qv(y:VdT)(x:Gz):B7F (gB (J ([.agg .vd y],x)) 0)=y:=rfl
def qf(y:D9)(x:Gz):R9 (gB (J ([.agg .dfn y],x)) 0)=y:=rfl
def B9f(v:VdT):vE v=v:=by
 obtain⟨a,b,c,d,e,f⟩:=v;cases d;rfl
def RdV(N:Gx)(T:Gu)(e:Nat)(x:VdT):Prop:=Mz (e:Int) N T=J ([.agg .vd x],bxN N T)
def C1i(tw:TW T)(hD:D<=200)(h0:0<=o)(h1:o<=D)(ha:Ad T D N (n::st) i o)(hs:Sy N n Qo):∃x j,RdV N T n x/\Ad T D N st j o/\i<j/\GVd x/\(J5 x).length+2+KB*i<=KB*j:=by
 have gK:=tw.len;obtain⟨_,b,_,_,_,c1,c2,c3⟩:=ha.rl tw hs (λ_=>B9V);obtain⟨t,_,hk,_,e0,_,_,c4⟩:=N4 tw (show Ad T D N (b::(b+1)::(b+2)::(b+3)::(b+4)::(b+5)::st) i o from c3) (c2 0 _ rfl) GM h0 h1 hD;obtain⟨t2,_,cK,_,e1,_,_,c5⟩:=N4 tw c4 (c2 1 _ rfl) GM h0 h1 hD;obtain⟨_,_,_,_,_,_,_,c6⟩:=N4 tw c5 (c2 2 _ rfl) GM h0 h1 hD;obtain⟨r,j1,e3,c7,kX,gt⟩:=B3w tw hD h0 h1 c6 (c2 3 _ rfl);have lt:=gt.len;have k0:=PH (T:=T) c1;have k1:KZ (n:Int) 1 N T=_:=kid (T:=T) c1 1 GN;have k3:KZ (n:Int) 3 N T=_:=kid (T:=T) c1 3 GN;have k4:KZ (n:Int) 4 N T=_:=kid (T:=T) c1 4 GN;have k5:KZ (n:Int) 5 N T=_:=kid (T:=T) c1 5 GN;have lb:lq (t2.text.length+(prT r).length+10) i j1:=lq.tok FK (by have:=cK.1;omega);have len:∀v:VdT,v.name=t2.text->v.type_=r->(J5 v).length+2<=(t2.text.length+(prT r).length+10)+((UB v.hasDefault v.dflt).length+(E2 v.dirs).length):=λv h1 h2=>by
  unfold J5;rw[h1,h2];simp only[Fd,Fr,GT];omega
 obtain⟨t3,b2,_,_,_,d1,d2,d3⟩:=c7.rl tw (c2 4 _ rfl) (λ_=>C4z);cases w:pu t3 ZR with
 |false=>
  rw[w]at d1 d3;obtain⟨ds,j,e5,c9,hj,ji,ld⟩:=V2 tw hD Z h0 h1 (show Ad T D N ((b+5)::st) j1 o from d3) (c2 5 _ rfl);refine⟨⟨t2.text,r,V,.mk 0 [] V [] [] ⟨0,0⟩,ds,t.pos⟩,j,?_,c9,FK,⟨cK.1,gt,λ_=>C3P,ji⟩,(lb.comp ld).le (HT (len _ rfl rfl) ?_)⟩;unfold RdV Mz;simp only[gd,k0,kz,qz,e0,kt_,qt,k1,e1,k3,e3,kr,qr,k5,e5,kd,qd,k4,PB d1,kb,qb,HY,GD,GF];show _+(0+(E2 ds).length)<=_;omega
 |true=>
  rw[w]at d1 d2 d3;simp only[GD]at d1 d2 d3;obtain⟨_,_,_,_,_,_,_,d4⟩:=N4 tw (show Ad T D N (b2::(b2+1)::(b+5)::st) j1 o from d3) (d2 0 _ rfl) GM h0 h1 hD;obtain⟨v,j2,e6,d5,lP,g3,g4⟩:=C15 tw hD Z h0 h1 d4 (d2 1 _ rfl);have El:=d5.le;obtain⟨ds,j,e5,c9,hj,ji,ld⟩:=V2 tw hD Z h0 h1 d5 (c2 5 _ rfl);have kk:KZ ((b+4:Nat):Int) 1 N T=_:=kid (T:=T) d1 1 GN;refine⟨⟨t2.text,r,Z,v,ds,t.pos⟩,j,?_,c9,FK,⟨cK.1,gt,λ_=>⟨g3,by show wt DD v<=_;omega⟩,ji⟩,(lb.comp (((lq.nil (IS j1)).comp (B2y (n:=(prN DD v).length+3) g3 g4 (wt1 v) FK)).comp ld)).le (HT (len _ rfl rfl) ?_)⟩;unfold RdV Mz;simp only[gd,k0,kz,qz,e0,kt_,qt,k1,e1,k3,e3,kr,qr,k5,e5,kd,qd,k4,PC d1 GN,kb,qb,HP,GD,GF,kk,e6,kl,ql];cases v;rfl;have:(UB Z v).length=3+(prN DD v).length:=by show([32,61,32]++prN DD v:rg).length=_;simp;omega
  show _+((UB Z v).length+(E2 ds).length)<=_;rw[this];omega
def B1Z{D':Int}(hD:D<=D'){N':Gx}:∀(f:Nat)(N:Gx)(st:Gv)(i:Nat)(o:Int),I4 T D f N st i o=J (⟨N',T⟩,0,0)->I4 T D' f N st i o=J (⟨N',T⟩,0,0)
 |0,_,_,_,_,h=>by cases h
 |f+1,N,[],i,o,h=>by unfold I4 at h ⊢;exact h
 |f+1,N,n::ao,i,o,h=>by
  unfold I4 at h ⊢
  match hn:N[n]? with
  |none=>rw[hn]at h;cases h
  |some nd=>
   rw[hn]at h
   match ht:T[i]? with
  |none=>rw[ht]at h;cases h
  |some t=>
   rw[ht]at h;simp only at h ⊢;obtain⟨q,h⟩:=A5 h;rw[q,GD];cases hT:lB (gL (Kh nd.sym) 0)with
  |true=>
   rw[hT]at h;simp only[GD]at h ⊢;obtain⟨q,h⟩:=A5 h;rw[q,GD];cases hM:lB (gL (Ko nd.sym t) 0)with
   |false=>rw[hM]at h;cases h
   |true=>
    rw[hM]at h;simp only[GD]at h ⊢;cases hO:L1 nd.sym with
    |false=>rw[hO]at h;exact B1Z hD f _ _ _ _ h
    |true=>
     rw[hO]at h;simp only[GD]at h ⊢;cases hd:decide (D<Aab .i64 (o+1))with
     |true=>rw[hd]at h;cases h
     |false=>
      rw[hd]at h;have:=of_decide_eq_false hd;rw[GH (FK:¬D'<Aab .i64 (o+1))];exact B1Z hD f _ _ _ _ h
  |false=>
   rw[hT]at h;simp only[GF]at h ⊢;cases hk:nd.kids with
   |cons=>rw[hk]at h;cases h
   |nil=>
    rw[hk]at h;simp only at h ⊢;obtain⟨q,h⟩:=A5 h;rw[q,GD];obtain⟨q,h⟩:=A5 h;rw[q,GD];exact B1Z hD f _ _ _ _ h
def Ad.mono{D':Int}(hD:D<=D')(h:Ad T D N st i o):Ad T D' N st i o:=by
 obtain⟨h1,f,N,h2,h3⟩:=h;exact⟨h1,f,N,B1Z hD f _ _ _ _ h2,h3⟩
def RdD(N:Gx)(T:Gu)(e:Nat)(x:D9):Prop:=Qe (e:Int) N T=J ([.agg .dfn x],bxN N T)
def C8F(l:List VdT):(Nc l).length<=2+sl J5 l:=by
 have:=C3f J5 l;unfold Nc;split;simp;simp only[Fd,Fr,GT];omega
def D00(tw:TW T)(hD:D<=200)(lu:0<=D){k:Int}(hk:k=1\/k=2\/k=3)(ha:Ad T D N ((b+1)::(b+2)::(b+3)::(b+4)::st) (i+1) 0)(c1:Kd N n (kI b [C8,Th,Ti,F1,I9]))(c2:Ss N b [C8,Th,Ti,F1,I9])(p:A4):
  ∃ds ss x j,Y6 ((b+3:Nat):Int) N T=J ([.sl .dir ds (J 1)],bxN N T)/\Vv ((b+4:Nat):Int) N T=J ([.sl .sel ss (J 1)],bxN N T)/\
   Sx (λL k nm ds ss p v=>LK N T L (λ_ vs _=>J ([.agg .dfn ⟨k,nm,[],V,vs,ds,ss,p⟩],bxN N T)) NN 0 ([]++[vE v]) v) (n:Int) N T ds ss p k=J ([.agg .dfn x],bxN N T)/\Ad T D N st j 0/\i<j/\PI x/\(I8 x).length+2+KB*i<=KB*j:=by
 have gK:=tw.len;have k1:KZ (n:Int) 1 N T=_:=kid (T:=T) c1 1 GN;have k2:KZ (n:Int) 2 N T=_:=kid (T:=T) c1 2 GN;obtain⟨q,nm,i1,eN,Br,c5,dP,cD⟩:∃(q:Bool)(nm:rg)(i1:Nat),K8 ((b+1:Nat):Int) N T=J ([.bool (!q)],bxN N T)/\((q=Z->∃(m:Nat)(t2:A0),KZ ((b+1:Nat):Int) 0 N T=J ([.int .i64 (m:Int)],bxN N T)/\J9 (m:Int) N T=J ([.agg .tok t2],bxN N T)/\nm=t2.text)/\(q=V->nm=[]))/\Ad T D N ((b+2)::(b+3)::(b+4)::st) i1 0/\nm.length<=8400000/\i+1<=i1:=by
  obtain⟨t2,b2,_,_,_,d1,d2,d3⟩:=ha.rl tw (c2 1 _ rfl) (λ_=>B9h);cases w:t2.kind==3 with
  |false=>rw[w]at d1 d3;exact⟨V,[],i+1,PB d1,⟨λh=>(by cases h),λ_=>rfl⟩,d3,GN,GU _⟩
  |true=>
   rw[w]at d1 d2 d3;obtain⟨t3,_,jh,_,e2,_,_,d4⟩:=N4 tw (show Ad T D N (b2::(b+2)::(b+3)::(b+4)::st) (i+1) 0 from d3) (d2 0 _ rfl) GM GO lu hD;exact⟨Z,t3.text,i+1+1,PC d1 GN,⟨λ_=>⟨b2,t3,PH d1,e2,rfl⟩,λh=>(by cases h)⟩,d4,jh.1,FK⟩
 obtain⟨w,vs,i2,eV,c6,yu,cL,Em⟩:∃(w:Bool)(vs:List VdT)(i2:Nat),(K8 ((b+2:Nat):Int) N T=J ([.bool (!w)],bxN N T)/\(w=Z->∃(m r:Nat)(v:VdT)(l:List VdT)(L:Gv),KZ ((b+2:Nat):Int) 1 N T=J ([.int .i64 (m:Int)],bxN N T)/\Mz (m:Int) N T=J ([.agg .vd v],bxN N T)/\KZ ((b+2:Nat):Int) 2 N T=J ([.int .i64 (r:Int)],bxN N T)/\Chn N r L/\L.length<=1100000/\FA (RdV N T) L l/\vs=v::l)/\(w=V->vs=[]))/\Ad T D N ((b+3)::(b+4)::st) i2 0/\GL GVd vs/\i1<=i2/\lq (Nc vs).length i1 i2:=by
  obtain⟨t2,b2,_,_,_,d1,d2,d3⟩:=c5.rl tw (c2 2 _ rfl) (λ_=>C21);cases w:pu t2 LQ with
  |false=>rw[w]at d1 d3;exact⟨V,[],i1,⟨PB d1,λh=>(by cases h),λ_=>rfl⟩,d3,GL.nil,GU _,lq.nil (GU _)⟩
  |true=>
   rw[w]at d1 d2 d3;simp only[GD]at d1 d2 d3;obtain⟨_,_,_,_,_,_,_,dW,d4⟩:=Ad.tm tw (show Ad T D N (b2::(b2+1)::(b2+2)::(b2+3)::(b+3)::(b+4)::st) i1 0 from d3) (d2 0 _ rfl) GM GO GO;have dW:=dW GM;rw[show(0:Int)+br LQ=1 from GM]at d4;obtain⟨v,j,e1,d5,hj,gv,lv⟩:=C1i tw hD GO FK d4 (d2 1 _ rfl);obtain⟨L,l,m,q1,q2,q3,q4,q5,q6,q7⟩:=Tz (α:=VdT) (Rd:=RdV N T) (G:=GVd) (μ:=λx=>(J5 x).length+2) (kb:=KB) (E:=Qo) tw (λt=>⟨!(pu t W2),by rw[C3d];cases pu t W2<;>rfl⟩) GM
    (λe i st hA hS=>C1i tw hD GO FK hA hS) (T.length+1) (b2+2) j FK d5 (d2 2 _ rfl)
   obtain⟨_,_,_,_,_,_,Gc,_,d6⟩:=Ad.tm tw q3 (d2 3 _ rfl) GM GO GO;rw[show(1:Int)+br Oh=0 from GM]at d6;refine⟨Z,v::l,m+1,⟨PC d1 GN,λ_=>⟨b2+1,b2+2,v,l,L,kid d1 1 GN,e1,kid d1 2 GN,q1,by rw[q2.len];omega,q2,rfl⟩,λh=>(by cases h)⟩,d6,⟨by rw[Fr];omega,λy hy=>(HC.1 hy).elim (λh=>h ▸ gv) (q5 y)⟩,FK,?_⟩;refine(((lq.tok (n:=2) (HX i1) FK).comp (show lq ((J5 v).length+2) (i1+1) j from lv)).comp ((show lq (sl J5 l) j m from q7).comp (lq.nil (IS m)))).le ?_;have:=C8F (v::l);have h2:sl J5 (v::l)=((J5 v).length+2)+sl J5 l:=by unfold sl;simp only[sw]
   omega
 obtain⟨ds,j1,e3,c7,kX,rf,yv⟩:=V2 tw hD V GO lu c6 (c2 3 _ rfl);obtain⟨ss,j,e4,c8,hj,ne,uF,lss⟩:=B4F tw hD GO lu c7 (c2 4 _ rfl);have lss:=lss.le (IY _ 10);have uG:∀nm,Yv (λL k nm ds ss p v=>LK N T L (λ_ vs _=>J ([.agg .dfn ⟨k,nm,[],V,vs,ds,ss,p⟩],bxN N T)) NN 0 ([]++[vE v]) v) (n:Int) N T k nm ds ss p=J ([.agg .dfn ⟨k,nm,[],V,vs,ds,ss,p⟩],bxN N T):=λnm=>by
  obtain⟨v1,v2,v3⟩:=eV;unfold Yv;cases w with
  |false=>
   cases v3 rfl;simp only[gd,k2,kz,qz,v1,kb,qb,HP,HY,GD,GF]
  |true=>
   obtain⟨m,r,v,l,L,u1,u2,u3,u4,u5,u6,rfl⟩:=v2 rfl;simp only[gd,k2,kz,qz,v1,kb,qb,HP,HY,GD,GF,u1,u2,u3,kv,qv,XF u4 u5,kc,qc,show A3 (0+1) 192=Z from rfl];have:=XG (S:=VdT) (R:=B6) (λq a7 i s=>LK N T (L.map λ(e:Nat)=>(e:Int)) (λ_ vs _=>J ([.agg .dfn ⟨k,nm,[],V,vs,ds,ss,p⟩],bxN N T)) q (i:Int) a7 s)
    (λa7=>J ([.agg .dfn ⟨k,nm,[],V,a7,ds,ss,p⟩],bxN N T)) u6 u5
    (λq a7 s=>by unfold LK;simp only[LT,ltF,GF])
    (λq a7 i e y s he hi hr ha=>⟨y,by
     have hr:Mz (e:Int) N T=_:=hr
     conv=>lhs;unfold LK
     simp only[LT,ltT hi,GD,XH he,hr,gd,kv,qv,XI (c:=192) ha,wrI (show i<=4400000 from FK),B9f]⟩) [v] v GN
   rw[B9f];exact this
 refine⟨ds,ss,⟨k,nm,[],V,vs,ds,ss,p⟩,j,e3,e4,?_,c8,FK,⟨dP,GN,yu,rf,uF,ne⟩,?_⟩;unfold Sx;cases q with
 |false=>
  cases Br.2 rfl;simp only[gd,k1,kz,qz,eN,kb,qb,HP,HY,GD,GF,uG]
 |true=>
  obtain⟨m,t2,u1,u2,rfl⟩:=Br.1 rfl;simp only[gd,k1,kz,qz,eN,kb,qb,HP,HY,GD,GF,u1,u2,kt_,qt,uG]
 refine((lq.tok (n:=8400100) (FK:i<i1) FK).comp (Em.comp (yv.comp lss))).le ?_;have hw:(opW k).length<=12:=by
  rcases hk with rfl|rfl|rfl<;>decide
 show(I8 ⟨k,nm,[],V,vs,ds,ss,p⟩).length+2<=_;unfold I8 Zs;have h4:(k==4)=V:=by rcases hk with rfl|rfl|rfl<;>rfl
 simp only[h4,Jt,GF,Fd,Fr,GT];show _<=8400100+((Nc vs).length+((E2 ds).length+(brS (E1 201 1) 0 ss).length));split;simp only[GT];omega;simp only[Fd,Fr,GT];omega
end
def wOk(b:Gp)(s:rg):Prop:=b.length+s.length+3000<=MB
def pcs{α:Type}(f:Nat->α->rg):Nat->List α->rg
 |_,[]=>[]
 |i,x::r=>f i x++pcs f (i+1) r
section
variable {α R:Type}{l:List α}{b:Gp}
def C1M(p:α->rg):∀(l:List α)(i:Nat),pcs (λi x=>(if i=0 then []else [44,32])++p x) i l=jn i (l.map p)
 |[],_=>rfl
 |x::r,i=>by rw[pcs,IN,jn,C1M p r]
def B2e(p:α->rg):∀(l:List α)(i:Nat),pcs (λ_ x=>p x) i l=l.flatMap p
 |[],_=>rfl
 |x::r,i=>by rw[pcs,ID,B2e p r]
def C40(f:Nat->α->rg)(Lf:Nat->Nat->Gp->Option R)(K:Gp->Option R)(dV:∀n buf,Lf (n+1) l.length buf=K buf)
  (hs:∀n i x buf,l[i]?=J x->i<l.length->x∈l->wOk buf (f i x)->Lf (n+1) i buf=Lf n (i+1) (buf++bI (f i x))):∀(n i:Nat)(r:List α)(buf:Gp),r=l.drop i->i<=l.length->l.length<n+i->wOk buf (pcs f i r)->Lf n i buf=K (buf++bI (pcs f i r))
 |0,i,r,buf,h,h1,h2,h3=>FK
 |n+1,i,r,buf,h,h1,h2,h3=>by
  by_cases hi:i<l.length;have hd:l.drop i=l[i]::l.drop (i+1):=Ht hi;rw[h,hd]at h3 ⊢;simp only[pcs,wOk,Fd]at h3 ⊢;rw[hs n i l[i] buf (GE hi) hi (IG hi) (by unfold wOk;omega)];rw[C40 f Lf K dV hs n (i+1) _ _ rfl FK FK (by simp only[wOk,Fd,C1];omega)];rw[C9,GV];have bO:i=l.length:=FK;subst bO;rw[h,IL,dV];simp[pcs,bI]
def wl(f:Nat->α->rg)(Lf:Nat->Nat->Gp->Option R)(K:Gp->Option R){c:Nat}(hl:l.length<=c)(dV:∀n buf,Lf (n+1) l.length buf=K buf)
  (hs:∀n i x buf,l[i]?=J x->i<l.length->x∈l->wOk buf (f i x)->Lf (n+1) i buf=Lf n (i+1) (buf++bI (f i x)))(hb:wOk b (pcs f 0 l))(hc:c<=4400000:=by decide):Lf NN 0 b=K (b++bI (pcs f 0 l)):=
 C40 f Lf K dV hs NN 0 l b rfl (HH _) (by rw[NNv];omega) hb
def S3{i c:Nat}(hl:l.length<=c)(hi:i<l.length)(hc:c<=4400000:=by decide):Aab .i64 ((i:Int)+1)=((i+1:Nat):Int):=E7 FK
def dlt{i:Nat}(hi:i<l.length):decide ((i:Int)<(l.length:Int))=Z:=GG FK
def dge:decide ((l.length:Int)<(l.length:Int))=V:=GH FK
def Zt(h:l≠[]):((l.length:Int)==0)=V:=by
 cases l with
 |nil=>exact absurd rfl h
 |cons x r=>simp;omega
def p18{r:F6}(hr:GTy r):Nb r=J (.one (.str (prT r))):=by
 have h1:=hr.len;exact B97 hr.1 (by have:=hr.2;omega)
def B1I{v:LitT}(hv:F5 DD v/\wt DD v<=1100000)(h:wOk b (prN DD v)):LS v b=J ([],B7 (b++bI (prN DD v))):=B7m DD v b hv.1 hv.2 (by unfold wOk at h;omega)
def p27{a:Gy}(ha:a.length<=1000)(h:wOk b a.flatten):Kc a b=J ([],B7 (b++bI a.flatten)):=X2 ha (by unfold wOk at h;omega)
def C6J{i:Nat}(h:wOk b []):Na (i:Int) b=J ([],B7 (b++bI (if i=0 then []else [44,32]))):=B4I (by unfold wOk at h;simp at h;omega)
def D2(l:Gp):okB [] kP (J ([],B7 l))=Z:=rfl
def U3(v:LitT):LitT.mk v.kind v.text v.block v.items v.fields v.pos=v:=LitT.eta v
def J0(l:Gp):[[(.ptr 900000 A9:L6),.sl .u8 l (J 92000001)]]=B7 l:=rfl
end
section
variable {R:Type}{b b0:Gp}
def cm(i:Nat):rg:=if i=0 then []else [44,32]
def B7a(i:Nat):(cm i).length<=2:=by unfold cm;split<;>decide
def B8s{i:Nat}(h:wOk b []):Na (i:Int) b=J ([],B7 (b++bI (cm i))):=C6J h
def B8e{α:Type}(p:α->rg)(l:List α)(i:Nat):pcs (λi x=>cm i++p x) i l=jn i (l.map p):=C1M p l i
def nE{l:rg}(h:l=[]):(!(l==[]))=V:=by subst h;rfl
def nN{l:rg}(h:l≠[]):(!(l==[]))=Z:=by cases l with|nil=>exact absurd rfl h|cons=>rfl
def prAll(l:List D9):rg:=pcs (λi x=>(if i=0 then []else [10])++(I8 x++[10])) 0 l
end
end Go.Aev
namespace Go.Aev
open Go.Proofs
def PJ{R:Type}(nn:Nat)(a1:List IvT)(aa:Gp):Nat->Int->Int->Gp->(Int->Int->Bool->Gp->Option R)->Option R
 |0,_,_,_,_=>O
 |n+1,ck,cv,ac,k2=>let k1:=λck cv ac=>PJ nn a1 aa n ck cv ac k2;let z1:=decide (cv<ck);bif z1 then(match idx a1 cv with|O=>O|J y2=>(let z3:=y2.dflt.pos.line;let z4:=y2.dflt.pos.col;let r9:=Na cv ac;gd (okB [] kP r9) (let z5:=(B3 (gC r9 0 1));let r8:=MN (⟨y2.note.has,y2.note.block,y2.note.text⟩:G5) [32] z5;gd (okB [] kP r8) (let z6:=(B3 (gC r8 0 1));let r7:=PA (⟨(⟨y2.note.has,y2.note.block,y2.note.text⟩:G5),y2.name,(⟨y2.type_.name,y2.type_.wrap⟩:F6),y2.hasDefault,(LitT.mk y2.dflt.kind y2.dflt.text y2.dflt.block y2.dflt.items y2.dflt.fields (⟨z3,z4⟩:A4)),y2.dirs,(⟨y2.pos.line,y2.pos.col⟩:A4)⟩:IvT) z6;gd (okB [] kP r7) (k1 ck (Aab .i64 (cv+1)) (B3 (gC r7 0 1)))))))else(k2 ck cv z1 ac)
def D7c{R}(nn a1 aa)(K:Kt R):∀n ck cv ac,PJ nn a1 aa n ck cv ac (λck cv eQ ac=>K (.exit 0) (Q7 (eB 15 eQ) (pg [eL 12 .iv a1,eI 13 ck,eI 14 cv] ac)))=LP E88 nn f88 75 n (pg [eL 12 .iv a1,eI 13 ck,eI 14 cv] ac) K:=λn=>n.rec (by intros;rfl) λn i=>by
 intros;rw[PJ];simp only[i];kernel_rfl
def B3T(nn:Nat)(a1:List IvT)(aa:Gp):Gr:=let z1:=(Aaa a1:Int)==0;bif z1 then(J ([],[[.ptr 900000 A9,.sl .u8 aa (J 92000001)]]))else(let r7:=Kc [[40]] aa;gd (okB [] kP r7) (PJ nn a1 aa nn (Aaa a1:Int) 0 (B3 (gC r7 0 1)) (λz2 z3 z4 z5=>let r6:=Kc [[41]] z5;gd (okB [] kP r6) (J ([],[[.ptr 900000 A9,.sl .u8 (B3 (gC r6 0 1)) (J 92000001)]])))))
def XK(a1:List IvT)(aa:Gp):Gr:=B3T NN a1 aa
def C97(nn:Nat){a1:List IvT}{aa:Gp}:D7 E88 nn f88 [0] [.ptr 900000 0,.sl .iv a1 O] [[.ptr 900000 A9,.sl .u8 aa (J 92000001)]]=B3T nn a1 aa:=by
 unfold B3T;simp(disch:=exact krl)only[lc1 (kB [0] [[.ptr 900000 A9,.sl .u8 aa (J 92000001)]]) (D7c ..)];kernel_rfl
def S88:Ka
 |[.ptr d0 o0,.sl .iv a1 O],[[.ptr p0 q0,.sl .u8 aa (J aO)]]=>bif bq d0 o0&&pq p0 q0&&(Aac aO 92000001)then pB [] kP (XK a1 aa)else O
 |_,_=>O
def C72:Env Ty6 A2:=mkE [] [(37,Zk),(139,B3h)] noD 14 [] 1 [] []
def UC(a1:G5)(a2:Int)(aa:Gp):Gr:=bif a1.has then(let r2:=MN a1 [10] aa;gd (okB [] kP r2) (let z1:=(B3 (gC r2 0 1));gd (okB [] kP (LN a2 z1)) (J ([],[[.ptr 900000 A9,.sl .u8 (B3 (gC (LN a2 z1) 0 1)) (J 92000001)]]))))else(J ([],[[.ptr 900000 A9,.sl .u8 aa (J 92000001)]]))
def Zu:Ka
 |[.ptr d0 o0,.agg .note a1,.int .i64 a2],[[.ptr p0 q0,.sl .u8 aa (J aO)]]=>bif bq d0 o0&&pq p0 q0&&(Aac aO 92000001)then pB [] kP (UC a1 a2 aa)else O
 |_,_=>O
def C24:Env Ty6 A2:=mkE [(18,Tx)] [(27,Kk),(68,Oz),(88,S88),(266,Zu)] noD 30 [] 2 [] []
def B04(a0:FdT)(a2:Int)(aa:Gp):Gr:=let cF:=UC a0.note a2 aa;gd (okB [] kP cF) (let z1:=(B3 (gC cF 0 1));let r9:=Kc [a0.name] z1;gd (okB [] kP r9) (let z2:=(B3 (gC r9 0 1));let r8:=XK a0.args z2;gd (okB [] kP r8) (let z3:=(B3 (gC r8 0 1));let r7:=Nb a0.type_;gd (okR [.str] r7) (let r6:=Kc [[58,32],(lS (gL r7 0))] z3;gd (okB [] kP r6) (let z4:=(B3 (gC r6 0 1));let r5:=Oy a0.dirs z4;gd (okB [] kP r5) (J ([],[[.ptr 900000 A9,.sl .u8 (B3 (gC r5 0 1)) (J 92000001)]])))))))
def C9b{a0:FdT}{a2:Int}{aa:Gp}:D7 C24 NN f265 [1] [.agg .fd a0,.ptr 900000 0,.int .i64 a2] [[.ptr 900000 A9,.sl .u8 aa (J 92000001)]]=B04 a0 a2 aa:=GM
def B58:Ka
 |[.agg .fd a0,.ptr d0 o0,.int .i64 a2],[[.ptr p0 q0,.sl .u8 aa (J aO)]]=>bif bq d0 o0&&pq p0 q0&&(Aac aO 92000001)then pB [] kP (B04 a0 a2 aa)else O
 |_,_=>O
def B9m:Env Ty6 A2:=mkE [] [(27,Kk),(68,Oz),(266,Zu)] noD 20 [] 2 [] []
def B1q(a0:P6)(a2:Int)(aa:Gp):Gr:=let r5:=UC a0.note a2 aa;gd (okB [] kP r5) (let z1:=(B3 (gC r5 0 1));let r4:=Kc [a0.name] z1;gd (okB [] kP r4) (let z2:=(B3 (gC r4 0 1));let r3:=Oy a0.dirs z2;gd (okB [] kP r3) (J ([],[[.ptr 900000 A9,.sl .u8 (B3 (gC r3 0 1)) (J 92000001)]]))))
def C8B{a0:P6}{a2:Int}{aa:Gp}:D7 B9m NN Tryz.f267 [1] [.agg .vald a0,.ptr 900000 0,.int .i64 a2] [[.ptr 900000 A9,.sl .u8 aa (J 92000001)]]=B1q a0 a2 aa:=GM
def B7p:Ka
 |[.agg .vald a0,.ptr d0 o0,.int .i64 a2],[[.ptr p0 q0,.sl .u8 aa (J aO)]]=>bif bq d0 o0&&pq p0 q0&&(Aac aO 92000001)then pB [] kP (B1q a0 a2 aa)else O
 |_,_=>O
def C2d:Env Ty6 A2:=mkE [] [(157,B1j),(266,Zu)] noD 14 [] 2 [] []
def B1h(a0:IvT)(a2:Int)(aa:Gp):Gr:=let r2:=UC a0.note a2 aa;gd (okB [] kP r2) (let z1:=(B3 (gC r2 0 1));gd (okB [] kP (PA a0 z1)) (J ([],[[.ptr 900000 A9,.sl .u8 (B3 (gC (PA a0 z1) 0 1)) (J 92000001)]])))
def C7C{a0:IvT}{a2:Int}{aa:Gp}:D7 C2d NN f268 [1] [.agg .iv a0,.ptr 900000 0,.int .i64 a2] [[.ptr 900000 A9,.sl .u8 aa (J 92000001)]]=B1h a0 a2 aa:=GM
def B8z:Ka
 |[.agg .iv a0,.ptr d0 o0,.int .i64 a2],[[.ptr p0 q0,.sl .u8 aa (J aO)]]=>bif bq d0 o0&&pq p0 q0&&(Aac aO 92000001)then pB [] kP (B1h a0 a2 aa)else O
 |_,_=>O
def B15(g:List PartT->Int->Gp->Gr):Ka
 |[.ptr d0 o0,.sl .part a1 O,.int .i64 a2],[[.ptr p0 q0,.sl .u8 aa (J aO)]]=>bif bq d0 o0&&pq p0 q0&&(Aac aO 92000001)then pB [] kP (g a1 a2 aa)else O
 |_,_=>O
def B1C(g:SelT->Int->Gp->Gr):Ka
 |[.agg .sel a0,.ptr d0 o0,.int .i64 a2],[[.ptr p0 q0,.sl .u8 aa (J aO)]]=>bif bq d0 o0&&pq p0 q0&&(Aac aO 92000001)then pB [] kP (g a0 a2 aa)else O
 |_,_=>O
def FI(g263:SelT->Int->Gp->Gr)(x:PartT)(lv:Int)(b:Gp):Gr:=
 match x with
 | .sel s=>g263 s lv b
 | .root r=>B0T r lv b
 | .field f=>B04 f lv b
 | .value v=>B1q v lv b
 | .input i=>B1h i lv b
def TI(g263:SelT->Int->Gp->Gr):String->Gt->Gz->Option (Bool×Gt×Gz):=λnm ls cs=>
 match ls,cs with
 |[.one1 .part x,.ptr d0 o0,.int .i64 a2],[[.ptr p0 q0,.sl .u8 aa (J aO)]]=>
  bif decide (nm= "pergola/printer.print")&&((Aac d0 900000&&Aac o0 0)&&((Aac p0 900000&&Aac q0 A9)&&Aac aO 92000001))then
   J (okB [] [[.ptr 900000 A9,.sl .u8 (J 92000001)]] (FI g263 x a2 aa),rsR [] (FI g263 x a2 aa),csR [[.ptr 900000 A9,.sl .u8 (J 92000001)]] (FI g263 x a2 aa))else O
 |_,_=>O
def biI:String->Gv:=λ_=>[1]
def E63(fm:List PartT->Int->Gp->Gr)(g263:SelT->Int->Gp->Gr):Env Ty6 A2:={mkE [] [(27,Kk),(139,B3h)] (lkR [(0,8,2),(1,10,4),(2,1,1),(4,17,3),(5,20,4),(6,7,1),(6,24,5),(7,29,3),(8,32,1),(9,2,1),(9,14,4),(9,33,3),(10,36,3)]) 39 [] 1 [] []with TIg:=TI g263,bi:=biI}
def W1{R:Type}(nn:Nat)(fm:List PartT->Int->Gp->Gr)(g263:SelT->Int->Gp->Gr)(a1:List PartT)(a2:Int)(aa:Gp):Nat->Int->Int->Gp->(Int->Int->Bool->Gp->Option R)->Option R
 |0,_,_,_,_=>O
 |n+1,eQ,fk,ac,k2=>let k1:=λeQ fk ac=>W1 nn fm g263 a1 a2 aa n eQ fk ac k2;let z1:=decide (fk<eQ);bif z1 then(match idx a1 fk with|O=>O|J y2=>(let r7:=LN (Aab .i64 (a2+1)) ac;gd (okB [] kP r7) (let z3:=(B3 (gC r7 0 1));let r6:=FI g263 y2 (Aab .i64 (a2+1)) z3;gd (okB [] kP r6) (let z4:=(B3 (gC r6 0 1));let r5:=Kc [[10]] z4;gd (okB [] kP r5) (k1 eQ (Aab .i64 (fk+1)) (B3 (gC r5 0 1)))))))else(k2 eQ fk z1 ac)
def D3u{R}(nn fm g263 a1 a2 aa)(K:Kt R):∀n eQ fk ac,W1 nn fm g263 a1 a2 aa n eQ fk ac (λeQ fk rh ac=>K (.exit 0) (Q7 (eB 17 rh) (pg [eI 2 a2,eL 14 .part a1,eI 15 eQ,eI 16 fk] ac)))=LP (E63 fm g263) nn f63 75 n (pg [eI 2 a2,eL 14 .part a1,eI 15 eQ,eI 16 fk] ac) K:=λn=>n.rec (by intros;rfl) λn i=>by
 intros;rw[W1];simp only[i];kernel_rfl
def Zv(nn:Nat)(fm:List PartT->Int->Gp->Gr)(g263:SelT->Int->Gp->Gr)(a1:List PartT)(a2:Int)(aa:Gp):Gr:=let z1:=(Aaa a1:Int)==0;bif z1 then(J ([],[[.ptr 900000 A9,.sl .u8 aa (J 92000001)]]))else(let r8:=Kc [[32,123,10]] aa;gd (okB [] kP r8) (W1 nn fm g263 a1 a2 aa nn (Aaa a1:Int) 0 (B3 (gC r8 0 1)) (λz2 z3 z4 z5=>gd (okB [] kP (LN a2 z5)) (let z6:=(B3 (gC (LN a2 z5) 0 1));let r7:=Kc [[125]] z6;gd (okB [] kP r7) (J ([],[[.ptr 900000 A9,.sl .u8 (B3 (gC r7 0 1)) (J 92000001)]]))))))
def Zw(fm:List PartT->Int->Gp->Gr)(g263:SelT->Int->Gp->Gr)(a1:List PartT)(a2:Int)(aa:Gp):Gr:=Zv NN fm g263 a1 a2 aa
def C73(nn:Nat)(fm:List PartT->Int->Gp->Gr)(g263:SelT->Int->Gp->Gr){a1:List PartT}{a2:Int}{aa:Gp}:D7 (E63 fm g263) nn f63 [0] [.ptr 900000 0,.sl .part a1 O,.int .i64 a2] [[.ptr 900000 A9,.sl .u8 aa (J 92000001)]]=Zv nn fm g263 a1 a2 aa:=by
 unfold Zv;simp(disch:=exact krl)only[lc1 (kB [0] [[.ptr 900000 A9,.sl .u8 aa (J 92000001)]]) (D3u ..)];kernel_rfl
def C2h(fm:List PartT->Int->Gp->Gr)(g263:SelT->Int->Gp->Gr):Env Ty6 A2:=mkE [(64,S64)] [(27,Kk),(63,B15 fm),(68,Oz),(142,B0Q)] noD 60 [] 2 [] []
def B1J(fm:List PartT->Int->Gp->Gr)(g263:SelT->Int->Gp->Gr)(a0:SelT)(a2:Int)(aa:Gp):Gr:=let j1:Gp->Gr:=λz2=>let r6:=Oy a0.dirs z2;gd (okB [] kP r6) (let z3:=(B3 (gC r6 0 1));bif(a0.kind !=2)then(let r5:=ZV a0.sels;gd (okR [.sl .part (J 1)] r5) (let r4:=fm (SX (gL r5 0)) a2 z3;gd (okB [] kP r4) (J ([],[[.ptr 900000 A9,.sl .u8 (B3 (gC r4 0 1)) (J 92000001)]]))))else(J ([],[[.ptr 900000 A9,.sl .u8 z3 (J 92000001)]])));bif(a0.kind==1)then(let j7:Gp->Gr:=λz8=>let dz:=Kc [a0.name] z8;gd (okB [] kP dz) (let z9:=(B3 (gC dz 0 1));let cF:=Zj a0.args z9;gd (okB [] kP cF) (j1 (B3 (gC cF 0 1))));bif(!(a0.alias_==[]))then(let cP:=Kc [a0.alias_,[58,32]] aa;gd (okB [] kP cP) (j7 (B3 (gC cP 0 1))))else(j7 aa))else(bif(a0.kind==2)then(let cg:=Kc [[46,46,46],a0.name] aa;gd (okB [] kP cg) (j1 (B3 (gC cg 0 1))))else(bif(a0.kind==3)then(let kp:=Kc [[46,46,46]] aa;gd (okB [] kP kp) (let cM:=(B3 (gC kp 0 1));bif(!(a0.on_==[]))then(let ft:=Kc [[32,111,110,32],a0.on_] cM;gd (okB [] kP ft) (j1 (B3 (gC ft 0 1))))else(j1 cM)))else(j1 aa)))
def D1J(fm:List PartT->Int->Gp->Gr)(g263:SelT->Int->Gp->Gr){a0:SelT}{a2:Int}{aa:Gp}:D7 (C2h fm g263) NN Tryz.f263 [1] [.agg .sel a0,.ptr 900000 0,.int .i64 a2] [[.ptr 900000 A9,.sl .u8 aa (J 92000001)]]=B1J fm g263 a0 a2 aa:=GM
def M5:Nat->(List PartT->Int->Gp->Gr)×(SelT->Int->Gp->Gr)
 |0=>(λ_ _ _=>O,λ_ _ _=>O)
 |d+1=>(Zw (M5 d).1 (M5 d).2,B1J (M5 d).1 (M5 d).2)
def XL(a1:List PartT)(a2:Int)(aa:Gp):Gr:=(M5 DD).1 a1 a2 aa
def D3F(a0:SelT)(a2:Int)(aa:Gp):Gr:=(M5 DD).2 a0 a2 aa
def S63:Ka
 |[.ptr d0 o0,.sl .part a1 O,.int .i64 a2],[[.ptr p0 q0,.sl .u8 aa (J aO)]]=>bif bq d0 o0&&pq p0 q0&&(Aac aO 92000001)then pB [] kP (XL a1 a2 aa)else O
 |_,_=>O
def D7y:Ka
 |[.agg .sel a0,.ptr d0 o0,.int .i64 a2],[[.ptr p0 q0,.sl .u8 aa (J aO)]]=>bif bq d0 o0&&pq p0 q0&&(Aac aO 92000001)then pB [] kP (D3F a0 a2 aa)else O
 |_,_=>O
def E67:Env Ty6 A2:=mkE [(18,Tx)] [(27,Kk),(68,Oz),(101,Ts),(141,B3o)] (lkR [(0,6,2),(0,1000105,1),(1,8,4),(1,1000105,1),(2,1,1),(2,1000105,1),(3,1000105,1),(4,15,4),(5,4,1),(5,19,3),(6,22,8),(7,30,6),(8,5,1),(8,36,4),(8,1000105,1),(9,40,1),(9,1000105,1),(10,12,4),(10,41,3),(10,1000105,1),(10003,1000105,1)]) 44 [5] 1 [] []
def PK{R:Type}(nn:Nat)(a1:List VdT)(aa:Gp):Nat->Int->Int->Gp->(Int->Int->Bool->Gp->Option R)->Option R
 |0,_,_,_,_=>O
 |n+1,ck,cv,ac,k2=>let k1:=λck cv ac=>PK nn a1 aa n ck cv ac k2;let z1:=decide (cv<ck);bif z1 then(match idx a1 cv with|O=>O|J y2=>(let z3:=y2.dflt.pos.line;let z4:=y2.dflt.pos.col;let cP:=Na cv ac;gd (okB [] kP cP) (let z5:=(B3 (gC cP 0 1));let dz:=Nb (⟨y2.type_.name,y2.type_.wrap⟩:F6);gd (okR [.str] dz) (let cF:=Kc [[36],y2.name,[58,32],(lS (gL dz 0))] z5;gd (okB [] kP cF) (let z6:=(B3 (gC cF 0 1));let r9:=Qy y2.hasDefault (LitT.mk y2.dflt.kind y2.dflt.text y2.dflt.block y2.dflt.items y2.dflt.fields (⟨z3,z4⟩:A4)) z6;gd (okB [] kP r9) (let z7:=(B3 (gC r9 0 1));let r8:=Oy y2.dirs z7;gd (okB [] kP r8) (k1 ck (Aab .i64 (cv+1)) (B3 (gC r8 0 1)))))))))else(k2 ck cv z1 ac)
def D6z{R}(nn a1 aa)(K:Kt R):∀n ck cv ac,PK nn a1 aa n ck cv ac (λck cv eQ ac=>K (.exit 0) (Q7 (eB 15 eQ) (pg [eL 12 .vd a1,eI 13 ck,eI 14 cv] ac)))=LP E67 nn f67 75 n (pg [eL 12 .vd a1,eI 13 ck,eI 14 cv] ac) K:=λn=>n.rec (by intros;rfl) λn i=>by
 intros;rw[PK];simp only[i];kernel_rfl
def B3r(nn:Nat)(a1:List VdT)(aa:Gp):Gr:=let z1:=(Aaa a1:Int)==0;bif z1 then(J ([],[[.ptr 900000 A9,.sl .u8 aa (J 92000001)]]))else(let r7:=Kc [[40]] aa;gd (okB [] kP r7) (PK nn a1 aa nn (Aaa a1:Int) 0 (B3 (gC r7 0 1)) (λz2 z3 z4 z5=>let r6:=Kc [[41]] z5;gd (okB [] kP r6) (J ([],[[.ptr 900000 A9,.sl .u8 (B3 (gC r6 0 1)) (J 92000001)]])))))
def F67(a1:List VdT)(aa:Gp):Gr:=B3r NN a1 aa
def D4j(nn:Nat){a1:List VdT}{aa:Gp}:D7 E67 nn f67 [0] [.ptr 900000 0,.sl .vd a1 O] [[.ptr 900000 A9,.sl .u8 aa (J 92000001)]]=B3r nn a1 aa:=by
 unfold B3r;simp(disch:=exact krl)only[lc1 (kB [0] [[.ptr 900000 A9,.sl .u8 aa (J 92000001)]]) (D6z ..)];kernel_rfl
def S67:Ka
 |[.ptr d0 o0,.sl .vd a1 O],[[.ptr p0 q0,.sl .u8 aa (J aO)]]=>bif bq d0 o0&&pq p0 q0&&(Aac aO 92000001)then pB [] kP (F67 a1 aa)else O
 |_,_=>O
def E28:Env Ty6 A2:=mkE [(64,S64),(65,Yc),(66,S66)] [(27,Kk),(29,QX),(63,S63),(67,S67),(68,Oz)] noD 61 [37,38] 1 [] [(37,138)]
def UD(a1:D9)(aa:Gp):Gr:=let j1:Gp->Gr:=λz2=>let r6:=Oy a1.dirs z2;gd (okB [] kP r6) (let z3:=(B3 (gC r6 0 1));let r5:=ZV a1.sels;gd (okR [.sl .part (J 1)] r5) (let r4:=XL (SX (gL r5 0)) 0 z3;gd (okB [] kP r4) (J ([],[[.ptr 900000 A9,.sl .u8 (B3 (gC r4 0 1)) (J 92000001)]]))));bif(a1.kind==4)then(let r7:=Kc [[102,114,97,103,109,101,110,116,32],a1.name,[32,111,110,32],a1.on_] aa;gd (okB [] kP r7) (j1 (B3 (gC r7 0 1))))else(bif a1.short then(let cP:=ZV a1.sels;gd (okR [.sl .part (J 1)] cP) (let dz:=XL (SX (gL cP 0)) 0 [];gd (okB [] kP dz) (let z8:=(B3 (gC dz 0 1));gd (okB [.str] kP (Kl z8)) (let cF:=SZ (lS (gB (Kl z8) 0)) [32];gd (okR [.str] cF) (let r9:=Kc [(lS (gL cF 0))] aa;gd (okB [] kP r9) (J ([],[[.ptr 900000 A9,.sl .u8 (B3 (gC r9 0 1)) (J 92000001)]])))))))else(let oB:=Tw a1.kind;gd (okR [.str] oB) (let mN:=Kc [(lS (gL oB 0))] aa;gd (okB [] kP mN) (let cR:=(B3 (gC mN 0 1));let sg:Gp->Gr:=λcH=>let kp:=F67 a1.vars cH;gd (okB [] kP kp) (j1 (B3 (gC kp 0 1)));bif(!(a1.name==[]))then(let pC:=Kc [[32],a1.name] cR;gd (okB [] kP pC) (sg (B3 (gC pC 0 1))))else(sg cR)))))
def S28:Ka
 |[.ptr d0 o0,.agg .dfn a1],[[.ptr p0 q0,.sl .u8 aa (J aO)]]=>bif bq d0 o0&&pq p0 q0&&(Aac aO 92000001)then pB [] kP (UD a1 aa)else O
 |_,_=>O
def E9:Env Ty6 A2:=mkE [] [(27,Kk),(28,S28),(29,QX)] (lkR [(0,0,1),(0,2,1),(0,1000105,1),(0,1000107,1),(1,6,2),(1,1000105,1),(2,1,1),(2,8,1),(2,1000101,1),(2,1000105,1),(3,1000101,1),(3,1000105,1),(4,12,4),(4,1000101,1),(5,4,1),(5,16,1),(5,1000101,1),(6,17,4),(6,1000101,1),(7,5,1),(7,17,1),(7,21,3),(7,1000101,1),(7,1000105,1),(8,24,3),(8,1000101,1),(8,1000105,1),(9,27,1),(9,1000101,1),(9,1000105,1),(10,3,1),(10,9,4),(10,28,4),(10,1000101,1),(10,1000105,1),(10,1000107,1),(10003,1000101,1),(10003,1000105,1)]) 32 [5,6,7] 0 [] [(6,107)]
def Nd{R:Type}(nn:Nat)(a0:I6):Nat->List D9->Int->Int->Gp->(List D9->Int->Int->Bool->Gp->Option R)->Option R
 |0,_,_,_,_,_=>O
 |n+1,x9,aI,cY,ax,k2=>let k1:=λx9 aI cY ax=>Nd nn a0 n x9 aI cY ax k2;let z1:=decide (cY<aI);bif z1 then(let j2:List D9->Int->Int->Gp->Option R:=λz3 z4 z5 z6=>k1 z3 z4 (Aab .i64 (z5+1)) z6;match idx x9 cY with|O=>O|J y7=>(let z8:=decide (cY>0);bif z8 then(let cg:=Kc [[10]] ax;gd (okB [] kP cg) (let z9:=(B3 (gC cg 0 1));let cP:=UD (⟨y7.kind,y7.name,y7.on_,y7.short,y7.vars,y7.dirs,y7.sels,(⟨y7.pos.line,y7.pos.col⟩:A4)⟩:D9) z9;gd (okB [] kP cP) (let bP:=(B3 (gC cP 0 1));let dz:=Kc [[10]] bP;gd (okB [] kP dz) (j2 x9 aI cY (B3 (gC dz 0 1))))))else(let kp:=UD (⟨y7.kind,y7.name,y7.on_,y7.short,y7.vars,y7.dirs,y7.sels,(⟨y7.pos.line,y7.pos.col⟩:A4)⟩:D9) ax;gd (okB [] kP kp) (let cM:=(B3 (gC kp 0 1));let ft:=Kc [[10]] cM;gd (okB [] kP ft) (j2 x9 aI cY (B3 (gC ft 0 1)))))))else(k2 x9 aI cY z1 ax)
def C7q{R}(nn a0)(K:Kt R):∀n x9 aI cY ax,Nd nn a0 n x9 aI cY ax (λx9 aI cY fK ax=>K (.exit 0) ⟨[eP 3 107,eL 9 .dfn x9,eI 10 aI,eI 11 cY,eB 12 fK,(1000107,.bx 107 [.ptr 107 A9,.sl .u8 ax (J 2010701)])],[107,2010701]⟩)=LP E9 nn Tryz.f9 75 n ⟨[eP 3 107,eL 9 .dfn x9,eI 10 aI,eI 11 cY,(1000107,.bx 107 [.ptr 107 A9,.sl .u8 ax (J 2010701)])],[107,2010701]⟩ K:=λn=>n.rec (by intros;rfl) λn i=>by
 intros;rw[Nd];simp only[i];kernel_rfl
def F9n(nn:Nat)(a0:I6):Gq:=Nd nn a0 nn a0.defs (Aaa a0.defs:Int) 0 [] (λz1 z2 z3 z4 z5=>gd (okB [.str] kP (Kl z5)) (J (.one (.str (lS (gB (Kl z5) 0))))))
def F9(a0:I6):Gq:=F9n NN a0
def S9:KY
 |[.agg .doc a0]=>pR [.str] (F9 a0)
 |_=>O
def E35:Env Ty6 A2:=mkE [] [] noD 2 [] 0 [] []
end Go.Aev
namespace Go.Aev
section
variable {R:Type}{b b0:Gp}
def GS{p:Prop}(h:p:=by first|assumption|decide|(simp only[wOk,Fd,C1,GZ,HD,GY,Fr,GT];omega)):p:=h
def D7u{l:List E0}{k2:Int->Int->Bool->Gp->Option R}(hl:GL Y8 l)(hb:wOk b (jn 0 (l.map Q2))):Ov NN l b0 NN (l.length:Int) ((0:Nat):Int) b k2=k2 (l.length:Int) (l.length:Int) V (b++bI (jn 0 (l.map Q2))):=by
 rw[<-B8e]at hb ⊢;refine wl _ (λn i buf=>Ov NN l b0 n (l.length:Int) (i:Int) buf k2) (λbuf=>k2 (l.length:Int) (l.length:Int) V buf) hl.1 (λn buf=>?_) (λn i x buf hx hi hm hb=>?_) hb;show Ov NN l b0 (n+1) (l.length:Int) (l.length:Int) buf k2=_;unfold Ov;simp only[dge,GF]
 ·have hg:=(hl.2 x hm).2;have hc:=B7a i;have eL:LitT.mk x.value.kind x.value.text x.value.block x.value.items x.value.fields ⟨x.value.pos.line,x.value.pos.col⟩=x.value:=LitT.eta x.value;simp only[Q2]at hb;simp only[wOk,Fd,Fr,GT]at hb
  conv=>lhs;unfold Ov
  simp(disch:=first|exact GS|skip)only[gd,dlt hi,B1,hx,GD,B8s,p27,eL,B1I,D2,C2,S3 hl.1 hi];simp only[Q2,GV,C9,GZ,HD,GY]
def B7z{l:List E0}(hl:GL Y8 l)(hb:wOk b (X1 l)):Zj l b=J ([],B7 (b++bI (X1 l))):=by
 by_cases h0:l=[];subst h0;show J ([],B7 b)=J ([],B7 (b++[]));rw[GY];unfold X1 at hb ⊢;rw[GI h0]at hb ⊢;simp only[wOk,Fd,Fr,GT]at hb;simp(disch:=first|exact GS|skip)only[Zj,B0y,gd,Zt h0,GF,p27,D2,C2,GD,GV,C9,GZ,HD,GY];refine(D7u hl (by simp only[wOk,Fd,C1,Fr,GT];omega)).trans ?_;simp(disch:=first|exact GS|skip)only[p27,D2,C2,GD,J0,GV,C9,GZ,HD,GY]
def p68{l:List C3}(hl:GL K1 l)(hb:wOk b (E2 l)):Oy l b=J ([],B7 (b++bI (E2 l))):=by
 have bm:∀(k2:Int->Int->Bool->Gp->Gr),Ox NN l b NN (l.length:Int) ((0:Nat):Int) b k2=k2 (l.length:Int) (l.length:Int) V (b++bI (E2 l)):=λk2=>by
  unfold E2 at hb ⊢;rw[<-B2e X5 l 0]at hb ⊢;refine wl _ (λn i buf=>Ox NN l b n (l.length:Int) (i:Int) buf k2) (λbuf=>k2 (l.length:Int) (l.length:Int) V buf) hl.1 (λn buf=>?_) (λn i x buf hx hi hm hb=>?_) hb;show Ox NN l b (n+1) (l.length:Int) (l.length:Int) buf k2=_;unfold Ox;simp only[dge,GF]
  ·have hg:=(hl.2 x hm).2;simp only[X5]at hb;simp only[wOk,Fd,Fr,GT]at hb
   conv=>lhs;unfold Ox
   simp(disch:=first|exact GS|skip)only[gd,dlt hi,B1,hx,GD,p27,B7z,D2,C2,S3 hl.1 hi];simp only[X5,GV,C9,GZ,HD,GY]
 exact bm _
def C4u:∀n,Aai [32,32] n=ind n
 |0=>rfl
 |n+1=>by
  rw[Aai,C4u n];rfl
def Zx{lv:Nat}(hl:lv<=1000)(hb:wOk b (ind lv)):LN (lv:Int) b=J ([],B7 (b++bI (ind lv))):=by
 have e:LC [32,32] (lv:Int)=J (.one (.str (ind lv))):=by
  unfold LC;rw[GG GO,GG FK,GG FK];show(J (.one (.str (Aai [32,32] (lv:Int).toNat))):Gq)=_;rw[Jh,C4u]
 simp only[wOk,Fd,Fr,GT]at hb;simp(disch:=first|exact GS|skip)only[LN,gd,e,oS1,gS1,p27,D2,C2,GD,J0,GV,C9,GZ,HD,GY]
def p64{l:GC}(hl:l.length<=1100000):ZV l=J (.one (.sl .part (l.map .sel) (J 1))):=by
 have bm:∀(k2:List PartT->Int->Int->Bool->Gq)(n i:Nat)(x:List PartT),i<=l.length->l.length<n+i->x.length+l.length<=4400000+i->Wm NN l n x (l.length:Int) (i:Int) k2=k2 (x++(l.drop i).map .sel) (l.length:Int) (l.length:Int) V:=λk2 n=>by
  induction n with
  |zero=>intro i x h1 h2 h3;omega
  |succ n ih=>
   intro i x h1 h2 h3;unfold Wm;by_cases hi:i<l.length;have hx:l[i]?=J l[i]:=GE hi;have hr:A3 (x.length+1) 16=Z:=by unfold A3;exact GG FK
   simp only[gd,dlt hi,B1,hx,hr,GD,S3 hl hi];rw[ih (i+1) _ FK FK (by rw[Fd,Hl];omega)];rw[Ht hi,IN,GV];rfl;have bO:i=l.length:=FK;subst bO;simp only[dge,GF,IL,KE,GY]
 exact(bm _ NN 0 [] (HH _) (by rw[NNv];omega) GQ).trans (by rw[Hj,JA])
def Zy(lv:Nat)(p:SelT->rg):∀(l:GC),[10]++l.flatMap (λx=>ind (lv+1)++p x++[10])=l.flatMap (λx=>[10]++ind (lv+1)++p x)++[10]
 |[]=>rfl
 |x::r=>by
  have:=Zy lv p r;rw[ID,ID,GV (ind (lv+1)++p x),this];simp only[GV]
def brP(p:SelT->rg)(lv:Nat)(l:GC):rg:=if l=[]then []else [32]++brS p lv l
def p63{l:GC}{lv:Nat}{p:SelT->rg}{fm:List PartT->Int->Gp->Gr}{g263:SelT->Int->Gp->Gr}(ms:lv<=900)(hl:l.length<=1100000)
  (ih:∀x∈l,∀b,wOk b (p x)->g263 x ((lv+1:Nat):Int) b=J ([],B7 (b++bI (p x))))(hb:wOk b (brP p lv l)):Zw fm g263 (l.map .sel) (lv:Int) b=J ([],B7 (b++bI (brP p lv l))):=by
 have hw:Aab .i64 ((lv:Int)+1)=((lv+1:Nat):Int):=E7 FK;have bm:∀(b b0:Gp)(k2:Int->Int->Bool->Gp->Gr),wOk b (l.flatMap λx=>ind (lv+1)++p x++[10])->W1 NN fm g263 (l.map .sel) (lv:Int) b0 NN (l.length:Int) ((0:Nat):Int) b k2=k2 (l.length:Int) (l.length:Int) V (b++bI (l.flatMap λx=>ind (lv+1)++p x++[10])):=λb b0 k2 hb=>by
  rw[<-B2e _ l 0]at hb ⊢;refine wl _ (λn i buf=>W1 NN fm g263 (l.map .sel) (lv:Int) b0 n (l.length:Int) (i:Int) buf k2) (λbuf=>k2 (l.length:Int) (l.length:Int) V buf) hl (λn buf=>?_) (λn i x buf hx hi hm hb=>?_) hb;show W1 NN fm g263 (l.map .sel) (lv:Int) b0 (n+1) (l.length:Int) (l.length:Int) buf k2=_;unfold W1;simp only[dge,GF]
  ·have ih:∀b,wOk b (p x)->FI g263 (.sel x) ((lv+1:Nat):Int) b=J ([],B7 (b++bI (p x))):=ih x hm;have ri:=λb hb=>Zx (b:=b) (lv:=lv+1) FK hb;have dC:(l.map PartT.sel)[i]?=J (.sel x):=by rw[HG,hx];rfl
   simp only[wOk,Fd,Fr,GT]at hb
   conv=>lhs;unfold W1
   simp(disch:=first|exact GS|skip)only[gd,dlt hi,hw,B1,dC,GD,ri,ih,p27,D2,C2,S3 hl hi];simp only[GV,C9,GZ,HD,GY]
 by_cases h0:l=[];subst h0;show J ([],B7 b)=J ([],B7 (b++[]));rw[GY];have e:brP p lv l=[32,123,10]++l.flatMap (λx=>ind (lv+1)++p x++[10])++ind lv++[125]:=by
  have:=Zy lv p l;unfold brP brS;rw[GI h0,show([32,123,10]:rg)=[32]++[123]++[10]from rfl,GV ([32]++[123]) [10],this];simp only[GV]
 have nq:((Aaa (l.map PartT.sel):Int)==0)=V:=by rw[HR];exact Zt h0
 have ri:=λb hb=>Zx (b:=b) (lv:=lv) FK hb;rw[e]at hb ⊢;generalize (l.flatMap λx=>ind (lv+1)++p x++[10])=X at bm hb ⊢;simp only[wOk,Fd,Fr,GT]at hb;simp(disch:=first|exact GS|skip)only[Zw,Zv,gd,nq,GF,p27,D2,C2,GD,GV,C9,GZ,HD,GY];rw[HR];refine(bm _ _ _ (by simp only[wOk,Fd,C1,Fr,GT];omega)).trans ?_;simp(disch:=first|exact GS|skip)only[ri,p27,D2,C2,GD,J0,GV,C9,GZ,HD,GY]
def C5T{s:SelT}{d lv:Nat}:(if s.sels=[]then []else [32]++brS (E1 d (lv+1)) lv s.sels)=brP (E1 d (lv+1)) lv s.sels:=rfl
def C9A{s:SelT}{d lv:Nat}{fm:List PartT->Int->Gp->Gr}{g263:SelT->Int->Gp->Gr}(hg:V6 (d+1) s)(ih:∀b,wOk b (brP (E1 d (lv+1)) lv s.sels)->fm (s.sels.map .sel) (lv:Int) b=J ([],B7 (b++bI (brP (E1 d (lv+1)) lv s.sels))))
  (hb:wOk b (E1 (d+1) lv s)):B1J fm g263 s (lv:Int) b=J ([],B7 (b++bI (E1 (d+1) lv s))):=by
 obtain⟨h1,h2,h3,h4,h5,h6,h8,h9⟩:=hg;have nM:=p64 h8;have oP:∀l:List PartT,okR [.sl .part (J 1)] (J (.one (.sl .part l (J 1)):E6))=Z:=λ_=>rfl;have gP:∀l:List PartT,SX (gL (J (.one (.sl .part l (J 1)):E6)) 0)=l:=λ_=>rfl;unfold E1 at hb ⊢;rw[C5T]at hb ⊢;unfold Zr at hb ⊢;unfold B1J;dsimp only;have hk:s.kind=1\/s.kind=2\/s.kind=3\/(s.kind=0\/s.kind=4):=FK
 rcases hk with hk|hk|hk|hk;simp only[hk,show((1:Int)==1)=Z from rfl,show((1:Int)==2)=V from rfl,show((1:Int)==3)=V from rfl,show((1:Int) !=2)=Z from rfl,GD,GF]at hb ⊢;by_cases ha:s.alias_=[];simp only[GJ ha,nE ha,GF,Hj]at hb ⊢;simp only[wOk,Fd,Fr,GT]at hb;simp(disch:=first|exact GS|skip)only[gd,p27,B7z h5,p68 h6,nM,oP,gP,ih,D2,C2,GD,J0,GV,C9,GZ,HD,GY];simp only[GI ha,nN ha,GD]at hb ⊢;simp only[wOk,Fd,Fr,GT]at hb;simp(disch:=first|exact GS|skip)only[gd,p27,B7z h5,p68 h6,nM,oP,gP,ih,D2,C2,GD,J0,GV,C9,GZ,HD,GY];simp only[hk,show((2:Int)==1)=V from rfl,show((2:Int)==2)=Z from rfl,show((2:Int) !=2)=V from rfl,GD,GF,GY]at hb ⊢;simp only[wOk,Fd,Fr,GT]at hb;simp(disch:=first|exact GS|skip)only[gd,p27,p68 h6,D2,C2,GD,J0,GV,C9,GZ,HD,GY];simp only[hk,show((3:Int)==1)=V from rfl,show((3:Int)==2)=V from rfl,show((3:Int)==3)=Z from rfl,show((3:Int) !=2)=Z from rfl,GD,GF]at hb ⊢;by_cases ha:s.on_=[];simp only[GJ ha,nE ha,GF,GY]at hb ⊢;simp only[wOk,Fd,Fr,GT]at hb;simp(disch:=first|exact GS|skip)only[gd,p27,p68 h6,nM,oP,gP,ih,D2,C2,GD,J0,GV,C9,GZ,HD,GY];simp only[GI ha,nN ha,GD]at hb ⊢;simp only[wOk,Fd,Fr,GT]at hb;simp(disch:=first|exact GS|skip)only[gd,p27,p68 h6,nM,oP,gP,ih,D2,C2,GD,J0,GV,C9,GZ,HD,GY];have e0:∀k:Int,1<=k->k<=3->(s.kind==k)=V:=λk h1 h2=>GQ
 simp only[bne,e0 1 GO GO,e0 2 GO GO,e0 3 GO GO,HP,GD,GF,Hj]at hb ⊢;simp only[wOk,Fd,Fr,GT]at hb;simp(disch:=first|exact GS|skip)only[gd,p27,p68 h6,nM,oP,gP,ih,D2,C2,GD,J0,GV,C9,GZ,HD,GY]
def C3Z:∀(d e lv:Nat)(s:SelT)(b:Gp),2*d<=e->lv+d<=800->V6 d s->wOk b (E1 d lv s)->(M5 e).2 s (lv:Int) b=J ([],B7 (b++bI (E1 d lv s)))
 |0,_,_,_,_,_,_,hg,_=>hg.elim
 |d+1,0,_,_,_,h,_,_,_=>FK
 |d+1,1,_,_,_,h,_,_,_=>FK
 |d+1,e+2,lv,s,b,h,hl,hg,hb=>C9A (g263:=(M5 (e+1)).2) hg (λb hb=>p63 FK hg.2.2.2.2.2.2.1 (λx hx b hb=>C3Z d e (lv+1) x b FK FK (hg.2.2.2.2.2.2.2 x hx) hb) hb) hb
def C7z{l:GC}(hl:GL (V6 201) l)(hb:wOk b (brP (E1 201 1) 0 l)):XL (l.map .sel) 0 b=J ([],B7 (b++bI (brP (E1 201 1) 0 l))):=
 p63 (lv:=0) GO hl.1 (λx hx b hb=>C3Z 201 999999 1 x b GO GO (hl.2 x hx) hb) hb
def p67{l:List VdT}(hl:GL GVd l)(hb:wOk b (Nc l)):F67 l b=J ([],B7 (b++bI (Nc l))):=by
 have bm:∀(b b0:Gp)(k2:Int->Int->Bool->Gp->Gr),wOk b (jn 0 (l.map J5))->PK NN l b0 NN (l.length:Int) ((0:Nat):Int) b k2=k2 (l.length:Int) (l.length:Int) V (b++bI (jn 0 (l.map J5))):=λb b0 k2 hb=>by
  rw[<-B8e]at hb ⊢;refine wl _ (λn i buf=>PK NN l b0 n (l.length:Int) (i:Int) buf k2) (λbuf=>k2 (l.length:Int) (l.length:Int) V buf) hl.1 (λn buf=>?_) (λn i x buf hx hi hm hb=>?_) hb;show PK NN l b0 (n+1) (l.length:Int) (l.length:Int) buf k2=_;unfold PK;simp only[dge,GF]
  ·obtain⟨g1,g2,g3,g4⟩:=hl.2 x hm;have hc:=B7a i;have eL:LitT.mk x.dflt.kind x.dflt.text x.dflt.block x.dflt.items x.dflt.fields ⟨x.dflt.pos.line,x.dflt.pos.col⟩=x.dflt:=LitT.eta x.dflt;have vR:Nb (⟨x.type_.name,x.type_.wrap⟩:F6)=J (.one (.str (prT x.type_))):=p18 g2;have yw:∀b,wOk b (UB x.hasDefault x.dflt)->Qy x.hasDefault x.dflt b=J ([],B7 (b++bI (UB x.hasDefault x.dflt))):=λb hb=>by
    unfold UB Qy at*;cases hh:x.hasDefault;simp only[GF];show J ([],B7 b)=J ([],B7 (b++[]));rw[GY];rw[hh]at hb;simp only[GD]at hb ⊢;simp only[wOk,Fd,Fr,GT]at hb;simp(disch:=first|exact GS|skip)only[gd,p27,B1I (g3 hh),D2,C2,GD,J0,GV,C9,GZ,HD,GY]
   conv=>lhs;unfold PK
   simp only[J5]at hb ⊢;simp only[wOk,Fd,Fr,GT]at hb;simp(disch:=first|exact GS|skip)only[gd,dlt hi,B1,hx,GD,B8s,vR,oS1,gS1,p27,eL,yw,p68 g4,D2,C2,S3 hl.1 hi];simp only[GV,C9,GZ,HD,GY]
 by_cases h0:l=[];subst h0;show J ([],B7 b)=J ([],B7 (b++[]));rw[GY];unfold Nc at hb ⊢;rw[GI h0]at hb ⊢;simp only[wOk,Fd,Fr,GT]at hb;simp(disch:=first|exact GS|skip)only[F67,B3r,gd,Zt h0,GF,p27,D2,C2,GD,GV,C9,GZ,HD,GY];refine(bm _ _ _ (by simp only[wOk,Fd,C1,Fr,GT];omega)).trans ?_;simp(disch:=first|exact GS|skip)only[p27,D2,C2,GD,J0,GV,C9,GZ,HD,GY]
def f66{k:Int}:Tw k=J (.one (.str (opW k))):=by
 unfold Tw opW;cases k==2<;>cases k==3<;>rfl
def p29{s:rg}(h:s.length<=140737488355328):Kl (bI s)=J ([.str s],B7 (bI s)):=by
 unfold Kl;rw[GG (by rw[C1];exact h),C4f];rfl
def p28{d:D9}(h:PI d)(hb:wOk b (I8 d++[10])):UD d b=J ([],B7 (b++bI (I8 d))):=by
 have nM:=p64 h.ss.1;have oP:∀l:List PartT,okR [.sl .part (J 1)] (J (.one (.sl .part l (J 1)):E6))=Z:=λ_=>rfl;have gP:∀l:List PartT,SX (gL (J (.one (.sl .part l (J 1)):E6)) 0)=l:=λ_=>rfl;have e:brP (E1 201 1) 0 d.sels=[32]++brS (E1 201 1) 0 d.sels:=GI h.ne;have uH:=λb hb=>C7z (b:=b) h.ss hb;rw[e]at uH;unfold I8 Zs at hb ⊢;unfold UD;dsimp only;have vS:=f66 (k:=d.kind);cases h4:d.kind==4
 simp only[h4,HP,Jw,GF]at hb ⊢;cases hs:d.short;simp only[hs,GF]at hb ⊢;by_cases hn:d.name=[];simp only[GJ hn,nE hn,GF,GY]at hb ⊢;simp only[wOk,Fd,Fr,GT]at hb;simp(disch:=first|exact GS|skip)only[gd,vS,oS1,gS1,p27,p67 h.vs,p68 h.ds,nM,oP,gP,uH,D2,C2,GD,J0,GV,C9,GZ,HD,GY];simp only[GI hn,nN hn]at hb ⊢;simp only[wOk,Fd,Fr,GT]at hb;simp(disch:=first|exact GS|skip)only[gd,vS,oS1,gS1,p27,p67 h.vs,p68 h.ds,nM,oP,gP,uH,D2,C2,GD,J0,GV,C9,GZ,HD,GY];simp only[hs,GD,Hj]at hb ⊢;have En:∀X:rg,SZ ([32]++X) [32]=J (.one (.str X)):=λX=>by
  unfold SZ;rw[GJ GR];rfl
 have e0:=uH [] (by simp only[wOk,Fd,Fr,GT]at hb ⊢;omega);have uI:=p29 (s:=[32]++brS (E1 201 1) 0 d.sels) (by simp only[wOk,MB,Fd,Fr,GT]at hb ⊢;omega);have Eo:∀(s:rg)(l:Gp),okB [.str] kP (J ([.str s],B7 l))=Z:=λ_ _=>rfl;have Ep:∀(s:rg)(l:Gp),lS (gB (J ([.str s],B7 l)) 0)=s:=λ_ _=>rfl;rw[Hj]at e0;simp only[wOk,Fd,Fr,GT]at hb;simp(disch:=first|exact GS|skip)only[gd,nM,oP,gP,e0,uI,Eo,Ep,En,oS1,gS1,p27,D2,C2,GD,GF,J0,GZ,HD,GY]
 simp only[h4,HY,In,GF,GD]at hb ⊢;simp only[wOk,Fd,Fr,GT]at hb;simp(disch:=first|exact GS|skip)only[gd,p27,p68 h.ds,nM,oP,gP,uH,D2,C2,GD,J0,GV,C9,GZ,HD,GY]
def p9{d:I6}(hl:GL PI d.defs)(hb:wOk [] (prAll d.defs)):F9 d=J (.one (.str (prAll d.defs))):=by
 have bm:∀(k2:List D9->Int->Int->Bool->Gp->Gq),Nd NN d NN d.defs (d.defs.length:Int) ((0:Nat):Int) [] k2=k2 d.defs (d.defs.length:Int) (d.defs.length:Int) V ([]++bI (prAll d.defs)):=λk2=>by
  refine wl _ (λn i buf=>Nd NN d n d.defs (d.defs.length:Int) (i:Int) buf k2) (λbuf=>k2 d.defs (d.defs.length:Int) (d.defs.length:Int) V buf) hl.1 (λn buf=>?_) (λn i x buf hx hi hm hb=>?_) hb;show Nd NN d (n+1) d.defs (d.defs.length:Int) (d.defs.length:Int) buf k2=_;unfold Nd;simp only[dge,GF]
  ·have hg:=hl.2 x hm;have ex:∀b,UD (⟨x.kind,x.name,x.on_,x.short,x.vars,x.dirs,x.sels,⟨x.pos.line,x.pos.col⟩⟩:D9) b=UD x b:=λb=>rfl;by_cases h0:i=0
   ·subst h0;simp only[if_true,Hj]at hb ⊢;simp only[wOk,Fd,Fr,GT]at hb
    conv=>lhs;unfold Nd
    simp(disch:=first|exact GS|skip)only[gd,dlt hi,show decide (((0:Nat):Int)>0)=V from rfl,B1,hx,GD,GF,ex,p28 hg,p27,D2,C2,S3 hl.1 hi];simp only[GV,C9,GZ,HD,GY]
   ·rw[GI h0]at hb ⊢;simp only[wOk,Fd,Fr,GT]at hb
    conv=>lhs;unfold Nd
    simp(disch:=first|exact GS|skip)only[gd,dlt hi,show decide (((i:Nat):Int)>0)=Z from GG FK,B1,hx,GD,ex,p28 hg,p27,D2,C2,S3 hl.1 hi];simp only[GV,C9,GZ,HD,GY]
 refine(bm _).trans ?_;rw[Hj];have uI:=p29 (s:=prAll d.defs) (by unfold wOk MB at hb;simp at hb;omega);simp only[uI,gd];rfl
end
section
variable {N:Gx}{T:Gu}{D:Int}{st:Gv}{i j n m b:Nat}{o:Int}{t:A0}{X:rg}
def C54(tw:TW T)(h0:0<=o)(h1:o<=1000)(ha:Ad T D N (n::st) i o)(hs:Sy N n I9):Fst N 1 n i/\pu (T.getD i default) Q9=Z/\i<T.length:=by
 obtain⟨t,b,_,_,hl,c1,c2,c3⟩:=ha.rl tw hs (λ_=>B4c);obtain⟨t2,ht,_,hm,_,hf,_,_,_⟩:=Ad.tm tw (show Ad T D N (b::(b+1)::(b+2)::(b+3)::st) i o from c3) (c2 0 _ rfl) GM h0 h1;exact⟨.go hs GM c1 GN hf,by rw[HQ,ht];exact B6g GM ▸ hm,hl⟩
def B2J(tw:TW T)(hD:D<=200)(lu:0<=D)(ha:Ad T D N (n::st) i 0)(hs:Sy N n U1):∃x j,RdD N T n x/\Ad T D N st j 0/\i<j/\PI x/\(I8 x).length+2+KB*i<=KB*j:=by
 have gK:=tw.len;have sj:Kh U1=J (.one (.bool V)):=GM;obtain⟨t,b,ht,hk,hl,c1,c2,c3⟩:=ha.rl tw hs (λ_=>C0U);cases b1:pu t Q9 with
 |true=>
  rw[b1]at c1 c2 c3;simp only[GD]at c1 c2 c3;have c3:Ad T D N (b::st) i 0:=c3;have e0:=XE (.go hs sj c1 GN (C54 tw GO GO c3 (c2 0 _ rfl)).1) FK ht;obtain⟨ss,j,e4,c8,hj,ne,uF,lss⟩:=B4F tw hD GO lu c3 (c2 0 _ rfl);have k0:=PH (T:=T) c1;obtain⟨nd,n1,n2⟩:=c1;refine⟨⟨1,[],[],Z,[],[],ss,t.pos⟩,j,?_,c8,hj,⟨GN,GN,GL.nil,GL.nil,uF,ne⟩,?_⟩;show Oc NN (n:Int) N T=_;unfold Oc Vx;simp only[gd,e0,kt_,qt,GD,J4,n1,n2,show(((kI b [I9]).length:Nat):Int)=1 from rfl,show((1:Int)==1)=Z from rfl,k0,kz,qz,e4,kes,qes];have iq:=lss.le (show(brS (E1 201 1) 0 ss).length+2<=_ from Nat.add_le_add_left (GO:2<=10) _);have h2:(I8 ⟨1,[],[],Z,[],[],ss,t.pos⟩).length=(brS (E1 201 1) 0 ss).length:=rfl;rw[h2];exact iq
 |false=>
  rw[b1]at c1 c2 c3;simp only[GF]at c1 c2 c3;cases b2:wd t [113,117,101,114,121]||(wd t [109,117,116,97,116,105,111,110]||wd t [115,117,98,115,99,114,105,112,116,105,111,110])with
 |true=>
  rw[b2]at c1 c2 c3;simp only[GD]at c1 c2 c3;obtain⟨t',cQ,_,_,_,hf,_,c4⟩:=N4 tw (show Ad T D N (b::(b+1)::(b+2)::(b+3)::(b+4)::st) i 0 from c3) (c2 0 _ rfl) GM GO lu hD;have e0:=XE (.go hs sj c1 GN hf) FK ht;have k3:KZ (n:Int) 3 N T=_:=kid (T:=T) c1 3 GN;have k4:KZ (n:Int) 4 N T=_:=kid (T:=T) c1 4 GN;have bQ:∀k:Int,k=1\/k=2\/k=3->(t.text==[102,114,97,103,109,101,110,116])=V->(∀f:Int->Gr,(bif t.text==[109,117,116,97,116,105,111,110]then f 2 else bif t.text==[115,117,98,115,99,114,105,112,116,105,111,110]then f 3 else f 1)=f k)->∃x j,RdD N T n x/\Ad T D N st j 0/\i<j/\PI x/\(I8 x).length+2+KB*i<=KB*j:=λk hk oK hf=>by
   obtain⟨ds,ss,x,j,e1,e2,e3,q1,q2,q3,q4⟩:=D00 tw hD lu hk c4 c1 c2 t.pos;obtain⟨nd,n1,n2⟩:=c1;refine⟨x,j,?_,q1,q2,q3,q4⟩;show Oc NN (n:Int) N T=_;unfold Oc Vx;simp only[gd,e0,kt_,qt,GD,GF,J4,n1,n2,show(((kI b [C8,Th,Ti,F1,I9]).length:Nat):Int)=5 from rfl,show((5:Int)==1)=V from rfl,oK,k3,k4,kz,qz,e1,e2,kd,qd,kes,qes];exact(hf _).trans e3
  rw[Hx,Hx]at b2;rcases b2 with h|h|h<;>have hx:=(B70 h).2;exact bQ 1 (.inl rfl) (by rw[hx];rfl) (λf=>by rw[hx];rfl);exact bQ 2 (.inr (.inl rfl)) (by rw[hx];rfl) (λf=>by rw[hx];rfl);exact bQ 3 (.inr (.inr rfl)) (by rw[hx];rfl) (λf=>by rw[hx];rfl)
 |false=>
  rw[b2]at c1 c2 c3;simp only[GF]at c1 c2 c3;cases b3:wd t [102,114,97,103,109,101,110,116]with
 |false=>
  rw[b3]at c1 c2 c3;simp only[GF]at c1 c2 c3;obtain⟨_,_,_,hm,_⟩:=Ad.tm tw (show Ad T D N (b::st) i 0 from c3) (c2 0 _ rfl) GM GO GO;rw[C30]at hm;cases hm
 |true=>
  rw[b3]at c1 c2 c3;simp only[GD]at c1 c2 c3;have hx:=(B70 b3).2;obtain⟨t',cQ,_,_,_,hf,_,c4⟩:=N4 tw (show Ad T D N (b::(b+1)::(b+2)::(b+3)::(b+4)::(b+5)::st) i 0 from c3) (c2 0 _ rfl) GM GO lu hD;have e0:=XE (.go hs sj c1 GN hf) FK ht;obtain⟨t1,_,eR,_,e1,_,_,c5⟩:=N4 tw c4 (c2 1 _ rfl) GM GO lu hD;obtain⟨_,_,_,_,_,_,_,c6⟩:=N4 tw c5 (c2 2 _ rfl) GM GO lu hD;obtain⟨t3,_,jh,_,e3,_,_,c7⟩:=N4 tw c6 (c2 3 _ rfl) GM GO lu hD;obtain⟨ds,j1,e4,c8,kX,rf,yv⟩:=V2 tw hD V GO lu c7 (c2 4 _ rfl);obtain⟨ss,j,e5,c9,hj,ne,uF,lss⟩:=B4F tw hD GO lu c8 (c2 5 _ rfl);have lss:=lss.le (IY _ 10);have k1:KZ (n:Int) 1 N T=_:=kid (T:=T) c1 1 GN;have k3:KZ (n:Int) 3 N T=_:=kid (T:=T) c1 3 GN;have k4:KZ (n:Int) 4 N T=_:=kid (T:=T) c1 4 GN;have k5:KZ (n:Int) 5 N T=_:=kid (T:=T) c1 5 GN;obtain⟨nd,n1,n2⟩:=c1;refine⟨⟨4,t1.text,t3.text,V,[],ds,ss,t.pos⟩,j,?_,c9,FK,⟨eR.1,jh.1,GL.nil,rf,uF,ne⟩,?_⟩;show Oc NN (n:Int) N T=_;unfold Oc Vx;simp only[gd,e0,kt_,qt,GD,GF,J4,n1,n2,show(((kI b [C8,T4,N5,C8,F1,I9]).length:Nat):Int)=6 from rfl,show((6:Int)==1)=V from rfl,hx,show(([102,114,97,103,109,101,110,116]:rg)==[102,114,97,103,109,101,110,116])=Z from rfl,k1,k3,k4,k5,kz,qz,e1,e3,e4,e5,kd,qd,kes,qes];refine((lq.tok (n:=16800100) (FK:i<i+1+1+1+1) FK).comp (yv.comp lss)).le ?_;have h1:=eR.1;have h3:=jh.1;show([102,114,97,103,109,101,110,116,32]++t1.text++[32,111,110,32]++t3.text++E2 ds++[32]++brS (E1 201 1) 0 ss:rg).length+2<=16800100+((E2 ds).length+(brS (E1 201 1) 0 ss).length);simp only[Fd,Fr,GT];omega
def B2S(d:I6):Prop:=GL PI d.defs
def C7u(tw:TW T)(hD:D<=200)(ha:Ad T D N [0] 0 0)(hs:Sy N 0 B2G):∃x j,Od N T=J ([.agg .doc x],bxN N T)/\j<=T.length/\B2S x/\lq (sl I8 x.defs) 0 j:=by
 have gK:=tw.len;have ha:=ha.mono hD;obtain⟨_,b,_,_,_,c1,c2,c3⟩:=ha.rl tw hs (λ_=>C1C);obtain⟨x,i1,e1,c4,cD,gx,lx⟩:=B2J tw GO GO (show Ad T 200 N (b::(b+1)::(b+2)::[]) 0 0 from c3) (c2 0 _ rfl);obtain⟨L,l,j,q1,q2,q3,q4,q5,q6,q7⟩:=Tz (α:=D9) (Rd:=RdD N T) (G:=PI) (μ:=λx=>(I8 x).length+2) (kb:=KB) (E:=U1) tw (λt=>⟨_,C4N⟩) GM
  (λe i st hA hS=>B2J tw GO GO hA hS) (T.length+1) (b+1) i1 FK c4 (c2 1 _ rfl)
 have si:=q3.le;have k0:KZ 0 0 N T=J ([.int .i64 (b:Int)],bxN N T):=PH (T:=T) c1;have k1:KZ 0 1 N T=J ([.int .i64 ((b+1:Nat):Int)],bxN N T):=kid (T:=T) c1 1 GN;have e1:Qe (b:Int) N T=_:=e1;have hL:L.length<=1100000:=by rw[q2.len];omega
 refine⟨⟨x::l⟩,j,?_,si,⟨by show(x::l).length<=_;rw[Fr];omega,λy hy=>(HC.1 (show y∈x::l from hy)).elim (λh=>h ▸ gx) (q5 y)⟩,?_⟩
 ·unfold Od B0G;simp only[gd,k0,kz,qz,e1,kf,qf,GD,k1,XF q1 hL,kc,qc,show A3 (0+1) 136=Z from rfl];have:=XG (S:=D9) (R:=B6) (λk a7 i s=>Sz NN N T k (L.map λ(e:Nat)=>(e:Int)) (i:Int) a7 s (λz2 z3 z4 z5 z6=>J ([.agg .doc (⟨z5⟩:I6)],bxN N T)))
   (λa7=>J ([.agg .doc (⟨a7⟩:I6)],bxN N T)) q2 hL
   (λk a7 s=>by unfold Sz;simp only[LT,ltF,GF])
   (λk a7 i e y s he hi hr ha=>⟨y,by
    have hr:Qe (e:Int) N T=_:=hr
    conv=>lhs;unfold Sz
    simp only[LT,ltT hi,GD,XH he,hr,gd,kf,qf,XI (c:=136) ha,wrI (show i<=4400000 from FK)]⟩) [x] x GN
  exact this
 show lq (sw (λx=>(I8 x).length+2) (x::l)) 0 j;have h7:lq (sw (λx=>(I8 x).length+2) l) i1 j:=q7;have h1:lq ((I8 x).length+2) 0 i1:=lx;exact h1.comp h7
end
end Go.Aev
namespace Go.Aev
open Go.Proofs
def Zz:Gq:=J (.one (.sl .str [[68,79,67,32,61,32,68,69,70,32,68,69,70,83,32,46,101,110,100],[68,69,70,83,32,61,32,68,69,70,32,68,69,70,83,32,47,32,45],[68,69,70,32,61,32,46,115,116,114,32,66,79,68,89,32,47,32,66,79,68,89,32,47,32,39,101,120,116,101,110,100,32,88,66,79,68,89],[66,79,68,89,32,61,32,39,115,99,104,101,109,97,32,68,73,82,83,32,82,79,79,84,83,32,47,32,39,115,99,97,108,97,114,32,46,110,97,109,101,32,68,73,82,83,32,47,32,39,116,121,112,101,32,46,110,97,109,101,32,73,70,65,67,69,83,32,68,73,82,83,32,70,73,69,76,68,83,32,47,32,39,105,110,116,101,114,102,97,99,101,32,46,110,97,109,101,32,73,70,65,67,69,83,32,68,73,82,83,32,70,73,69,76,68,83,32,47,32,39,117,110,105,111,110,32,46,110,97,109,101,32,68,73,82,83,32,77,69,77,66,69,82,83,32,47,32,39,101,110,117,109,32,46,110,97,109,101,32,68,73,82,83,32,67,65,83,69,83,32,47,32,39,105,110,112,117,116,32,46,110,97,109,101,32,68,73,82,83,32,66,76,65,78,75,83,32,47,32,39,100,105,114,101,99,116,105,118,101,32,64,32,46,110,97,109,101,32,73,78,80,85,84,83,32,82,69,80,69,65,84,32,39,111,110,32,66,65,82,32,46,112,108,97,99,101,32,80,76,65,67,69,83],[88,66,79,68,89,32,61,32,39,115,99,104,101,109,97,32,88,83,67,72,69,77,65,32,47,32,39,115,99,97,108,97,114,32,46,110,97,109,101,32,68,73,82,32,68,73,82,83,32,47,32,39,116,121,112,101,32,46,110,97,109,101,32,88,79,66,74,69,67,84,32,47,32,39,105,110,116,101,114,102,97,99,101,32,46,110,97,109,101,32,88,79,66,74,69,67,84,32,47,32,39,117,110,105,111,110,32,46,110,97,109,101,32,88,85,78,73,79,78,32,47,32,39,101,110,117,109,32,46,110,97,109,101,32,88,69,78,85,77,32,47,32,39,105,110,112,117,116,32,46,110,97,109,101,32,88,73,78,80,85,84],[88,83,67,72,69,77,65,32,61,32,68,73,82,32,68,73,82,83,32,82,79,79,84,83,48,32,47,32,82,79,79,84,83],[82,79,79,84,83,48,32,61,32,82,79,79,84,83,32,47,32,45],[82,79,79,84,83,32,61,32,123,32,82,79,79,84,32,82,79,79,84,76,32,125],[82,79,79,84,76,32,61,32,82,79,79,84,32,82,79,79,84,76,32,47,32,45],[82,79,79,84,32,61,32,46,114,111,111,116,32,58,32,46,110,97,109,101],[88,79,66,74,69,67,84,32,61,32,73,70,65,67,69,83,49,32,68,73,82,83,32,70,73,69,76,68,83,32,47,32,68,73,82,32,68,73,82,83,32,70,73,69,76,68,83,32,47,32,70,73,69,76,68,83,49],[73,70,65,67,69,83,32,61,32,73,70,65,67,69,83,49,32,47,32,45],[73,70,65,67,69,83,49,32,61,32,39,105,109,112,108,101,109,101,110,116,115,32,65,77,80,32,46,110,97,109,101,32,73,70,65,67,69,76],[65,77,80,32,61,32,38,32,47,32,45],[73,70,65,67,69,76,32,61,32,38,32,46,110,97,109,101,32,73,70,65,67,69,76,32,47,32,45],[70,73,69,76,68,83,32,61,32,70,73,69,76,68,83,49,32,47,32,45],[70,73,69,76,68,83,49,32,61,32,123,32,70,73,69,76,68,32,70,73,69,76,68,76,32,125],[70,73,69,76,68,76,32,61,32,70,73,69,76,68,32,70,73,69,76,68,76,32,47,32,45],[70,73,69,76,68,32,61,32,46,115,116,114,32,70,73,69,76,68,48,32,47,32,70,73,69,76,68,48],[70,73,69,76,68,48,32,61,32,46,110,97,109,101,32,73,78,80,85,84,83,32,58,32,84,89,80,69,32,68,73,82,83],[73,78,80,85,84,83,32,61,32,40,32,86,65,76,85,69,32,86,65,76,85,69,76,32,41,32,47,32,45],[86,65,76,85,69,76,32,61,32,86,65,76,85,69,32,86,65,76,85,69,76,32,47,32,45],[86,65,76,85,69,32,61,32,46,115,116,114,32,86,65,76,85,69,48,32,47,32,86,65,76,85,69,48],[86,65,76,85,69,48,32,61,32,46,110,97,109,101,32,58,32,84,89,80,69,32,68,69,70,65,85,76,84,32,68,73,82,83],[68,69,70,65,85,76,84,32,61,32,61,32,76,73,84,32,47,32,45],[77,69,77,66,69,82,83,32,61,32,77,69,77,66,69,82,83,49,32,47,32,45],[77,69,77,66,69,82,83,49,32,61,32,61,32,66,65,82,32,46,110,97,109,101,32,77,69,77,66,69,82,76],[77,69,77,66,69,82,76,32,61,32,124,32,46,110,97,109,101,32,77,69,77,66,69,82,76,32,47,32,45],[66,65,82,32,61,32,124,32,47,32,45],[88,85,78,73,79,78,32,61,32,68,73,82,32,68,73,82,83,32,77,69,77,66,69,82,83,32,47,32,77,69,77,66,69,82,83,49],[67,65,83,69,83,32,61,32,67,65,83,69,83,49,32,47,32,45],[67,65,83,69,83,49,32,61,32,123,32,67,65,83,69,32,67,65,83,69,76,32,125],[67,65,83,69,76,32,61,32,67,65,83,69,32,67,65,83,69,76,32,47,32,45],[67,65,83,69,32,61,32,46,115,116,114,32,67,65,83,69,48,32,47,32,67,65,83,69,48],[67,65,83,69,48,32,61,32,46,99,97,115,101,32,68,73,82,83],[88,69,78,85,77,32,61,32,68,73,82,32,68,73,82,83,32,67,65,83,69,83,32,47,32,67,65,83,69,83,49],[66,76,65,78,75,83,32,61,32,66,76,65,78,75,83,49,32,47,32,45],[66,76,65,78,75,83,49,32,61,32,123,32,86,65,76,85,69,32,86,65,76,85,69,76,32,125],[88,73,78,80,85,84,32,61,32,68,73,82,32,68,73,82,83,32,66,76,65,78,75,83,32,47,32,66,76,65,78,75,83,49],[82,69,80,69,65,84,32,61,32,39,114,101,112,101,97,116,97,98,108,101,32,47,32,45],[80,76,65,67,69,83,32,61,32,124,32,46,112,108,97,99,101,32,80,76,65,67,69,83,32,47,32,45],[68,73,82,83,32,61,32,68,73,82,32,68,73,82,83,32,47,32,45],[68,73,82,32,61,32,64,32,46,110,97,109,101,32,65,82,71,83],[65,82,71,83,32,61,32,40,32,65,82,71,32,65,82,71,76,32,41,32,47,32,45],[65,82,71,76,32,61,32,65,82,71,32,65,82,71,76,32,47,32,45],[65,82,71,32,61,32,46,110,97,109,101,32,58,32,76,73,84],[76,73,84,32,61,32,46,110,97,109,101,32,47,32,46,115,116,114,32,47,32,46,110,117,109,32,47,32,91,32,76,73,84,76,32,93,32,47,32,123,32,79,66,74,76,32,125],[76,73,84,76,32,61,32,76,73,84,32,76,73,84,76,32,47,32,45],[79,66,74,76,32,61,32,46,110,97,109,101,32,58,32,76,73,84,32,79,66,74,76,32,47,32,45],[84,89,80,69,32,61,32,84,89,80,69,48,32,66,65,78,71],[84,89,80,69,48,32,61,32,46,110,97,109,101,32,47,32,91,32,84,89,80,69,32,93],[66,65,78,71,32,61,32,33,32,47,32,45]] (J 1)))
def S35:KY
 |[]=>pR [.sl .str (J 1)] (Zz)
 |_=>O
def E78:Env Ty6 A2:=mkE [] [] noD 36 [2,3] 1 [] []
def Ku(ae:Gu)(aa:Int):Gr:=match idx ae aa with|O=>O|J y1=>(let j2:Int->Int->Int->Int->Int->(rg)->(rg)->Gr:=λz3 z4 z5 z6 z7 z8 z9=>J ([.agg .note (⟨Z,(z3==7),z9⟩:G5)],[[.sl .tok ae O,.int .i64 (Aab .i64 (aa+1))]]);bif(y1.kind !=6)==Z then(bif(y1.kind !=7)then(J ([.agg .note (⟨V,V,[]⟩:G5)],[[.sl .tok ae O,.int .i64 aa]]))else(j2 y1.kind y1.pos.line y1.pos.col y1.from_ y1.to_ y1.text y1.value))else(bif V then(J ([.agg .note (⟨V,V,[]⟩:G5)],[[.sl .tok ae O,.int .i64 aa]]))else(j2 y1.kind y1.pos.line y1.pos.col y1.from_ y1.to_ y1.text y1.value)))
def D3W{ae:Gu}{aa:Int}:D7 E78 NN f78 [0] [.ptr 900000 0] [bxT ae aa]=Ku ae aa:=GM
def S78:Ka
 |[.ptr d0 o0],[[.sl .tok ae O,.int .i64 aa]]=>bif bq d0 o0 then pB [.agg .note] [[.sl .tok O,.int .i64]] (Ku ae aa)else O
 |_,_=>O
def C12:Env Ty6 A2:=mkE [] [] noD 30 [5] 1 [] []
def PP(a1:rg)(ae:Gu)(aa:Int):Gr:=match idx ae aa with|O=>O|J y1=>(bif(y1.text==a1)==Z then(bif(y1.kind !=6)==Z then(J ([.bool (y1.kind !=7)],[[.sl .tok ae O,.int .i64 aa]]))else(J ([.bool V],[[.sl .tok ae O,.int .i64 aa]])))else(J ([.bool V],[[.sl .tok ae O,.int .i64 aa]])))
def C7b{a1:rg}{ae:Gu}{aa:Int}:D7 C12 NN f150 [0] [.ptr 900000 0,.str a1] [bxT ae aa]=PP a1 ae aa:=GM
def B3K:Ka
 |[.ptr d0 o0,.str a1],[[.sl .tok ae O,.int .i64 aa]]=>bif bq d0 o0 then pB [.bool] [[.sl .tok O,.int .i64]] (PP a1 ae aa)else O
 |_,_=>O
def E79:Env Ty6 A2:=mkE [] [(150,B3K)] noD 16 [] 1 [] []
def Kb(a1:rg)(ae:Gu)(aa:Int):Gr:=let r3:=PP a1 ae aa;gd (okB [.bool] [[.sl .tok O,.int .i64]] r3) (let z1:=(gT r3);let z2:=(gQ r3);bif(!(lB (gB r3 0)))then(J ([.bool V],[[.sl .tok z1 O,.int .i64 z2]]))else(J ([.bool Z],[[.sl .tok z1 O,.int .i64 (Aab .i64 (z2+1))]])))
def D45{a1:rg}{ae:Gu}{aa:Int}:D7 E79 NN f79 [0] [.ptr 900000 0,.str a1] [bxT ae aa]=Kb a1 ae aa:=GM
def Nf:Ka
 |[.ptr d0 o0,.str a1],[[.sl .tok ae O,.int .i64 aa]]=>bif bq d0 o0 then pB [.bool] [[.sl .tok O,.int .i64]] (Kb a1 ae aa)else O
 |_,_=>O
def C3K:Env Ty6 A2:=mkE [] [] noD 33 [2,3] 1 [] []
def LU(ae:Gu)(aa:Int):Gr:=match idx ae aa with|O=>O|J y1=>(let j2:Int->Int->Int->Int->Int->(rg)->(rg)->Int->Gr:=λz3 z4 z5 z6 z7 z8 z9 bP=>J ([.agg .tok (⟨z3,(⟨z4,z5⟩:A4),z6,z7,z8,z9⟩:A0)],[[.sl .tok ae O,.int .i64 bP]]);bif(decide ((Aab .i64 (aa+1))<(Aaa ae:Int)))then(j2 y1.kind y1.pos.line y1.pos.col y1.from_ y1.to_ y1.text y1.value (Aab .i64 (aa+1)))else(j2 y1.kind y1.pos.line y1.pos.col y1.from_ y1.to_ y1.text y1.value aa))
def C7h{ae:Gu}{aa:Int}:D7 C3K NN f151 [0] [.ptr 900000 0] [bxT ae aa]=LU ae aa:=GM
def UI:Ka
 |[.ptr d0 o0],[[.sl .tok ae O,.int .i64 aa]]=>bif bq d0 o0 then pB [.agg .tok] [[.sl .tok O,.int .i64]] (LU ae aa)else O
 |_,_=>O
def E80:Env Ty6 A2:=mkE [] [(151,UI)] noD 11 [2] 1 [] []
def Kg(ae:Gu)(aa:Int):Gr:=let r2:=LU ae aa;gd (okB [.agg .tok] [[.sl .tok O,.int .i64]] r2) (let z1:=(G3 (gB r2 0));J ([.agg .named (⟨z1.text,(⟨z1.pos.line,z1.pos.col⟩:A4)⟩:E5)],[[.sl .tok (gT r2) O,.int .i64 (gQ r2)]]))
def D6n{ae:Gu}{aa:Int}:D7 E80 NN f80 [0] [.ptr 900000 0] [bxT ae aa]=Kg ae aa:=GM
def RA:Ka
 |[.ptr d0 o0],[[.sl .tok ae O,.int .i64 aa]]=>bif bq d0 o0 then pB [.agg .named] [[.sl .tok O,.int .i64]] (Kg ae aa)else O
 |_,_=>O
def E81:Env Ty6 A2:=mkE [(77,Yn)] [] (lkR [(0,2,1),(1,5,1),(3,6,3),(4,10,2),(4,17,1),(5,9,1),(5,12,5),(6,0,1),(6,3,2),(6,17,3),(7,0,1),(7,3,2),(7,9,1)]) 20 [] 0 [] []
def B2F{R:Type}(nn:Nat)(a0:rg):Nat->Gy->Int->(Int->Option R)->(Gy->Int->Bool->Option R)->Option R
 |0,_,_,_,_=>O
 |n+1,x3,x4,k1,k3=>let k2:=λx3 x4=>B2F nn a0 n x3 x4 k1 k3;let z1:=decide (x4<(Aaa x3:Int));bif z1 then(match idx x3 x4 with|O=>O|J y2=>(bif(y2==a0)then(k1 (Aab .i64 (x4+1)))else(k2 x3 (Aab .i64 (x4+1)))))else(k3 x3 x4 z1)
def D1Q{R}(nn a0)(K:Kt R):∀n x3 x4,B2F nn a0 n x3 x4 (λx2=>K .ret ⟨[eI 2 x2],[]⟩) (λx3 x4 x9=>K (.exit 0) ⟨[eS 0 a0,eO 3 .str x3 1005,eI 4 x4,eB 9 x9],[1005]⟩)=LP E81 nn f81 75 n ⟨[eS 0 a0,eO 3 .str x3 1005,eI 4 x4],[1005]⟩ K:=λn=>n.rec (by intros;rfl) λn i=>by
 intros;rw[B2F];simp only[i];kernel_rfl
def B8C(nn:Nat)(a0:rg):Gq:=let r5:=Mt [115,99,104,101,109,97,32,115,99,97,108,97,114,32,116,121,112,101,32,105,110,116,101,114,102,97,99,101,32,117,110,105,111,110,32,101,110,117,109,32,105,110,112,117,116,32,100,105,114,101,99,116,105,118,101];gd (okR [.sl .str (J 1)] r5) (B2F nn a0 nn (F0 (gL r5 0)) 0 (λz1=>J (.one (.int .i64 z1))) (λz2 z3 z4=>J (.one (.int .i64 0))))
def F81(a0:rg):Gq:=B8C NN a0
def S81:KY
 |[.str a0]=>pR [.int .i64] (F81 a0)
 |_=>O
def D5p:Env Ty6 A2:=mkE [] [] noD 23 [2,12,17,22] 0 [2] [(12,102),(17,102),(22,102)]
end Go.Aev
namespace Go.Aev.Sy
def Y7:rg:=[68,79,67]
def I7:rg:=[68,69,70]
def O6:rg:=[68,69,70,83]
def K4:rg:=[46,101,110,100]
def J3:rg:=[46,115,116,114]
def MO:rg:=[66,79,68,89]
def A92:rg:=[39,101,120,116,101,110,100]
def XM:rg:=[88,66,79,68,89]
def Ng:rg:=[39,115,99,104,101,109,97]
def C6:rg:=[68,73,82,83]
def MP:rg:=[82,79,79,84,83]
def Nh:rg:=[39,115,99,97,108,97,114]
def B4:rg:=[46,110,97,109,101]
def Ni:rg:=[39,116,121,112,101]
def Nj:rg:=[73,70,65,67,69,83]
def T0:rg:=[70,73,69,76,68,83]
def Nk:rg:=[39,105,110,116,101,114,102,97,99,101]
def Nl:rg:=[39,117,110,105,111,110]
def PU:rg:=[77,69,77,66,69,82,83]
def Nm:rg:=[39,101,110,117,109]
def PV:rg:=[67,65,83,69,83]
def Nn:rg:=[39,105,110,112,117,116]
def PW:rg:=[66,76,65,78,75,83]
def A9x:rg:=[39,100,105,114,101,99,116,105,118,101]
def P2:rg:=[64]
def PX:rg:=[73,78,80,85,84,83]
def XN:rg:=[82,69,80,69,65,84]
def A9a:rg:=[39,111,110]
def RB:rg:=[66,65,82]
def UJ:rg:=[46,112,108,97,99,101]
def RC:rg:=[80,76,65,67,69,83]
def XO:rg:=[88,83,67,72,69,77,65]
def K5:rg:=[68,73,82]
def No:rg:=[88,79,66,74,69,67,84]
def XP:rg:=[88,85,78,73,79,78]
def XQ:rg:=[88,69,78,85,77]
def XR:rg:=[88,73,78,80,85,84]
def A9c:rg:=[82,79,79,84,83,48]
def F4:rg:=[123]
def RD:rg:=[82,79,79,84]
def UK:rg:=[82,79,79,84,76]
def Q3:rg:=[125]
def B0K:rg:=[46,114,111,111,116]
def Y0:rg:=[58]
def UL:rg:=[73,70,65,67,69,83,49]
def RE:rg:=[70,73,69,76,68,83,49]
def PY:rg:=[39,105,109,112,108,101,109,101,110,116,115]
def B2B:rg:=[65,77,80]
def XS:rg:=[73,70,65,67,69,76]
def UM:rg:=[38]
def RF:rg:=[70,73,69,76,68]
def UN:rg:=[70,73,69,76,68,76]
def XT:rg:=[70,73,69,76,68,48]
def Np:rg:=[84,89,80,69]
def Nq:rg:=[40]
def Z7:rg:=[86,65,76,85,69]
def Nr:rg:=[86,65,76,85,69,76]
def XU:rg:=[41]
def XV:rg:=[86,65,76,85,69,48]
def B3s:rg:=[68,69,70,65,85,76,84]
def LV:rg:=[61]
def Y3:rg:=[76,73,84]
def RG:rg:=[77,69,77,66,69,82,83,49]
def XW:rg:=[77,69,77,66,69,82,76]
def Ns:rg:=[124]
def UP:rg:=[67,65,83,69,83,49]
def RH:rg:=[67,65,83,69]
def US:rg:=[67,65,83,69,76]
def XX:rg:=[67,65,83,69,48]
def A9z:rg:=[46,99,97,115,101]
def UT:rg:=[66,76,65,78,75,83,49]
def B3I:rg:=[39,114,101,112,101,97,116,97,98,108,101]
def B0U:rg:=[65,82,71,83]
def RI:rg:=[65,82,71]
def UU:rg:=[65,82,71,76]
def A9G:rg:=[46,110,117,109]
def LW:rg:=[91]
def RJ:rg:=[76,73,84,76]
def PZ:rg:=[93]
def RK:rg:=[79,66,74,76]
def XY:rg:=[84,89,80,69,48]
def RL:rg:=[66,65,78,71]
def B3k:rg:=[33]
def RU:List D4:=[⟨Y7,[[I7,O6,K4]]⟩,⟨O6,[[I7,O6],[]]⟩,⟨I7,[[J3,MO],[MO],[A92,XM]]⟩,⟨MO,[[Ng,C6,MP],[Nh,B4,C6],[Ni,B4,Nj,C6,T0],[Nk,B4,Nj,C6,T0],[Nl,B4,C6,PU],[Nm,B4,C6,PV],[Nn,B4,C6,PW],[A9x,P2,B4,PX,XN,A9a,RB,UJ,RC]]⟩,⟨XM,[[Ng,XO],[Nh,B4,K5,C6],[Ni,B4,No],[Nk,B4,No],[Nl,B4,XP],[Nm,B4,XQ],[Nn,B4,XR]]⟩,⟨XO,[[K5,C6,A9c],[MP]]⟩,⟨A9c,[[MP],[]]⟩,⟨MP,[[F4,RD,UK,Q3]]⟩,⟨UK,[[RD,UK],[]]⟩,⟨RD,[[B0K,Y0,B4]]⟩,⟨No,[[UL,C6,T0],[K5,C6,T0],[RE]]⟩,⟨Nj,[[UL],[]]⟩,⟨UL,[[PY,B2B,B4,XS]]⟩,⟨B2B,[[UM],[]]⟩,⟨XS,[[UM,B4,XS],[]]⟩,⟨T0,[[RE],[]]⟩,⟨RE,[[F4,RF,UN,Q3]]⟩,⟨UN,[[RF,UN],[]]⟩,⟨RF,[[J3,XT],[XT]]⟩,⟨XT,[[B4,PX,Y0,Np,C6]]⟩,⟨PX,[[Nq,Z7,Nr,XU],[]]⟩,⟨Nr,[[Z7,Nr],[]]⟩,⟨Z7,[[J3,XV],[XV]]⟩,⟨XV,[[B4,Y0,Np,B3s,C6]]⟩,⟨B3s,[[LV,Y3],[]]⟩,⟨PU,[[RG],[]]⟩,⟨RG,[[LV,RB,B4,XW]]⟩,⟨XW,[[Ns,B4,XW],[]]⟩,⟨RB,[[Ns],[]]⟩,⟨XP,[[K5,C6,PU],[RG]]⟩,⟨PV,[[UP],[]]⟩,⟨UP,[[F4,RH,US,Q3]]⟩,⟨US,[[RH,US],[]]⟩,⟨RH,[[J3,XX],[XX]]⟩,⟨XX,[[A9z,C6]]⟩,⟨XQ,[[K5,C6,PV],[UP]]⟩,⟨PW,[[UT],[]]⟩,⟨UT,[[F4,Z7,Nr,Q3]]⟩,⟨XR,[[K5,C6,PW],[UT]]⟩,⟨XN,[[B3I],[]]⟩,⟨RC,[[Ns,UJ,RC],[]]⟩,⟨C6,[[K5,C6],[]]⟩,⟨K5,[[P2,B4,B0U]]⟩,⟨B0U,[[Nq,RI,UU,XU],[]]⟩,⟨UU,[[RI,UU],[]]⟩,⟨RI,[[B4,Y0,Y3]]⟩,⟨Y3,[[B4],[J3],[A9G],[LW,RJ,PZ],[F4,RK,Q3]]⟩,⟨RJ,[[Y3,RJ],[]]⟩,⟨RK,[[B4,Y0,Y3,RK],[]]⟩,⟨Np,[[XY,RL]]⟩,⟨XY,[[B4],[LW,Np,PZ]]⟩,⟨RL,[[B3k],[]]⟩]
def B7Z:F34 (F0 (gL Zz 0))=J (.one (.sl .rule RU (J 1))):=GM
def T1(s:rg):Bool:=lB (gL (Ki s) 0)
def chs(s:rg):List Gy:=B0V (gL (Ms RU s) 0)
def MQ(s:rg):Bool:=lB (gL (Mu RU s) 0)
def Bt(t:A0)(s:rg):Bool:=lB (gL (Kq s t) 0)
def bg(B:rg->Bool):Nat->Gy->Bool
 |0,_=>V
 |_+1,[]=>V
 |d+1,s::_=>bif T1 s then(chs s).any (bg B d)else B s
def Pb(B:rg->Bool)(n:Bool):List Gy->List (rg)×Bool
 |[]=>([],n)
 |c::r=>bif bg B 9 c then(c,Z)else Pb B n r
def ch(B:rg->Bool)(X:rg):List (rg)×Bool:=Pb B (MQ X) (chs X)
def wfc:Nat->Gy->Bool
 |0,_=>V
 |_+1,[]=>Z
 |d+1,s::_=>okR [.bool] (Ki s)&&bif T1 s then !MQ s&&(okR [.bool] (Mu RU s)&&(okR [.slc .strs] (Ms RU s)&&(Aae (chs s).length 1000&&(chs s).all (wfc d))))else(match s with|[]=>V|_=>Z)
section
variable {R:Type}{t:A0}{g:List D4->Gy->A0->Gq}
def oB'(b:Bool):okR [.bool] (J (.one (.bool b)):Gq)=Z:=rfl
def C1N{nn:Nat}{a1:Gy}{x7:Int}{f:Gy->Bool}{k1:Option R}{k3:Int->List Gy->Int->Bool->Option R}{xs:List Gy}(hs:xs.length<1000)(hg:∀c∈xs,g RU c t=J (.one (.bool (f c)))):
  ∀(n j:Nat),j<=xs.length->xs.length<n+j->Vn nn g RU a1 t n x7 xs (j:Int) k1 k3=bif(xs.drop j).any f then k1 else k3 x7 xs (xs.length:Int) V
 |0,j,h1,h2=>FK
 |n+1,j,h1,h2=>by
  unfold Vn;by_cases hj:j<xs.length;have fa:xs[j]?=J xs[j]:=GE hj;have aE:decide ((j:Int)<(xs.length:Int))=Z:=GG FK;have e:=hg _ (IG hj);simp only[gd,aE,GD,B1,fa,e,oB',E7 (i:=j) FK,C1N hs hg n (j+1) hj FK];rw[Ht hj,Ja];show(bif f xs[j]then _ else _)=_;cases f xs[j]<;>rfl;have qY:j=xs.length:=FK;subst qY;have aE:decide ((xs.length:Int)<(xs.length:Int))=V:=GH FK;simp only[gd,aE,GF,IL,List.any_nil]
def gB'(b:Bool):lB (gL (J (.one (.bool b)):Gq) 0)=b:=rfl
def C33(hB:∀s,s≠[]->∃b,Kq s t=J (.one (.bool b)))(k:Nat):∀(d:Nat)(c:Gy),wfc d c=Z->OT (d+k) RU c t=J (.one (.bool (bg (Bt t) d c)))
 |0,c,h=>by cases h
 |d+1,c,h=>by
  rw[show d+1+k=(d+k)+1 from FK,OT];unfold B9o B2E;have hn:NN=18446744073709551614+1+1:=rfl;rw[hn]
  match c,h with
  |[],_=>rfl
  |s::r,h=>
   simp only[wfc,Fn]at h;obtain⟨h0,h1⟩:=h;have Bu:idx (s::r) 0=J s:=rfl;have hl:decide ((0:Int)<(Aaa (s::r):Int))=Z:=GG (by simp only[Fr];omega);unfold Vo;simp only[gd,hl,GD,Bu,h0];cases hr:T1 s with
   |false=>
    rw[hr]at h1;obtain⟨b,e⟩:=hB s (λh=>by subst h;cases h1);have bU:lB (gL (Ki s) 0)=V:=hr;have hb:Bt t s=b:=by unfold Bt;rw[e];rfl
    simp only[bU,HP,GD,e,oB',gB',bg,hr,GF,hb]
   |true=>
    rw[hr,GD]at h1;simp only[Fn]at h1;obtain⟨h2,h3,h4,h5,h6⟩:=h1;rw[HU]at h5;have bU:lB (gL (Ki s) 0)=Z:=hr;have eH:lB (gL (Mu RU s) 0)=V:=show MQ s=V by simpa using h2
    simp only[bU,HY,GF,h4,GD];have h7:∀c∈chs s,OT (d+k) RU c t=J (.one (.bool (bg (Bt t) d c))):=λc hc=>C33 hB k d c (HM.1 h6 c hc);have e:=C1N (R:=E6) (nn:=18446744073709551614+1+1) (a1:=s::r) (x7:=0) (k1:=J (.one (.bool Z))) (k3:=λz6 z7 z8 z9=>match idx (s::r) z6 with|O=>O|J dT=>gd (okR [.bool] (Mu RU dT)) (bif !(lB (gL (Mu RU dT) 0))then J (.one (.bool V))else Vo (18446744073709551614+1+1) (OT (d+k)) RU (s::r) t (18446744073709551614+1) (Aab .i64 (z6+1)) (λz1=>J (.one (.bool z1))) (λz2 z3=>J (.one (.bool V))))) h5 h7 (18446744073709551614+1+1) 0 FK FK;rw[JA]at e;refine Aas e ?_;simp only[Bu,gd,h3,eH,HP,GD,bg,hr];cases (chs s).any (bg (Bt t) d)<;>rfl
end
def D1n:(RU.all λr=>okR [.bool] (Ki r.name)&&(T1 r.name&&(okR [.slc .strs] (Ms RU r.name)&&(okR [.bool] (Mu RU r.name)&&(Aae (chs r.name).length 1000&&(chs r.name).all (wfc 9))))))=Z:=GM
section
def gdT{R:Type}(o:Option R):gd Z o=o:=rfl
variable {R:Type}{t:A0}
def C3R{nn:Nat}{a w:rg}{xs:Gy}(hs:xs.length<1000):∀(n j:Nat),j<=xs.length->xs.length<n+j->∃b,Vm nn a w n xs (j:Int) (J (.one (.bool Z))) (λz1 z2 z3=>J (.one (.bool V)))=(J (.one (.bool b)):Gq)
 |0,j,h1,h2=>FK
 |n+1,j,h1,h2=>by
  unfold Vm;by_cases hj:j<xs.length;have fa:xs[j]?=J xs[j]:=GE hj;have aE:decide ((j:Int)<(xs.length:Int))=Z:=GG FK;simp only[gd,aE,GD,B1,fa,E7 (i:=j) FK];cases xs[j]==a;exact C3R hs n (j+1) hj FK;exact⟨Z,rfl⟩;have qY:j=xs.length:=FK;subst qY;have aE:decide ((xs.length:Int)<(xs.length:Int))=V:=GH FK;simp only[gd,aE,GF];exact⟨V,rfl⟩
def C95{a w:rg}(h:okR [.sl .str (J 1)] (Mt w)=Z)(h2:(F0 (gL (Mt w) 0)).length<1000):∃b,OS a w=J (.one (.bool b)):=by
 obtain⟨b,e⟩:=C3R (nn:=NN) (a:=a) (w:=w) h2 NN 0 FK (by rw[NNv];omega);refine⟨b,?_⟩;unfold OS B0F;rw[h];rw[gdT];exact e
def C6t(a:UInt8)(r:rg):sub (a::r) 1 (Aaa (a::r):Int)=J r:=by
 unfold sub;have:decide ((0:Int)<=1)=Z:=rfl;have h1:((Aaa (a::r):Nat):Int)=(r.length:Int)+1:=GN;rw[h1];have h2:decide ((1:Int)<=(r.length:Int)+1)=Z:=GG FK;have h3:decide ((r.length:Int)+1<=(Aaa (a::r):Int))=Z:=GG (by rw[h1];omega);simp[h2,h3]
def B3P(t:A0){s:rg}(hs:s≠[]):∃b,Kq s t=J (.one (.bool b)):=by
 let P:Gq->Prop:=λo=>∃b,o=J (.one (.bool b))
 have am:∀w,okR [.sl .str (J 1)] (Mt w)=Z->(F0 (gL (Mt w) 0)).length<1000->∀f:Bool->Bool,P (let r1:=OS t.text w;gd (okR [.bool] r1) (J (.one (.bool (f (lB (gL r1 0))))))):=λw h1 h2 f=>by
  obtain⟨b,e⟩:=C95 (a:=t.text) h1 h2;show P (gd (okR [.bool] (OS t.text w)) (J (.one (.bool (f (lB (gL (OS t.text w) 0)))))));rw[e];exact⟨_,rfl⟩
 show P (Kq s t)
 match s,hs with
 |a::r,_=>
  have h0:idx (a::r) 0=J a:=rfl;unfold Kq;simp only[h0,C6t]
  repeat' (first|exact⟨_,rfl⟩|exact am _ GM (by decide+kernel) (λb=> !b)|exact am _ GM (by decide+kernel) (λb=>b)|refine A7 (P:=P) (λ_=>?_) (λ_=>?_))
def l74{nn:Nat}{a1:rg}{Q:Option R->List (rg)×Bool->Prop}{m:Bool}{k1:Gy->Option R}{k3:List Gy->Int->Bool->Option R}{xs:List Gy}(hs:xs.length<1000)(hw:∀c∈xs,wfc 9 c=Z)
  (h1:∀c,Q (k1 c) (c,Z))(h3:Q (k3 xs (xs.length:Int) V) ([],m)):∀(n j:Nat),j<=xs.length->xs.length<n+j->Q (Vp nn RU a1 t n xs (j:Int) k1 k3) (Pb (Bt t) m (xs.drop j))
 |0,j,a,b=>FK
 |n+1,j,a,b=>by
  unfold Vp;by_cases hj:j<xs.length;have fa:xs[j]?=J xs[j]:=GE hj;have aE:decide ((j:Int)<(xs.length:Int))=Z:=GG FK;have e:B7u RU xs[j] t=J (.one (.bool (bg (Bt t) 9 xs[j]))):=C33 (λs hs=>B3P t hs) 999991 9 xs[j] (hw _ (IG hj));rw[Ht hj];simp only[gd,aE,GD,B1,fa,e,oB',gB',E7 (i:=j) FK,Pb];cases bg (Bt t) 9 xs[j];exact l74 hs hw h1 h3 n (j+1) hj FK;exact h1 _;have qY:j=xs.length:=FK;subst qY;have aE:decide ((xs.length:Int)<(xs.length:Int))=V:=GH FK;simp only[gd,aE,GF,IL];exact h3
def B6u{X:rg}(hx:(RU.any λr=>r.name==X)=Z):okR [.bool] (Ki X)=Z/\T1 X=Z/\okR [.slc .str,.bool] (Kr RU X t)=Z/\F0 (gL (Kr RU X t) 0)=(ch (Bt t) X).1/\lB (gL (Kr RU X t) 1)=(ch (Bt t) X).2:=by
 obtain⟨r,hr,e⟩:=Hm.1 hx;obtain rfl:r.name=X:=by simpa using e
 have h:=HM.1 D1n r hr;simp only[Fn]at h;obtain⟨h0,h1,h2,h3,h4,h5⟩:=h;rw[HU]at h4;refine⟨h0,h1,?_⟩;unfold Kr B3B;rw[h2];rw[gdT];refine l74 (t:=t) (Q:=λ(o:Gq) c=>okR [.slc .str,.bool] o=Z/\F0 (gL o 0)=c.1/\lB (gL o 1)=c.2) (m:=MQ r.name) h4 (HM.1 h5) (λc=>⟨rfl,rfl,rfl⟩) ?_ NN 0 FK (by rw[NNv];omega);rw[h3];exact⟨rfl,rfl,rfl⟩
end
end Go.Aev.Sy
namespace Go.Aev
open Go.Proofs
def smN(n:Nat):Bool:=Aal n 1099511627776
def N9(bS:List D4)(toks:Gu)(depth:Int):Nat->Gy->Nat->Int->Option (Int×A4)
 |0,_,_,_=>O
 |_+1,[],_,_=>J (0,⟨0,0⟩)
 |f+1,de::ao,at_,op=>
  match toks[at_]? with
  |none=>O
  |some t=>
   bif okR [.bool] (Ki de)then
    bif lB (gL (Ki de) 0)then
     bif okR [.slc .str,.bool] (Kr bS de t)then
      bif lB (gL (Kr bS de t) 1)then
       bif smN ((F0 (gL (Kr bS de t) 0)).length+ao.length)then N9 bS toks depth f (F0 (gL (Kr bS de t) 0)++ao) at_ op else O
      else J (70,t.pos)
     else O
    else
     bif okR [.bool] (Kq de t)then
      bif lB (gL (Kq de t) 0)then
       bif okR [.int .i64] (Kp de)then
        bif(lI (gL (Kp de) 0)==1)&&decide (depth<=op)then J (71,t.pos)
        else N9 bS toks depth f ao (bif Aae (at_+1) toks.length then at_+1 else at_) (Aab .i64 (op+lI (gL (Kp de) 0)))
       else O
      else J (70,t.pos)
     else O
   else O
def MR(a0:List D4)(a1:rg)(a2:Gu)(a3:Int):Gq:=
 bif smN a2.length then
  match N9 a0 a2 a3 NN [a1] 0 0 with
  |some (k,p)=>J (.tup [.int .i64 k,.agg .pos p])
  |none=>O
 else O
def S33:Gt->Option (Bool×E6)
 |[.sl .rule a0 O,.str a1,.sl .tok a2 O,.int .i64 a3]=>J (okR [.int .i64,.agg .pos] (MR a0 a1 a2 a3),O9 [.int .i64,.agg .pos] (MR a0 a1 a2 a3))
 |_=>O
end Go.Aev
namespace Go.Aev.Sy
def kt(s:rg):Gp×Option rg:=
 bif s==B4 then([3],O)else bif s==A9z then([3],O)else bif s==B0K then([3],O)else bif s==UJ then([3],O)else bif s==J3 then([6,7],O)else bif s==A9G then([4,5],O)else bif s==K4 then([0],O)
 else match idx s 0 with|O=>([],O)|J a=>bif(Aao a:Int)==39 then([3],sub s 1 (Aaa s:Int))else([2],J s)
def RM{α β:Type}{P:α->β->Prop}{c:Bool}{a b:α}{x y:β}(h1:c=Z->P a x)(h2:c=V->P b y):P (bif c then a else b) (bif c then x else y):=by
 cases c;exact h2 rfl;exact h1 rfl
def RN{t:A0}{s:rg}(h:Bt t s=Z):t.kind∈(kt s).1/\∀x,(kt s).2=J x->t.text=x:=by
 let P:Gq->Gp×Option rg->Prop:=λo r=>lB (gL o 0)=Z->t.kind∈r.1/\∀x,r.2=J x->t.text=x
 suffices hP:P (Kq s t) (kt s)from hP h
 have k1:∀k:Int,(t.kind==k)=Z->t.kind=k:=λk h=>by simpa using h
 have am:∀o:Gq,P (bif(t.kind==3)==Z then o else J (.one (.bool V))) ([3],O):=λo=>by
  refine A7 (P:=λo=>P o ([3],O)) (λd=>λ_=>⟨?_,λx hx=>by cases hx⟩) (λ_ h=>by cases h);rw[k1 3 (by simpa using d)];exact HO
 have tw:∀a b:Int,P (bif(t.kind==a)==V then J (.one (.bool (t.kind==b)))else J (.one (.bool Z))) ([a,b],O):=λa b=>by
  refine A7 (P:=λo=>P o ([a,b],O)) (λd=>λh=>⟨?_,λx hx=>by cases hx⟩) (λd=>λh=>⟨?_,λx hx=>by cases hx⟩);rw[k1 b h];simp;rw[k1 a (by cases h:t.kind==a<;>simp_all)];simp
 unfold Kq kt;refine RM (P:=P) (λ_ h=>⟨by rw[k1 3 h];exact HO,λx hx=>by cases hx⟩) λ_=>RM (P:=P) (λ_=>am _) λ_=>RM (P:=P) (λ_=>am _) λ_=>RM (P:=P) (λ_=>am _) λ_=>
  RM (P:=P) (λ_=>tw 6 7) λ_=>RM (P:=P) (λ_=>tw 4 5) λ_=>RM (P:=P) (λ_ h=>⟨by rw[k1 0 h];exact HO,λx hx=>by cases hx⟩) λ_=>?_
 match idx s 0 with
 |none=>exact λh=>by cases h
 |some a=>
  refine RM (P:=P) (λ_=>?_) (λ_=>?_);refine A7 (P:=λo=>P o ([3],sub s 1 (Aaa s:Int))) (λd=>?_) (λ_ h=>by cases h);cases hs:sub s 1 (Aaa s:Int)with
  |none=>exact λh=>by cases h
  |some y=>exact λh=>⟨by rw[k1 3 (by simpa using d)];exact HO,λx hx=>by cases hx;have:(t.text==y)=Z:=h;simpa using this⟩
  refine A7 (P:=λo=>P o ([2],J s)) (λd=>λh=>⟨by rw[k1 2 (by simpa using d)];exact HO,λx hx=>by cases hx;have:(t.text==s)=Z:=h;simpa using this⟩) (λ_ h=>by cases h)
def A9U{t:A0}{s:rg}{l:Gp}(h:Bt t s=Z)(hl:(kt s).1=l):t.kind∈l:=hl ▸ (RN h).1
def exS(p s:rg):Bool:=(kt s).1.all (λk=> !(kt p).1.contains k)||(match(kt s).2,(kt p).2 with|J x,J y=> !(x==y)|_,_=>V)
def B3c{t:A0}{p s:rg}(h:exS p s=Z)(hs:Bt t s=Z):Bt t p=V:=by
 cases hp:Bt t p with
 |false=>rfl
 |true=>
  obtain⟨a1,a2⟩:=RN hs;obtain⟨b1,b2⟩:=RN hp;unfold exS at h;rw[Hx]at h;rcases h with h|h;have:=HM.1 h _ a1;simp[b1]at this
  ·cases h1:(kt s).2<;>cases h2:(kt p).2<;>rw[h1,h2]at h<;>try (cases h;done)
   rename_i x y;have e1:=a2 x h1;have e2:=b2 y h2;rw[<-e1, <-e2]at h;simp at h
def fs:Nat->Gy->Gy
 |0,_=>[]
 |_+1,[]=>[]
 |d+1,s::_=>bif T1 s then(chs s).flatMap (fs d)else [s]
def C10{B:rg->Bool}:∀(d:Nat)(c:Gy),bg B d c=Z->∃s∈fs d c,B s=Z
 |0,_,h=>by cases h
 |_+1,[],h=>by cases h
 |d+1,s::r,h=>by
  simp only[bg,fs]at h ⊢;cases hr:T1 s with
  |false=>rw[hr]at h;exact⟨s,GN,h⟩
  |true=>
   rw[hr,GD]at h;obtain⟨c,hc,h⟩:=Hm.1 h;obtain⟨s',h1,h2⟩:=C10 d c h;exact⟨s',by simp only[GD,Jk];exact⟨c,hc,h1⟩,h2⟩
def D7b{t:A0}{c:Gy}{p:rg}(hx:(fs 9 c).all (exS p)=Z)(h:bg (Bt t) 9 c=Z):Bt t p=V:=by
 obtain⟨s,h1,h2⟩:=C10 9 c h;exact B3c (HM.1 hx s h1) h2
def B9c{B:rg->Bool}:∀(d:Nat)(c:Gy),bg B d c=Z->bg B (d+1) c=Z
 |0,_,h=>by cases h
 |_+1,[],h=>by cases h
 |d+1,s::r,h=>by
  rw[bg]at h ⊢;cases hr:T1 s with
  |false=>rw[hr]at h;exact h
  |true=>
   rw[hr,GD]at h;obtain⟨c,hc,h⟩:=Hm.1 h;exact Hm.2 ⟨c,hc,B9c d c h⟩
def br(s:rg):Int:=lI (gL (Kp s) 0)
def okN(s:rg):Bool:=RU.any λr=>r.name==s
def okT(s:rg):Bool:=okR [.bool] (Ki s)&&(!T1 s&&okR [.int .i64] (Kp s))
def Ac(T:Gu)(D:Int)(st:Gy)(i:Nat)(o:Int):Prop:=∃n p,N9 RU T D n st i o=J (0,p)
section
variable {T:Gu}{D:Int}{st:Gy}{i:Nat}{o:Int}
def Ac.rule{X:rg}(h:Ac T D (X::st) i o)(hx:okN X=Z):∃t,T[i]?=J t/\(ch (Bt t) X).2=Z/\Ac T D ((ch (Bt t) X).1++st) i o:=by
 obtain⟨n,p,h⟩:=h
 match n with
 |0=>cases h
 |n+1=>
  unfold N9 at h
  match ht:T[i]? with
  |none=>rw[ht]at h;cases h
  |some t=>
   obtain⟨h1,h2,h3,h4,h5⟩:=B6u (t:=t) hx;have eH:lB (gL (Ki X) 0)=Z:=h2;simp only[ht,h1,eH,h3,h4,h5,GD]at h;refine⟨t,rfl,?_⟩;cases hc:(ch (Bt t) X).2 with
   |false=>rw[hc]at h;cases h
   |true=>
    rw[hc,GD]at h;cases hm:smN ((ch (Bt t) X).1.length+st.length)with
    |false=>rw[hm]at h;cases h
    |true=>rw[hm]at h;exact⟨rfl,n,p,h⟩
def Ac.term{s:rg}(h:Ac T D (s::st) i o)(hs:okT s=Z)(hn:s≠[]):∃t,T[i]?=J t/\Bt t s=Z/\(br s=1->o<D)/\Ac T D st (bif Aae (i+1) T.length then i+1 else i) (Aab .i64 (o+br s)):=by
 obtain⟨n,p,h⟩:=h;simp only[okT,Fn]at hs;obtain⟨h1,h2,h3⟩:=hs;have eH:lB (gL (Ki s) 0)=V:=show T1 s=V by simpa using h2
 match n with
 |0=>cases h
 |n+1=>
  unfold N9 at h
  match ht:T[i]? with
  |none=>rw[ht]at h;cases h
  |some t=>
   obtain⟨b,e⟩:=B3P t hn;have hb:Bt t s=b:=by unfold Bt;rw[e];rfl
   simp only[ht,h1,eH,e,oB',gB',h3,GD,GF]at h;refine⟨t,rfl,?_⟩;cases b with
   |false=>cases h
   |true=>
    simp only[GD]at h;cases hc:((lI (gL (Kp s) 0)==1)&&decide (D<=o))with
    |true=>rw[hc]at h;cases h
    |false=>
     rw[hc]at h;refine⟨hb,λh1=>?_,n,p,h⟩;have gF:lI (gL (Kp s) 0)=1:=h1;rw[gF]at hc;simpa using hc
end
def rkd:Nat->rg->Nat
 |0,_=>0
 |d+1,s=>bif T1 s then(chs s).foldl (λm c=>match c with|[]=>m|x::_=>Aak m (rkd d x+1)) 1 else 0
def rk(s:rg):Nat:=rkd 12 s
def inn(s:rg):Bool:=(okN s&& !(s==Y7))||(okT s&&((kt s).1.all (λk=>decide (2<=k))&& !s.isEmpty))
def B86:(RU.all λr=>r.name==Y7||(Aae (rk r.name) 10&&(chs r.name).all λc=>c.all inn&&(Aal c.length 9&&(match c with|[]=>Z|s::_=>Aae (rk s) (rk r.name)))))=Z:=GM
def T7(t:A0)(X:rg):Bool:=bif T1 X then(chs X).any (bg (Bt t) 9)else Bt t X
def hh(t:A0):Gy->Nat
 |[]=>0
 |X::_=>bif T7 t X then 1000*rk X else 10000
def B3H{B:rg->Bool}{n:Bool}:∀(l:List Gy),(∃c∈l,Pb B n l=(c,Z)/\bg B 9 c=Z)\/(Pb B n l=([],n)/\l.any (bg B 9)=V)
 |[]=>.inr ⟨rfl,rfl⟩
 |c::r=>by
  cases h:bg B 9 c with
  |true=>exact .inl ⟨c,HO,by simp[Pb,h],h⟩
  |false=>
   rcases B3H (B:=B) (n:=n) r with⟨c',h1,h2,h3⟩|⟨h1,h2⟩;exact .inl ⟨c',Ha _ h1,by simp[Pb,h,h2],h3⟩;exact .inr ⟨by simp[Pb,h,h1],by simp only[Ja,h,h2,Jb]⟩
def ZU{s:rg}(h:inn s=Z):rk s<10:=by
 unfold inn at h;rw[Hx]at h;rcases h with h|h;rw[Fn]at h;obtain⟨r,hr,e⟩:=Hm.1 h.1;obtain rfl:r.name=s:=by simpa using e
 have hi:=HM.1 B86 r hr;rw[Hx]at hi;rcases hi with hi|hi;rw[hi]at h;cases h.2;rw[Fn,HU]at hi;exact hi.1;simp only[okT,Fn]at h;have:T1 s=V:=by simpa using h.1.2.1
 unfold rk rkd;rw[this];exact Jz 9
section
variable {T:Gu}{D:Int}
def B2m(tw:TW T):∀(n:Nat)(eM:Gy)(i:Nat)(o:Int)(t:A0),(∀s∈eM,inn s=Z)->T[i]?=J t->20000*(T.length - i)+101*eM.length+hh t eM<n->20000*(T.length - i)+101*eM.length+hh t eM<=30000000000->
  ∃r,N9 RU T D (n+3) (eM++[K4]) i o=J r
 |0,eM,i,o,t,_,_,h,_=>FK
 |n+1,[],i,o,t,hp,ht,hn,hb=>by
  have h1:okR [.bool] (Ki K4)=Z:=GM;have h2:lB (gL (Ki K4) 0)=V:=GM;have h3:okR [.int .i64] (Kp K4)=Z:=GM;have h4:(lI (gL (Kp K4) 0)==1)=V:=GM;obtain⟨b,e⟩:=B3P t (s:=K4) (λh=>by cases h);show ∃r,N9 RU T D (n+3+1) (K4::[]) i o=J r;unfold N9;simp only[ht,h1,h2,e,oB',gB',h3,h4,GD,GF,Jt];cases b;exact⟨_,rfl⟩;exact⟨_,rfl⟩
 |n+1,X::eM,i,o,t,hp,ht,hn,hb=>by
  have hX:=hp X HO;have iY:∀s∈eM,inn s=Z:=λs hs=>hp s (Ha _ hs);have mg:i<T.length:=(HN.1 ht).1;have uJ:∀t st,(∀s∈st,inn s=Z)->hh t st<=10000:=λt st hs=>by
   match st,hs with
   |[],_=>exact HH _
   |s::q,hs=>
    have hr:rk s<10:=ZU (hs s HO);show(bif T7 t s then 1000*rk s else 10000)<=10000;cases T7 t s;exact GU _;show 1000*rk s<=10000;omega
  rw[IZ];show ∃r,N9 RU T D (n+3+1) (X::(eM++[K4])) i o=J r;rw[Fr]at hn hb;unfold N9;unfold inn at hX;rw[Hx]at hX;simp only[ht];rcases hX with hX|hX;rw[Fn]at hX;obtain⟨hN,hD⟩:=hX;obtain⟨h1,h2,h3,h4,h5⟩:=B6u (t:=t) hN;have eH:lB (gL (Ki X) 0)=Z:=h2;simp only[h1,eH,h3,h4,h5,GD];obtain⟨r,hr,e⟩:=Hm.1 hN;obtain rfl:r.name=X:=by simpa using e
  have hi:=HM.1 B86 r hr;rw[Hx]at hi;rcases hi with hi|hi;rw[hi]at hD;cases hD;rw[Fn,HU]at hi;obtain⟨cD,cL⟩:=hi;unfold ch;rcases B3H (B:=Bt t) (n:=MQ r.name) (chs r.name)with⟨c,c1,c2,c3⟩|⟨c2,c3⟩;rw[c2];have hc:=HM.1 cL c c1;rw[Fn,Fn,Ih]at hc;obtain⟨d1,d2,d3⟩:=hc;have yx:T7 t r.name=Z:=by unfold T7;rw[show T1 r.name=Z from h2];exact Hm.2 ⟨c,c1,c3⟩
  have Er:hh t (r.name::eM)=1000*rk r.name:=by
   show(bif T7 t r.name then 1000*rk r.name else 10000)=_;rw[yx];rfl
  match c,c3,d1,d2,d3 with
  |s::q,c3,d1,d2,d3=>
   rw[HU]at d3;have hs:T7 t s=Z:=by
    unfold T7;unfold bg at c3;cases hr:T1 s with
    |false=>rw[hr]at c3;exact c3
    |true=>
     rw[hr,GD]at c3;rw[GD];obtain⟨c',e1,e2⟩:=Hm.1 c3;exact Hm.2 ⟨c',e1,B9c 8 c' e2⟩
   have Bw:hh t ((s::q)++eM)=1000*rk s:=by
    show(bif T7 t s then 1000*rk s else 10000)=_;rw[hs];rfl
   have hl:((s::q)++eM).length<=eM.length+9:=by rw[Fd];omega
   have hm:smN ((s::q,Z).1.length+(eM++[K4]).length)=Z:=by
    unfold smN;rw[Ih,Fd];show(s::q).length+_<=_;simp only[Fr,GT]at d2 ⊢;omega
   rw[hm];simp only[GD];rw[<-GV];exact B2m tw n ((s::q)++eM) i o t (λx hx=>(Hg.1 hx).elim (HM.1 d1 x) (iY x)) ht (by rw[Bw];omega) (by rw[Bw];omega)
  rw[c2];have yx:T7 t r.name=V:=by unfold T7;rw[show T1 r.name=Z from h2];exact c3
  have Er:hh t (r.name::eM)=10000:=by
   show(bif T7 t r.name then 1000*rk r.name else 10000)=_;rw[yx];rfl
  have rY:=uJ t eM iY;cases MQ r.name with
  |false=>exact⟨_,rfl⟩
  |true=>
   have hm:smN (([]:Gy).length+(eM++[K4]).length)=Z:=by
    unfold smN;rw[Ih,Fd];simp only[GT,Fr];omega
   simp only[hm,GD];exact B2m tw n eM i o t iY ht FK FK
  simp only[okT,Fn]at hX;obtain⟨⟨h1,h2,h3⟩,h4,h5⟩:=hX;have eH:lB (gL (Ki X) 0)=V:=show T1 X=V by simpa using h2
  obtain⟨b,e⟩:=B3P t (s:=X) (λh=>by rw[h]at h5;cases h5);have bC:Bt t X=b:=by unfold Bt;rw[e];rfl
  simp only[h1,eH,e,oB',gB',h3,GD,GF];cases b with
  |false=>exact⟨_,rfl⟩
  |true=>
   simp only[GD];cases (lI (gL (Kp X) 0)==1)&&decide (D<=o)with
   |true=>exact⟨_,rfl⟩
   |false=>
    have hk:=(RN bC).1;have yo:2<=t.kind:=GK (HM.1 h4 _ hk);have hl:=tw.lst i t ht yo;have aE:Aae (i+1) T.length=Z:=by rw[HU];exact hl
    simp only[aE,GD,GF];have rY:=uJ T[i+1] eM iY;exact B2m tw n eM (i+1) _ T[i+1] iY (GE hl) FK FK
def D0T(tw:TW T):∃k p,MR RU Y7 T D=J (.tup [.int .i64 k,.agg .pos p])/\(k=0->Ac T D [Y7] 0 0):=by
 have hl:=tw.len;have aP:=tw.ne;have hs:smN T.length=Z:=by unfold smN;rw[Ih];omega
 have ht:T[0]?=J T[0]:=GE aP;have hN:okN Y7=Z:=GM;obtain⟨h1,h2,h3,h4,h5⟩:=B6u (t:=T[0]) hN;have eH:lB (gL (Ki Y7) 0)=Z:=h2;have bm:∃r,N9 RU T D NN [Y7] 0 0=J r:=by
  rw[show NN=(18446744073709551612+3)+1 from rfl];unfold N9;simp only[ht,h1,eH,h3,h4,h5,GD];rcases B3H (B:=Bt T[0]) (n:=MQ Y7) (chs Y7)with⟨c,c1,c2,c3⟩|⟨c2,c3⟩;unfold ch;rw[c2];obtain rfl:c=[I7,O6,K4]:=by
   rw[show chs Y7=[[I7,O6,K4]]from GM]at c1;simpa using c1
  exact B2m tw 18446744073709551612 [I7,O6] 0 0 T[0] (λs hs=>HM.1 (show([I7,O6].all inn)=Z from GM) s hs) ht (by
   have:hh T[0] [I7,O6]<=10000:=by
    show(bif T7 T[0] I7 then 1000*rk I7 else 10000)<=10000;have:=ZU (show inn I7=Z from GM);cases T7 T[0] I7;exact GU _;show 1000*rk I7<=10000;omega
   simp only[Fr,GT];omega) (by
   have:hh T[0] [I7,O6]<=10000:=by
    show(bif T7 T[0] I7 then 1000*rk I7 else 10000)<=10000;have:=ZU (show inn I7=Z from GM);cases T7 T[0] I7;exact GU _;show 1000*rk I7<=10000;omega
   simp only[Fr,GT];omega)
  unfold ch;rw[c2];rw[show MQ Y7=V from GM];exact⟨_,rfl⟩
 obtain⟨⟨k,p⟩,e⟩:=bm;refine⟨k,p,?_,λhk=>⟨NN,p,by rw[e,hk]⟩⟩;unfold MR;rw[hs,e];rfl
end
def rd(T:Gu)(i:Nat):Gz:=[[.sl .tok T O,.int .i64 (i:Int)]]
def R2(s:rg):Bool:=okT s&&(!s.isEmpty&&((kt s).1.all (λk=>decide (2<=k))&&(decide (-1<=br s)&&decide (br s<=1))))
def Is(x s:rg)(k:Int):Prop:=(∀t,Bt t s=bif(t.kind==k)==Z then(t.text==x)else V)/\cls x=k/\2<=k/\k<=3
def U2{x s:rg}{k:Int}(h:∀t,Kq s t=bif(t.kind==k)==Z then J (.one (.bool (t.text==x)))else J (.one (.bool V)))(hc:(cls x==k&&(decide (2<=k)&&decide (k<=3)))=Z):Is x s k:=by
 simp only[Fn,beq_iff_eq,decide_eq_true_eq]at hc;refine⟨λt=>?_,hc.1,hc.2.1,hc.2.2⟩;unfold Bt;rw[h];cases t.kind==k<;>rfl
section
variable {T:Gu}{D:Int}{st:Gy}{i:Nat}{o:Int}{t:A0}
def rd0(r:Gt):T8 (gC (J (r,rd T i)) 0 0)=T:=rfl
def rd1(r:Gt):lI (gC (J (r,rd T i)) 0 1)=(i:Int):=rfl
def kb(b:Bool):okB [.bool] [[.sl .tok O,.int .i64]] (J ([.bool b],rd T i))=Z:=rfl
def kt_(x:A0):okB [.agg .tok] [[.sl .tok O,.int .i64]] (J ([.agg .tok x],rd T i))=Z:=rfl
def kn(x:E5):okB [.agg .named] [[.sl .tok O,.int .i64]] (J ([.agg .named x],rd T i))=Z:=rfl
def ko(x:G5):okB [.agg .note] [[.sl .tok O,.int .i64]] (J ([.agg .note x],rd T i))=Z:=rfl
def kr(x:F6):okB [.agg .tref] [[.sl .tok O,.int .i64]] (J ([.agg .tref x],rd T i))=Z:=rfl
def kl(x:LitT):okB [.agg .lit] [[.sl .tok O,.int .i64]] (J ([.agg .lit x],rd T i))=Z:=rfl
def qb(b:Bool)(x:Gz):lB (gB (J ([.bool b],x)) 0)=b:=rfl
def qt(y:A0)(x:Gz):G3 (gB (J ([.agg .tok y],x)) 0)=y:=rfl
def qn(y:E5)(x:Gz):LA (gB (J ([.agg .named y],x)) 0)=y:=rfl
def qo(y:G5)(x:Gz):QV (gB (J ([.agg .note y],x)) 0)=y:=rfl
def qr(y:F6)(x:Gz):Lv (gB (J ([.agg .tref y],x)) 0)=y:=rfl
def ql(y:LitT)(x:Gz):G9 (gB (J ([.agg .lit y],x)) 0)=y:=rfl
def Ac.tm{s:rg}(tw:TW T)(h:Ac T D (s::st) i o)(hs:R2 s=Z)(o0:0<=o)(o1:o<=1000):∃t,T[i]?=J t/\LH t/\Bt t s=Z/\i+1<T.length/\(br s=1->o<D)/\Ac T D st (i+1) (o+br s):=by
 simp only[R2,Fn]at hs;obtain⟨h1,h2,h3,h4,h5⟩:=hs;obtain⟨t,ht,hb,hd,ha⟩:=h.term h1 (λh=>by rw[h]at h2;cases h2);have hk:=GK (HM.1 h3 _ (RN hb).1);have hl:=tw.lst i t ht hk;have h4:=GK h4;have h5:=GK h5;rw[show Aae (i+1) T.length=Z by rw[HU];exact hl,GD,P0 FK FK]at ha;exact⟨t,ht,tw.ok t (HI ht),hb,hl,hd,ha⟩
def Ac.rl{X:rg}(tw:TW T)(h:Ac T D (X::st) i o)(hx:okN X=Z):∃t,T[i]?=J t/\LH t/\i<T.length/\(ch (Bt t) X).2=Z/\Ac T D ((ch (Bt t) X).1++st) i o:=by
 obtain⟨t,ht,h1,h2⟩:=h.rule hx;exact⟨t,ht,tw.ok t (HI ht),(HN.1 ht).1,h1,h2⟩
def D3k{x s:rg}{k:Int}(hI:Is x s k)(hk:LH t):((t.text==x)&&((t.kind !=6)&&(t.kind !=7)))=Bt t s:=by
 obtain⟨h1,h2,h3,h4⟩:=hI;obtain⟨_,_,_,hg,h0,h7⟩:=hk;rw[h1];cases hx:t.text==x with
 |false=>cases (t.kind==k)==Z<;>rfl
 |true=>
  have pd:t.text=x:=by simpa using hx
  rw[Bool.true_and];by_cases h6:t.kind<6;have e:t.kind=k:=by
   rcases hg h6 with h|⟨_,h⟩;rw[pd,h2]at h;omega;rw[pd,h2]at h;cases h5:t.kind==5 with
   |false=>rw[h5]at h;exact h.symm
   |true=>rw[h5]at h;rw[GD]at h;omega
  rw[e];have e6:(k !=6)=Z:=GQ;have e7:(k !=7)=Z:=GQ;rw[e6,e7];simp;have e:(t.kind==k)=V:=GQ;rw[e];have:t.kind=6\/t.kind=7:=FK;rcases this with h|h<;>rw[h]<;>rfl
def B0J{x s:rg}{k:Int}(hI:Is x s k)(ht:T[i]?=J t)(hk:LH t):PP x T (i:Int)=J ([.bool (Bt t s)],rd T i):=by
 rw[<-D3k hI hk];simp only[PP,B1,ht];cases t.text==x<;>cases t.kind !=6<;>rfl
def L9{x s:rg}{k:Int}(tw:TW T)(hI:Is x s k)(ht:T[i]?=J t):Kb x T (i:Int)=J ([.bool (Bt t s)],rd T (bif Bt t s then i+1 else i)):=by
 have hl:=(HN.1 ht).1;have hm:=tw.len;simp only[Kb,gd,B0J hI ht (tw.ok t (HI ht)),kb,rd0,rd1,qb,GD,E7 (i:=i) FK];cases Bt t s<;>rfl
def Pc(tw:TW T)(ht:T[i]?=J t)(hl:i+1<T.length):LU T (i:Int)=J ([.agg .tok t],rd T (i+1)):=by
 have hm:=tw.len;have aE:decide (((i+1:Nat):Int)<(T.length:Int))=Z:=GG FK;simp only[LU,B1,ht,E7 (i:=i) FK,aE,GD];rfl
def C3e(tw:TW T)(ht:T[i]?=J t)(hl:i+1<T.length):Kg T (i:Int)=J ([.agg .named ⟨t.text,t.pos⟩],rd T (i+1)):=by
 simp only[Kg,gd,Pc tw ht hl,kt_,rd0,rd1,qt,GD];rfl
def B5n(tw:TW T)(ht:T[i]?=J t):∃n:G5,Ku T (i:Int)=J ([.agg .note n],rd T (bif Bt t J3 then i+1 else i))/\n.text.length<=8400000/\(n.block=Z->(btF n.text).2=Z)/\n.has=Bt t J3:=by
 have hl:=(HN.1 ht).1;have hm:=tw.len;obtain⟨h1,h2,h3,_⟩:=tw.ok t (HI ht);have hB:Bt t J3=lB (gL (bif(t.kind==6)==V then(J (.one (.bool (t.kind==7))))else(J (.one (.bool Z)))) 0):=rfl;simp only[Ku,B1,ht,E7 (i:=i) FK];rw[hB];cases h6:t.kind==6 with
 |true=>
  have e:t.kind=6:=by simpa using h6
  exact⟨⟨Z,t.kind==7,t.value⟩,by rw[e];rfl,h2,λh=>(by rw[e]at h;cases h),rfl⟩
 |false=>
  cases h7:t.kind==7 with
  |true=>
   have e:t.kind=7:=by simpa using h7
   exact⟨⟨Z,t.kind==7,t.value⟩,by rw[e];rfl,h2,λ_=>h3 e,rfl⟩
  |false=>
   have e6:(t.kind !=6)=Z:=by rw[bne,h6];rfl
   have e7:(t.kind !=7)=Z:=by rw[bne,h7];rfl
   exact⟨⟨V,V,[]⟩,by rw[e6,e7];rfl,GN,λh=>(by cases h),rfl⟩
end
end Go.Aev.Sy
namespace Go.Aev
open Go.Proofs
def LX(a0:A0):Gq:=let j1:Gq:=J (.one (.agg .lit (LitT.mk 7 a0.text V [] [] (⟨a0.pos.line,a0.pos.col⟩:A4))));let j2:(rg)->Bool->Gq:=λz3 z4=>bif z4 then(J (.one (.agg .lit (LitT.mk 5 a0.text V [] [] (⟨a0.pos.line,a0.pos.col⟩:A4)))))else(bif(z3==[110,117,108,108])then(J (.one (.agg .lit (LitT.mk 6 [] V [] [] (⟨a0.pos.line,a0.pos.col⟩:A4)))))else j1);let z5:=a0.text==[116,114,117,101];bif z5 then(j2 a0.text z5)else(j2 a0.text (a0.text==[102,97,108,115,101]))
def B5q:KY
 |[.agg .tok a0]=>pR [.agg .lit] (LX a0)
 |_=>O
def B2t(g:Gu->Int->Gr):Ka
 |[.ptr d0 o0],[[.sl .tok ae O,.int .i64 aa]]=>bif bq d0 o0 then pB [.agg .lit] [[.sl .tok O,.int .i64]] (g ae aa)else O
 |_,_=>O
def B1A(cw:Gu->Int->Gr):Env Ty6 A2:=mkE [(189,B5q)] [(79,Nf),(80,RA),(151,UI),(153,B2t cw)] (lkR [(0,1000103,6),(1,9,2),(1,1000104,5),(2,11,1),(2,1000104,5),(3,14,1),(3,1000104,5),(4,3,1),(4,12,2),(4,15,2),(4,1000103,6),(5,13,1),(5,18,1),(5,1000104,5),(6,3,1),(6,12,1),(6,17,1),(6,19,5),(6,1000103,6),(7,17,1),(7,25,1),(7,1000104,5),(8,3,1),(8,12,1),(8,24,1),(8,26,5),(8,1000103,6),(9,24,1),(9,32,1),(9,1000104,5),(10,12,1),(10,33,1),(10,1000104,5),(11,3,1),(11,12,1),(11,31,1),(11,34,8),(11,1000103,6),(12,12,1),(12,31,1),(12,42,2),(12,1000104,5),(13,3,1),(13,44,4),(13,1000103,1),(13,1000105,4),(14,48,2),(14,1000103,1),(14,1000105,4),(15,50,3),(15,1000103,1),(15,1000106,3),(16,5,1),(16,53,6),(16,1000103,1),(16,1000105,4),(17,4,1),(17,50,1),(17,59,1),(17,1000103,6),(18,3,1),(18,44,1),(18,60,3),(18,1000103,3),(18,1000107,2),(19,63,2),(19,1000103,3),(19,1000107,2),(20,65,3),(20,1000103,3),(20,1000108,1),(21,68,2),(21,1000103,3),(21,1000108,1),(22,70,2),(22,1000103,3),(23,7,2),(23,72,11),(23,1000103,3),(23,1000107,2),(24,6,1),(24,65,1),(24,83,1),(24,1000103,6),(10014,1000103,1),(10014,1000105,4),(10019,1000103,3),(10019,1000107,2)]) 84 [2,4,6,23,30,41,47,62] 1 [2] [(23,102),(30,102),(41,102),(47,104),(62,106)]
def RO{R:Type}(nn:Nat)(cw:Gu->Int->Gr)(ae:Gu)(aa:Int):Nat->GB->Int->Int->Gu->Int->(Bool->GB->Int->Int->Gu->Int->Option R)->Option R
 |0,_,_,_,_,_,_=>O
 |n+1,a8,bM,bN,ah,ac,k2=>let k1:=λa8 bM bN ah ac=>RO nn cw ae aa n a8 bM bN ah ac k2;let r4:=Kb [93] ah ac;gd (okB [.bool] [[.sl .tok O,.int .i64]] r4) (let z1:= !(lB (gB r4 0));let z2:=(gT r4);let z3:=(gQ r4);bif z1 then(gd (okB [.agg .lit] [[.sl .tok O,.int .i64]] (cw z2 z3)) (gd (A3 (Aaa a8+1) 96) (k1 (a8++[(G9 (gB (cw z2 z3) 0))]) bM bN (gT (cw z2 z3)) (gQ (cw z2 z3)))))else(k2 z1 a8 bM bN z2 z3))
def D3U{R}(nn cw ae aa)(K:Kt R):∀n a8 bM bN ah ac,RO nn cw ae aa n a8 bM bN ah ac (λju a8 bM bN ah ac=>K (.exit 1) ⟨[eP 0 900000,eP 2 102,eP 4 104,eB 50 ju,(1000102,.bx 102 [.int .i64 0,.str [],.bool V,.sl .lit [] (J 2010203),.sl .lf [] (J 2010204),.int .i64 0,.int .i64 0]),(1000104,.bx 104 [.int .i64 8,.str [],.bool V,.sl .lit a8 (J 2010403),.sl .lf [] (J 2010404),.int .i64 bM,.int .i64 bN]),zT ah ac],[102,104,900000,2010203,2010204,2010403,2010404]⟩)=LP (B1A cw) nn Aar 1111 n ⟨[eP 0 900000,eP 2 102,eP 4 104,(1000102,.bx 102 [.int .i64 0,.str [],.bool V,.sl .lit [] (J 2010203),.sl .lf [] (J 2010204),.int .i64 0,.int .i64 0]),(1000104,.bx 104 [.int .i64 8,.str [],.bool V,.sl .lit a8 (J 2010403),.sl .lf [] (J 2010404),.int .i64 bM,.int .i64 bN]),zT ah ac],[102,104,900000,2010203,2010204,2010403,2010404]⟩ K:=λn=>n.rec (by intros;rfl) λn i=>by
 intros;rw[RO];simp only[i];kernel_rfl
def RP{R:Type}(nn:Nat)(cw:Gu->Int->Gr)(ae:Gu)(aa:Int):Nat->List LfT->Int->Int->Gu->Int->(Bool->List LfT->Int->Int->Gu->Int->Option R)->Option R
 |0,_,_,_,_,_,_=>O
 |n+1,ak,au,av,ah,ac,k2=>let k1:=λak au av ah ac=>RP nn cw ae aa n ak au av ah ac k2;let dz:=Kb [125] ah ac;gd (okB [.bool] [[.sl .tok O,.int .i64]] dz) (let z1:= !(lB (gB dz 0));let z2:=(gT dz);let z3:=(gQ dz);bif z1 then(gd (okB [.agg .named] [[.sl .tok O,.int .i64]] (Kg z2 z3)) (let z4:=(LA (gB (Kg z2 z3) 0));let z5:=(gT (Kg z2 z3));let z6:=(gQ (Kg z2 z3));let cF:=Kb [58] z5 z6;gd (okB [.bool] [[.sl .tok O,.int .i64]] cF) (let z7:=(gT cF);let z8:=(gQ cF);gd (okB [.agg .lit] [[.sl .tok O,.int .i64]] (cw z7 z8)) (let z9:=(G9 (gB (cw z7 z8) 0));gd (A3 (Aaa ak+1) 128) (k1 (ak++[(⟨z4.name,(LitT.mk z9.kind z9.text z9.block z9.items z9.fields z9.pos),z4.pos⟩:LfT)]) au av (gT (cw z7 z8)) (gQ (cw z7 z8)))))))else(k2 z1 ak au av z2 z3))
def D0U{R}(nn cw ae aa)(K:Kt R):∀n ak au av ah ac,RP nn cw ae aa n ak au av ah ac (λEs ak au av ah ac=>K (.exit 3) ⟨[eP 0 900000,eP 2 102,eP 6 106,eB 65 Es,(1000102,.bx 102 [.int .i64 0,.str [],.bool V,.sl .lit [] (J 2010203),.sl .lf [] (J 2010204),.int .i64 0,.int .i64 0]),(1000106,.bx 106 [.int .i64 9,.str [],.bool V,.sl .lit [] (J 2010603),.sl .lf ak (J 2010604),.int .i64 au,.int .i64 av]),zT ah ac],[102,106,900000,2010203,2010204,2010603,2010604]⟩)=LP (B1A cw) nn Aar 287 n ⟨[eP 0 900000,eP 2 102,eP 6 106,(1000102,.bx 102 [.int .i64 0,.str [],.bool V,.sl .lit [] (J 2010203),.sl .lf [] (J 2010204),.int .i64 0,.int .i64 0]),(1000106,.bx 106 [.int .i64 9,.str [],.bool V,.sl .lit [] (J 2010603),.sl .lf ak (J 2010604),.int .i64 au,.int .i64 av]),zT ah ac],[102,106,900000,2010203,2010204,2010603,2010604]⟩ K:=λn=>n.rec (by intros;rfl) λn i=>by
 intros;rw[RP];simp only[i];kernel_rfl
def B0z(nn:Nat)(cw:Gu->Int->Gr)(ae:Gu)(aa:Int):Gr:=let nI:=LU ae aa;gd (okB [.agg .tok] [[.sl .tok O,.int .i64]] nI) (let z1:=(G3 (gB nI 0));let z2:=(gT nI);let z3:=(gQ nI);bif(z1.kind==3)then(gd (okR [.agg .lit] (LX z1)) (J ([.agg .lit (LitT.mk ((G9 (gL (LX z1) 0)).kind) ((G9 (gL (LX z1) 0)).text) ((G9 (gL (LX z1) 0)).block) ((G9 (gL (LX z1) 0)).items) ((G9 (gL (LX z1) 0)).fields) (⟨(((G9 (gL (LX z1) 0)).pos).line),(((G9 (gL (LX z1) 0)).pos).col)⟩:A4))],[[.sl .tok z2 O,.int .i64 z3]])))else(bif(z1.kind==4)then(J ([.agg .lit (LitT.mk 2 z1.text V [] [] (⟨z1.pos.line,z1.pos.col⟩:A4))],[[.sl .tok z2 O,.int .i64 z3]]))else(bif(z1.kind==5)then(J ([.agg .lit (LitT.mk 3 z1.text V [] [] (⟨z1.pos.line,z1.pos.col⟩:A4))],[[.sl .tok z2 O,.int .i64 z3]]))else(bif(z1.kind==6)then(bif(z1.kind==6)then(J ([.agg .lit (LitT.mk 4 z1.value (z1.kind==7) [] [] (⟨z1.pos.line,z1.pos.col⟩:A4))],[[.sl .tok z2 O,.int .i64 z3]]))else(let z4:=z1.text==[91];bif z4 then(RO nn cw ae aa nn [] z1.pos.line z1.pos.col z2 z3 (λz5 z6 z7 z8 z9 bP=>J ([.agg .lit (LitT.mk 8 [] V z6 [] (⟨z7,z8⟩:A4))],[[.sl .tok z9 O,.int .i64 bP]])))else(RP nn cw ae aa nn [] z1.pos.line z1.pos.col z2 z3 (λbY cr cR cM cH dD=>J ([.agg .lit (LitT.mk 9 [] V [] cr (⟨cR,cM⟩:A4))],[[.sl .tok cH O,.int .i64 dD]])))))else(bif(z1.kind==7)then(J ([.agg .lit (LitT.mk 4 z1.value (z1.kind==7) [] [] (⟨z1.pos.line,z1.pos.col⟩:A4))],[[.sl .tok z2 O,.int .i64 z3]]))else(let fu:=z1.text==[91];bif fu then(RO nn cw ae aa nn [] z1.pos.line z1.pos.col z2 z3 (λdB eX z20 z21 fL fD=>J ([.agg .lit (LitT.mk 8 [] V eX [] (⟨z20,z21⟩:A4))],[[.sl .tok fL O,.int .i64 fD]])))else(RP nn cw ae aa nn [] z1.pos.line z1.pos.col z2 z3 (λjE ig lc se uw lR=>J ([.agg .lit (LitT.mk 9 [] V [] ig (⟨lc,se⟩:A4))],[[.sl .tok uw O,.int .i64 lR]])))))))))
def C2o(cw:Gu->Int->Gr)(ae:Gu)(aa:Int):Gr:=B0z NN cw ae aa
def C9I(nn:Nat)(cw:Gu->Int->Gr){ae:Gu}{aa:Int}:D7 (B1A cw) nn Aar [0] [.ptr 900000 0] [bxT ae aa]=B0z nn cw ae aa:=by
 unfold B0z;simp(disch:=exact krl)only[lc1 (kB [0] [bxT ae aa]) (D3U ..),lc1 (kB [0] [bxT ae aa]) (D0U ..)];kernel_rfl
def Pd:Nat->Gu->Int->Gr
 |0,_,_=>O
 |d+1,ae,aa=>C2o (Pd d) ae aa
def RQ(ae:Gu)(aa:Int):Gr:=Pd DD ae aa
def B60:Ka
 |[.ptr d0 o0],[[.sl .tok ae O,.int .i64 aa]]=>bif bq d0 o0 then pB [.agg .lit] [[.sl .tok O,.int .i64]] (RQ ae aa)else O
 |_,_=>O
def E84:Env Ty6 A2:=mkE [] [(79,Nf),(80,RA),(150,B3K),(151,UI),(153,B60)] (lkR [(0,2,1),(0,1000104,5),(1,1000104,5),(2,9,1),(2,1000104,5),(3,10,3),(3,1000105,4),(4,13,2),(4,1000106,3),(5,4,2),(5,15,5),(5,1000104,2),(5,1000107,2),(6,20,1),(6,1000104,2),(6,1000107,2),(7,22,2),(7,1000104,2),(7,1000107,2),(8,24,3),(8,1000104,2),(8,1000108,1),(9,27,2),(9,1000104,2),(9,1000108,1),(10,29,2),(10,1000104,2),(11,7,2),(11,31,11),(11,1000104,2),(11,1000107,2),(12,6,1),(12,21,1),(12,24,1),(12,42,4),(12,1000104,5),(13,3,1),(13,10,1),(13,46,1),(13,1000104,5),(10002,1000104,5),(10007,21,1),(10007,1000104,2),(10007,1000107,2)]) 47 [6,19] 1 [] [(19,106)]
def UW{R:Type}(nn:Nat)(ae:Gu)(aa:Int):Nat->List C3->(rg)->List E0->Int->Int->Gu->Int->(List C3->Bool->(rg)->List E0->Int->Int->Gu->Int->Option R)->Option R
 |0,_,_,_,_,_,_,_,_=>O
 |n+1,x3,aj,ai,ap,aq,ah,ac,k2=>let k1:=λx3 aj ai ap aq ah ac=>UW nn ae aa n x3 aj ai ap aq ah ac k2;let dz:=Kb [41] ah ac;gd (okB [.bool] [[.sl .tok O,.int .i64]] dz) (let z1:= !(lB (gB dz 0));let z2:=(gT dz);let z3:=(gQ dz);bif z1 then(gd (okB [.agg .named] [[.sl .tok O,.int .i64]] (Kg z2 z3)) (let z4:=(LA (gB (Kg z2 z3) 0));let z5:=(gT (Kg z2 z3));let z6:=(gQ (Kg z2 z3));let cF:=Kb [58] z5 z6;gd (okB [.bool] [[.sl .tok O,.int .i64]] cF) (let z7:=(gT cF);let z8:=(gQ cF);gd (okB [.agg .lit] [[.sl .tok O,.int .i64]] (RQ z7 z8)) (let z9:=(G9 (gB (RQ z7 z8) 0));gd (A3 (Aaa ai+1) 128) (k1 x3 aj (ai++[(⟨z4.name,(LitT.mk z9.kind z9.text z9.block z9.items z9.fields z9.pos),z4.pos⟩:E0)]) ap aq (gT (RQ z7 z8)) (gQ (RQ z7 z8)))))))else(k2 x3 z1 aj ai ap aq z2 z3))
def D6v{R}(nn ae aa)(K:Kt R):∀n x3 aj ai ap aq ah ac,UW nn ae aa n x3 aj ai ap aq ah ac (λx3 ij aj ai ap aq ah ac=>K (.exit 2) ⟨[eP 0 900000,eO 3 .dir x3 103,eP 6 106,eB 24 ij,(1000106,.bx 106 [.str aj,.sl .arg ai (J 2010601),.int .i64 ap,.int .i64 aq]),zT ah ac],[103,106,900000,2010601]⟩)=LP E84 nn Aap 35747 n ⟨[eP 0 900000,eO 3 .dir x3 103,eP 6 106,(1000106,.bx 106 [.str aj,.sl .arg ai (J 2010601),.int .i64 ap,.int .i64 aq]),zT ah ac],[103,106,900000,2010601]⟩ K:=λn=>n.rec (by intros;rfl) λn i=>by
 intros;rw[UW];simp only[i];kernel_rfl
def V9{R:Type}(nn:Nat)(ae:Gu)(aa:Int):Nat->List C3->Gu->Int->(List C3->Bool->Gu->Int->Option R)->Option R
 |0,_,_,_,_=>O
 |n+1,x3,ah,ac,k2=>let k1:=λx3 ah ac=>V9 nn ae aa n x3 ah ac k2;let jG:=PP [64] ah ac;gd (okB [.bool] [[.sl .tok O,.int .i64]] jG) (let z1:=(lB (gB jG 0));let z2:=(gT jG);let z3:=(gQ jG);bif z1 then(gd (okB [.agg .tok] [[.sl .tok O,.int .i64]] (LU z2 z3)) (let z4:=(G3 (gB (LU z2 z3) 0));let z5:=(gT (LU z2 z3));let z6:=(gQ (LU z2 z3));gd (okB [.agg .named] [[.sl .tok O,.int .i64]] (Kg z5 z6)) (let z7:=(LA (gB (Kg z5 z6) 0));let z8:=(gT (Kg z5 z6));let z9:=(gQ (Kg z5 z6));let lZ:=Kb [40] z8 z9;gd (okB [.bool] [[.sl .tok O,.int .i64]] lZ) (let bP:=(lB (gB lZ 0));let bY:=(gT lZ);let cr:=(gQ lZ);bif bP then(UW nn ae aa nn x3 z7.name [] z4.pos.line z4.pos.col bY cr (λcR cM cH dD fu dB eX z20=>gd (A3 (Aaa cR+1) 56) (k1 (cR++[(⟨cH,dD,(⟨fu,dB⟩:A4)⟩:C3)]) eX z20)))else(gd (A3 (Aaa x3+1) 56) (k1 (x3++[(⟨z7.name,[],(⟨z4.pos.line,z4.pos.col⟩:A4)⟩:C3)]) bY cr))))))else(k2 x3 z1 z2 z3))
def D4T{R}(nn ae aa)(K:Kt R):∀n x3 ah ac,V9 nn ae aa n x3 ah ac (λx3 aI ah ac=>K (.exit 0) ⟨[eP 0 900000,eO 3 .dir x3 103,eB 10 aI,zT ah ac],[103,900000]⟩)=LP E84 nn Aap 35 n ⟨[eP 0 900000,eO 3 .dir x3 103,zT ah ac],[103,900000]⟩ K:=λn=>n.rec (by intros;rfl) λn i=>by
 intros;rw[V9];simp only[i];simp(disch:=exact krl)only[lc1 (kL 35 n K) (D6v ..)];kernel_rfl
def B5H(nn:Nat)(ae:Gu)(aa:Int):Gr:=V9 nn ae aa nn [] ae aa (λz1 z2 z3 z4=>J ([.sl .dir z1 (J 1)],[[.sl .tok z3 O,.int .i64 z4]]))
def MS(ae:Gu)(aa:Int):Gr:=B5H NN ae aa
def C7M(nn:Nat){ae:Gu}{aa:Int}:D7 E84 nn Aap [0] [.ptr 900000 0] [bxT ae aa]=B5H nn ae aa:=by
 unfold B5H;simp(disch:=exact krl)only[lc1 (kB [0] [bxT ae aa]) (D4T ..)];kernel_rfl
def S84:Ka
 |[.ptr d0 o0],[[.sl .tok ae O,.int .i64 aa]]=>bif bq d0 o0 then pB [.sl .dir (J 1)] [[.sl .tok O,.int .i64]] (MS ae aa)else O
 |_,_=>O
def B2K(g:Gu->Int->Gr):Ka
 |[.ptr d0 o0],[[.sl .tok ae O,.int .i64 aa]]=>bif bq d0 o0 then pB [.agg .tref] [[.sl .tok O,.int .i64]] (g ae aa)else O
 |_,_=>O
def C49(lw:Gu->Int->Gr):Env Ty6 A2:=mkE [] [(79,Nf),(151,UI),(152,B2K lw)] noD 27 [2,3] 1 [] []
def B8T(lw:Gu->Int->Gr)(ae:Gu)(aa:Int):Gr:=let j1:(rg)->(rg)->Gu->Int->Gr:=λz2 z3 z4 z5=>let j6:(rg)->(rg)->Gu->Int->Gr:=λz7 z8 z9 bP=>J ([.agg .tref (⟨z7,z8⟩:F6)],[[.sl .tok z9 O,.int .i64 bP]]);let cg:=Kb [33] z4 z5;gd (okB [.bool] [[.sl .tok O,.int .i64]] cg) (let bY:=(gT cg);let cr:=(gQ cg);bif(lB (gB cg 0))then(gd (decide (Aaa z3+Aaa [33]<=9223372036854775807)) (j6 z2 (z3++[33]) bY cr))else(j6 z2 z3 bY cr));let jG:=Kb [91] ae aa;gd (okB [.bool] [[.sl .tok O,.int .i64]] jG) (let cM:=(gT jG);let cH:=(gQ jG);bif(lB (gB jG 0))then(let pA:=lw cM cH;gd (okB [.agg .tref] [[.sl .tok O,.int .i64]] pA) (let dD:=(Lv (gB pA 0)).wrap;let fu:=(gT pA);let dB:=(gQ pA);let oB:=Kb [93] fu dB;gd (okB [.bool] [[.sl .tok O,.int .i64]] oB) (gd (decide (Aaa dD+Aaa [93]<=9223372036854775807)) (j1 ((Lv (gB pA 0)).name) (dD++[93]) (gT oB) (gQ oB)))))else(let lZ:=LU cM cH;gd (okB [.agg .tok] [[.sl .tok O,.int .i64]] lZ) (j1 ((G3 (gB lZ 0)).text) [] (gT lZ) (gQ lZ))))
def C77(lw:Gu->Int->Gr){ae:Gu}{aa:Int}:D7 (C49 lw) NN f152 [0] [.ptr 900000 0] [bxT ae aa]=B8T lw ae aa:=GM
def UX:Nat->Gu->Int->Gr
 |0,_,_=>O
 |d+1,ae,aa=>B8T (UX d) ae aa
def B2I(ae:Gu)(aa:Int):Gr:=UX DD ae aa
end Go.Aev
namespace Go.Aev.Sy
section
variable {T:Gu}{D:Int}{st:Gy}{i:Nat}{o:Int}{t:A0}
def C9r:Is [33] B3k 2:=U2 (λt=>rfl) GO
def C5R:Is [91] LW 2:=U2 (λt=>rfl) GO
def C3g:Is [93] PZ 2:=U2 (λt=>rfl) GO
def D3C{B:rg->Bool}:ch B Np=bif bg B 9 [XY,RL]then([XY,RL],Z)else([],V):=GM
def C8k{B:rg->Bool}:ch B XY=bif B B4 then([B4],Z)else bif B LW then([LW,Np,PZ],Z)else([],V):=GM
def C7v{B:rg->Bool}:ch B RL=bif B B3k then([B3k],Z)else([],Z):=GM
def B71{X p x:rg}{k:Int}(tw:TW T)(hI:Is x p k)(hX:okN X=Z)(hc:∀B,ch B X=bif B p then([p],Z)else([],Z))(hp:R2 p=Z)(h0:br p=0)(h:Ac T D (X::st) i o)(o0:0<=o)(o1:o<=1000):
  ∃(b:Bool)(j:Nat),Kb x T (i:Int)=J ([.bool b],rd T j)/\Ac T D st j o/\i<=j/\j<=i+1:=by
 obtain⟨t,ht,hk,hl,h1,h2⟩:=h.rl tw hX;rw[hc]at h1 h2;refine⟨_,_,L9 tw hI ht,?_⟩;cases hb:Bt t p with
 |false=>rw[hb]at h2;exact⟨h2,GU _,IS _⟩
 |true=>
  rw[hb]at h2;obtain⟨t',_,_,_,_,_,h3⟩:=Ac.tm tw h2 hp o0 o1;rw[h0]at h3;exact⟨by simpa using h3,IS _,GU _⟩
def Zo(tw:TW T)(hD:D<=200):∀(d:Nat)(i:Nat)(o:Int)(st:Gy),D - o<(d:Int)->0<=o->o<=D->Ac T D (Np::st) i o->
  ∃r j,UX d T (i:Int)=J ([.agg .tref r],rd T j)/\Ac T D st j o/\i<j/\r.name.length<=8400000/\(r.wrap.length:Int)<=2*(D - o)+1
 |0,i,o,st,h,h0,h1,_=>FK
 |d+1,i,o,st,h,h0,h1,ha=>by
  obtain⟨t,ht,hk,hl,c1,c2⟩:=ha.rl tw GM;rw[D3C]at c1 c2;cases hb:bg (Bt t) 9 [XY,RL]with
  |false=>rw[hb]at c1;cases c1
  |true=>
   rw[hb]at c2;obtain⟨t,ht,hk,hl,c1,c2⟩:=Ac.rl tw c2 GM;rw[C8k]at c1 c2;have bQ:∀(nm w:rg)(j:Nat),Ac T D (RL::st) j o->(w.length:Int)<=2*(D - o)->nm.length<=8400000->i<j->
     ∃(r:F6)(j':Nat),(let cg:=Kb [33] T (j:Int);gd (okB [.bool] [[.sl .tok O,.int .i64]] cg) (let bY:=(T8 (gC cg 0 0));let cr:=(lI (gC cg 0 1));bif(lB (gB cg 0))then(gd (decide (Aaa w+Aaa [33]<=9223372036854775807)) (J ([.agg .tref (⟨nm,w++[33]⟩:F6)],[[.sl .tok bY O,.int .i64 cr]])))else(J ([.agg .tref (⟨nm,w⟩:F6)],[[.sl .tok bY O,.int .i64 cr]]))):Gr)=J ([.agg .tref r],rd T j')/\Ac T D st j' o/\i<j'/\r.name.length<=8400000/\(r.wrap.length:Int)<=2*(D - o)+1:=λnm w j hA hw hn cJ=>by
    obtain⟨b,j',e,a1,a2,a3⟩:=B71 tw C9r GM (λB=>C7v) GM GM hA h0 FK;simp only[e,gd,kb,rd0,rd1,qb,GD];cases b with
    |true=>
     rw[GG (by rw[Hl];omega:Aaa w+Aaa [33]<=9223372036854775807)];exact⟨_,j',rfl,a1,FK,hn,by rw[Fd,Hl];omega⟩
    |false=>exact⟨_,j',rfl,a1,FK,hn,by show(w.length:Int)<=_;omega⟩
   rw[UX];unfold B8T;cases hn:Bt t B4 with
   |true=>
    rw[hn]at c2;obtain⟨t',cQ,_,_,dX,_,c3⟩:=Ac.tm tw c2 GM h0 FK;rw[ht]at cQ;cases cQ;have oA:Bt t LW=V:=B3c GM hn;have e1:Kb [91] T (i:Int)=J ([.bool V],rd T i):=by rw[L9 tw C5R ht,oA];rfl
    simp only[e1,gd,kb,rd0,rd1,qb,GD,GF,Pc tw ht dX,kt_,qt];exact bQ t.text [] (i+1) (by simpa [show br B4=0 from GM]using c3) GQ hk.1 FK
   |false=>
    rw[hn]at c1 c2;cases oA:Bt t LW with
    |false=>rw[oA]at c1;cases c1
    |true=>
     rw[oA]at c2;obtain⟨t',cQ,_,_,dX,dW,c3⟩:=Ac.tm tw c2 GM h0 FK;have b1:br LW=1:=GM;have dW:=dW b1;rw[b1]at c3;have e1:Kb [91] T (i:Int)=J ([.bool Z],rd T (i+1)):=by rw[L9 tw C5R ht,oA];rfl
     obtain⟨r,j,e2,c4,c5,c6,c7⟩:=Zo tw hD d (i+1) (o+1) (PZ::RL::st) FK FK FK c3;obtain⟨t2,jz,cK,dM,js,_,c8⟩:=Ac.tm tw c4 GM FK FK;have b2:br PZ= -1:=GM;rw[b2]at c8;have e3:Kb [93] T (j:Int)=J ([.bool Z],rd T (j+1)):=by rw[L9 tw C3g jz,dM];rfl
     have hw:decide (Aaa r.wrap+Aaa [93]<=9223372036854775807)=Z:=GG (by rw[Hl];omega);simp only[e1,gd,kb,rd0,rd1,qb,GD,e2,kr,qr,e3,hw];exact bQ r.name (r.wrap++[93]) (j+1) (by rw[show o+1+ -1=o from FK]at c8;exact c8) (by rw[Fd,Hl];omega) c6 FK
end
section
variable {T:Gu}{D:Int}{st:Gy}{i:Nat}{o:Int}{t:A0}
def Ac.lt{s:rg}(h:Ac T D (s::st) i o):i<T.length:=by
 obtain⟨n,p,h⟩:=h
 match n with
 |0=>cases h
 |n+1=>
  unfold N9 at h
  match ht:T[i]? with
  |none=>rw[ht]at h;cases h
  |some t=>exact(HN.1 ht).1
def fx(e z:rg):Bool:=bif okN e then !MQ e&&(chs e).all (λc=>(fs 9 c).all (exS z))else R2 e&&exS z e
def B6t{e z:rg}(tw:TW T)(h:Ac T D (e::st) i o)(hf:fx e z=Z)(o0:0<=o)(o1:o<=1000)(ht:T[i]?=J t):Bt t z=V:=by
 unfold fx at hf;cases hN:okN e with
 |true=>
  rw[hN,GD,Fn]at hf;obtain⟨t',cQ,_,_,c1,_⟩:=h.rl tw hN;rw[ht]at cQ;cases cQ;unfold ch at c1;rcases B3H (B:=Bt t) (n:=MQ e) (chs e)with⟨c,h1,_,h3⟩|⟨h1,_⟩;exact D7b (HM.1 hf.2 c h1) h3;rw[h1]at c1;have c1:MQ e=Z:=c1;rw[c1]at hf;cases hf.1
 |false=>
  rw[hN,GF,Fn]at hf;obtain⟨t',cQ,_,hb,_⟩:=Ac.tm tw h hf.1 o0 o1;rw[ht]at cQ;cases cQ;exact B3c hf.2 hb
def XZ{A R:Type}{Lf:Nat->A->Nat->Option R}{K:A->Nat->Option R}{Inv:A->Nat->Prop}{E:Gy}{e L z x:rg}{k:Int}(tw:TW T)(hI:Is x z k)(hz:R2 z=Z)(hN:okN L=Z)
  (hL:∀B,ch B L=bif bg B 9 (e::E++[L])then(e::E++[L],Z)else([],Z))(hx:fx e z=Z)(o0:0<=o)(o1:o<=1000)
  (dV:∀(n:Nat)(a:A)(i:Nat),Kb x T (i:Int)=J ([.bool Z],rd T (i+1))->Lf (n+1) a i=K a (i+1))
  (ez:∀(n:Nat)(a:A)(i:Nat),Inv a i->i<T.length->Kb x T (i:Int)=J ([.bool V],rd T i)->Ac T D (e::E++L::z::st) i o->∃a' j,i<j/\Lf (n+1) a i=Lf n a' j/\Inv a' j/\Ac T D (L::z::st) j o):
  ∀(n:Nat)(a:A)(i:Nat),Inv a i->(Ac T D (L::z::st) i o\/Ac T D (e::E++L::z::st) i o)->T.length<n+i->∃a' j,Lf n a i=K a' (j+1)/\i<=j/\j<T.length/\Ac T D st (j+1) (o+br z)/\Inv a' j
 |0,a,i,hi,ha,hn=>by
  have:i<T.length:=ha.elim Ac.lt Ac.lt;omega
 |n+1,a,i,hi,ha,hn=>by
  have go:Ac T D (e::E++L::z::st) i o->∃a' j,Lf (n+1) a i=K a' (j+1)/\i<=j/\j<T.length/\Ac T D st (j+1) (o+br z)/\Inv a' j:=λc=>by
   have hl:i<T.length:=Ac.lt c;have ht:T[i]?=J T[i]:=GE hl;have ef:Kb x T (i:Int)=J ([.bool V],rd T i):=by rw[L9 tw hI ht,B6t tw c hx o0 o1 ht];rfl
   obtain⟨a',j,h1,h2,h3,h4⟩:=ez n a i hi hl ef c;obtain⟨a2,j2,g1,g2,g3,g4,g5⟩:=XZ tw hI hz hN hL hx o0 o1 dV ez n a' j h3 (.inl h4) FK;exact⟨a2,j2,h2.trans g1,FK,g3,g4,g5⟩
  rcases ha with ha|ha;obtain⟨t,ht,hk,hl,c1,c2⟩:=ha.rl tw hN;rw[hL]at c1 c2;cases hb:bg (Bt t) 9 (e::E++[L])with
  |true=>
   rw[hb]at c2;exact go (by simpa using c2)
  |false=>
   rw[hb]at c2;obtain⟨t',cQ,_,bC,dX,_,c3⟩:=Ac.tm tw c2 hz o0 o1;have ef:Kb x T (i:Int)=J ([.bool Z],rd T (i+1)):=by rw[L9 tw hI cQ,bC];rfl
   exact⟨a,i,dV n a i ef,GU _,FK,c3,hi⟩
  exact go ha
def B56:Is [125] Q3 2:=U2 (λt=>rfl) GO
def A8A:Is [58] Y0 2:=U2 (λt=>rfl) GO
def D7q{B:rg->Bool}:ch B Y3=bif B B4 then([B4],Z)else bif B J3 then([J3],Z)else bif B A9G then([A9G],Z)else bif B LW then([LW,RJ,PZ],Z)else bif B F4 then([F4,RK,Q3],Z)else([],V):=GM
def D5k{B:rg->Bool}:ch B RJ=bif bg B 9 (Y3::[]++[RJ])then(Y3::[]++[RJ],Z)else([],Z):=GM
def D18{B:rg->Bool}:ch B RK=bif bg B 9 (B4::[Y0,Y3]++[RK])then(B4::[Y0,Y3]++[RK],Z)else([],Z):=GM
def D0X(tw:TW T)(h:Ac T D (Y0::st) i o)(o0:0<=o)(o1:o<=1000):Kb [58] T (i:Int)=J ([.bool Z],rd T (i+1))/\Ac T D st (i+1) o/\i+1<T.length:=by
 obtain⟨t,ht,_,hb,hl,_,c⟩:=Ac.tm tw h GM o0 o1;exact⟨by rw[L9 tw A8A ht,hb];rfl,by simpa [show br Y0=0 from GM]using c,hl⟩
def Qz(tw:TW T)(hD:D<=200):∀(d:Nat)(i:Nat)(o:Int)(st:Gy),D - o<(d:Int)->0<=o->o<=D->Ac T D (Y3::st) i o->
  ∃v j,Pd d T (i:Int)=J ([.agg .lit v],rd T j)/\Ac T D st j o/\i<j/\F5 d v/\wt d v+i<=j
 |0,i,o,st,h,h0,h1,_=>FK
 |d+1,i,o,st,h,h0,h1,ha=>by
  have gK:=tw.len;obtain⟨t,ht,hk,hl,c1,c2⟩:=ha.rl tw GM;rw[D7q]at c1 c2;rw[Pd];unfold C2o B0z;have one:∀s,Ac T D (s::st) i o->R2 s=Z->br s=0->i+1<T.length/\Ac T D st (i+1) o/\Bt t s=Z:=λs hs h1 h2=>by
   obtain⟨t',cQ,_,hb,dX,_,c⟩:=Ac.tm tw hs h1 h0 FK;rw[ht]at cQ;cases cQ;exact⟨dX,by simpa [h2]using c,hb⟩
  cases b1:Bt t B4 with
  |true=>
   rw[b1]at c2;obtain⟨dX,c3,_⟩:=one _ c2 GM GM;have e3:t.kind=3:=by simpa using A9U (l:=[3]) b1 GM
   simp only[Pc tw ht dX,kt_,qt,rd0,rd1,gd,e3,GD,beq_self_eq_true];have bm:∃v:LitT,LX t=J (.one (.agg .lit v))/\F5 (d+1) v/\wt (d+1) v=1:=by
    let P:Gq->Prop:=λo=>∃v:LitT,o=J (.one (.agg .lit v))/\F5 (d+1) v/\wt (d+1) v=1
    show P (LX t);unfold LX;dsimp only;have g:∀k x,5<=k/\k<=7->x.length<=8400000->P (J (.one (.agg .lit (LitT.mk k x V [] [] (⟨t.pos.line,t.pos.col⟩:A4))))):=λk x hk hx=>⟨_,rfl,XJ FK FK hx (λh=>FK)⟩;cases t.text==[116,114,117,101]<;>cases t.text==[102,97,108,115,101]<;>cases t.text==[110,117,108,108]<;>first|exact g 5 _ FK hk.1|exact g 6 [] FK GN|exact g 7 _ FK hk.1
   obtain⟨v,ev,g1,g2⟩:=bm;rw[ev];refine⟨v,i+1,?_,c3,HX _,g1,FK⟩;cases v;rfl
  |false=>
   rw[b1]at c1 c2;cases b2:Bt t J3 with
  |true=>
   rw[b2]at c2;obtain⟨dX,c3,_⟩:=one _ c2 GM GM;have Et:t.kind=6\/t.kind=7:=by simpa using A9U (l:=[6,7]) b2 GM
   simp only[Pc tw ht dX,kt_,qt,rd0,rd1,gd,GD];have g:F5 (d+1) (LitT.mk 4 t.value (t.kind==7) [] [] (⟨t.pos.line,t.pos.col⟩:A4))/\wt (d+1) (LitT.mk 4 t.value (t.kind==7) [] [] (⟨t.pos.line,t.pos.col⟩:A4))=1:=XJ FK FK hk.2.1 (λ_ h=>hk.2.2.1 (by simpa using h));refine⟨_,i+1,?_,c3,HX _,g.1,by rw[g.2];omega⟩;rcases Et with e|e<;>rw[e]<;>rfl
  |false=>
   rw[b2]at c1 c2;cases b3:Bt t A9G with
  |true=>
   rw[b3]at c2;obtain⟨dX,c3,_⟩:=one _ c2 GM GM;have Eu:t.kind=4\/t.kind=5:=by simpa using A9U (l:=[4,5]) b3 GM
   simp only[Pc tw ht dX,kt_,qt,rd0,rd1,gd,GD];have g:∀k:Int,k=2\/k=3->F5 (d+1) (LitT.mk k t.text V [] [] (⟨t.pos.line,t.pos.col⟩:A4))/\wt (d+1) (LitT.mk k t.text V [] [] (⟨t.pos.line,t.pos.col⟩:A4))=1:=λk h=>XJ FK FK hk.1 (λh=>FK);rcases Eu with e|e
   exact⟨_,i+1,by rw[e];rfl,c3,HX _,(g 2 (.inl rfl)).1,by rw[(g 2 (.inl rfl)).2];omega⟩;exact⟨_,i+1,by rw[e];rfl,c3,HX _,(g 3 (.inr rfl)).1,by rw[(g 3 (.inr rfl)).2];omega⟩
  |false=>
   rw[b3]at c1 c2;have re:T.length<NN+(i+1):=by rw[NNv];omega
   cases b4:Bt t LW with
  |true=>
   rw[b4]at c2;obtain⟨t',cQ,_,_,dX,dW,c3⟩:=Ac.tm tw c2 GM h0 FK;rw[ht]at cQ;cases cQ;have dW:=dW GM;rw[show br LW=1 from GM]at c3;have e2:t.kind=2:=by simpa using A9U (l:=[2]) b4 GM
   have ex:t.text=[91]:=(RN b4).2 _ GM;simp only[Pc tw ht dX,kt_,qt,rd0,rd1,gd,e2,ex,GD];obtain⟨l,j,e,h2,h3,h4,h5,h6⟩:=XZ (A:=GB) (R:=B6) (D:=D) (o:=o+1) (st:=st) (Lf:=λn a m=>RO NN (Pd d) T i n a t.pos.line t.pos.col T (m:Int) (λz5 z6 z7 z8 z9 bP=>J ([.agg .lit (LitT.mk 8 [] V z6 [] (⟨z7,z8⟩:A4))],[[.sl .tok z9 O,.int .i64 bP]])))
    (K:=λa j=>J ([.agg .lit (LitT.mk 8 [] V a [] (⟨t.pos.line,t.pos.col⟩:A4))],rd T j)) (Inv:=λa j=>(∀x∈a,F5 d x)/\sw (wt d) a+(i+1)<=j) tw C3g GM GM (λB=>D5k) GM FK FK
    (λn a i e=>by unfold RO;simp only[gd,e,kb,rd0,rd1,qb,GD,HY,GF];rfl)
    (λn a i' hi hl e ha=>by
     obtain⟨v,j,ev,g1,g2,g3,g4⟩:=Qz tw hD d i' (o+1) (RJ::PZ::st) FK FK FK ha;have si:=g1.lt;have pi:=Sp (wt d) a (λx hx=>B22 (by cases d;exact absurd (hi.1 x hx) (λh=>h);omega) x);have hr:A3 (Aaa a+1) 96=Z:=by unfold A3;exact GG FK
     refine⟨a++[v],j,g2,?_,⟨λx hx=>?_,?_⟩,g1⟩
     ·conv=>lhs;unfold RO
      simp only[gd,e,kb,rd0,rd1,qb,GD,HP,ev,kl,ql,hr]
     rcases Hg.1 hx with h|h;exact hi.1 x h;rw[HW.1 h];exact g3;rw[B1d];simp only[sw];omega) NN [] (i+1) ⟨λx hx=>(by cases hx),by simp[sw]⟩ (.inl c3) re
   refine⟨_,j+1,e,by simpa [show br PZ= -1 from GM,show o+1+ -1=o from FK]using h4,FK,B2T (.inl rfl) h5 (λf hf=>(by cases hf)),?_⟩;show 1+sw (wt d) l+0+i<=j+1;omega
  |false=>
   rw[b4]at c1 c2;cases b5:Bt t F4 with
  |false=>rw[b5]at c1;cases c1
  |true=>
   rw[b5]at c2;obtain⟨t',cQ,_,_,dX,dW,c3⟩:=Ac.tm tw c2 GM h0 FK;rw[ht]at cQ;cases cQ;have dW:=dW GM;rw[show br F4=1 from GM]at c3;have e2:t.kind=2:=by simpa using A9U (l:=[2]) b5 GM
   have ex:t.text=[123]:=(RN b5).2 _ GM;simp only[Pc tw ht dX,kt_,qt,rd0,rd1,gd,e2,ex,GD];obtain⟨l,j,e,h2,h3,h4,h5,h6⟩:=XZ (A:=List LfT) (R:=B6) (D:=D) (o:=o+1) (st:=st) (Lf:=λn a m=>RP NN (Pd d) T i n a t.pos.line t.pos.col T (m:Int) (λbY cr cR cM cH dD=>J ([.agg .lit (LitT.mk 9 [] V [] cr (⟨cR,cM⟩:A4))],[[.sl .tok cH O,.int .i64 dD]])))
    (K:=λa j=>J ([.agg .lit (LitT.mk 9 [] V [] a (⟨t.pos.line,t.pos.col⟩:A4))],rd T j)) (Inv:=λa j=>(∀f∈a,f.name.length<=8400000/\F5 d f.value)/\sw (λ(f:LfT)=>1+wt d f.value) a+(i+1)<=j) tw B56 GM GM (λB=>D18) GM FK FK
    (λn a i e=>by unfold RP;simp only[gd,e,kb,rd0,rd1,qb,GD,HY,GF];rfl)
    (λn a i' hi hl e ha=>by
     obtain⟨t1,Ev,eR,_,oc,_,c1⟩:=Ac.tm tw ha GM FK FK;rw[show br B4=0 from GM,IX]at c1;obtain⟨nO,c2,_⟩:=D0X tw c1 FK FK;obtain⟨v,j,ev,g1,g2,g3,g4⟩:=Qz tw hD d (i'+1+1) (o+1) (RK::Q3::st) FK FK FK c2;have si:=g1.lt;have pi:=Sp (λ(f:LfT)=>1+wt d f.value) a (λx _=>FK);have hr:A3 (Aaa a+1) 128=Z:=by unfold A3;exact GG FK
     refine⟨a++[⟨t1.text,v,t1.pos⟩],j,FK,?_,⟨λf hf=>?_,?_⟩,g1⟩
     ·conv=>lhs;unfold RP
      simp only[gd,e,kb,rd0,rd1,qb,GD,HP,C3e tw Ev oc,kn,qn,nO,ev,kl,ql,hr];cases v;rfl
     rcases Hg.1 hf with h|h;exact hi.1 f h;rw[HW.1 h];exact⟨eR.1,g3⟩;rw[B1d];show sw _ a+(1+wt d v+0)+(i+1)<=j;omega) NN [] (i+1) ⟨λx hx=>(by cases hx),by simp[sw]⟩ (.inl c3) re
   refine⟨_,j+1,e,by simpa [show br Q3= -1 from GM,show o+1+ -1=o from FK]using h4,FK,B2T (.inr rfl) (λx hx=>(by cases hx)) h5,?_⟩;show 1+0+sw (λ(f:LfT)=>1+wt d f.value) l+i<=j+1;omega
end
section
variable {a b n m w i j k:Nat}
end
section
variable {α:Type}{G:α->Prop}{p:α->rg}{l:List α}{i j k:Nat}
end
section
variable {T:Gu}{D:Int}{st:Gy}{i:Nat}{o:Int}{t:A0}
def B2r:Is [64] P2 2:=U2 (λt=>rfl) GO
def B66:Is [40] Nq 2:=U2 (λt=>rfl) GO
def B9M:Is [41] XU 2:=U2 (λt=>rfl) GO
def C9V{B:rg->Bool}:ch B C6=bif(B P2||V)then([K5,C6],Z)else([],Z):=GM
def D44{B:rg->Bool}:ch B K5=bif B P2 then(P2::[B4,B0U],Z)else([],V):=GM
def D0L{B:rg->Bool}:ch B B0U=bif B Nq then([Nq,RI,UU,XU],Z)else([],Z):=GM
def D4Y{B:rg->Bool}:ch B UU=bif bg B 9 (RI::[]++[UU])then(RI::[]++[UU],Z)else([],Z):=GM
def C9Q{B:rg->Bool}:ch B RI=bif B B4 then(B4::[Y0,Y3],Z)else([],V):=GM
def kd(x:List C3):okB [.sl .dir (J 1)] [[.sl .tok O,.int .i64]] (J ([.sl .dir x (J 1)],rd T i))=Z:=rfl
def qd(y:List C3)(x:Gz):O5 (gB (J ([.sl .dir y (J 1)],x)) 0)=y:=rfl
def MT{s:rg}(tw:TW T)(h:Ac T D (s::st) i o)(hs:(R2 s&&(br s==0))=Z)(h0:0<=o)(h1:o<=D)(hD:D<=200):
  ∃t,T[i]?=J t/\LH t/\Bt t s=Z/\i+1<T.length/\Kg T (i:Int)=J ([.agg .named ⟨t.text,t.pos⟩],rd T (i+1))/\Ac T D st (i+1) o:=by
 rw[Fn,beq_iff_eq]at hs;obtain⟨t,ht,hk,hb,hl,_,c⟩:=Ac.tm tw h hs.1 h0 FK;rw[hs.2,IX]at c;exact⟨t,ht,hk,hb,hl,C3e tw ht hl,c⟩
def RR{X s:rg}{E:Gy}(tw:TW T)(h:Ac T D (X::st) i o)(hN:okN X=Z)(hX:∀B,ch B X=bif B s then(s::E,Z)else([],V))(hs:(R2 s&&(br s==0))=Z)(h0:0<=o)(h1:o<=D)(hD:D<=200):
  ∃t,T[i]?=J t/\LH t/\Bt t s=Z/\i+1<T.length/\Kg T (i:Int)=J ([.agg .named ⟨t.text,t.pos⟩],rd T (i+1))/\Ac T D (E++st) (i+1) o:=by
 obtain⟨t,ht,hk,hl,c1,c2⟩:=h.rl tw hN;rw[hX]at c1 c2;cases hb:Bt t s with
 |false=>rw[hb]at c1;cases c1
 |true=>rw[hb]at c2;exact MT tw (by simpa using c2) hs h0 h1 hD
def UY{x s:rg}{k:Int}(hI:Is x s k)(tw:TW T)(h:Ac T D (s::st) i o)(hs:(R2 s&&(br s==0))=Z)(h0:0<=o)(h1:o<=D)(hD:D<=200):
  Kb x T (i:Int)=J ([.bool Z],rd T (i+1))/\Ac T D st (i+1) o:=by
 obtain⟨t,ht,hk,hb,hl,_,c⟩:=MT tw h hs h0 h1 hD;exact⟨by rw[L9 tw hI ht,hb];rfl,c⟩
def D56{z:rg}(tw:TW T)(hD:D<=200)(h:Ac T D (RI::z::st) i o)(h0:0<=o)(h1:o<=D):∃n v j,Kg T (i:Int)=J ([.agg .named n],rd T (i+1))/\Kb [58] T ((i+1:Nat):Int)=J ([.bool Z],rd T (i+1+1))/\RQ T ((i+1+1:Nat):Int)=J ([.agg .lit v],rd T j)/\
  Ac T D (z::st) j o/\i<j/\Y8 ⟨n.name,v,n.pos⟩/\lq ((Q2 ⟨n.name,v,n.pos⟩).length+2) i j:=by
 have gK:=tw.len;obtain⟨t,ht,hk,hb,hl,e,c2⟩:=RR tw h GM (λB=>C9Q) GM h0 h1 hD;obtain⟨nO,c4⟩:=UY A8A tw c2 GM h0 h1 hD;obtain⟨v,j,ev,g1,g2,g3,g4⟩:=Qz tw hD DD (i+1+1) o (z::st) (by have:DD=1000000:=rfl;omega) h0 h1 c4;have si:=g1.lt;refine⟨_,v,j,e,nO,ev,g1,FK,⟨hk.1,g3,by show wt DD v<=1100000;omega⟩,((lq.tok (n:=t.text.length+4) (FK:i<i+1+1) (by have:=hk.1;omega)).comp (B2y g3 g4 (wt1 v) (IY _ _))).le ?_⟩;simp only[Q2,Fd,Fr,GT];omega
def D3y(tw:TW T)(hD:D<=200)(h0:0<=o)(h1:o<=D){R:Type}{b1:Int}{k2:List C3->Bool->Gu->Int->Option R}(n:Nat){ds:List C3}(jL:A3 (Aaa ds+1) 56=Z)(c:Ac T D (K5::st) i o):
  ∃(d:C3)(j:Nat),V9 NN T b1 (n+1) ds T (i:Int) k2=V9 NN T b1 n (ds++[d]) T (j:Int) k2/\Ac T D st j o/\i<j/\K1 d/\lq ((X5 d).length+2) i j:=by
 have gK:=tw.len;obtain⟨t,ht,hk,hb,oc,_,c3⟩:=RR tw c GM (λB=>D44) GM h0 h1 hD;obtain⟨t2,jz,cK,_,js,ky,c4⟩:=MT tw c3 GM h0 h1 hD;have sm:PP [64] T (i:Int)=J ([.bool Z],rd T i):=by rw[B0J B2r ht hk,hb]
 have vT:=Pc tw ht oc;obtain⟨t3,Bx,jh,xI,c5,c6⟩:=Ac.rl tw c4 GM;rw[D0L]at c5 c6;have len:∀al,(X5 ⟨t2.text,al,t.pos⟩).length+2<=8400010+sl Q2 al:=λal=>by
  have:=cK.1;have:=C0G al;unfold X5;simp only[Fd,Fr,GT];omega
 cases jB:Bt t3 Nq with
 |false=>
  rw[jB]at c6;have yy:Kb [40] T ((i+1+1:Nat):Int)=J ([.bool V],rd T (i+1+1)):=by rw[L9 tw B66 Bx,jB];rfl
  refine⟨⟨t2.text,[],t.pos⟩,i+1+1,?_,c6,FK,⟨cK.1,HH _,λa ha=>(by cases ha)⟩,((lq.tok FK (FK:8400010<=120000000)).comp (lq.nil (i:=i+1+1) (GU _))).le (len [])⟩
  conv=>lhs;unfold V9
  simp only[gd,sm,kb,rd0,rd1,qb,GD,GF,vT,kt_,qt,ky,kn,qn,yy,jL]
 |true=>
  rw[jB]at c6;have yy:Kb [40] T ((i+1+1:Nat):Int)=J ([.bool Z],rd T (i+1+1+1)):=by rw[L9 tw B66 Bx,jB];rfl
  obtain⟨_,_,_,_,Ge,dW,c7⟩:=Ac.tm tw c6 GM h0 FK;have dW:=dW GM;rw[show br Nq=1 from GM]at c7;obtain⟨al,j,e,a1,a2,a3,a4⟩:=XZ (A:=List E0) (R:=R) (D:=D) (o:=o+1) (st:=st) (Lf:=λm a q=>UW NN T b1 m ds t2.text a t.pos.line t.pos.col T (q:Int) (λcR cM cH dD fu dB eX z20=>gd (A3 (Aaa cR+1) 56) (V9 NN T b1 n (cR++[(⟨cH,dD,(⟨fu,dB⟩:A4)⟩:C3)]) eX z20 k2)))
   (K:=λa q=>gd (A3 (Aaa ds+1) 56) (V9 NN T b1 n (ds++[⟨t2.text,a,t.pos⟩]) T (q:Int) k2)) (Inv:=λa q=>Rg Y8 Q2 a (i+1+1+1) q) tw B9M GM GM (λB=>D4Y) GM FK FK
   (λm a q e=>by unfold UW;simp only[gd,e,kb,rd0,rd1,qb,GD,HY,GF])
   (λm a q hi hl e ha=>by
    obtain⟨nm,v,j,e1,e2,e3,g1,g2,g3,g4⟩:=D56 tw hD ha FK FK;have hr:A3 (Aaa a+1) 128=Z:=hi.rm FK FK;refine⟨a++[⟨nm.name,v,nm.pos⟩],j,g2,?_,hi.add g3 g2 g4,g1⟩
    conv=>lhs;unfold UW
    simp only[gd,e,kb,rd0,rd1,qb,GD,HP,e1,kn,qn,e2,e3,kl,ql,hr];cases v;rfl) NN [] (i+1+1+1) Rg.nil (.inr c7) (by rw[NNv];omega)
  refine⟨⟨t2.text,al,t.pos⟩,j+1,?_,by simpa [show br XU= -1 from GM,show o+1+ -1=o from FK]using a3,FK,⟨cK.1,a4.gl FK⟩,((lq.tok FK (FK:8400010<=120000000)).comp (a4.2.2.comp (lq.nil (IS j)))).le (len al)⟩
  conv=>lhs;unfold V9
  simp only[gd,sm,kb,rd0,rd1,qb,GD,GF,vT,kt_,qt,ky,kn,qn,yy];refine e.trans ?_;simp only[gd,jL,GD]
def Zq(tw:TW T)(hD:D<=200)(h0:0<=o)(h1:o<=D){R:Type}{b1:Int}{k2:List C3->Bool->Gu->Int->Option R}{i0:Nat}:∀(n i:Nat)(ds:List C3),Rg K1 X5 ds i0 i->(Ac T D (C6::st) i o\/Ac T D (K5::C6::st) i o)->T.length<n+i->
  ∃(iH:List C3)(j:Nat),V9 NN T b1 n ds T (i:Int) k2=k2 iH V T (j:Int)/\Ac T D st j o/\i<=j/\Rg K1 X5 iH i0 j/\j<T.length
 |0,i,ds,_,c,hn=>by
  have:i<T.length:=c.elim Ac.lt Ac.lt;omega
 |n+1,i,ds,hi,c,hn=>by
  have gK:=tw.len;have go:Ac T D (K5::C6::st) i o->∃(iH:List C3)(j:Nat),V9 NN T b1 (n+1) ds T (i:Int) k2=k2 iH V T (j:Int)/\Ac T D st j o/\i<=j/\Rg K1 X5 iH i0 j/\j<T.length:=λc=>by
   have hl:=c.lt;obtain⟨d,j,e,c1,h2,h3,h4⟩:=D3y tw hD h0 h1 (b1:=b1) (k2:=k2) n (hi.rm FK FK) c;obtain⟨iH,j',e',c',eH,kR,wM⟩:=Zq tw hD h0 h1 (b1:=b1) (k2:=k2) (i0:=i0) n j (ds++[d]) (hi.add h3 h2 h4) (.inl c1) FK;exact⟨iH,j',e.trans e',c',FK,kR,wM⟩
  rcases c with c|c;obtain⟨t,ht,hk,hl,c1,c2⟩:=c.rl tw GM;rw[C9V]at c1 c2;cases hb:Bt t P2 with
  |true=>rw[hb]at c2;exact go (by simpa using c2)
  |false=>
   rw[hb]at c2;have sm:PP [64] T (i:Int)=J ([.bool V],rd T i):=by rw[B0J B2r ht hk,hb]
   refine⟨ds,i,?_,c2,GU _,hi,hl⟩;unfold V9;simp only[gd,sm,kb,rd0,rd1,qb,GD,GF]
  exact go c
def V2(tw:TW T)(hD:D<=200)(h0:0<=o)(h1:o<=D)(c:Ac T D (C6::st) i o\/Ac T D (K5::C6::st) i o):
  ∃(ds:List C3)(j:Nat),MS T (i:Int)=J ([.sl .dir ds (J 1)],rd T j)/\Ac T D st j o/\i<=j/\GL K1 ds/\lq (E2 ds).length i j:=by
 have gK:=tw.len;obtain⟨ds,j,e,c1,h2,h3,h4⟩:=Zq tw hD h0 h1 (R:=B6) (b1:=(i:Int)) (k2:=λz1 z2 z3 z4=>J ([.sl .dir z1 (J 1)],[[.sl .tok z3 O,.int .i64 z4]])) (i0:=i) NN i [] Rg.nil c (by rw[NNv];have:=c.elim Ac.lt Ac.lt;omega);exact⟨ds,j,e,c1,h2,h3.gl FK,h3.2.2.le (B4N _ _)⟩
end
end Go.Aev.Sy
namespace Go.Aev
open Go.Proofs
def B5j:Ka
 |[.ptr d0 o0],[[.sl .tok ae O,.int .i64 aa]]=>bif bq d0 o0 then pB [.agg .tref] [[.sl .tok O,.int .i64]] (B2I ae aa)else O
 |_,_=>O
def E82:Env Ty6 A2:=mkE [] [(78,S78),(79,Nf),(80,RA),(84,S84),(152,B5j),(153,B60)] (lkR [(0,6,1),(0,1000108,2),(1,1000108,2),(2,1,1),(2,10,3),(2,1000108,2),(3,2,1),(3,7,1),(3,13,1),(3,1000108,2),(4,14,3),(4,1000108,2),(5,17,1),(5,1000109,1),(6,18,3),(6,1000109,1),(7,21,2),(8,23,3),(9,9,1),(9,26,3),(9,1000109,1),(10,29,2),(10,1000109,1),(11,31,3),(11,1000109,1),(12,34,3),(12,1000109,1),(13,37,1),(13,1000109,1),(14,38,4),(14,1000109,1),(15,38,1),(15,42,3),(15,1000109,1),(16,8,1),(16,45,4),(16,1000108,2),(17,2,1),(17,7,1),(17,17,1),(17,49,1),(17,1000108,2),(10004,13,1),(10004,1000108,2)]) 50 [8] 1 [8] []
def Nt{R:Type}(nn:Nat)(a1 a2:rg)(ae:Gu)(aa:Int):Nat->List IvT->Gu->Int->(List IvT->Bool->Gu->Int->Option R)->Option R
 |0,_,_,_,_=>O
 |n+1,x7,ah,ac,k2=>let k1:=λx7 ah ac=>Nt nn a1 a2 ae aa n x7 ah ac k2;let nJ:=Kb a2 ah ac;gd (okB [.bool] [[.sl .tok O,.int .i64]] nJ) (let z1:= !(lB (gB nJ 0));let z2:=(gT nJ);let z3:=(gQ nJ);bif z1 then(gd (okB [.agg .note] [[.sl .tok O,.int .i64]] (Ku z2 z3)) (let z4:=(QV (gB (Ku z2 z3) 0)).has;let z5:=(QV (gB (Ku z2 z3) 0)).block;let z6:=(QV (gB (Ku z2 z3) 0)).text;let z7:=(gT (Ku z2 z3));let z8:=(gQ (Ku z2 z3));gd (okB [.agg .named] [[.sl .tok O,.int .i64]] (Kg z7 z8)) (let z9:=(LA (gB (Kg z7 z8) 0));let bP:=(gT (Kg z7 z8));let bY:=(gQ (Kg z7 z8));let iL:=Kb [58] bP bY;gd (okB [.bool] [[.sl .tok O,.int .i64]] iL) (let cr:=(gT iL);let cR:=(gQ iL);let kj:=B2I cr cR;gd (okB [.agg .tref] [[.sl .tok O,.int .i64]] kj) (let cM:=(Lv (gB kj 0)).name;let cH:=(Lv (gB kj 0)).wrap;let dD:=(gT kj);let fu:=(gQ kj);let lj:=Kb [61] dD fu;gd (okB [.bool] [[.sl .tok O,.int .i64]] lj) (let dB:=(lB (gB lj 0));let eX:=(gT lj);let z20:=(gQ lj);bif dB then(let lk:=RQ eX z20;gd (okB [.agg .lit] [[.sl .tok O,.int .i64]] lk) (let z21:=(gT lk);let fL:=(gQ lk);let nK:=MS z21 fL;gd (okB [.sl .dir (J 1)] [[.sl .tok O,.int .i64]] nK) (gd (A3 (Aaa x7+1) 216) (k1 (x7++[(⟨(⟨z4,z5,z6⟩:G5),z9.name,(⟨cM,cH⟩:F6),dB,(LitT.mk ((G9 (gB lk 0)).kind) ((G9 (gB lk 0)).text) ((G9 (gB lk 0)).block) ((G9 (gB lk 0)).items) ((G9 (gB lk 0)).fields) (⟨(((G9 (gB lk 0)).pos).line),(((G9 (gB lk 0)).pos).col)⟩:A4)),(O5 (gB nK 0)),(⟨z9.pos.line,z9.pos.col⟩:A4)⟩:IvT)]) (gT nK) (gQ nK)))))else(let jF:=MS eX z20;gd (okB [.sl .dir (J 1)] [[.sl .tok O,.int .i64]] jF) (gd (A3 (Aaa x7+1) 216) (k1 (x7++[(⟨(⟨z4,z5,z6⟩:G5),z9.name,(⟨cM,cH⟩:F6),dB,(LitT.mk 0 [] V [] [] (⟨0,0⟩:A4)),(O5 (gB jF 0)),(⟨z9.pos.line,z9.pos.col⟩:A4)⟩:IvT)]) (gT jF) (gQ jF))))))))))else(k2 x7 z1 z2 z3))
def D6R{R}(nn a1 a2 ae aa)(K:Kt R):∀n x7 ah ac,Nt nn a1 a2 ae aa n x7 ah ac (λx7 rh ah ac=>K (.exit 0) ⟨[eP 0 900000,eS 2 a2,eO 7 .iv x7 107,eB 17 rh,zT ah ac],[107,900000]⟩)=LP E82 nn f82 71 n ⟨[eP 0 900000,eS 2 a2,eO 7 .iv x7 107,zT ah ac],[107,900000]⟩ K:=λn=>n.rec (by intros;rfl) λn i=>by
 intros;rw[Nt];simp only[i];kernel_rfl
def A8Z(nn:Nat)(a1 a2:rg)(ae:Gu)(aa:Int):Gr:=let r8:=Kb a1 ae aa;gd (okB [.bool] [[.sl .tok O,.int .i64]] r8) (let z1:= !(lB (gB r8 0));let z2:=(gT r8);let z3:=(gQ r8);bif z1 then(J ([.sl .iv [] (J 1)],[[.sl .tok z2 O,.int .i64 z3]]))else(Nt nn a1 a2 ae aa nn [] z2 z3 (λz4 z5 z6 z7=>J ([.sl .iv z4 (J 1)],[[.sl .tok z6 O,.int .i64 z7]]))))
def RS(a1 a2:rg)(ae:Gu)(aa:Int):Gr:=A8Z NN a1 a2 ae aa
def C6U(nn:Nat){a1 a2:rg}{ae:Gu}{aa:Int}:D7 E82 nn f82 [0] [.ptr 900000 0,.str a1,.str a2] [bxT ae aa]=A8Z nn a1 a2 ae aa:=by
 unfold A8Z;simp(disch:=exact krl)only[lc1 (kB [0] [bxT ae aa]) (D6R ..)];kernel_rfl
def S82:Ka
 |[.ptr d0 o0,.str a1,.str a2],[[.sl .tok ae O,.int .i64 aa]]=>bif bq d0 o0 then pB [.sl .iv (J 1)] [[.sl .tok O,.int .i64]] (RS a1 a2 ae aa)else O
 |_,_=>O
def E83:Env Ty6 A2:=mkE [] [(79,Nf),(80,RA)] (lkR [(0,4,1),(0,1000107,1),(1,1000107,1),(2,1000107,1),(3,8,3),(3,1000107,1),(4,6,1),(4,1000107,1),(5,11,3),(6,7,1),(6,14,4),(6,1000107,1),(7,18,3),(7,1000107,1),(8,1,1),(8,5,1),(8,11,1),(8,21,1),(8,1000107,1),(10004,1000107,1)]) 22 [] 1 [] []
def RT{R:Type}(nn:Nat)(a1:rg)(ae:Gu)(aa:Int):Nat->List E5->Bool->Gu->Int->(List E5->Bool->Gu->Int->Option R)->Option R
 |0,_,_,_,_,_=>O
 |n+1,x5,x6,ah,ac,k2=>let k1:=λx5 x6 ah ac=>RT nn a1 ae aa n x5 x6 ah ac k2;bif x6 then(let r4:=Kg ah ac;gd (okB [.agg .named] [[.sl .tok O,.int .i64]] r4) (let z1:=(gT r4);let z2:=(gQ r4);gd (A3 (Aaa x5+1) 32) (let r3:=Kb a1 z1 z2;gd (okB [.bool] [[.sl .tok O,.int .i64]] r3) (k1 (x5++[(LA (gB r4 0))]) (lB (gB r3 0)) (gT r3) (gQ r3)))))else(k2 x5 x6 ah ac)
def C6Q{R}(nn a1 ae aa)(K:Kt R):∀n x5 x6 ah ac,RT nn a1 ae aa n x5 x6 ah ac (λx5 cY ah ac=>K (.exit 0) ⟨[eP 0 900000,eS 1 a1,eO 5 .named x5 105,eB 11 cY,zT ah ac],[105,900000]⟩)=LP E83 nn f83 143 n ⟨[eP 0 900000,eS 1 a1,eO 5 .named x5 105,eB 6 x6,zT ah ac],[105,900000]⟩ K:=λn=>n.rec (by intros;rfl) λn i=>by
 intros;rw[RT];simp only[i];kernel_rfl
def B3U(nn:Nat)(a1:rg)(ae:Gu)(aa:Int):Gr:=let r5:=Kb a1 ae aa;gd (okB [.bool] [[.sl .tok O,.int .i64]] r5) (RT nn a1 ae aa nn [] Z (gT r5) (gQ r5) (λz1 z2 z3 z4=>J ([.sl .named z1 (J 1)],[[.sl .tok z3 O,.int .i64 z4]])))
def RV(a1:rg)(ae:Gu)(aa:Int):Gr:=B3U NN a1 ae aa
def D2V(nn:Nat){a1:rg}{ae:Gu}{aa:Int}:D7 E83 nn f83 [0] [.ptr 900000 0,.str a1] [bxT ae aa]=B3U nn a1 ae aa:=by
 unfold B3U;simp(disch:=exact krl)only[lc1 (kB [0] [bxT ae aa]) (C6Q ..)];kernel_rfl
def S83:Ka
 |[.ptr d0 o0,.str a1],[[.sl .tok ae O,.int .i64 aa]]=>bif bq d0 o0 then pB [.sl .named (J 1)] [[.sl .tok O,.int .i64]] (RV a1 ae aa)else O
 |_,_=>O
def C4H:Env Ty6 A2:=mkE [] [(78,S78),(79,Nf),(80,RA),(82,S82),(84,S84),(151,UI),(152,B5j)] noD 94 [9,72] 2 [] [(72,109)]
def bxS(d:B5):Gt:=[.int .i64 d.kind,.bool d.extd,.bool d.note.has,.bool d.note.block,.str d.note.text,.str d.name,.sl .named d.ifaces (J 92000106),.sl .dir d.dirs (J 92000107),.sl .fd d.fields (J 92000108),.sl .iv d.inputs (J 92000109),.sl .named d.members (J 92000110),.sl .vald d.values (J 92000111),.sl .rd d.roots (J 92000112),.bool d.repeatable,.sl .named d.places (J 92000114),.int .i64 d.pos.line,.int .i64 d.pos.col]
def kS:List KD:=[.int .i64,.bool,.bool,.bool,.str,.str,.sl .named (J 92000106),.sl .dir (J 92000107),.sl .fd (J 92000108),.sl .iv (J 92000109),.sl .named (J 92000110),.sl .vald (J 92000111),.sl .rd (J 92000112),.bool,.sl .named (J 92000114),.int .i64,.int .i64]
def unS(r:Gr):B5:=⟨lI (gC r 1 0),lB (gC r 1 1),⟨lB (gC r 1 2),lB (gC r 1 3),lS (gC r 1 4)⟩,lS (gC r 1 5),OM (gC r 1 6),O5 (gC r 1 7),C6P (gC r 1 8),YY (gC r 1 9),OM (gC r 1 10),D4V (gC r 1 11),D1H (gC r 1 12),lB (gC r 1 13),OM (gC r 1 14),⟨lI (gC r 1 15),lI (gC r 1 16)⟩⟩
def rk_(s:List KD)(r:Gr)(K:Gu->Int->Gr):Gr:=gd (okB s [kT] r) (K (gT r) (gQ r))
def MU(T:Gu)(q:Int)(d:B5):Gr:=
 let a:=Ku T q
 rk_ [.agg .note] a λT q=>let w:=Kg T q;rk_ [.agg .named] w λT q=>let w:=LA (gB w 0);bif d.kind==1
  then rk_ [.bool] (Kb [58] T q) λT q=>let t:=LU T q;rk_ [.agg .tok] t λT q=>
   let j:Int->Gr:=λk=>let j:Int->Gr:=λk=>gd (A3 (Aaa d.roots+1) 40) (J ([],[bxT T q,bxS {d with roots:=d.roots++[⟨k,(G3 (gB t 0)).text,w.pos⟩]}]))
    bif w.name==[115,117,98,115,99,114,105,112,116,105,111,110]then j 3 else j k
   bif w.name==[109,117,116,97,116,105,111,110]then j 2 else j 1
  else bif d.kind==6 then(let e:=MS T q;rk_ [.sl .dir (J 1)] e λT q=>gd (A3 (Aaa d.values+1) 80) (J ([],[bxT T q,bxS {d with values:=d.values++[⟨QV (gB a 0),w.name,O5 (gB e 0),w.pos⟩]}])))
  else let v:=RS [40] [41] T q;rk_ [.sl .iv (J 1)] v λT q=>rk_ [.bool] (Kb [58] T q) λT q=>let r:=B2I T q;rk_ [.agg .tref] r λT q=>let e:=MS T q;rk_ [.sl .dir (J 1)] e λT q=>
   gd (A3 (Aaa d.fields+1) 136) (J ([],[bxT T q,bxS {d with fields:=d.fields++[⟨QV (gB a 0),w.name,YY (gB v 0),Lv (gB r 0),O5 (gB e 0),w.pos⟩]}]))
def D5Z{T:Gu}{q:Int}{d:B5}:D7 C4H NN f154 [0,1] [.ptr 900000 0,.ptr 900001 0] [bxT T q,bxS d]=MU T q d:=GM
def ofS:Gt->Option B5
 |[.int .i64 b0,.bool b1,.bool b2,.bool b3,.str b4,.str b5,.sl .named b6 (J n6),.sl .dir b7 (J n7),.sl .fd b8 (J n8),.sl .iv b9 (J n9),.sl .named Ew (J Ey),.sl .vald Ez (J EA),.sl .rd EB (J ED),.bool EE,.sl .named EF (J EG),.int .i64 EH,.int .i64 EI]=>
  bif(Aac n6 92000106)&&(Aac n7 92000107)&&(Aac n8 92000108)&&(Aac n9 92000109)&&(Aac Ey 92000110)&&(Aac EA 92000111)&&(Aac ED 92000112)&&(Aac EG 92000114)then J ⟨b0,b1,⟨b2,b3,b4⟩,b5,b6,b7,b8,b9,Ew,Ez,EB,EE,EF,⟨EH,EI⟩⟩else O
 |_=>O
def C0f{l:Gt}{d:B5}(h:ofS l=J d):l=bxS d:=by
 unfold ofS at h;split at h;obtain⟨hc,h⟩:=A5 h;simp only[Fn,Js]at hc;obtain⟨⟨⟨⟨⟨⟨⟨rfl,rfl⟩,rfl⟩,rfl⟩,rfl⟩,rfl⟩,rfl⟩,rfl⟩:=hc;cases h;rfl;cases h
def S2S(F:Gu->Int->B5->Gr):Ka
 |[.ptr d0 o0,.ptr d1 o1],[[.sl .tok T O,.int .i64 q],l]=>bif bq d0 o0&&(Aac d1 900001&&Aac o1 0)then(match ofS l with|J d=>pB [] [kT,kS] (F T q d)|O=>O)else O
 |_,_=>O
def B6Z:Ka:=S2S MU
def E85:Env Ty6 A2:=mkE [] [(79,Nf),(82,S82),(154,B6Z)] (lkR [(0,4,3),(1,9,1),(2,7,2),(2,10,5),(3,8,1),(3,16,1),(4,17,1),(5,18,1),(6,7,1),(6,19,1),(7,7,1),(7,15,1),(7,20,2),(8,23,2),(9,25,4),(10008,22,1)]) 29 [] 2 [] []
end Go.Aev
namespace Go.Aev.Sy
def P9(n:G5):Prop:=n.text.length<=8400000/\(n.block=Z->(btF n.text).2=Z)
def J2(n:G5)(g:rg):rg:=bif n.has then qq n.block n.text++g else []
def GIv(v:IvT):Prop:=P9 v.note/\v.name.length<=8400000/\GTy v.type_/\(∀{b:Bool},v.hasDefault=b->F5 DD v.dflt/\wt DD v.dflt<=1100000)/\GL K1 v.dirs
def I8(v:IvT):rg:=bif v.hasDefault then [32,61,32]++prN DD v.dflt else []
def LY(v:IvT):rg:=v.name++[58,32]++prT v.type_++I8 v++E2 v.dirs
def RW(v:IvT):rg:=J2 v.note [32]++LY v
def N8(v:IvT):rg:=[32,32]++J2 v.note [10,32,32]++LY v
def GNm(n:E5):Prop:=n.name.length<=8400000
def Q5(n:E5):rg:=[32]++n.name
section
variable {T:Gu}{D:Int}{st:Gy}{i:Nat}{o:Int}{t:A0}
def B2j:Is [61] LV 2:=U2 (λt=>rfl) GO
def C3a{n:G5}{g:rg}(hn:P9 n)(hg:g.length<=100):(J2 n g).length<=120000000:=by
 have:=B7C n.block hn.1;unfold J2;cases n.has;simp;rw[GD,Fd];omega
def B62{X Y:rg}{C:(rg->Bool)->Bool}(tw:TW T)(h:Ac T D (X::st) i o)(hN:okN X=Z)(hX:∀B,ch B X=bif B J3 then([J3,Y],Z)else bif C B then([Y],Z)else([],V))(h0:0<=o)(h1:o<=D)(hD:D<=200):
  ∃n j,Ku T (i:Int)=J ([.agg .note n],rd T j)/\Ac T D (Y::st) j o/\i<=j/\P9 n/\∀g:rg,g.length<=100->lq (J2 n g).length i j:=by
 obtain⟨t,ht,hk,hl,c1,c2⟩:=h.rl tw hN;rw[hX]at c1 c2;obtain⟨n,e,g1,g2,g3⟩:=B5n tw ht;cases hb:Bt t J3 with
 |true=>
  rw[hb]at c2 e;obtain⟨_,_,_,_,_,_,c3⟩:=MT tw c2 GM h0 h1 hD;exact⟨n,i+1,e,c3,FK,⟨g1,g2⟩,λg hg=>lq.tok FK (C3a ⟨g1,g2⟩ hg)⟩
 |false=>
  rw[hb]at c1 c2 e g3;cases hc:C (Bt t)with
  |false=>rw[hc]at c1;cases c1
  |true=>
   rw[hc]at c2;exact⟨n,i,e,c2,GU _,⟨g1,g2⟩,λg _=>by unfold J2;rw[g3];exact lq.nil (GU _)⟩
def B3w(tw:TW T)(hD:D<=200)(h0:0<=o)(h1:o<=D)(h:Ac T D (Np::st) i o):∃r j,B2I T (i:Int)=J ([.agg .tref r],rd T j)/\Ac T D st j o/\i<j/\GTy r:=by
 obtain⟨r,j,e,c,h1,h2,h3⟩:=Zo tw hD DD i o st (by have:DD=1000000:=rfl;omega) h0 h1 h;exact⟨r,j,e,c,h1,h2,FK⟩
def D4k{B:rg->Bool}:ch B Z7=bif B J3 then([J3,XV],Z)else bif(λ(B:rg->Bool)=>B B4||V) B then([XV],Z)else([],V):=GM
def C9x{B:rg->Bool}:ch B XV=bif B B4 then(B4::[Y0,Np,B3s,C6],Z)else([],V):=GM
def D5R{B:rg->Bool}:ch B B3s=bif B LV then([LV,Y3],Z)else([],Z):=GM
def D0q{B:rg->Bool}:ch B Nr=bif bg B 9 (Z7::[]++[Nr])then(Z7::[]++[Nr],Z)else([],Z):=GM
def D5j(tw:TW T)(hD:D<=200)(h0:0<=o)(h1:o<=D){R:Type}{a z:rg}{b1:Int}{k2:List IvT->Bool->Gu->Int->Option R}(n:Nat){vs:List IvT}(hr:A3 (Aaa vs+1) 216=Z)(ef:Kb z T (i:Int)=J ([.bool V],rd T i))(c:Ac T D (Z7::st) i o):
  ∃(v:IvT)(j:Nat),Nt NN a z T b1 (n+1) vs T (i:Int) k2=Nt NN a z T b1 n (vs++[v]) T (j:Int) k2/\Ac T D st j o/\i<j/\GIv v/\lq ((N8 v).length+2) i j:=by
 have gK:=tw.len;obtain⟨nt,i1,en,c1,cD,gn,ln⟩:=B62 tw c GM (λB=>D4k) h0 h1 hD;obtain⟨t,ht,hk,hb,hl,ky,c2⟩:=RR tw c1 GM (λB=>C9x) GM h0 h1 hD;obtain⟨nO,c3⟩:=UY A8A tw c2 GM h0 h1 hD;obtain⟨r,j1,et,c4,kX,gt⟩:=B3w tw hD h0 h1 c3;obtain⟨t2,jz,cK,js,c5,c6⟩:=Ac.rl tw c4 GM;rw[D5R]at c5 c6;have lt:=gt.len;have ln:=ln [10,32,32] GO;have lb:lq (t.text.length+(prT r).length+12) i1 j1:=lq.tok FK (by have:=hk.1;omega);have len:∀v:IvT,v.note=nt->v.name=t.text->v.type_=r->(N8 v).length+2<=(J2 nt [10,32,32]).length+((t.text.length+(prT r).length+12)+((I8 v).length - 3+(E2 v.dirs).length)):=λv h1 h2 h3=>by
  unfold N8 LY;rw[h1,h2,h3];simp only[Fd,Fr,GT];omega
 cases he:Bt t2 LV with
 |false=>
  rw[he]at c6;have yz:Kb [61] T (j1:Int)=J ([.bool V],rd T j1):=by rw[L9 tw B2j jz,he];rfl
  obtain⟨ds,j,ed,c7,hj,ji,ld⟩:=V2 tw hD h0 h1 (.inl c6);refine⟨⟨nt,t.text,r,V,.mk 0 [] V [] [] ⟨0,0⟩,ds,t.pos⟩,j,?_,c7,FK,⟨gn,hk.1,gt,λ_=>C3P,ji⟩,(ln.comp (lb.comp ld)).le ?_⟩
  ·conv=>lhs;unfold Nt
   simp only[gd,ef,kb,rd0,rd1,qb,GD,GF,HP,en,ko,qo,ky,kn,qn,nO,et,kr,qr,yz,ed,kd,qd,hr]
  refine HT (len _ rfl rfl rfl) ?_;show _+(_+(0 - 3+(E2 ds).length))<=_;omega
 |true=>
  rw[he]at c6;obtain⟨yz,c7⟩:=UY B2j tw c6 GM h0 h1 hD;obtain⟨v,j2,ev,c8,lP,g3,g4⟩:=Qz tw hD DD (j1+1) o (C6::st) (by have:DD=1000000:=rfl;omega) h0 h1 c7;obtain⟨ds,j,ed,c9,hj,ji,ld⟩:=V2 tw hD h0 h1 (.inl c8);have si:=c8.lt;have ev:RQ T ((j1+1:Nat):Int)=J ([.agg .lit v],rd T j2):=ev;refine⟨⟨nt,t.text,r,Z,v,ds,t.pos⟩,j,?_,c9,FK,⟨gn,hk.1,gt,λ_=>⟨g3,by show wt DD v<=_;omega⟩,ji⟩,(ln.comp (lb.comp ((lq.nil (IS j1)).comp ((B2y (n:=(prN DD v).length) g3 g4 (wt1 v) (IY _ _)).comp ld)))).le ?_⟩
  ·conv=>lhs;unfold Nt
   simp only[gd,ef,kb,rd0,rd1,qb,GD,GF,HP,en,ko,qo,ky,kn,qn,nO,et,kr,qr,yz,ev,kl,ql,ed,kd,qd,hr];cases v;rfl
  refine HT (len _ rfl rfl rfl) ?_;have:(I8 ⟨nt,t.text,r,Z,v,ds,t.pos⟩).length=3+(prN DD v).length:=by show([32,61,32]++prN DD v:rg).length=_;simp;omega
  rw[this];show _+(_+(3+(prN DD v).length - 3+(E2 ds).length))<=_;omega
def ki(x:List IvT):okB [.sl .iv (J 1)] [[.sl .tok O,.int .i64]] (J ([.sl .iv x (J 1)],rd T i))=Z:=rfl
def qi(y:List IvT)(x:Gz):YY (gB (J ([.sl .iv y (J 1)],x)) 0)=y:=rfl
def Bkt(T:Gu)(D:Int)(a:rg)(E st:Gy)(i:Nat)(o:Int):Prop:=∃t,T[i]?=J t/\((Bt t a=Z/\Ac T D (a::E++st) i o)\/(Bt t a=V/\Ac T D st i o))
def C3l{x y a z:rg}{k k':Int}(tw:TW T)(hD:D<=200)(h0:0<=o)(h1:o<=D)(By:Is x a k)(EJ:Is y z k')(ha:(R2 a&&(br a==1))=Z)(hz:(R2 z&&(br z== -1))=Z)(hx:fx Z7 z=Z)(h:Bkt T D a [Z7,Nr,z] st i o):
  ∃l,∃j:Nat,RS x y T (i:Int)=J ([.sl .iv l (J 1)],rd T j)/\Ac T D st j o/\i<=j/\GL GIv l/\lq (sl N8 l+(if l=[]then 0 else 10)) i j:=by
 have gK:=tw.len;rw[Fn,beq_iff_eq]at ha hz;obtain⟨t,ht,⟨hb,c⟩|⟨hb,c⟩⟩:=h;obtain⟨_,_,_,_,hl,dW,c1⟩:=Ac.tm tw c ha.1 h0 FK;have dW:=dW ha.2;rw[ha.2]at c1;have e1:Kb x T (i:Int)=J ([.bool Z],rd T (i+1)):=by rw[L9 tw By ht,hb];rfl
 obtain⟨l,j,e,a1,a2,a3,a4⟩:=XZ (A:=List IvT) (R:=B6) (D:=D) (o:=o+1) (st:=st) (Lf:=λm a q=>Nt NN x y T (i:Int) m a T (q:Int) (λz4 z5 z6 z7=>J ([.sl .iv z4 (J 1)],[[.sl .tok z6 O,.int .i64 z7]])))
  (K:=λa q=>J ([.sl .iv a (J 1)],rd T q)) (Inv:=λa q=>Rg GIv N8 a (i+1) q) tw EJ hz.1 GM (λB=>D0q) hx FK FK
  (λm a q e=>by unfold Nt;simp only[gd,e,kb,rd0,rd1,qb,GD,HY,GF];rfl)
  (λm a q hi hl e ha=>by
   obtain⟨v,j,e2,c2,hj,g1,g2⟩:=D5j tw hD FK FK m (hi.rm FK FK) e ha;exact⟨a++[v],j,hj,e2,hi.add g1 hj g2,c2⟩) NN [] (i+1) Rg.nil (.inr c1) (by rw[NNv];omega)
 refine⟨l,j+1,?_,by simpa [hz.2,show o+1+ -1=o from FK]using a3,FK,a4.gl FK,((lq.tok (n:=10) (HX i) FK).comp (a4.2.2.comp (lq.nil (IS j)))).le (by split<;>omega)⟩;simp only[RS,A8Z,gd,e1,kb,rd0,rd1,qb,GD,HY,GF];exact e;have e1:Kb x T (i:Int)=J ([.bool V],rd T i):=by rw[L9 tw By ht,hb];rfl
 refine⟨[],i,?_,c,GU _,GL.nil,lq.nil (GU _)⟩;simp only[RS,A8Z,gd,e1,kb,rd0,rd1,qb,GD,HP];rfl
def C7E{B:rg->Bool}:ch B PX=bif B Nq then([Nq,Z7,Nr,XU],Z)else([],Z):=GM
def B87(tw:TW T)(hD:D<=200)(h0:0<=o)(h1:o<=D)(h:Ac T D (PX::st) i o):
  ∃l,∃j:Nat,RS [40] [41] T (i:Int)=J ([.sl .iv l (J 1)],rd T j)/\Ac T D st j o/\i<=j/\GL GIv l/\lq (sl N8 l+(if l=[]then 0 else 10)) i j:=by
 obtain⟨t,ht,hk,hl,c1,c2⟩:=h.rl tw GM;rw[C7E]at c1 c2;refine C3l tw hD h0 h1 B66 B9M GM GM GM ⟨t,ht,?_⟩;cases hb:Bt t Nq with
 |true=>rw[hb]at c2;exact .inl ⟨rfl,c2⟩
 |false=>rw[hb]at c2;exact .inr ⟨rfl,c2⟩
def kNq(x:List E5):okB [.sl .named (J 1)] [[.sl .tok O,.int .i64]] (J ([.sl .named x (J 1)],rd T i))=Z:=rfl
def qN(y:List E5)(x:Gz):OM (gB (J ([.sl .named y (J 1)],x)) 0)=y:=rfl
def C2c{x s L m:rg}{k:Int}{R:Type}{b1:Int}{k2:List E5->Bool->Gu->Int->Option R}{i0:Nat}(tw:TW T)(hD:D<=200)(h0:0<=o)(h1:o<=D)(hI:Is x m k)(hm:(R2 m&&(br m==0))=Z)(hs:(R2 s&&(br s==0))=Z)(hN:okN L=Z)(hL:∀B,ch B L=bif B m then([m,s,L],Z)else([],Z)):
  ∀(n i:Nat)(a:List E5),Rg GNm Q5 a i0 i->Ac T D (s::L::st) i o->T.length<n+i->∃(a':List E5)(j:Nat),RT NN x T b1 n a Z T (i:Int) k2=k2 a' V T (j:Int)/\Ac T D st j o/\i<j/\j<T.length/\Rg GNm Q5 a' i0 j/\a'≠[]
 |0,i,a,_,c,hn=>by have:=c.lt;omega
 |1,i,a,_,c,hn=>by have:=c.lt;omega
 |n+1+1,i,a,hi,c,hn=>by
  have gK:=tw.len;obtain⟨t,ht,hk,hb,hl,ky,c1⟩:=MT tw c hs h0 h1 hD;have hr:A3 (Aaa a+1) 32=Z:=hi.rm FK FK;have qX:Rg GNm Q5 (a++[⟨t.text,t.pos⟩]) i0 (i+1):=hi.add hk.1 (HX i) (lq.tok (HX i) (by have:=hk.1;show([32]++t.text:rg).length+2<=_;simp;omega));obtain⟨t2,jz,cK,js,c2,c3⟩:=Ac.rl tw c1 hN;rw[hL]at c2 c3;have e2:=L9 tw hI jz;cases fq:Bt t2 m with
  |true=>
   rw[fq]at c3 e2;obtain⟨_,_,_,_,_,_,c4⟩:=MT tw c3 hm h0 h1 hD;obtain⟨a',j,e,c5,g1,g2,g3⟩:=C2c (i0:=i0) (b1:=b1) (k2:=k2) tw hD h0 h1 hI hm hs hN hL (n+1) (i+1+1) _ (by
    obtain⟨q1,q2,q3⟩:=qX;exact⟨q1,FK,q3.comp (lq.nil (IS (i+1)))⟩) c4 FK
   refine⟨a',j,?_,c5,FK,g2,g3⟩
   conv=>lhs;unfold RT
   simp only[gd,GD,ky,kn,qn,rd0,rd1,hr,e2,kb,qb];exact e
  |false=>
   rw[fq]at c3 e2;refine⟨_,i+1,?_,c3,HX i,js,qX,GN⟩
   conv=>lhs;unfold RT
   simp only[gd,GD,ky,kn,qn,rd0,rd1,hr,e2,kb,qb];unfold RT;rfl
def B4d{zA x s L m:rg}{k:Int}(tw:TW T)(hD:D<=200)(h0:0<=o)(h1:o<=D)(h:Ac T D (zA::s::L::st) i o)(hI:Is x m k)(hm:(R2 m&&(br m==0))=Z)(hs:(R2 s&&(br s==0))=Z)(hN:(okN L&&okN zA)=Z)(hL:∀B,ch B L=bif B m then([m,s,L],Z)else([],Z))(hO:∀B,ch B zA=bif B m then([m],Z)else([],Z)):
  ∃l,∃j:Nat,RV x T (i:Int)=J ([.sl .named l (J 1)],rd T j)/\Ac T D st j o/\i<j/\GL GNm l/\l≠[]/\lq (sl Q5 l) i j:=by
 have gK:=tw.len;rw[Fn]at hN hm;rw[beq_iff_eq]at hm;obtain⟨b,i1,e1,c1,g1,g2⟩:=B71 tw hI hN.2 hO hm.1 hm.2 h h0 FK;obtain⟨a,j,e,c2,g3,g4,g5,g6⟩:=C2c (R:=B6) (i0:=i1) (b1:=(i:Int)) (k2:=λz1 z2 z3 z4=>J ([.sl .named z1 (J 1)],[[.sl .tok z3 O,.int .i64 z4]])) tw hD h0 h1 hI (by rw[hm.1,hm.2];rfl) hs hN.1 hL NN i1 [] Rg.nil c1 (by rw[NNv];omega);refine⟨a,j,?_,c2,FK,g5.gl FK,g6,((lq.nil g1).comp g5.2.2).le FK⟩;simp only[RV,B3U,gd,e1,kb,rd0,rd1,qb,GD];exact e
end
end Go.Aev.Sy
