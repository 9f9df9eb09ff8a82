/- Proved here: lemmas that the claim's text uses. Conditions: those that each lemma states. -/
import Derived.Test.YtolabkginnkhgaaGreatDoorX3
set_option maxRecDepth 100000
set_option linter.unusedVariables false
set_option linter.unusedSimpArgs false
set_option linter.defProp false
open Option renaming some->J,none->O
open Bool renaming true->Z,false->V
open Go.Proofs.Tryz
open List renaming length->Aaa,range->Aak,map->Aa8
open Go.Proofs.Tryz renaming prog->Aab,f20->Aaf,f25->Aai,f8->Aar,f89->Aav,f11->Aaw,f85->Aa1,f234->Aa2,f21->Aa3,call216->Abc,call20->Abd,call187->Abe,call186->Abf,call184->Abg,call148->Abh,call147->Abi,call133->Abj
open Go.IntKind renaming wrap->Aac
open Int renaming tmod->Aad
open Go renaming wpList_plain->Aae,wpList_nil->Aag,wpList->Aah,TypeId->Aan,wpAnyH->Aap,execOp->Aaq,Program->Aat,Operand->Aau,ready_mono->Aaz
open Go.Region renaming ready->Aaj,wanted->Aax,noSelect->Aa4,free->Aa5,binds->Aa6
open Nat renaming beq->Aal,blt->Aam
open Go.Value renaming slice->Aao
open Go.Program renaming underlying->Aas
open Go.Exit renaming inBlock->Aay
open UInt8 renaming ofNat->Aa0
open Go.Made renaming depth->Aa7
open Go.Builtin renaming lenOf->Aba
open Go.Value.agg renaming injEq->Abb
open Array renaming toList->Abk,replicate->Abl
namespace Go.Aev
open Go.Proofs
def C4I(T:Gu)(q:Int)(d:B5):S6:=⟨[eP 0 900000,eP 1 900001,(1900000,.bx 900000 (bxT T q)),(1900001,.bx 900001 (bxS d))],[900000,900001,92000106,92000107,92000108,92000109,92000110,92000111,92000112,92000114]⟩
def MV{R:Type}:Nat->Gu->Int->B5->(Bool->Gu->Int->B5->Option R)->Option R
 |0,_,_,_,_=>O
 |n+1,T,q,d,k=>let r:=Kb [125] T q;gd (okB [.bool] [kT] r) (let T:=gT r;let q:=gQ r;bif !(lB (gB r 0))then(let r:=MU T q d;gd (okB [] [kT,kS] r) (MV n (gT r) (gQ r) (unS r) k))else k (!(lB (gB r 0))) T q d)
def D0x{R}(nn)(K:Kt R):∀n T q d,MV n T q d (λx T q d=>K (.exit 1) ⟨[eP 0 900000,eP 1 900001,eB 25 x,(1900000,.bx 900000 (bxT T q)),(1900001,.bx 900001 (bxS d))],[900000,900001,92000106,92000107,92000108,92000109,92000110,92000111,92000112,92000114]⟩)=LP E85 nn Aa1 605 n (C4I T q d) K:=λn=>n.rec (by intros;rfl) λn i=>by
 intros;rw[MV];simp only[i];kernel_rfl
def c85(T:Gu)(q:Int)(d:B5)(K:Gu->Int->Gr):Gr:=
 bif d.kind==7 then(let r:=RS [123] [125] T q;gd (okB [.sl .iv (J 1)] [kT] r) (J ([],[bxT (gT r) (gQ r),bxS {d with inputs:=YY (gB r 0)}])))
 else(let b:Gr:=(let r:=Kb [123] T q;gd (okB [.bool] [kT] r) (let T:=gT r;let q:=gQ r;bif !(lB (gB r 0))then J ([],[bxT T q,bxS d])else K T q))
  let j:Bool->Gr:=λx=>bif x then b else J ([],[bxT T q,bxS d])
  bif d.kind==1 then j (d.kind==1)else bif d.kind==3 then j (d.kind==3)else bif d.kind==4 then j (d.kind==4)else bif d.kind==6 then b else J ([],[bxT T q,bxS d]))
def B7X(nn:Nat)(T:Gu)(q:Int)(d:B5):Gr:=c85 T q d λT q=>MV nn T q d λ_ T q d=>J ([],[bxT T q,bxS d])
def Pe(T:Gu)(q:Int)(d:B5):Gr:=B7X NN T q d
def D2F(nn:Nat){T:Gu}{q:Int}{d:B5}:D7 E85 nn Aa1 [0,1] [.ptr 900000 0,.ptr 900001 0] [bxT T q,bxS d]=B7X nn T q d:=by
 refine .trans (b:=c85 T q d λT' q'=>LP E85 nn Aa1 605 nn (C4I T' q' d) (Mi 1 (Mi 0 (VH E85 f85.results.toList [0,1] [bxT T q,bxS d])))) GM ?_;simp only[<-D0x];show _=_;kernel_rfl
def S85:Ka:=S2S Pe
def E36:Env Ty6 A2:=mkE [(81,S81)] [(78,S78),(79,Nf),(80,RA),(82,S82),(83,S83),(84,S84),(85,S85)] noD 85 [2,3] 1 [2,3] []
def w36(k:Int)(x:Bool)(n:G5)(nm:rg)(pos:A4)(ifs:List E5)(ds:List C3)(mbs:List E5)(T:Gu)(q:Int):Gr:=
 let r:=Pe T q ⟨k,x,n,nm,ifs,ds,[],[],mbs,[],[],V,[],pos⟩
 gd (okB [] [kT,kS] r) (J ([.agg .sys (unS r)],[bxT (gT r) (gQ r)]))
def d36(k:Int)(x:Bool)(n:G5)(nm:rg)(pos:A4)(ifs:List E5)(T:Gu)(q:Int):Gr:=
 let r:=MS T q
 rk_ [.sl .dir (J 1)] r λT q=>bif(k==5)==Z
  then(let s:=Kb [61] T q;rk_ [.bool] s λT q=>bif lB (gB s 0)then(let u:=RV [124] T q;rk_ [.sl .named (J 1)] u λT q=>w36 k x n nm pos ifs (O5 (gB r 0)) (OM (gB u 0)) T q)else w36 k x n nm pos ifs (O5 (gB r 0)) [] T q)
  else bif V then(let u:=RV [124] T q;rk_ [.sl .named (J 1)] u λT q=>w36 k x n nm pos ifs (O5 (gB r 0)) (OM (gB u 0)) T q)else w36 k x n nm pos ifs (O5 (gB r 0)) [] T q
def i36(c:Bool)(k:Int)(x:Bool)(n:G5)(nm:rg)(pos:A4)(T:Gu)(q:Int):Gr:=
 bif c==Z
  then(let s:=Kb [105,109,112,108,101,109,101,110,116,115] T q;rk_ [.bool] s λT q=>bif lB (gB s 0)then(let u:=RV [38] T q;rk_ [.sl .named (J 1)] u λT q=>d36 k x n nm pos (OM (gB u 0)) T q)else d36 k x n nm pos [] T q)
  else bif V then(let u:=RV [38] T q;rk_ [.sl .named (J 1)] u λT q=>d36 k x n nm pos (OM (gB u 0)) T q)else d36 k x n nm pos [] T q
def t36(k:Int)(x:Bool)(n:G5)(nm:rg)(pos:A4)(T:Gu)(q:Int):Gr:=
 bif k==8
  then(let r:=RS [40] [41] T q;rk_ [.sl .iv (J 1)] r λT q=>let s:=Kb [114,101,112,101,97,116,97,98,108,101] T q;rk_ [.bool] s λT q=>rk_ [.bool] (Kb [111,110] T q) λT q=>let u:=RV [124] T q
   gd (okB [.sl .named (J 1)] [[.sl .tok O,.int .i64]] u) (J ([.agg .sys ⟨k,x,n,nm,[],[],[],YY (gB r 0),[],[],[],lB (gB s 0),OM (gB u 0),pos⟩],[[.sl .tok (gT u) O,.int .i64 (gQ u)]])))
  else bif(k==3)==V then i36 (k==4) k x n nm pos T q else i36 Z k x n nm pos T q
def n36(k:Int)(x:Bool)(n:G5)(pos:A4)(T:Gu)(q:Int):Gr:=
 bif k !=1 then(let r:=Kg T q;rk_ [.agg .named] r λT q=>t36 k x n (LA (gB r 0)).name (LA (gB r 0)).pos T q)else t36 k x n [] pos T q
def F36(T:Gu)(q:Int):Gr:=
 let a:=Ku T q
 rk_ [.agg .note] a λT q=>let e:=Kb [101,120,116,101,110,100] T q;rk_ [.bool] e λT q=>let w:=Kg T q;rk_ [.agg .named] w λT q=>let r:=F81 (LA (gB w 0)).name
  gd (okR [.int .i64] r) (bif lI (gL r 0)==8 then rk_ [.bool] (Kb [64] T q) (n36 (lI (gL r 0)) (lB (gB e 0)) (QV (gB a 0)) (LA (gB w 0)).pos)else n36 (lI (gL r 0)) (lB (gB e 0)) (QV (gB a 0)) (LA (gB w 0)).pos T q)
def D6m{ae:Gu}{aa:Int}:D7 E36 NN f36 [0] [.ptr 900000 0] [bxT ae aa]=F36 ae aa:=GM
def S36:Ka
 |[.ptr d0 o0],[[.sl .tok ae O,.int .i64 aa]]=>bif bq d0 o0 then pB [.agg .sys] [[.sl .tok O,.int .i64]] (F36 ae aa)else O
 |_,_=>O
def Xa:Env Ty6 A2:=mkE [(24,S24),(33,S33),(34,S34),(35,S35)] [(36,S36)] (lkR [(0,4,1),(0,1000108,1),(0,1000111,1),(0,1000134,1),(1,12,1),(1,1000108,1),(1,1000111,1),(1,1000134,1),(2,13,1),(2,1000108,1),(2,1000111,1),(2,1000134,1),(3,13,2),(3,1000108,1),(3,1000111,1),(3,1000134,1),(4,15,1),(4,1000108,1),(4,1000111,1),(4,1000134,1),(5,0,1),(5,15,3),(5,1000108,1),(5,1000111,1),(5,1000134,1),(6,1,1),(6,18,8),(6,1000111,1),(6,1000134,1),(7,26,1),(7,1000111,1),(7,1000134,1),(8,6,3),(8,27,5),(8,1000108,1),(8,1000111,1),(8,1000134,1),(9,6,3),(9,27,1),(9,32,3),(9,1000108,1),(9,1000111,1),(10,1000108,1),(10,1000111,1),(11,35,11),(11,1000108,1),(11,1000111,1),(12,46,3),(12,1000108,1),(13,11,1),(13,49,4),(13,1000108,1),(13,1000111,1),(14,9,2),(14,46,1),(14,53,2),(14,1000108,1),(14,1000111,1),(14,1000134,1),(10011,1000108,1),(10011,1000111,1)]) 55 [5,8,33,34,54] 0 [5] [(33,134),(54,105)]
def C3z(a0:Gp)(a1:Int)(aI:List B5)(aT:Gu)(aU:Int):S6:=⟨[eP 5 105,eP 9 134,eO 10 .sys aI 110,(1000105,.bx 105 [.int .i64 0,.sl .pos [] (J 2010501),.sl .step [] (J 2010502)]),(1000134,.bx 134 [.sl .tok aT O,.int .i64 aU])],[105,110,134,2010501,2010502]⟩
def Pf{R:Type}(nn:Nat)(a0:Gp)(a1:Int):Nat->List B5->Gu->Int->(List B5->Bool->Gu->Int->Option R)->Option R
 |0,_,_,_,_=>O
 |n+1,aI,aT,aU,k2=>let k1:=λaI aT aU=>Pf nn a0 a1 n aI aT aU k2;match idx aT aU with|O=>O|J y1=>(bif(y1.kind !=0)then(let r2:=F36 aT aU;gd (okB [.agg .sys] [[.sl .tok O,.int .i64]] r2) (gd (A3 (Aaa aI+1) 272) (k1 (aI++[(B9W (gB r2 0))]) (gT r2) (gQ r2))))else(k2 aI (y1.kind !=0) aT aU))
def D0O{R}(nn a0 a1)(K:Kt R):∀n aI aT aU,Pf nn a0 a1 n aI aT aU (λaI EK aT aU=>K (.exit 0) ⟨[eP 5 105,eP 9 134,eO 10 .sys aI 110,eB 46 EK,(1000105,.bx 105 [.int .i64 0,.sl .pos [] (J 2010501),.sl .step [] (J 2010502)]),(1000134,.bx 134 [.sl .tok aT O,.int .i64 aU])],[105,110,134,2010501,2010502]⟩)=LP Xa nn Aaw 2303 n (C3z a0 a1 aI aT aU) K:=λn=>n.rec (by intros;rfl) λn i=>by
 intros;rw[Pf];simp only[i];kernel_rfl
def c11(lp:Gu->Gq)(a0:Gp)(D:Int):Gq:=gd (okR [.sl .tok (J 1)] (Km a0)) (let T:=(T8 (gL (Km a0) 0));gd (okR [.sl .str (J 1)] Zz) (let r:=F34 (F0 (gL Zz 0));gd (okR [.sl .rule (J 1)] r) (let r:=MR (C1x (gL r 0)) [68,79,67] T D;gd (okR [.int .i64,.agg .pos] r) (bif(lI (gL r 0) !=0)then(J (.tup [.sl .sys [] O,.agg .fault (⟨lI (gL r 0),[C5b (gL r 1)],[]⟩:T5)]))else lp T))))
def d11(lp:Gu->Gq)(a0:Gp)(a1:Int):Gq:=bif decide (a1<0)then(bif V then c11 lp a0 200 else c11 lp a0 0)else bif decide (a1>200)then c11 lp a0 200 else c11 lp a0 a1
def A95(nn:Nat)(a0:Gp)(a1:Int):Gq:=d11 (λT=>Pf nn a0 a1 nn [] T 0 (λz6 z7 z8 z9=>J (.tup [.sl .sys z6 (J 1),.agg .fault (⟨0,[],[]⟩:T5)]))) a0 a1
def LZ(a0:Gp)(a1:Int):Gq:=A95 NN a0 a1
def D2r(nn:Nat){a0:Gp}{a1:Int}:P4 Xa nn Aaw [.sl .u8 a0 O,.int .i64 a1]=A95 nn a0 a1:=by
 refine .trans (b:=d11 (λz2=>LP Xa nn Aaw 2303 nn (C3z a0 a1 [] z2 0) (Mi 0 (sk Xa nn Aaw [1,1,1,1,1,1,1,1,1] (VG Xa Tryz.f11.results.toList)))) a0 a1) GM ?_;simp only[<-D0O];show _=_;kernel_rfl
def YF:KY
 |[.sl .u8 a0 O,.int .i64 a1]=>pR [.slc .sys,.agg .fault] (LZ a0 a1)
 |_=>O
def E87:Env Ty6 A2:=mkE [] [(27,Kk)] (lkR [(0,1,1),(0,1000107,1),(1,1000107,1),(2,11,4),(3,6,1),(3,15,1),(4,16,5),(5,7,1),(5,16,1),(5,21,5),(5,1000107,1),(6,26,1),(6,1000107,1),(10001,1000107,1)]) 27 [7] 1 [] []
def Ph{R:Type}(nn:Nat)(a1:List E5)(a2:rg)(aa:Gp):Nat->Int->Int->Gp->(Int->Int->Bool->Gp->Option R)->Option R
 |0,_,_,_,_=>O
 |n+1,x9,aI,ac,k2=>let k1:=λx9 aI ac=>Ph nn a1 a2 aa n x9 aI ac k2;let z1:=decide (aI<x9);bif z1 then(let j2:Int->Int->Gp->Option R:=λz3 z4 z5=>k1 z3 (Aac .i64 (z4+1)) z5;match idx a1 aI with|O=>O|J y6=>(let z7:=decide (aI>0);bif z7 then(let cF:=Kc [[32],a2,[32]] ac;gd (okB [] kP cF) (let z8:=(gP cF);let r9:=Kc [y6.name] z8;gd (okB [] kP r9) (j2 x9 aI (gP r9))))else(let dz:=Kc [y6.name] ac;gd (okB [] kP dz) (j2 x9 aI (gP dz)))))else(k2 x9 aI z1 ac)
def C9H{R}(nn a1 a2 aa)(K:Kt R):∀n x9 aI ac,Ph nn a1 a2 aa n x9 aI ac (λx9 aI cY ac=>K (.exit 0) ⟨[eP 0 900000,eS 2 a2,eL 8 .named a1,eI 9 x9,eI 10 aI,eB 11 cY,zP ac],[900000,900000,92000001]⟩)=LP E87 nn f87 9 n ⟨[eP 0 900000,eS 2 a2,eL 8 .named a1,eI 9 x9,eI 10 aI,zP ac],[900000,900000,92000001]⟩ K:=λn=>n.rec (by intros;rfl) λn i=>by
 intros;rw[Ph];simp only[i];kernel_rfl
def B4o(nn:Nat)(a1:List E5)(a2:rg)(aa:Gp):Gr:=Ph nn a1 a2 aa nn (Aaa a1:Int) 0 aa (λz1 z2 z3 z4=>J ([],[[.ptr 900000 A9,.sl .u8 z4 (J 92000001)]]))
def F87(a1:List E5)(a2:rg)(aa:Gp):Gr:=B4o NN a1 a2 aa
def D48(nn:Nat){a1:List E5}{a2:rg}{aa:Gp}:D7 E87 nn f87 [0] [.ptr 900000 0,.sl .named a1 O,.str a2] (B7 aa)=B4o nn a1 a2 aa:=by
 unfold B4o;simp(disch:=exact krl)only[lc1 (kB [0] (B7 aa)) (C9H ..)];kernel_rfl
def S87:Ka
 |[.ptr d0 o0,.sl .named a1 O,.str a2],[[.ptr p0 q0,.sl .u8 aa (J aO)]]=>bif bq d0 o0&&pq p0 q0&&(Aal aO 92000001)then pB [] kP (F87 a1 a2 aa)else O
 |_,_=>O
end Go.Aev
namespace Go.Aev.Sy
def La(l:List IvT):rg:=if l=[]then []else [40]++jn 0 (l.map RW)++[41]
def GFd(f:FdT):Prop:=P9 f.note/\f.name.length<=8400000/\GL GIv f.args/\GTy f.type_/\GL K1 f.dirs
def Lb(f:FdT):rg:=[32,32]++J2 f.note [10,32,32]++f.name++La f.args++[58,32]++prT f.type_++E2 f.dirs
def GVd(v:P6):Prop:=P9 v.note/\v.name.length<=8400000/\GL K1 v.dirs
def J5(v:P6):rg:=[32,32]++J2 v.note [10,32,32]++v.name++E2 v.dirs
def GRd(r:RdT):Prop:=(r.op=1\/r.op=2\/r.op=3)/\r.type_.length<=8400000
def MW(r:RdT):rg:=[32,32]++opW r.op++[58,32]++r.type_
def K85:Bool->Gu->Int->B5->Gr:=λ_ T q d=>J ([],[bxT T q,bxS d])
section
variable {T:Gu}{D:Int}{st:Gy}{i:Nat}{o:Int}{t:A0}{d:B5}
def D21(v:IvT):(RW v).length<=(N8 v).length:=by
 unfold RW N8 J2;simp only[Fd];cases v.note.has;simp;simp only[GD,Fd,Fr,GT];omega
def C0S(l:List IvT):(La l).length<=sl N8 l+(if l=[]then 0 else 10):=by
 have:(jn 0 (l.map RW)).length<=sl N8 l:=Zl 0 l λx _=>by have:=D21 x;show _+2<=(N8 x).length+2;omega
 unfold La;split;simp;simp only[Fd,Fr,GT];omega
def C6z(k:Int):(opW k).length<=12:=by
 unfold opW;cases k==2<;>cases k==3<;>decide
def D3t{B:rg->Bool}:ch B RD=bif B B0K then(B0K::[Y0,B4],Z)else([],V):=GM
def D14{B:rg->Bool}:ch B UK=bif bg B 9 (RD::[]++[UK])then(RD::[]++[UK],Z)else([],Z):=GM
def C70{B:rg->Bool}:ch B RH=bif B J3 then([J3,XX],Z)else bif(λ(B:rg->Bool)=>B A9z||V) B then([XX],Z)else([],V):=GM
def C80{B:rg->Bool}:ch B XX=bif B A9z then(A9z::[C6],Z)else([],V):=GM
def C9B{B:rg->Bool}:ch B US=bif bg B 9 (RH::[]++[US])then(RH::[]++[US],Z)else([],Z):=GM
def C8t{B:rg->Bool}:ch B RF=bif B J3 then([J3,XT],Z)else bif(λ(B:rg->Bool)=>B B4||V) B then([XT],Z)else([],V):=GM
def D0B{B:rg->Bool}:ch B XT=bif B B4 then(B4::[PX,Y0,Np,C6],Z)else([],V):=GM
def C6l{B:rg->Bool}:ch B UN=bif bg B 9 (RF::[]++[UN])then(RF::[]++[UN],Z)else([],Z):=GM
def C8g(tw:TW T)(hD:D<=200)(h0:0<=o)(h1:o<=D)(hd:d.kind=1)(hr:A3 (d.roots.length+1) 40=Z)(c:Ac T D (RD::st) i o):
  ∃r j,MU T (i:Int) d=J ([],rd T j++[bxS {d with roots:=d.roots++[r]}])/\Ac T D st j o/\i<j/\GRd r/\lq ((MW r).length+2) i j:=by
 obtain⟨t,ht,hk,hb,hl,ky,c1⟩:=RR tw c GM (λB=>D3t) GM h0 h1 hD;obtain⟨n,en,_⟩:=B5n tw ht;rw[show Bt t J3=V from B3c GM hb,GF]at en;obtain⟨nO,c2⟩:=UY A8A tw c1 GM h0 h1 hD;obtain⟨t2,jz,cK,_,js,_,c3⟩:=MT tw c2 GM h0 h1 hD;have vT:=Pc tw jz js;have gk:∀k:Int,k=1\/k=2\/k=3->GRd ⟨k,t2.text,t.pos⟩/\lq ((MW ⟨k,t2.text,t.pos⟩).length+2) i (i+1+1+1):=λk hk=>by
  have h1:=cK.1;have h2:=C6z k;refine⟨⟨hk,h1⟩,lq.tok FK ?_⟩;simp only[MW,Fd,Fr,GT];omega
 obtain⟨kind,extd,note,name,ifs,dirs,fds,ivs,mbs,vals,rds,rep,pls,pos⟩:=d;have hd:kind=1:=hd;have hr:A3 (rds.length+1) 40=Z:=hr;subst hd;unfold MU;simp only[rk_,kT,gd,en,ko,qo,rd0,rd1,ky,kn,qn,nO,kb,qb,vT,kt_,qt,GD,beq_self_eq_true,hr];cases t.text==[109,117,116,97,116,105,111,110]<;>cases t.text==[115,117,98,115,99,114,105,112,116,105,111,110];exact⟨⟨1,t2.text,t.pos⟩,_,rfl,c3,FK,gk 1 (.inl rfl)⟩;exact⟨⟨3,t2.text,t.pos⟩,_,rfl,c3,FK,gk 3 (.inr (.inr rfl))⟩;exact⟨⟨2,t2.text,t.pos⟩,_,rfl,c3,FK,gk 2 (.inr (.inl rfl))⟩;exact⟨⟨3,t2.text,t.pos⟩,_,rfl,c3,FK,gk 3 (.inr (.inr rfl))⟩
def C60(tw:TW T)(hD:D<=200)(h0:0<=o)(h1:o<=D)(hd:d.kind=6)(hr:A3 (d.values.length+1) 80=Z)(c:Ac T D (RH::st) i o):
  ∃r j,MU T (i:Int) d=J ([],rd T j++[bxS {d with values:=d.values++[r]}])/\Ac T D st j o/\i<j/\GVd r/\lq ((J5 r).length+2) i j:=by
 obtain⟨n,i1,en,c1,cD,gn,ln⟩:=B62 tw c GM (λB=>C70) h0 h1 hD;obtain⟨t,ht,hk,hb,hl,ky,c2⟩:=RR tw c1 GM (λB=>C80) GM h0 h1 hD;obtain⟨ds,j,ed,c3,hj,rf,ld⟩:=V2 tw hD h0 h1 (.inl c2);refine⟨⟨n,t.text,ds,t.pos⟩,j,?_,c3,FK,⟨gn,hk.1,rf⟩,((ln [10,32,32] GO).comp ((lq.tok (n:=t.text.length+4) (HX i1) (by have:=hk.1;omega)).comp ld)).le ?_⟩;obtain⟨kind,extd,note,name,ifs,dirs,fds,ivs,mbs,vals,rds,rep,pls,pos⟩:=d;have hd:kind=6:=hd;have hr:A3 (vals.length+1) 80=Z:=hr;subst hd;unfold MU;simp only[rk_,kT,gd,en,ko,qo,rd0,rd1,ky,kn,qn,ed,kd,qd,GD,GF,beq_self_eq_true,hr,show((6:Int)==1)=V from rfl];rfl;simp only[J5,Fd,Fr,GT];omega
def D5c(tw:TW T)(hD:D<=200)(h0:0<=o)(h1:o<=D)(hd:d.kind=3\/d.kind=4)(hr:A3 (d.fields.length+1) 136=Z)(c:Ac T D (RF::st) i o):
  ∃r j,MU T (i:Int) d=J ([],rd T j++[bxS {d with fields:=d.fields++[r]}])/\Ac T D st j o/\i<j/\GFd r/\lq ((Lb r).length+2) i j:=by
 obtain⟨n,i1,en,c1,cD,gn,ln⟩:=B62 tw c GM (λB=>C8t) h0 h1 hD;obtain⟨t,ht,hk,hb,hl,ky,c2⟩:=RR tw c1 GM (λB=>D0B) GM h0 h1 hD;obtain⟨vs,i2,ei,c3,cL,yu,lv⟩:=B87 tw hD h0 h1 c2;obtain⟨nO,c4⟩:=UY A8A tw c3 GM h0 h1 hD;obtain⟨r,j1,et,c5,kX,gt⟩:=B3w tw hD h0 h1 c4;obtain⟨ds,j,ed,c6,hj,rf,ld⟩:=V2 tw hD h0 h1 (.inl c5);have lt:=gt.len;refine⟨⟨n,t.text,vs,r,ds,t.pos⟩,j,?_,c6,FK,⟨gn,hk.1,yu,gt,rf⟩,((ln [10,32,32] GO).comp ((lq.tok (n:=t.text.length+6) (HX i1) (by have:=hk.1;omega)).comp ((lv.le (C0S vs)).comp ((lq.tok (n:=(prT r).length) (FK:i2<j1) FK).comp ld)))).le ?_⟩;obtain⟨kind,extd,note,name,ifs,dirs,fds,ivs,mbs,vals,rds,rep,pls,pos⟩:=d;have hd:kind=3\/kind=4:=hd;have hr:A3 (fds.length+1) 136=Z:=hr;unfold MU;rcases hd with hd|hd<;>subst hd<;>simp only[rk_,kT,gd,en,ko,qo,rd0,rd1,ky,kn,qn,ei,ki,qi,nO,kb,qb,et,kr,qr,ed,kd,qd,GD,GF,hr,show((3:Int)==1)=V from rfl,show((3:Int)==6)=V from rfl,show((4:Int)==1)=V from rfl,show((4:Int)==6)=V from rfl]<;>rfl;simp only[Lb,Fd,Fr,GT];omega
def C7O{d':B5}{n j:Nat}{k:Bool->Gu->Int->B5->Gr}(ef:Kb [125] T (i:Int)=J ([.bool V],rd T i))(ep:MU T (i:Int) d=J ([],rd T j++[bxS d'])):MV (n+1) T (i:Int) d k=MV n T (j:Int) d' k:=by
 conv=>lhs;unfold MV
 simp only[kT,gd,ef,kb,rd0,rd1,qb,GD,HP,ep];rfl
def D60{n:Nat}(ef:Kb [125] T (i:Int)=J ([.bool Z],rd T (i+1))):MV (n+1) T (i:Int) d K85=J ([],rd T (i+1)++[bxS d]):=by
 unfold MV;simp only[kT,gd,ef,kb,rd0,rd1,qb,GD,HY,GF];rfl
def D2E{q:Int}(hk:d.kind=1\/d.kind=3\/d.kind=4\/d.kind=6):Pe T q d=gd (okB [.bool] [kT] (Kb [123] T q)) (bif !(lB (gB (Kb [123] T q) 0))then J ([],[bxT (T8 (gC (Kb [123] T q) 0 0)) (lI (gC (Kb [123] T q) 0 1)),bxS d])
  else MV NN (T8 (gC (Kb [123] T q) 0 0)) (lI (gC (Kb [123] T q) 0 1)) d K85):=by
 obtain⟨kind,extd,note,name,ifs,dirs,fds,ivs,mbs,vals,rds,rep,pls,pos⟩:=d;have hk:kind=1\/kind=3\/kind=4\/kind=6:=hk;rcases hk with h|h|h|h<;>subst h<;>show _=_<;>kernel_rfl
def B8u:Is [123] F4 2:=U2 (λt=>rfl) GO
def B8O{α:Type}{G:α->Prop}{p:α->rg}{e L:rg}(tw:TW T)(hD:D<=200)(h0:0<=o)(h1:o<=D)(upq:List α->B5)(hk:(upq []).kind=1\/(upq []).kind=3\/(upq []).kind=4\/(upq []).kind=6)(hN:okN L=Z)
  (hL:∀B,ch B L=bif bg B 9 (e::[]++[L])then(e::[]++[L],Z)else([],Z))(hx:fx e Q3=Z)
  (hs:∀(a:List α)(i:Nat),a.length<=1100000->Ac T D (e::L::Q3::st) i (o+1)->o+1<=D->∃x j,MU T (i:Int) (upq a)=J ([],rd T j++[bxS (upq (a++[x]))])/\Ac T D (L::Q3::st) j (o+1)/\i<j/\G x/\lq ((p x).length+2) i j)
  (h:Bkt T D F4 [e,L,Q3] st i o):∃a j,Pe T (i:Int) (upq [])=J ([],rd T j++[bxS (upq a)])/\Ac T D st j o/\i<=j/\GL G a/\lq (sl p a+(if a=[]then 0 else 10)) i j:=by
 have gK:=tw.len;rw[D2E hk];obtain⟨t,ht,⟨hb,c⟩|⟨hb,c⟩⟩:=h;obtain⟨_,_,_,_,hl,dW,c1⟩:=Ac.tm tw c GM h0 FK;have dW:=dW GM;rw[show br F4=1 from GM]at c1;have e1:Kb [123] T (i:Int)=J ([.bool Z],rd T (i+1)):=by rw[L9 tw B8u ht,hb];rfl
 obtain⟨l,j,e,a1,a2,a3,a4⟩:=XZ (A:=List α) (R:=B6) (D:=D) (o:=o+1) (st:=st) (Lf:=λm a q=>MV m T (q:Int) (upq a) K85)
  (K:=λa q=>J ([],rd T q++[bxS (upq a)])) (Inv:=λa q=>Rg G p a (i+1) q) tw B56 GM hN hL hx FK FK
  (λm a q e=>D60 e)
  (λm a q hi hl e ha=>by
   obtain⟨x,j,e2,c2,hj,g1,g2⟩:=hs a q (by have:=hi.2.1;omega) ha FK;exact⟨a++[x],j,hj,C7O e e2,hi.add g1 hj g2,c2⟩) NN [] (i+1) Rg.nil (.inr c1) (by rw[NNv];omega)
 refine⟨l,j+1,?_,by simpa [show br Q3= -1 from GM,show o+1+ -1=o from FK]using a3,FK,a4.gl FK,((lq.tok (n:=10) (HX i) FK).comp (a4.2.2.comp (lq.nil (IS j)))).le (by split<;>omega)⟩;simp only[kT,gd,e1,kb,rd0,rd1,qb,GD,HY,GF];exact e;have e1:Kb [123] T (i:Int)=J ([.bool V],rd T i):=by rw[L9 tw B8u ht,hb];rfl
 refine⟨[],i,?_,c,GU _,GL.nil,lq.nil (GU _)⟩;simp only[kT,gd,e1,kb,rd0,rd1,qb,GD,HP];rfl
end
end Go.Aev.Sy
namespace Go.Aev
open Go.Proofs
def E89:Env Ty6 A2:=mkE [] [] (lkR [(0,0,1),(0,2,1),(0,1000105,1),(0,1000107,1),(0,1000109,1),(0,1000111,1),(1,1000105,1),(1,1000107,1),(1,1000109,1),(1,1000111,1),(2,12,1),(2,1000105,1),(2,1000107,1),(2,1000109,1),(2,1000111,1),(3,1000105,1),(3,1000107,1),(3,1000109,1),(3,1000111,1),(4,16,3),(4,1000107,1),(4,1000109,1),(4,1000111,1),(5,5,1),(5,19,5),(5,1000105,1),(5,1000107,1),(5,1000109,1),(5,1000111,1),(6,24,1),(6,1000105,1),(6,1000107,1),(6,1000109,1),(6,1000111,1),(7,13,4),(7,25,1),(7,1000105,1),(7,1000107,1),(7,1000109,1),(7,1000111,1),(8,1000105,1),(8,1000107,1),(8,1000109,1),(8,1000111,1),(9,29,3),(9,1000105,1),(9,1000109,1),(9,1000111,1),(10,7,1),(10,32,5),(10,1000105,1),(10,1000107,1),(10,1000109,1),(10,1000111,1),(11,37,1),(11,1000105,1),(11,1000107,1),(11,1000109,1),(11,1000111,1),(12,26,4),(12,38,1),(12,1000105,1),(12,1000107,1),(12,1000109,1),(12,1000111,1),(13,1000105,1),(13,1000107,1),(13,1000109,1),(13,1000111,1),(14,42,3),(14,1000105,1),(14,1000107,1),(14,1000111,1),(15,9,1),(15,45,5),(15,1000105,1),(15,1000107,1),(15,1000109,1),(15,1000111,1),(16,50,1),(16,1000105,1),(16,1000107,1),(16,1000109,1),(16,1000111,1),(17,39,4),(17,51,2),(17,1000105,1),(17,1000107,1),(17,1000109,1),(17,1000111,1),(18,1,1),(18,53,2),(18,1000101,1),(18,1000105,1),(18,1000107,1),(18,1000109,1),(18,1000111,1),(19,1000101,1),(19,1000105,1),(19,1000107,1),(19,1000109,1),(19,1000111,1),(20,58,3),(20,1000101,1),(20,1000105,1),(20,1000107,1),(20,1000109,1),(21,11,1),(21,61,5),(21,1000101,1),(21,1000105,1),(21,1000107,1),(21,1000109,1),(21,1000111,1),(22,66,1),(22,1000101,1),(22,1000105,1),(22,1000107,1),(22,1000109,1),(22,1000111,1),(23,1,1),(23,3,1),(23,53,1),(23,55,4),(23,67,1),(23,1000101,1),(23,1000105,1),(23,1000107,1),(23,1000109,1),(23,1000111,1),(10003,1000105,1),(10003,1000107,1),(10003,1000109,1),(10003,1000111,1),(10008,1000105,1),(10008,1000107,1),(10008,1000109,1),(10008,1000111,1),(10013,1000105,1),(10013,1000107,1),(10013,1000109,1),(10013,1000111,1),(10019,1000101,1),(10019,1000105,1),(10019,1000107,1),(10019,1000109,1),(10019,1000111,1)]) 68 [] 0 [] []
def RX{R:Type}(nn:Nat)(a0:B5):Nat->List PartT->List RdT->Int->Int->(List PartT->List RdT->Int->Int->Bool->Option R)->Option R
 |0,_,_,_,_,_=>O
 |n+1,x3,ck,cv,eQ,k2=>let k1:=λx3 ck cv eQ=>RX nn a0 n x3 ck cv eQ k2;let z1:=decide (eQ<cv);bif z1 then(match idx ck eQ with|O=>O|J y2=>(gd (A3 (Aaa x3+1) 16) (k1 (x3++[PartT.root y2]) ck cv (Aac .i64 (eQ+1)))))else(k2 x3 ck cv eQ z1)
def D5F{R}(nn a0)(K:Kt R):∀n x3 ck cv eQ,RX nn a0 n x3 ck cv eQ (λx3 ck cv eQ fk=>K (.exit 0) ⟨[(1,.one (.elem .sys a0 0)),eO 3 .part x3 103,eL 13 .rd ck,eI 14 cv,eI 15 eQ,eB 16 fk],[103]⟩)=LP E89 nn Aav 75 n ⟨[(1,.one (.elem .sys a0 0)),eO 3 .part x3 103,eL 13 .rd ck,eI 14 cv,eI 15 eQ],[103]⟩ K:=λn=>n.rec (by intros;rfl) λn i=>by
 intros;rw[RX];simp only[i];kernel_rfl
def RY{R:Type}(nn:Nat)(a0:B5):Nat->List PartT->List FdT->Int->Int->(List PartT->List FdT->Int->Int->Bool->Option R)->Option R
 |0,_,_,_,_,_=>O
 |n+1,x3,fv,jt,mQ,k2=>let k1:=λx3 fv jt mQ=>RY nn a0 n x3 fv jt mQ k2;let z1:=decide (mQ<jt);bif z1 then(match idx fv mQ with|O=>O|J y2=>(gd (A3 (Aaa x3+1) 16) (k1 (x3++[PartT.field y2]) fv jt (Aac .i64 (mQ+1)))))else(k2 x3 fv jt mQ z1)
def D0j{R}(nn a0)(K:Kt R):∀n x3 fv jt mQ,RY nn a0 n x3 fv jt mQ (λx3 fv jt mQ ye=>K (.exit 2) ⟨[(1,.one (.elem .sys a0 0)),eO 3 .part x3 103,eL 26 .fd fv,eI 27 jt,eI 28 mQ,eB 29 ye],[103]⟩)=LP E89 nn Aav 151 n ⟨[(1,.one (.elem .sys a0 0)),eO 3 .part x3 103,eL 26 .fd fv,eI 27 jt,eI 28 mQ],[103]⟩ K:=λn=>n.rec (by intros;rfl) λn i=>by
 intros;rw[RY];simp only[i];kernel_rfl
def RZ{R:Type}(nn:Nat)(a0:B5):Nat->List PartT->List P6->Int->Int->(List PartT->List P6->Int->Int->Bool->Option R)->Option R
 |0,_,_,_,_,_=>O
 |n+1,x3,nP,l7,mR,k2=>let k1:=λx3 nP l7 mR=>RZ nn a0 n x3 nP l7 mR k2;let z1:=decide (mR<l7);bif z1 then(match idx nP mR with|O=>O|J y2=>(gd (A3 (Aaa x3+1) 16) (k1 (x3++[PartT.value y2]) nP l7 (Aac .i64 (mR+1)))))else(k2 x3 nP l7 mR z1)
def D5L{R}(nn a0)(K:Kt R):∀n x3 nP l7 mR,RZ nn a0 n x3 nP l7 mR (λx3 nP l7 mR EL=>K (.exit 4) ⟨[(1,.one (.elem .sys a0 0)),eO 3 .part x3 103,eL 39 .vald nP,eI 40 l7,eI 41 mR,eB 42 EL],[103]⟩)=LP E89 nn Aav 303 n ⟨[(1,.one (.elem .sys a0 0)),eO 3 .part x3 103,eL 39 .vald nP,eI 40 l7,eI 41 mR],[103]⟩ K:=λn=>n.rec (by intros;rfl) λn i=>by
 intros;rw[RZ];simp only[i];kernel_rfl
def Ra{R:Type}(nn:Nat)(a0:B5):Nat->List PartT->List IvT->Int->Int->(List PartT->List IvT->Int->Int->Bool->Option R)->Option R
 |0,_,_,_,_,_=>O
 |n+1,x3,nQ,nR,mS,k2=>let k1:=λx3 nQ nR mS=>Ra nn a0 n x3 nQ nR mS k2;let z1:=decide (mS<nR);bif z1 then(match idx nQ mS with|O=>O|J y2=>(gd (A3 (Aaa x3+1) 16) (k1 (x3++[PartT.input y2]) nQ nR (Aac .i64 (mS+1)))))else(k2 x3 nQ nR mS z1)
def C9i{R}(nn a0)(K:Kt R):∀n x3 nQ nR mS,Ra nn a0 n x3 nQ nR mS (λx3 nQ nR mS EM=>K (.exit 6) ⟨[eO 3 .part x3 103,eL 55 .iv nQ,eI 56 nR,eI 57 mS,eB 58 EM],[103]⟩)=LP E89 nn Aav 2399 n ⟨[eO 3 .part x3 103,eL 55 .iv nQ,eI 56 nR,eI 57 mS],[103]⟩ K:=λn=>n.rec (by intros;rfl) λn i=>by
 intros;rw[Ra];simp only[i];kernel_rfl
def B4Z(nn:Nat)(a0:B5):Gq:=RX nn a0 nn [] a0.roots (Aaa a0.roots:Int) 0 (λz1 z2 z3 z4 z5=>RY nn a0 nn z1 a0.fields (Aaa a0.fields:Int) 0 (λz6 z7 z8 z9 bP=>RZ nn a0 nn z6 a0.values (Aaa a0.values:Int) 0 (λbY cr cR cM cH=>bif(a0.kind==7)then(Ra nn a0 nn bY a0.inputs (Aaa a0.inputs:Int) 0 (λdD fu dB eX z20=>J (.one (.sl .part dD (J 1)))))else(J (.one (.sl .part bY (J 1)))))))
def F89(a0:B5):Gq:=B4Z NN a0
def S89:KY
 |[.agg .sys a0]=>pR [.sl .part (J 1)] (F89 a0)
 |_=>O
def E38:Env Ty6 A2:=mkE [(89,S89)] [(27,Kk),(63,S63),(68,Oz),(87,S87),(88,S88)] noD 113 [] 1 [] []
def UZ:rg:=[32,105,109,112,108,101,109,101,110,116,115,32]
def Rb:rg:=[32,114,101,112,101,97,116,97,98,108,101]
def Rc:rg:=[101,120,116,101,110,100,32]
def j38(d:B5)(z:Gp):Gr:=gd (okR [.sl .part (J 1)] (F89 d)) (let r6:=XL (SX (gL (F89 d) 0)) 0 z;gd (okB [] kP r6) (J ([],B7 (gP r6))))
def m38(d:B5)(z:Gp):Gr:=let r9:=Kc [[32,61,32]] z;gd (okB [] kP r9) (let r8:=F87 d.members [124] (gP r9);gd (okB [] kP r8) (j38 d (gP r8)))
def t38(d:B5)(z:Gp):Gr:=let cg:=Oy d.dirs z;gd (okB [] kP cg) (bif(d.kind==5)==Z then(bif decide ((Aaa d.members:Int)>0)then m38 d (gP cg)else j38 d (gP cg))else(bif V then m38 d (gP cg)else j38 d (gP cg)))
def w38(s:Gy)(f:Gp->Gr)(z:Gp):Gr:=let r:=Kc s z;gd (okB [] kP r) (f (gP r))
def i38(d:B5)(z:Gp):Gr:=bif decide ((Aaa d.ifaces:Int)>0)then(let nK:=Kc [UZ] z;gd (okB [] kP nK) (let jG:=F87 d.ifaces [38] (gP nK);gd (okB [] kP jG) (t38 d (gP jG))))else t38 d z
def q38(d:B5)(z:Gp):Gr:=w38 [[32,111,110,32]] (λz=>let r:=F87 d.places [124] z;gd (okB [] kP r) (J ([],B7 (gP r)))) z
def o38(d:B5)(b:Gp)(k:Int)(c:Bool):Gr:=bif c then(bif d.kind==3 then w38 [[116,121,112,101,32],d.name] (i38 d) b else w38 [[105,110,116,101,114,102,97,99,101,32],d.name] (i38 d) b)
 else bif k==5 then w38 [[117,110,105,111,110,32],d.name] (t38 d) b else bif k==6 then w38 [[101,110,117,109,32],d.name] (t38 d) b else bif k==7 then w38 [[105,110,112,117,116,32],d.name] (t38 d) b
 else bif k==8 then w38 [[100,105,114,101,99,116,105,118,101,32,64],d.name] (λz=>let r:=XK d.inputs z;gd (okB [] kP r) (bif d.repeatable then w38 [Rb] (q38 d) (gP r)else q38 d (gP r))) b else t38 d b
def Kj(d:B5)(b:Gp):Gr:=bif d.kind==1 then w38 [[115,99,104,101,109,97]] (t38 d) b else bif d.kind==2 then w38 [[115,99,97,108,97,114,32],d.name] (t38 d) b
 else bif d.kind==3 then o38 d b d.kind (d.kind==3)else o38 d b d.kind (d.kind==4)
def D6e{a1:B5}{aa:Gp}:D7 E38 NN f38 [0] [.ptr 900000 0,.agg .sys a1] (B7 aa)=Kj a1 aa:=GM
def S38:Ka
 |[.ptr d0 o0,.agg .sys a1],[[.ptr p0 q0,.sl .u8 aa (J aO)]]=>bif bq d0 o0&&pq p0 q0&&(Aal aO 92000001)then pB [] kP (Kj a1 aa)else O
 |_,_=>O
def E12:Env Ty6 A2:=mkE [] [(27,Kk),(29,QX),(37,Zk),(38,S38)] (lkR [(0,2,1),(0,1000105,1),(0,1000107,1),(1,6,2),(1,1000105,1),(2,0,1),(2,1000105,1),(3,1000105,1),(4,11,4),(5,4,1),(5,15,1),(6,16,4),(7,16,1),(7,20,4),(8,24,1),(9,25,4),(10,5,1),(10,25,1),(10,29,3),(10,1000105,1),(11,32,3),(11,1000105,1),(12,35,1),(12,1000105,1),(13,3,1),(13,8,4),(13,36,4),(13,1000105,1),(13,1000107,1),(10003,1000105,1)]) 40 [5,6,7] 0 [] [(6,107)]
end Go.Aev
namespace Go.Aev.Sy
def nms(lead m:rg):List E5->rg
 |[]=>[]
 |x::r=>lead++x.name++r.flatMap λy=>m++y.name
def lns(d:B5):Gy:=d.roots.map MW++d.fields.map Lb++d.values.map J5++(if d.kind=7 then d.inputs.map N8 else [])
def P1(d:B5):rg:=if lns d=[]then []else [32,123]++(lns d).flatMap (λx=>[10]++x)++[10,125]
def Z1(d:B5):rg:=
 if d.kind=8 then La d.inputs++(bif d.repeatable then Rb else [])++nms [32,111,110,32] [32,124,32] d.places
 else nms UZ [32,38,32] d.ifaces++E2 d.dirs++nms [32,61,32] [32,124,32] d.members++P1 d
def hdW(k:Int):rg:=
 bif k==1 then [115,99,104,101,109,97]else bif k==2 then [115,99,97,108,97,114,32]else bif k==3 then [116,121,112,101,32]else bif k==4 then [105,110,116,101,114,102,97,99,101,32]else bif k==5 then [117,110,105,111,110,32]
  else bif k==6 then [101,110,117,109,32]else bif k==7 then [105,110,112,117,116,32]else [100,105,114,101,99,116,105,118,101,32,64]
def hdN(d:B5):rg:=bif d.kind==1 then hdW 1 else bif decide (d.kind<1\/8<d.kind)then []else hdW d.kind++d.name
def prSys(d:B5):rg:=J2 d.note [10]++(bif d.extd then Rc else [])++hdN d++Z1 d
structure GSys(d:B5):Prop where
 nt:P9 d.note
 nm:d.name.length<=8400000
 ds:GL K1 d.dirs
 kd:0<=d.kind/\d.kind<=10:=by refine⟨?_,?_⟩<;>dsimp only<;>omega
 ifs:GL GNm d.ifaces:=by exact GL.nil
 fds:GL GFd d.fields:=by exact GL.nil
 ivs:GL GIv d.inputs:=by exact GL.nil
 mbs:GL GNm d.members:=by exact GL.nil
 vals:GL GVd d.values:=by exact GL.nil
 rds:GL GRd d.roots:=by exact GL.nil
 pls:GL GNm d.places:=by exact GL.nil
 k34:d.kind≠3->d.kind≠4->d.ifaces=[]:=by intro _ _;rfl
 k5:d.kind≠5->d.members=[]:=by intro _;rfl
 k8:d.kind=8->d.places≠[]:=by intro h;cases h
def B74{lead m:rg}(hm:m.length=3)(l:List E5):(nms lead m l).length<=(if l=[]then 0 else lead.length)+sl Q5 l:=by
 have fl:∀l:List E5,(l.flatMap λy=>m++y.name).length<=sl Q5 l:=λl=>by
  induction l with
  |nil=>exact HH _
  |cons x l ih=>
   unfold sl Q5 at*;rw[ID,Fd,Fd];simp only[sw,Fd,Fr,GT]at*;omega
 cases l with
 |nil=>simp[nms]
 |cons x r=>
  have:=fl r;rw[GI GN];unfold sl Q5 at*;simp only[nms,sw,Fd,Fr,GT]at*;omega
def B0R{α:Type}{p:α->rg}{a:List α}{d:B5}(h:lns d=a.map p):(P1 d).length<=sl p a+(if a=[]then 0 else 10):=by
 have fl:∀l:List α,((l.map p).flatMap λx=>[10]++x).length<=sl p l:=λl=>by
  induction l with
  |nil=>exact HH _
  |cons x l ih=>
   unfold sl at*;rw[IN,ID,Fd];simp only[sw,Fd,Fr,GT]at*;omega
 unfold P1;rw[h];cases a with
 |nil=>simp
 |cons x r=>
  have:=fl (x::r);rw[GI GN,GI GN];simp only[Fd,Fr,GT];omega
section
variable {T:Gu}{D:Int}{st:Gy}{i:Nat}{o:Int}{t:A0}{d:B5}
def DrA(T:Gu)(D:Int)(st:Gy)(i:Nat)(o:Int):Prop:=Ac T D (C6::st) i o\/Ac T D (K5::C6::st) i o\/(Ac T D st i o/\∃t,T[i]?=J t/\Bt t P2=V)
def A8v(tw:TW T)(hD:D<=200)(h0:0<=o)(h1:o<=D)(c:DrA T D st i o):∃(ds:List C3)(j:Nat),MS T (i:Int)=J ([.sl .dir ds (J 1)],rd T j)/\Ac T D st j o/\i<=j/\GL K1 ds/\lq (E2 ds).length i j:=by
 rcases c with c|c|⟨c,t,ht,hb⟩;exact V2 tw hD h0 h1 (.inl c);exact V2 tw hD h0 h1 (.inr c);refine⟨[],i,?_,c,GU _,GL.nil,lq.nil (GU _)⟩;have sm:PP [64] T (i:Int)=J ([.bool V],rd T i):=by rw[B0J B2r ht (tw.ok t (HI ht)),hb]
 show V9 NN T (i:Int) NN [] T (i:Int) _=_;rw[show NN=(NN - 1)+1 from by rw[NNv]];unfold V9;simp only[gd,sm,kb,rd0,rd1,qb,GD,GF];rfl
def Bd(T:Gu)(D:Int)(S0 S1:rg)(st:Gy)(i:Nat)(o:Int):Prop:=DrA T D (S0::st) i o\/DrA T D (S1::st) i o
def xb{X S0 S1:rg}{C:(rg->Bool)->Bool}(tw:TW T)(hN:okN X=Z)(hX:∀B,ch B X=bif(B P2||V)then([K5,C6,S0],Z)else bif C B then([S1],Z)else([],V))(c:Ac T D (X::st) i o):Bd T D S0 S1 st i o:=by
 obtain⟨t,ht,hk,hl,c1,c2⟩:=c.rl tw hN;rw[hX]at c1 c2;cases hb:Bt t P2 with
 |true=>rw[hb]at c2;exact .inl (.inr (.inl c2))
 |false=>
  rw[hb]at c1 c2;cases hc:C (Bt t)with
  |false=>rw[hc]at c1;cases c1
  |true=>rw[hc]at c2;exact .inr (.inr (.inr ⟨c2,t,ht,hb⟩))
def bk1{S1:rg}{E:Gy}(tw:TW T)(hN:okN S1=Z)(h1:∀B,ch B S1=bif B F4 then(F4::E,Z)else([],V))(c:Ac T D (S1::st) i o):Bkt T D F4 E st i o:=by
 obtain⟨t,ht,hk,hl,c1,c2⟩:=c.rl tw hN;rw[h1]at c1 c2;cases hb:Bt t F4 with
 |true=>rw[hb]at c2;exact⟨t,ht,.inl ⟨hb,c2⟩⟩
 |false=>rw[hb]at c1;cases c1
def bk0{S0 S1:rg}{E:Gy}(tw:TW T)(hN:(okN S1&&okN S0)=Z)(h0:∀B,ch B S0=bif(B F4||V)then([S1],Z)else([],Z))(h1:∀B,ch B S1=bif B F4 then(F4::E,Z)else([],V))(c:Ac T D (S0::st) i o):Bkt T D F4 E st i o:=by
 rw[Fn]at hN;obtain⟨t,ht,hk,hl,c1,c2⟩:=c.rl tw hN.2;rw[h0]at c1 c2;cases hb:Bt t F4 with
 |true=>rw[hb]at c2;exact bk1 tw hN.1 h1 c2
 |false=>rw[hb]at c2;exact⟨t,ht,.inr ⟨hb,c2⟩⟩
def B3D{S0 S1:rg}{E:Gy}(tw:TW T)(hD:D<=200)(h0:0<=o)(h1:o<=D)(hN:(okN S1&&okN S0)=Z)(g0:∀B,ch B S0=bif(B F4||V)then([S1],Z)else([],Z))(g1:∀B,ch B S1=bif B F4 then(F4::E,Z)else([],V))(c:Bd T D S0 S1 st i o):
  ∃(ds:List C3)(j:Nat),MS T (i:Int)=J ([.sl .dir ds (J 1)],rd T j)/\Bkt T D F4 E st j o/\i<=j/\GL K1 ds/\lq (E2 ds).length i j:=by
 rcases c with c|c;obtain⟨ds,j,e,c,r⟩:=A8v tw hD h0 h1 c;exact⟨ds,j,e,bk0 tw hN g0 g1 c,r⟩;obtain⟨ds,j,e,c,r⟩:=A8v tw hD h0 h1 c;rw[Fn]at hN;exact⟨ds,j,e,bk1 tw hN.1 g1 c,r⟩
def C8n{B:rg->Bool}:ch B MP=bif B F4 then(F4::[RD,UK,Q3],Z)else([],V):=GM
def D5h{B:rg->Bool}:ch B A9c=bif(B F4||V)then([MP],Z)else([],Z):=GM
def D4l{B:rg->Bool}:ch B RE=bif B F4 then(F4::[RF,UN,Q3],Z)else([],V):=GM
def D1I{B:rg->Bool}:ch B T0=bif(B F4||V)then([RE],Z)else([],Z):=GM
def D37{B:rg->Bool}:ch B UP=bif B F4 then(F4::[RH,US,Q3],Z)else([],V):=GM
def D3P{B:rg->Bool}:ch B PV=bif(B F4||V)then([UP],Z)else([],Z):=GM
def D0a{B:rg->Bool}:ch B UT=bif B F4 then(F4::[Z7,Nr,Q3],Z)else([],V):=GM
def C8v{B:rg->Bool}:ch B PW=bif(B F4||V)then([UT],Z)else([],Z):=GM
def C52{B:rg->Bool}:ch B XO=bif(B P2||V)then([K5,C6,A9c],Z)else bif(λ(B:rg->Bool)=>B F4||V) B then([MP],Z)else([],V):=GM
def C6n{B:rg->Bool}:ch B XP=bif(B P2||V)then([K5,C6,PU],Z)else bif(λ(B:rg->Bool)=>B LV||V) B then([RG],Z)else([],V):=GM
def C7s{B:rg->Bool}:ch B XQ=bif(B P2||V)then([K5,C6,PV],Z)else bif(λ(B:rg->Bool)=>B F4||V) B then([UP],Z)else([],V):=GM
def D0p{B:rg->Bool}:ch B XR=bif(B P2||V)then([K5,C6,PW],Z)else bif(λ(B:rg->Bool)=>B F4||V) B then([UT],Z)else([],V):=GM
def D46{B:rg->Bool}:ch B No=bif(B PY||V)then([UL,C6,T0],Z)else bif(B P2||V)then([K5,C6,T0],Z)else bif(B F4||V)then([RE],Z)else([],V):=GM
def D3z{B:rg->Bool}:ch B Nj=bif(B PY||V)then([UL],Z)else([],Z):=GM
def D6D{B:rg->Bool}:ch B UL=bif B PY then(PY::[B2B,B4,XS],Z)else([],V):=GM
def D6C{B:rg->Bool}:ch B XS=bif B UM then([UM,B4,XS],Z)else([],Z):=GM
def D6x{B:rg->Bool}:ch B B2B=bif B UM then([UM],Z)else([],Z):=GM
def C8p{B:rg->Bool}:ch B PU=bif(B LV||V)then([RG],Z)else([],Z):=GM
def D6a{B:rg->Bool}:ch B RG=bif B LV then(LV::[RB,B4,XW],Z)else([],V):=GM
def C8z{B:rg->Bool}:ch B XW=bif B Ns then([Ns,B4,XW],Z)else([],Z):=GM
def C2H{B:rg->Bool}:ch B RB=bif B Ns then([Ns],Z)else([],Z):=GM
def D4p{B:rg->Bool}:ch B RC=bif B Ns then([Ns,UJ,RC],Z)else([],Z):=GM
def D19{B:rg->Bool}:ch B XN=bif B B3I then([B3I],Z)else([],Z):=GM
def D3S:Is [38] UM 2:=U2 (λt=>rfl) GO
def C5I:Is [124] Ns 2:=U2 (λt=>rfl) GO
def C44:Is [105,109,112,108,101,109,101,110,116,115] PY 3:=U2 (λt=>rfl) GO
def D7e:Is [114,101,112,101,97,116,97,98,108,101] B3I 3:=U2 (λt=>rfl) GO
def D2u:Is [111,110] A9a 3:=U2 (λt=>rfl) GO
def B9S:Is [101,120,116,101,110,100] A92 3:=U2 (λt=>rfl) GO
end
section
variable {T:Gu}{D:Int}{st:Gy}{i j:Nat}{o:Int}{t:A0}{d:B5}{k:Int}{x:Bool}{n:G5}{nm:rg}{pos:A4}{ifs mbs:List E5}{ds:List C3}
def Res(T:Gu)(D:Int)(st:Gy)(i:Nat)(o:Int)(k:Int)(x:Bool)(n:G5)(r:Gr):Prop:=
 ∃(d:B5)(j:Nat),r=J ([.agg .sys d],rd T j)/\Ac T D st j o/\i<=j/\GSys d/\d.kind=k/\d.note=n/\d.extd=x/\lq (d.name.length+(Z1 d).length) i j
def B6k{m c:Nat}(h:m<=1100000)(hc:c<=1000):A3 (m+1) c=Z:=by
 have h0:m+1<=1100001:=Nat.succ_le_succ h;have h1:(m+1)*c<=1100001*1000:=JV h0 hc;unfold A3;apply GG;generalize (m+1)*c=z at*;clear h h0 hc;omega
def Xb(e:Pe T (i:Int) ⟨k,x,n,nm,ifs,ds,[],[],mbs,[],[],V,[],pos⟩=J ([],rd T j++[bxS d])):w36 k x n nm pos ifs ds mbs T (i:Int)=J ([.agg .sys d],rd T j):=by
 unfold w36;rw[e];show _=_;kernel_rfl
def A9r(h5:(k==5)=V)(e:MS T (i:Int)=J ([.sl .dir ds (J 1)],rd T j)):d36 k x n nm pos ifs T (i:Int)=w36 k x n nm pos ifs ds [] T (j:Int):=by
 simp only[d36,rk_,kT,gd,e,kd,qd,rd0,rd1,h5,GD,GF];rfl
def Xc(h:d.kind≠8):(Z1 d).length<=(if d.ifaces=[]then 0 else 12)+sl Q5 d.ifaces+(E2 d.dirs).length+((if d.members=[]then 0 else 3)+sl Q5 d.members)+(P1 d).length:=by
 have h1:=B74 (lead:=UZ) (m:=[32,38,32]) rfl d.ifaces;have h2:=B74 (lead:=[32,61,32]) (m:=[32,124,32]) rfl d.members;have h1:_<=(if d.ifaces=[]then 0 else 12)+sl Q5 d.ifaces:=h1;have h2:_<=(if d.members=[]then 0 else 3)+sl Q5 d.members:=h2;unfold Z1;rw[GI h];simp only[Fd];omega
def Xd{A B:Gy}(tw:TW T)(hD:D<=200)(h0:0<=o)(h1:o<=D)(hk:(k !=1)=Z)(c:Ac T D (B4::A) i o\/Ac T D (B4::B) i o):
  ∃(nm:rg)(mT:A4),nm.length<=8400000/\n36 k x n pos T (i:Int)=t36 k x n nm mT T ((i+1:Nat):Int)/\(Ac T D A (i+1) o\/Ac T D B (i+1) o):=by
 have go:∀A,Ac T D (B4::A) i o->∃(nm:rg)(mT:A4),nm.length<=8400000/\n36 k x n pos T (i:Int)=t36 k x n nm mT T ((i+1:Nat):Int)/\Ac T D A (i+1) o:=λA c=>by
  obtain⟨t,ht,cK,_,hl,e,c1⟩:=MT tw c GM h0 h1 hD;refine⟨t.text,t.pos,cK.1,?_,c1⟩;unfold n36 rk_ kT;rw[hk];simp only[e,gd,GD];rfl
 rcases c with c|c;obtain⟨nm,p,a,b,c⟩:=go A c;exact⟨nm,p,a,b,.inl c⟩;obtain⟨nm,p,a,b,c⟩:=go B c;exact⟨nm,p,a,b,.inr c⟩
def D6w(tw:TW T)(hD:D<=200)(h0:0<=o)(h1:o<=D)(gn:P9 n)(c:Ac T D (C6::MP::st) i o\/Ac T D (XO::st) i o):Res T D st i o 1 x n (n36 1 x n pos T (i:Int)):=by
 have c:Bd T D A9c MP st i o:=c.elim (λc=>.inr (.inl c)) (xb tw GM (λB=>C52));obtain⟨ds,j,e,cb,hj,g1,l1⟩:=B3D tw hD h0 h1 GM (λB=>D5h) (λB=>C8n) c;obtain⟨a,j2,e2,c2,h2,g2,l2⟩:=B8O (G:=GRd) (p:=MW) tw hD h0 h1 (λa=>⟨1,x,n,[],[],ds,[],[],[],[],a,V,[],pos⟩) (.inl rfl) GM (λB=>D14) GM (λa i ha c ho=>C8g tw hD FK ho rfl (B6k ha GO) c) cb;refine⟨_,j2,(A9r rfl e).trans (Xb e2),c2,FK,{nt:=gn,nm:=HH _,ds:=g1,rds:=g2},rfl,rfl,rfl,(l1.comp l2).le ?_⟩;have h1:=B0R (p:=MW) (a:=a) (d:=⟨1,x,n,[],[],ds,[],[],[],[],a,V,[],pos⟩) (by simp[lns]);have h2:=Xc (d:=⟨1,x,n,[],[],ds,[],[],[],[],a,V,[],pos⟩) (by intro h;cases h);have h2:_<=0+0+(E2 ds).length+(0+0)+_:=h2;show 0+_<=_;omega
def D2g(tw:TW T)(hD:D<=200)(h0:0<=o)(h1:o<=D)(gn:P9 n)(c:Ac T D (B4::C6::st) i o\/Ac T D (B4::K5::C6::st) i o):Res T D st i o 2 x n (n36 2 x n pos T (i:Int)):=by
 obtain⟨nm,pos,hn,e0,c⟩:=Xd (x:=x) (n:=n) (pos:=pos) (k:=2) tw hD h0 h1 rfl c;obtain⟨ds,j,e,cb,hj,g1,l1⟩:=A8v tw hD h0 h1 (c.elim .inl λc=>.inr (.inl c));have e2:Pe T (j:Int) ⟨2,x,n,nm,[],ds,[],[],[],[],[],V,[],pos⟩=J ([],rd T j++[bxS ⟨2,x,n,nm,[],ds,[],[],[],[],[],V,[],pos⟩]):=GM;refine⟨_,j,(e0.trans (A9r rfl e)).trans (Xb e2),cb,FK,{nt:=gn,nm:=hn,ds:=g1},rfl,rfl,rfl,((lq.tok (n:=nm.length) (HX i) FK).comp l1).le ?_⟩;have h2:=Xc (d:=⟨2,x,n,nm,[],ds,[],[],[],[],[],V,[],pos⟩) (by intro h;cases h);have h2:_<=0+0+(E2 ds).length+(0+0)+0:=h2;show nm.length+_<=_;omega
def D0K(tw:TW T)(hD:D<=200)(h0:0<=o)(h1:o<=D)(c:Ac T D (Nj::C6::T0::st) i o\/Ac T D (No::st) i o):
  ∃(ifs:List E5)(j:Nat),i36 Z k x n nm pos T (i:Int)=d36 k x n nm pos ifs T (j:Int)/\Bd T D T0 RE st j o/\i<=j/\GL GNm ifs/\lq ((if ifs=[]then 0 else 12)+sl Q5 ifs) i j:=by
 have c:Ac T D (UL::C6::T0::st) i o\/(∃t,T[i]?=J t/\Bt t PY=V/\Bd T D T0 RE st i o):=by
  rcases c with c|c;obtain⟨t,ht,hk,hl,c1,c2⟩:=c.rl tw GM;rw[D3z]at c1 c2;cases hb:Bt t PY with
  |true=>rw[hb]at c2;exact .inl c2
  |false=>rw[hb]at c2;exact .inr ⟨t,ht,hb,.inl (.inl c2)⟩
  obtain⟨t,ht,hk,hl,c1,c2⟩:=c.rl tw GM;rw[D46]at c1 c2;cases hb:Bt t PY with
  |true=>rw[hb]at c2;exact .inl c2
  |false=>
   rw[hb]at c1 c2;cases ha:Bt t P2 with
   |true=>rw[ha]at c2;exact .inr ⟨t,ht,hb,.inl (.inr (.inl c2))⟩
   |false=>
    rw[ha]at c1 c2;cases hc:Bt t F4 with
    |false=>rw[hc]at c1;cases c1
    |true=>rw[hc]at c2;exact .inr ⟨t,ht,hb,.inr (.inr (.inr ⟨c2,t,ht,ha⟩))⟩
 rcases c with c|⟨t,ht,hb,c⟩;obtain⟨t,ht,hk,hb,hl,_,c1⟩:=RR tw c GM (λB=>D6D) GM h0 h1 hD;have e1:Kb [105,109,112,108,101,109,101,110,116,115] T (i:Int)=J ([.bool Z],rd T (i+1)):=by rw[L9 tw C44 ht,hb];rfl
 obtain⟨ifs,j,e2,c2,hj,g1,g2,l1⟩:=B4d tw hD h0 h1 c1 D3S GM GM GM (λB=>D6C) (λB=>D6x);refine⟨ifs,j,?_,.inl (.inl c2),FK,g1,(lq.tok (n:=12) (HX i) FK).comp l1|>.le (by split<;>omega)⟩;simp only[i36,rk_,kT,gd,e1,kb,qb,rd0,rd1,e2,kNq,qN,GD,beq_self_eq_true];have e1:Kb [105,109,112,108,101,109,101,110,116,115] T (i:Int)=J ([.bool V],rd T i):=by rw[L9 tw C44 ht,hb];rfl
 refine⟨[],i,?_,c,GU _,GL.nil,lq.nil (GU _)⟩;simp only[i36,rk_,kT,gd,e1,kb,qb,rd0,rd1,GD,GF,beq_self_eq_true]
def C4J(hk:k=3\/k=4)(tw:TW T)(hD:D<=200)(h0:0<=o)(h1:o<=D)(gn:P9 n)(c:Ac T D (B4::Nj::C6::T0::st) i o\/Ac T D (B4::No::st) i o):Res T D st i o k x n (n36 k x n pos T (i:Int)):=by
 obtain⟨nm,pos,hn,e0,c⟩:=Xd (x:=x) (n:=n) (pos:=pos) (k:=k) tw hD h0 h1 (by rcases hk with h|h<;>subst h<;>rfl) c;obtain⟨ifs,i2,e1,c,hi,g0,l0⟩:=D0K (k:=k) (x:=x) (n:=n) (nm:=nm) (pos:=pos) tw hD h0 h1 c;obtain⟨ds,j,e,cb,hj,g1,l1⟩:=B3D tw hD h0 h1 GM (λB=>D1I) (λB=>D4l) c;obtain⟨a,j2,e2,c2,h2,g2,l2⟩:=B8O (G:=GFd) (p:=Lb) tw hD h0 h1 (λa=>⟨k,x,n,nm,ifs,ds,a,[],[],[],[],V,[],pos⟩) (hk.elim (λh=>.inr (.inl h)) λh=>.inr (.inr (.inl h))) GM (λB=>C6l) GM (λa i ha c ho=>D5c tw hD FK ho hk (B6k ha GO) c) cb;refine⟨_,j2,((e0.trans (by rcases hk with h|h<;>subst h<;>rfl)).trans e1).trans ((A9r (by rcases hk with h|h<;>subst h<;>rfl) e).trans (Xb e2)),c2,FK,{nt:=gn,nm:=hn,ds:=g1,kd:=⟨by show 0<=k;omega,by show k<=10;omega⟩,ifs:=g0,fds:=g2,k34:=λh3 h4=>(hk.elim (λh=>absurd h h3) λh=>absurd h h4),k8:=λh=>(by have h:k=8:=h;omega)},rfl,rfl,rfl,((lq.tok (n:=nm.length) (HX i) FK).comp (l0.comp (l1.comp l2))).le ?_⟩;have h1:=B0R (p:=Lb) (a:=a) (d:=⟨k,x,n,nm,ifs,ds,a,[],[],[],[],V,[],pos⟩) (by simp[lns]);have h2:=Xc (d:=⟨k,x,n,nm,ifs,ds,a,[],[],[],[],V,[],pos⟩) (by show k≠8;omega);have h2:_<=(if ifs=[]then 0 else 12)+sl Q5 ifs+(E2 ds).length+(0+0)+_:=h2;show nm.length+_<=_;omega
def D0r(tw:TW T)(hD:D<=200)(h0:0<=o)(h1:o<=D)(gn:P9 n)(c:Ac T D (B4::C6::PU::st) i o\/Ac T D (B4::XP::st) i o):Res T D st i o 5 x n (n36 5 x n pos T (i:Int)):=by
 obtain⟨nm,ps,hn,e0,c⟩:=Xd (x:=x) (n:=n) (pos:=pos) (k:=5) tw hD h0 h1 rfl c;have c:Bd T D PU RG st (i+1) o:=c.elim (λc=>.inl (.inl c)) (xb tw GM (λB=>C6n));have cd:∃(ds:List C3)(j:Nat),MS T ((i+1:Nat):Int)=J ([.sl .dir ds (J 1)],rd T j)/\(Ac T D (RG::st) j o\/(Ac T D st j o/\∃t,T[j]?=J t/\Bt t LV=V))/\i+1<=j/\GL K1 ds/\lq (E2 ds).length (i+1) j:=by
  rcases c with c|c;obtain⟨ds,j,e,c,r⟩:=A8v tw hD h0 h1 c;refine⟨ds,j,e,?_,r⟩;obtain⟨t,ht,hk,hl,c1,c2⟩:=c.rl tw GM;rw[C8p]at c1 c2;cases hb:Bt t LV with
  |true=>rw[hb]at c2;exact .inl c2
  |false=>rw[hb]at c2;exact .inr ⟨c2,t,ht,hb⟩
  obtain⟨ds,j,e,c,r⟩:=A8v tw hD h0 h1 c;exact⟨ds,j,e,.inl c,r⟩
 obtain⟨ds,j,e,c,hj,g1,l1⟩:=cd;have bQ:∀(mbs:List E5)(j':Nat),d36 5 x n nm ps [] T ((i+1:Nat):Int)=w36 5 x n nm ps [] ds mbs T (j':Int)->Ac T D st j' o->j<=j'->GL GNm mbs->lq ((if mbs=[]then 0 else 3)+sl Q5 mbs) j j'->Res T D st i o 5 x n (n36 5 x n pos T (i:Int)):=λmbs j' e3 c2 h2 g2 l2=>by
  have e2:Pe T (j':Int) ⟨5,x,n,nm,[],ds,[],[],mbs,[],[],V,[],ps⟩=J ([],rd T j'++[bxS ⟨5,x,n,nm,[],ds,[],[],mbs,[],[],V,[],ps⟩]):=GM;refine⟨_,j',(e0.trans e3).trans (Xb e2),c2,FK,{nt:=gn,nm:=hn,ds:=g1,mbs:=g2,k5:=λh=>absurd rfl h},rfl,rfl,rfl,((lq.tok (n:=nm.length) (HX i) FK).comp (l1.comp l2)).le ?_⟩;have h2:=Xc (d:=⟨5,x,n,nm,[],ds,[],[],mbs,[],[],V,[],ps⟩) (by intro h;cases h);have h2:_<=0+0+(E2 ds).length+((if mbs=[]then 0 else 3)+sl Q5 mbs)+0:=h2;show nm.length+_<=_;omega
 rcases c with c|⟨c,t,ht,hb⟩;obtain⟨t,ht,hk,hb,hl,_,c1⟩:=RR tw c GM (λB=>D6a) GM h0 h1 hD;have e1:Kb [61] T (j:Int)=J ([.bool Z],rd T (j+1)):=by rw[L9 tw B2j ht,hb];rfl
 obtain⟨mbs,j2,e2,c2,lP,g2,_,l2⟩:=B4d tw hD h0 h1 c1 C5I GM GM GM (λB=>C8z) (λB=>C2H);refine bQ mbs j2 ?_ c2 FK g2 (((lq.tok (n:=3) (HX j) FK).comp l2).le (by split<;>omega));simp only[d36,rk_,kT,gd,e,kd,qd,e1,kb,qb,rd0,rd1,e2,kNq,qN,GD,beq_self_eq_true];have e1:Kb [61] T (j:Int)=J ([.bool V],rd T j):=by rw[L9 tw B2j ht,hb];rfl
 have ln:lq ((if([]:List E5)=[]then 0 else 3)+sl Q5 []) j j:=lq.nil (GU j);refine bQ [] j ?_ c (GU _) GL.nil ln;simp only[d36,rk_,kT,gd,e,kd,qd,e1,kb,qb,rd0,rd1,GD,GF,beq_self_eq_true]
def D6b(tw:TW T)(hD:D<=200)(h0:0<=o)(h1:o<=D)(gn:P9 n)(c:Ac T D (B4::C6::PV::st) i o\/Ac T D (B4::XQ::st) i o):Res T D st i o 6 x n (n36 6 x n pos T (i:Int)):=by
 obtain⟨nm,pos,hn,e0,c⟩:=Xd (x:=x) (n:=n) (pos:=pos) (k:=6) tw hD h0 h1 rfl c;have c:Bd T D PV UP st (i+1) o:=c.elim (λc=>.inl (.inl c)) (xb tw GM (λB=>C7s));obtain⟨ds,j,e,cb,hj,g1,l1⟩:=B3D tw hD h0 h1 GM (λB=>D3P) (λB=>D37) c;obtain⟨a,j2,e2,c2,h2,g2,l2⟩:=B8O (G:=GVd) (p:=J5) tw hD h0 h1 (λa=>⟨6,x,n,nm,[],ds,[],[],[],a,[],V,[],pos⟩) (.inr (.inr (.inr rfl))) GM (λB=>C9B) GM (λa i ha c ho=>C60 tw hD FK ho rfl (B6k ha GO) c) cb;refine⟨_,j2,(e0.trans (A9r rfl e)).trans (Xb e2),c2,FK,{nt:=gn,nm:=hn,ds:=g1,vals:=g2},rfl,rfl,rfl,((lq.tok (n:=nm.length) (HX i) FK).comp (l1.comp l2)).le ?_⟩;have h1:=B0R (p:=J5) (a:=a) (d:=⟨6,x,n,nm,[],ds,[],[],[],a,[],V,[],pos⟩) (by simp[lns]);have h2:=Xc (d:=⟨6,x,n,nm,[],ds,[],[],[],a,[],V,[],pos⟩) (by intro h;cases h);have h2:_<=0+0+(E2 ds).length+(0+0)+_:=h2;show nm.length+_<=_;omega
def C50(tw:TW T)(hD:D<=200)(h0:0<=o)(h1:o<=D)(gn:P9 n)(c:Ac T D (B4::C6::PW::st) i o\/Ac T D (B4::XR::st) i o):Res T D st i o 7 x n (n36 7 x n pos T (i:Int)):=by
 obtain⟨nm,pos,hn,e0,c⟩:=Xd (x:=x) (n:=n) (pos:=pos) (k:=7) tw hD h0 h1 rfl c;have c:Bd T D PW UT st (i+1) o:=c.elim (λc=>.inl (.inl c)) (xb tw GM (λB=>D0p));obtain⟨ds,j,e,cb,hj,g1,l1⟩:=B3D tw hD h0 h1 GM (λB=>C8v) (λB=>D0a) c;obtain⟨a,j2,e2,c2,h2,g2,l2⟩:=C3l tw hD h0 h1 B8u B56 GM GM GM cb;have e3:Pe T (j:Int) ⟨7,x,n,nm,[],ds,[],[],[],[],[],V,[],pos⟩=J ([],rd T j2++[bxS ⟨7,x,n,nm,[],ds,[],a,[],[],[],V,[],pos⟩]):=by
  simp only[Pe,B7X,c85,kT,gd,e2,ki,qi,rd0,rd1,GD,beq_self_eq_true];rfl
 refine⟨_,j2,(e0.trans (A9r rfl e)).trans (Xb e3),c2,FK,{nt:=gn,nm:=hn,ds:=g1,ivs:=g2},rfl,rfl,rfl,((lq.tok (n:=nm.length) (HX i) FK).comp (l1.comp l2)).le ?_⟩;have h1:=B0R (p:=N8) (a:=a) (d:=⟨7,x,n,nm,[],ds,[],a,[],[],[],V,[],pos⟩) (by simp[lns]);have h2:=Xc (d:=⟨7,x,n,nm,[],ds,[],a,[],[],[],V,[],pos⟩) (by intro h;cases h);have h2:_<=0+0+(E2 ds).length+(0+0)+_:=h2;show nm.length+_<=_;omega
def C6C(tw:TW T)(hD:D<=200)(h0:0<=o)(h1:o<=D)(gn:P9 n)(c:Ac T D (P2::B4::PX::XN::A9a::RB::UJ::RC::st) i o):Res T D st i o 8 x n (rk_ [.bool] (Kb [64] T (i:Int)) (n36 8 x n pos)):=by
 obtain⟨e0,c⟩:=UY B2r tw c GM h0 h1 hD;obtain⟨nm,mT,hn,e1,c⟩:=Xd (x:=x) (n:=n) (pos:=pos) (k:=8) tw hD h0 h1 rfl (.inl c);obtain⟨vs,j,e2,c,hj,g1,l1⟩:=B87 tw hD h0 h1 (c.elim id id);obtain⟨b,j2,e3,c,h2,eH⟩:=B71 tw D7e GM (λB=>D19) GM GM c h0 FK;obtain⟨e4,c⟩:=UY D2u tw c GM h0 h1 hD;obtain⟨pl,j3,e5,c,h3,g2,g3,l2⟩:=B4d tw hD h0 h1 c C5I GM GM GM (λB=>D4p) (λB=>C2H);refine⟨⟨8,x,n,nm,[],[],[],vs,[],[],[],b,pl,mT⟩,j3,?_,c,FK,{nt:=gn,nm:=hn,ds:=GL.nil,ivs:=g1,pls:=g2,k8:=λ_=>g3},rfl,rfl,rfl,((lq.tok (n:=nm.length+15) (FK:i<i+1+1) FK).comp ((l1.le (C0S vs)).comp ((lq.nil (FK:j<=j2+1)).comp l2))).le ?_⟩;simp only[rk_,kT,gd,e0,kb,qb,rd0,rd1,GD];rw[e1];simp only[t36,rk_,kT,gd,e2,ki,qi,e3,kb,qb,e4,e5,kNq,qN,rd0,rd1,GD,beq_self_eq_true];rfl;have h4:=B74 (lead:=[32,111,110,32]) (m:=[32,124,32]) rfl pl;have h4:_<=(if pl=[]then 0 else 4)+sl Q5 pl:=h4;have h5:(bif b then Rb else []).length<=11:=by cases b<;>decide
 show nm.length+(La vs++(bif b then Rb else [])++nms [32,111,110,32] [32,124,32] pl).length<=_;simp only[Fd];rw[GI g3]at h4;omega
end
section
variable {T:Gu}{D:Int}{st:Gy}{i j:Nat}{o:Int}{t:A0}{d:B5}{k:Int}{x:Bool}{n:G5}
def C57{B:rg->Bool}:ch B I7=bif B J3 then([J3,MO],Z)else bif bg B 9 [MO]then([MO],Z)else bif B A92 then(A92::[XM],Z)else([],V):=GM
def D2x{B:rg->Bool}:ch B O6=bif bg B 9 [I7,O6]then([I7,O6],Z)else([],Z):=GM
def D51{B:rg->Bool}:ch B Y7=bif bg B 9 [I7,O6,K4]then([I7,O6,K4],Z)else([],V):=GM
def D4t{B:rg->Bool}:ch B MO=bif B Ng then([Ng,C6,MP],Z)else bif B Nh then([Nh,B4,C6],Z)else bif B Ni then([Ni,B4,Nj,C6,T0],Z)else bif B Nk then([Nk,B4,Nj,C6,T0],Z)
 else bif B Nl then([Nl,B4,C6,PU],Z)else bif B Nm then([Nm,B4,C6,PV],Z)else bif B Nn then([Nn,B4,C6,PW],Z)else bif B A9x then([A9x,P2,B4,PX,XN,A9a,RB,UJ,RC],Z)else([],V):=GM
def D2y{B:rg->Bool}:ch B XM=bif B Ng then([Ng,XO],Z)else bif B Nh then([Nh,B4,K5,C6],Z)else bif B Ni then([Ni,B4,No],Z)else bif B Nk then([Nk,B4,No],Z)
 else bif B Nl then([Nl,B4,XP],Z)else bif B Nm then([Nm,B4,XQ],Z)else bif B Nn then([Nn,B4,XR],Z)else([],V):=GM
def tkp(T:Gu)(i:Nat):A4:=(T[i]?.getD ⟨0,⟨0,0⟩,0,0,[],[]⟩).pos
def C8y(tw:TW T)(hD:D<=200)(h0:0<=o)(h1:o<=D)(gn:P9 n)(c:Ac T D (MO::st) i o\/Ac T D (XM::st) i o):
  ∃t k,Kg T (i:Int)=J ([.agg .named ⟨t,tkp T i⟩],rd T (i+1))/\F81 t=J (.one (.int .i64 k))/\(((k==8)=V/\Res T D st (i+1) o k x n (n36 k x n (tkp T i) T ((i+1:Nat):Int)))\/((k==8)=Z/\Res T D st (i+1) o k x n (rk_ [.bool] (Kb [64] T ((i+1:Nat):Int)) (n36 k x n (tkp T i))))):=by
 have w:∀(s:rg)(A:Gy),(R2 s&&(br s==0))=Z->(kt s).2=J (s.drop 1)->Ac T D (s::A) i o->Kg T (i:Int)=J ([.agg .named ⟨s.drop 1,tkp T i⟩],rd T (i+1))/\Ac T D A (i+1) o:=λs A hs hx c=>by
  obtain⟨t,ht,_,hb,_,e,c⟩:=MT tw c hs h0 h1 hD;rw[(RN hb).2 _ hx]at e;unfold tkp;rw[ht];exact⟨e,c⟩
 have rj:∀(s:rg)(A B:Gy),(R2 s&&(br s==0))=Z->(kt s).2=J (s.drop 1)->(Ac T D (s::A) i o\/Ac T D (s::B) i o)->Kg T (i:Int)=J ([.agg .named ⟨s.drop 1,tkp T i⟩],rd T (i+1))/\(Ac T D A (i+1) o\/Ac T D B (i+1) o):=λs A B hs hx c=>by
  rcases c with c|c;obtain⟨a,b⟩:=w s A hs hx c;exact⟨a,.inl b⟩;obtain⟨a,b⟩:=w s B hs hx c;exact⟨a,.inr b⟩
 have cs:(Ac T D (Ng::C6::MP::st) i o\/Ac T D (Ng::XO::st) i o)\/(Ac T D (Nh::B4::C6::st) i o\/Ac T D (Nh::B4::K5::C6::st) i o)\/(Ac T D (Ni::B4::Nj::C6::T0::st) i o\/Ac T D (Ni::B4::No::st) i o)
   \/(Ac T D (Nk::B4::Nj::C6::T0::st) i o\/Ac T D (Nk::B4::No::st) i o)\/(Ac T D (Nl::B4::C6::PU::st) i o\/Ac T D (Nl::B4::XP::st) i o)\/(Ac T D (Nm::B4::C6::PV::st) i o\/Ac T D (Nm::B4::XQ::st) i o)
   \/(Ac T D (Nn::B4::C6::PW::st) i o\/Ac T D (Nn::B4::XR::st) i o)\/Ac T D (A9x::P2::B4::PX::XN::A9a::RB::UJ::RC::st) i o:=by
  rcases c with c|c;obtain⟨t,ht,hk,hl,c1,c2⟩:=c.rl tw GM;rw[D4t]at c1 c2;cases b1:Bt t Ng<;>rw[b1]at c1 c2;cases b2:Bt t Nh<;>rw[b2]at c1 c2;cases b3:Bt t Ni<;>rw[b3]at c1 c2;cases b4:Bt t Nk<;>rw[b4]at c1 c2;cases b5:Bt t Nl<;>rw[b5]at c1 c2;cases b6:Bt t Nm<;>rw[b6]at c1 c2;cases b7:Bt t Nn<;>rw[b7]at c1 c2;cases b8:Bt t A9x<;>rw[b8]at c1 c2;cases c1;exact .inr (.inr (.inr (.inr (.inr (.inr (.inr c2))))));exact .inr (.inr (.inr (.inr (.inr (.inr (.inl (.inl c2)))))));exact .inr (.inr (.inr (.inr (.inr (.inl (.inl c2))))));exact .inr (.inr (.inr (.inr (.inl (.inl c2)))));exact .inr (.inr (.inr (.inl (.inl c2))));exact .inr (.inr (.inl (.inl c2)));exact .inr (.inl (.inl c2));exact .inl (.inl c2);obtain⟨t,ht,hk,hl,c1,c2⟩:=c.rl tw GM;rw[D2y]at c1 c2;cases b1:Bt t Ng<;>rw[b1]at c1 c2;cases b2:Bt t Nh<;>rw[b2]at c1 c2;cases b3:Bt t Ni<;>rw[b3]at c1 c2;cases b4:Bt t Nk<;>rw[b4]at c1 c2;cases b5:Bt t Nl<;>rw[b5]at c1 c2;cases b6:Bt t Nm<;>rw[b6]at c1 c2;cases b7:Bt t Nn<;>rw[b7]at c1 c2;cases c1;exact .inr (.inr (.inr (.inr (.inr (.inr (.inl (.inr c2)))))));exact .inr (.inr (.inr (.inr (.inr (.inl (.inr c2))))));exact .inr (.inr (.inr (.inr (.inl (.inr c2)))));exact .inr (.inr (.inr (.inl (.inr c2))));exact .inr (.inr (.inl (.inr c2)));exact .inr (.inl (.inr c2));exact .inl (.inr c2)
 rcases cs with c|c|c|c|c|c|c|c;obtain⟨e,c⟩:=rj _ _ _ GM GM c;exact⟨_,1,e,GM,.inl ⟨rfl,D6w (pos:=tkp T i) tw hD h0 h1 gn c⟩⟩;obtain⟨e,c⟩:=rj _ _ _ GM GM c;exact⟨_,2,e,GM,.inl ⟨rfl,D2g (pos:=tkp T i) tw hD h0 h1 gn c⟩⟩;obtain⟨e,c⟩:=rj _ _ _ GM GM c;exact⟨_,3,e,GM,.inl ⟨rfl,C4J (.inl rfl) (pos:=tkp T i) tw hD h0 h1 gn c⟩⟩;obtain⟨e,c⟩:=rj _ _ _ GM GM c;exact⟨_,4,e,GM,.inl ⟨rfl,C4J (.inr rfl) (pos:=tkp T i) tw hD h0 h1 gn c⟩⟩;obtain⟨e,c⟩:=rj _ _ _ GM GM c;exact⟨_,5,e,GM,.inl ⟨rfl,D0r (pos:=tkp T i) tw hD h0 h1 gn c⟩⟩;obtain⟨e,c⟩:=rj _ _ _ GM GM c;exact⟨_,6,e,GM,.inl ⟨rfl,D6b (pos:=tkp T i) tw hD h0 h1 gn c⟩⟩;obtain⟨e,c⟩:=rj _ _ _ GM GM c;exact⟨_,7,e,GM,.inl ⟨rfl,C50 (pos:=tkp T i) tw hD h0 h1 gn c⟩⟩;obtain⟨e,c⟩:=w _ _ GM GM c;exact⟨_,8,e,GM,.inr ⟨rfl,C6C (pos:=tkp T i) tw hD h0 h1 gn c⟩⟩
def C01(d:B5):(hdN d).length<=11+d.name.length:=by
 unfold hdN;have h:∀k,(hdW k).length<=11:=λk=>by
  unfold hdW;cases k==1<;>cases k==2<;>cases k==3<;>cases k==4<;>cases k==5<;>cases k==6<;>cases k==7<;>decide
 have:=h d.kind;have:=h 1;cases d.kind==1<;>cases decide (d.kind<1\/8<d.kind)<;>simp only[GD,GF,Fd,GT]<;>omega
def B2J(tw:TW T)(hD:D<=200)(h0:0<=o)(h1:o<=D)(c:Ac T D (I7::st) i o):
  ∃d j,F36 T (i:Int)=J ([.agg .sys d],rd T j)/\Ac T D st j o/\i<j/\GSys d/\lq ((prSys d).length+2) i j:=by
 have hd:∃n i1 x i2,Ku T (i:Int)=J ([.agg .note n],rd T i1)/\Kb [101,120,116,101,110,100] T (i1:Int)=J ([.bool x],rd T i2)/\i<=i1/\i1<=i2/\P9 n/\lq (J2 n [10]).length i i1/\(Ac T D (MO::st) i2 o\/Ac T D (XM::st) i2 o):=by
  obtain⟨t,ht,hk,hl,c1,c2⟩:=c.rl tw GM;rw[C57]at c1 c2;obtain⟨n,e,g1,g2,g3⟩:=B5n tw ht;have nx:∀i,Ac T D (MO::st) i o->Kb [101,120,116,101,110,100] T (i:Int)=J ([.bool V],rd T i):=λi c=>by
   have ht:=GE c.lt;rw[L9 tw B9S ht,B6t tw c GM h0 FK ht];rfl
  have nl:Bt t J3=V->lq (J2 n [10]).length i i:=λh=>by unfold J2;rw[g3,h];exact lq.nil (GU _)
  cases hb:Bt t J3 with
  |true=>
   rw[hb]at c2 e;obtain⟨_,_,_,_,_,_,c3⟩:=MT tw c2 GM h0 h1 hD;exact⟨n,i+1,V,i+1,e,nx _ c3,FK,GU _,⟨g1,g2⟩,lq.tok FK (C3a ⟨g1,g2⟩ GO),.inl c3⟩
  |false=>
   rw[hb]at c1 c2 e;cases hc:bg (Bt t) 9 [MO]with
   |true=>rw[hc]at c2;exact⟨n,i,V,i,e,nx _ c2,GU _,GU _,⟨g1,g2⟩,nl hb,.inl c2⟩
   |false=>
    rw[hc]at c1 c2;cases hx:Bt t A92 with
    |false=>rw[hx]at c1;cases c1
    |true=>
     rw[hx]at c2;obtain⟨_,_,_,_,_,_,c3⟩:=MT tw c2 GM h0 h1 hD;exact⟨n,i,Z,i+1,e,by rw[L9 tw B9S ht,hx];rfl,GU _,IS _,⟨g1,g2⟩,nl hb,.inr c3⟩
 obtain⟨n,i1,x,i2,e1,e2,l1,l2,gn,ln,c⟩:=hd;obtain⟨t,k,e3,e4,hr⟩:=C8y (x:=x) tw hD h0 h1 gn c;have hr:Res T D st (i2+1) o k x n (bif k==8 then rk_ [.bool] (Kb [64] T ((i2+1:Nat):Int)) (n36 k x n (tkp T i2))else n36 k x n (tkp T i2) T ((i2+1:Nat):Int)):=by
  rcases hr with⟨h,r⟩|⟨h,r⟩<;>rw[h]<;>exact r
 obtain⟨d,j,e5,c,hj,ji,hk,hn,hx,lt⟩:=hr;refine⟨d,j,?_,c,FK,ji,(ln.comp ((lq.tok (n:=20) (FK:i1<i2+1) FK).comp lt)).le ?_⟩;simp only[F36,rk_,kT,gd,e1,ko,qo,e2,kb,qb,e3,kn,qn,rd0,rd1,e4,oI,gI,GD];exact e5;have h1:=C01 d;have h2:(bif d.extd then Rc else []).length<=7:=by cases d.extd<;>decide
 unfold prSys;rw[hn];simp only[Fd];omega
def ks(x:B5):okB [.agg .sys] [[.sl .tok O,.int .i64]] (J ([.agg .sys x],rd T i))=Z:=rfl
def qs(y:B5)(x:Gz):B9W (gB (J ([.agg .sys y],x)) 0)=y:=rfl
def C1k(tw:TW T)(hD:D<=200)(h0:0<=D){R:Type}{a0:Gp}{a1:Int}{k2:List B5->Bool->Gu->Int->Option R}{i0:Nat}:∀(n i:Nat)(ds:List B5),Rg GSys prSys ds i0 i->(Ac T D [O6,K4] i 0\/Ac T D [I7,O6,K4] i 0)->T.length<n+i->
  ∃(iH:List B5)(j:Nat),Pf NN a0 a1 n ds T (i:Int) k2=k2 iH V T (j:Int)/\j<T.length/\Rg GSys prSys iH i0 j
 |0,i,ds,_,c,hn=>by
  have:i<T.length:=c.elim Ac.lt Ac.lt;omega
 |n+1,i,ds,hi,c,hn=>by
  have gK:=tw.len;have go:Ac T D [I7,O6,K4] i 0->∃(iH:List B5)(j:Nat),Pf NN a0 a1 (n+1) ds T (i:Int) k2=k2 iH V T (j:Int)/\j<T.length/\Rg GSys prSys iH i0 j:=λc=>by
   have hl:=c.lt;have ht:T[i]?=J T[i]:=GE hl;have hb:=B6t (z:=K4) tw c GM (Jm 0) FK ht;have hk:(T[i].kind !=0)=Z:=by
    have:Bt T[i] K4=(T[i].kind==0):=rfl;rw[this]at hb;rw[bne,hb];rfl
   obtain⟨d,j,e,c1,h2,h3,h4⟩:=B2J tw hD (Jm 0) h0 c;obtain⟨iH,j',e',h5⟩:=C1k tw hD h0 (a0:=a0) (a1:=a1) (k2:=k2) (i0:=i0) n j (ds++[d]) (hi.add h3 h2 h4) (.inl c1) FK;refine⟨iH,j',?_,h5⟩;rw[<-e'];have hr:A3 (Aaa ds+1) 272=Z:=hi.rm FK FK
   conv=>lhs;unfold Pf
   simp only[B1,ht,hk,gd,e,ks,qs,rd0,rd1,hr,GD]
  rcases c with c|c;obtain⟨t,ht,hk,hl,c1,c2⟩:=c.rl tw GM;rw[D2x]at c1 c2;cases hb:bg (Bt t) 9 [I7,O6]with
  |true=>rw[hb]at c2;exact go (by simpa using c2)
  |false=>
   rw[hb]at c2;obtain⟨t',cQ,bC,_⟩:=Ac.term (s:=K4) (st:=[]) (by simpa using c2) GM GO;rw[ht]at cQ;cases cQ;have hk:(t.kind !=0)=V:=by
    have h0:Bt t K4=(t.kind==0):=rfl;rw[h0]at bC;rw[bne,bC];rfl
   refine⟨ds,i,?_,hl,hi⟩;unfold Pf;simp only[B1,ht,hk,GF]
  exact go c
def parse_ok(tw:TW T){a0:Gp}{a1:Int}(pJ:Km a0=J (.one (.sl .tok T (J 1)))):∃(l:List B5)(n:GA)(f:T5),LZ a0 a1=J (.tup [.sl .sys l n,.agg .fault f])/\(GL GSys l/\lq (sl prSys l) 0 1100000):=by
 have gK:=tw.len;obtain⟨D,h0,hD,hF⟩:∃D:Int,0<=D/\D<=200/\LZ a0 a1=gd (okR [.int .i64,.agg .pos] (MR RU [68,79,67] T D)) (bif(lI (gL (MR RU [68,79,67] T D) 0) !=0)then J (.tup [.sl .sys [] O,.agg .fault (⟨lI (gL (MR RU [68,79,67] T D) 0),[C5b (gL (MR RU [68,79,67] T D) 1)],[]⟩:T5)])
   else(Pf NN a0 a1 NN [] T ((0:Nat):Int) (λz6 z7 z8 z9=>J (.tup [.sl .sys z6 (J 1),.agg .fault (⟨0,[],[]⟩:T5)])))):=by
  have g1:okR [.sl .tok (J 1)] (J (.one (.sl .tok T (J 1))):Gq)=Z:=rfl;have g2:T8 (gL (J (.one (.sl .tok T (J 1))):Gq) 0)=T:=rfl;have g3:okR [.sl .str (J 1)] Zz=Z:=GM;have g4:okR [.sl .rule (J 1)] (J (.one (.sl .rule RU (J 1))):Gq)=Z:=rfl;have g5:C1x (gL (J (.one (.sl .rule RU (J 1))):Gq) 0)=RU:=rfl;by_cases h1:a1<0;refine⟨0,FK,FK,?_⟩;simp only[LZ,A95,d11,c11,GG h1,GD,GF,pJ,g1,g2,g3,B7Z,g4,g5,gd];rfl;by_cases h2:a1>200;refine⟨200,FK,FK,?_⟩;simp only[LZ,A95,d11,c11,GH h1,GG h2,GD,GF,pJ,g1,g2,g3,B7Z,g4,g5,gd];rfl;refine⟨a1,FK,FK,?_⟩;simp only[LZ,A95,d11,c11,GH h1,GH h2,GD,GF,pJ,g1,g2,g3,B7Z,g4,g5,gd];rfl
 obtain⟨k,p,yA,hk⟩:=D0T (D:=D) tw;have yA:MR RU [68,79,67] T D=J (.tup [.int .i64 k,.agg .pos p]):=yA;rw[hF,yA];by_cases dK:k=0;subst dK;have c:=hk rfl;obtain⟨t,ht,_,hl,c1,c2⟩:=c.rl tw GM;rw[D51]at c1 c2;cases hb:bg (Bt t) 9 [I7,O6,K4]with
 |false=>rw[hb]at c1;cases c1
 |true=>
  rw[hb]at c2;obtain⟨ds,j,e,hj,g⟩:=C1k tw hD h0 (R:=E6) (a0:=a0) (a1:=a1) (k2:=λz6 z7 z8 z9=>J (.tup [.sl .sys z6 (J 1),.agg .fault (⟨0,[],[]⟩:T5)])) (i0:=0) NN 0 [] Rg.nil (.inr (by simpa using c2)) (by rw[NNv];omega);refine⟨ds,J 1,⟨0,[],[]⟩,e,g.gl FK,(g.2.2.comp (lq.nil (FK:j<=1100000))).le (GU _)⟩
 refine⟨[],O,⟨k,[p],[]⟩,?_,GL.nil,lq.nil (HH _)⟩;have:(k !=0)=Z:=by simpa using dK
 show gd Z (bif(k !=0)then _ else _)=_;rw[this];rfl
end
section
variable {R:Type}{b b0:Gp}
def C0H(m:rg):∀(l:List E5)(i:Nat),0<i->∀g:Nat->rg,(∀i,0<i->g i=m)->pcs (λi x=>g i++x.name) i l=l.flatMap λy=>m++y.name
 |[],_,_,_,_=>rfl
 |x::r,i,h,g,hg=>by rw[pcs,ID,C0H m r (i+1) FK g hg,hg i h]
def D5Y(lead m:rg):∀l:List E5,nms lead m l=pcs (λi x=>(if i=0 then lead else m)++x.name) 0 l
 |[]=>rfl
 |x::r=>by rw[nms,pcs,C0H m r 1 FK (λi=>if i=0 then lead else m) (λi h=>GI FK)];rfl
end
section
variable {R:Type}{b b0:Gp}{d:B5}
end
section
variable {R:Type}{b b0:Gp}{d:B5}
def p86{n:G5}(hn:P9 n):Qw n.block n.text=J (.one (.str (qq n.block n.text))):=C4h hn.1 _
def p37{n:G5}{g:rg}(hn:P9 n)(hb:wOk b (J2 n g)):MN n g b=J ([],B7 (b++bI (J2 n g))):=by
 unfold J2 at hb ⊢;cases hh:n.has;simp only[MN,hh,GF];show J ([],B7 b)=J ([],B7 (b++[]));rw[GY];rw[hh]at hb;simp only[GD]at hb;simp only[wOk,Fd,Fr,GT]at hb;simp(disch:=first|exact GS|skip)only[MN,gd,hh,GD,p86 hn,oS1,gS1,p27,D2,C2,J0,GV,C9,GZ,HD,GY]
def Zx(hb:wOk b [32,32]):LN 1 b=J ([],B7 (b++bI [32,32])):=by
 have e:LC [32,32] 1=J (.one (.str [32,32])):=GM;simp only[wOk,Fd,Fr,GT]at hb;simp(disch:=first|exact GS|skip)only[LN,gd,e,oS1,gS1,p27,D2,C2,GD,J0,GV,C9,GZ,HD,GY]
def D1l(hb:wOk b []):LN 0 b=J ([],B7 b):=by
 have e:LC [32,32] 0=J (.one (.str [])):=GM;simp only[wOk,Fd,Fr,GT]at hb;simp(disch:=first|exact GS|skip)only[LN,gd,e,oS1,gS1,p27,D2,C2,GD,J0,GV,C9,GZ,HD,GY];simp[bI]
def B6z{n:G5}(hn:P9 n)(hb:wOk b (J2 n [10,32,32])):UC n 1 b=J ([],B7 (b++bI (J2 n [10,32,32]))):=by
 have yB:=λb hb=>p37 (b:=b) (g:=[10]) hn hb;simp only[J2]at hb yB ⊢;cases hh:n.has
 simp only[UC,hh,GF];show J ([],B7 b)=J ([],B7 (b++[]));rw[GY];rw[hh]at hb;simp only[hh,GD]at hb yB;simp only[wOk,Fd,Fr,GT]at hb;simp(disch:=first|exact GS|skip)only[UC,gd,hh,GD,yB,Zx,D2,C2,J0,GV,C9,GZ,HD,GY];rfl
def C5k{v:IvT}(hv:GIv v)(hb:wOk b (LY v)):PA v b=J ([],B7 (b++bI (LY v))):=by
 obtain⟨g1,g2,g3,g4,g5⟩:=hv;simp only[LY,I8]at hb;cases hh:v.hasDefault;rw[hh]at hb;simp only[GF]at hb;simp only[wOk,Fd,Fr,GT]at hb;have e:∀x b,Qy V x b=J ([],B7 b):=λx b=>rfl;simp(disch:=first|exact GS|skip)only[PA,gd,hh,GD,p18 g3,oS1,gS1,e,p27,p68 g5,D2,C2];simp only[LY,I8,hh,GF,J0,GV,C9,GZ,HD,GY]
 rw[hh]at hb;simp only[GD]at hb;simp only[wOk,Fd,Fr,GT]at hb;have e:∀b,wOk b ([32,61,32]++prN DD v.dflt)->Qy Z v.dflt b=J ([],B7 (b++bI ([32,61,32]++prN DD v.dflt))):=λb hb=>by
  simp only[wOk,Fd,Fr,GT]at hb;simp(disch:=first|exact GS|skip)only[Qy,gd,GD,p27,B1I (g4 hh),D2,C2,J0,GV,C9,GZ,HD,GY]
 simp(disch:=first|exact GS|skip)only[PA,gd,hh,GD,p18 g3,oS1,gS1,U3,e,p27,p68 g5,D2,C2];simp only[LY,I8,hh,GD,J0,GV,C9,GZ,HD,GY]
def p88{l:List IvT}(hl:GL GIv l)(hb:wOk b (La l)):XK l b=J ([],B7 (b++bI (La l))):=by
 have bm:∀(b b0:Gp)(k2:Int->Int->Bool->Gp->Gr),wOk b (jn 0 (l.map RW))->PJ NN l b0 NN (l.length:Int) ((0:Nat):Int) b k2=k2 (l.length:Int) (l.length:Int) V (b++bI (jn 0 (l.map RW))):=λb b0 k2 hb=>by
  rw[<-B8e]at hb ⊢;refine wl _ (λn i buf=>PJ NN l b0 n (l.length:Int) (i:Int) buf k2) (λbuf=>k2 (l.length:Int) (l.length:Int) V buf) hl.1 (λn buf=>?_) (λn i x buf hx hi hm hb=>?_) hb;show PJ NN l b0 (n+1) (l.length:Int) (l.length:Int) buf k2=_;unfold PJ;simp only[dge,GF]
  ·have hg:=hl.2 x hm;have hn:=hg.1;have hc:=B7a i;have eL:LitT.mk x.dflt.kind x.dflt.text x.dflt.block x.dflt.items x.dflt.fields ⟨x.dflt.pos.line,x.dflt.pos.col⟩=x.dflt:=LitT.eta x.dflt;have ex:∀b,PA (⟨⟨x.note.has,x.note.block,x.note.text⟩,x.name,⟨x.type_.name,x.type_.wrap⟩,x.hasDefault,x.dflt,x.dirs,⟨x.pos.line,x.pos.col⟩⟩:IvT) b=PA x b:=λb=>rfl;have en:∀g b,MN (⟨x.note.has,x.note.block,x.note.text⟩:G5) g b=MN x.note g b:=λg b=>rfl;simp only[RW]at hb;simp only[wOk,Fd,Fr,GT]at hb
   conv=>lhs;unfold PJ
   simp(disch:=first|exact GS|skip)only[gd,dlt hi,B1,hx,GD,B8s,eL,ex,en,p37 hn,C5k hg,D2,C2,S3 hl.1 hi];simp only[RW,GV,C9,GZ,HD,GY]
 by_cases h0:l=[];subst h0;show J ([],B7 b)=J ([],B7 (b++[]));rw[GY];unfold La at hb ⊢;rw[GI h0]at hb ⊢;simp only[wOk,Fd,Fr,GT]at hb;simp(disch:=first|exact GS|skip)only[XK,B3T,gd,Zt h0,GF,p27,D2,C2,GD,GV,C9,GZ,HD,GY];refine(bm _ _ _ (by simp only[wOk,Fd,C1,Fr,GT];omega)).trans ?_;simp(disch:=first|exact GS|skip)only[p27,D2,C2,GD,J0,GV,C9,GZ,HD,GY]
def p87{l:List E5}{m:rg}(hl:GL GNm l)(hm:m.length=1)(hb:wOk b (nms [] ([32]++m++[32]) l)):F87 l m b=J ([],B7 (b++bI (nms [] ([32]++m++[32]) l))):=by
 have bm:∀(k2:Int->Int->Bool->Gp->Gr),Ph NN l m b NN (l.length:Int) ((0:Nat):Int) b k2=k2 (l.length:Int) (l.length:Int) V (b++bI (nms [] ([32]++m++[32]) l)):=λk2=>by
  rw[D5Y]at hb ⊢;refine wl _ (λn i buf=>Ph NN l m b n (l.length:Int) (i:Int) buf k2) (λbuf=>k2 (l.length:Int) (l.length:Int) V buf) hl.1 (λn buf=>?_) (λn i x buf hx hi hm hb=>?_) hb;show Ph NN l m b (n+1) (l.length:Int) (l.length:Int) buf k2=_;unfold Ph;simp only[dge,GF]
  ·conv=>lhs;unfold Ph
   by_cases h0:i=0;subst h0;simp only[if_true,Hj]at hb;simp only[wOk,Fd,Fr,GT]at hb;simp(disch:=first|exact GS|skip)only[gd,dlt hi,B1,hx,GD,GF,show decide (((0:Nat):Int)>0)=V from rfl,p27,D2,C2,S3 hl.1 hi];simp only[if_true,Hj,GV,C9,GZ,HD,GY];rw[GI h0]at hb ⊢;simp only[wOk,Fd,Fr,GT]at hb;simp(disch:=first|exact GS|skip)only[gd,dlt hi,B1,hx,GD,show decide (((i:Nat):Int)>0)=Z from GG FK,p27,D2,C2,S3 hl.1 hi];simp only[GV,C9,GZ,HD,GY]
 exact bm _
def GP:PartT->Prop
 | .sel _=>False
 | .root r=>GRd r
 | .field f=>GFd f
 | .value v=>GVd v
 | .input v=>GIv v
def prP:PartT->rg
 | .sel _=>[]
 | .root r=>MW r
 | .field f=>Lb f
 | .value v=>J5 v
 | .input v=>N8 v
def f66{k:Int}(h:k=1\/k=2\/k=3):Tw k=J (.one (.str (opW k))):=by
 rcases h with h|h|h<;>subst h<;>rfl
def pFI{g:SelT->Int->Gp->Gr}{x:PartT}(h:GP x)(hb:wOk b (prP x)):∃s,prP x=[32,32]++s/\∀b',b'.length=b.length+2->FI g x 1 b'=J ([],B7 (b'++bI s)):=by
 cases x with
 |sel s=>exact h.elim
 |root r=>
  have h:GRd r:=h;refine⟨opW r.op++[58,32]++r.type_,by show MW r=_;simp only[MW,GV],λb' hl=>?_⟩;have hb:wOk b (MW r):=hb;simp only[MW]at hb;simp only[wOk,Fd,Fr,GT]at hb;have vS:=f66 h.1;simp(disch:=first|exact GS|skip)only[FI,B0T,gd,vS,oS1,gS1,p27,D2,C2,GD,J0,GV,C9,GZ,HD,GY]
 |field f=>
  have h:GFd f:=h;obtain⟨g1,g2,g3,g4,g5⟩:=h;refine⟨J2 f.note [10,32,32]++f.name++La f.args++[58,32]++prT f.type_++E2 f.dirs,by show Lb f=_;simp only[Lb,GV],λb' hl=>?_⟩;have hb:wOk b (Lb f):=hb;simp only[Lb]at hb;simp only[wOk,Fd,Fr,GT]at hb;simp(disch:=first|exact GS|skip)only[FI,B04,gd,B6z g1,p27,p88 g3,p18 g4,oS1,gS1,p68 g5,D2,C2,GD,J0,GV,C9,GZ,HD,GY]
 |value v=>
  have h:GVd v:=h;obtain⟨g1,g2,g5⟩:=h;refine⟨J2 v.note [10,32,32]++v.name++E2 v.dirs,by show J5 v=_;simp only[J5,GV],λb' hl=>?_⟩;have hb:wOk b (J5 v):=hb;simp only[J5]at hb;simp only[wOk,Fd,Fr,GT]at hb;simp(disch:=first|exact GS|skip)only[FI,B1q,gd,B6z g1,p27,p68 g5,D2,C2,GD,J0,GV,C9,GZ,HD,GY]
 |input v=>
  have h:GIv v:=h;refine⟨J2 v.note [10,32,32]++LY v,by show N8 v=_;simp only[N8,GV],λb' hl=>?_⟩;have hb:wOk b (N8 v):=hb;simp only[N8]at hb;simp only[wOk,Fd,Fr,GT]at hb;simp(disch:=first|exact GS|skip)only[FI,B1h,gd,B6z h.1,C5k h,D2,C2,GD,J0,GV,C9,GZ,HD,GY]
def Zy:∀(l:List PartT),[10]++l.flatMap (λx=>prP x++[10])=l.flatMap (λx=>[10]++prP x)++[10]
 |[]=>rfl
 |x::r=>by
  have:=Zy r;rw[ID,ID,GV (prP x),this];simp only[GV]
def prB(l:List PartT):rg:=if l=[]then []else [32,123]++l.flatMap (λx=>[10]++prP x)++[10,125]
def p63{l:List PartT}(hl:l.length<=4400000/\∀x∈l,GP x)(hb:wOk b (prB l)):XL l 0 b=J ([],B7 (b++bI (prB l))):=by
 show Zw _ (M5 999999).2 l 0 b=_;generalize (M5 999999).1=g1;generalize (M5 999999).2=g2;have bm:∀(b b0:Gp)(k2:Int->Int->Bool->Gp->Gr),wOk b (l.flatMap λx=>prP x++[10])->W1 NN g1 g2 l 0 b0 NN (l.length:Int) ((0:Nat):Int) b k2=k2 (l.length:Int) (l.length:Int) V (b++bI (l.flatMap λx=>prP x++[10])):=λb b0 k2 hb=>by
  rw[<-B2e _ l 0]at hb ⊢;refine wl _ (λn i buf=>W1 NN g1 g2 l 0 b0 n (l.length:Int) (i:Int) buf k2) (λbuf=>k2 (l.length:Int) (l.length:Int) V buf) hl.1 (λn buf=>?_) (λn i x buf hx hi hm hb=>?_) hb;show W1 NN g1 g2 l 0 b0 (n+1) (l.length:Int) (l.length:Int) buf k2=_;unfold W1;simp only[dge,GF]
  ·simp only[wOk,Fd,Fr,GT]at hb;obtain⟨s,e,yC⟩:=pFI (g:=g2) (b:=buf) (hl.2 x hm) (by unfold wOk;omega);have yC:=yC (buf++bI [32,32]) (by simp[C1]);rw[e]at hb ⊢;simp only[wOk,Fd,Fr,GT]at hb
   conv=>lhs;unfold W1
   simp(disch:=first|exact GS|skip)only[gd,dlt hi,B1,hx,GD,show Aac .i64 ((0:Int)+1)=1 from rfl,Zx,yC,p27,D2,C2,S3 hl.1 hi];simp only[GV,C9,GZ,HD,GY]
 by_cases h0:l=[];subst h0;show J ([],B7 b)=J ([],B7 (b++[]));rw[GY];have e:prB l=[32,123,10]++l.flatMap (λx=>prP x++[10])++[125]:=by
  have:=Zy l;unfold prB;rw[GI h0,show([32,123,10]:rg)=[32,123]++[10]from rfl,GV [32,123] [10],this];simp only[GV];rfl
 rw[e]at hb ⊢;simp only[wOk,Fd,Fr,GT]at hb;simp(disch:=first|exact GS|skip)only[Zw,Zv,gd,Zt h0,GF,p27,D2,C2,GD,GV,C9,GZ,HD,GY];refine(bm _ _ _ (by simp only[wOk,Fd,C1,Fr,GT];omega)).trans ?_;simp(disch:=first|exact GS|skip)only[D1l,p27,D2,C2,GD,J0,GV,C9,GZ,HD,GY]
end
end Go.Aev.Sy
namespace Go.Aev
open Go.Proofs
def Nu{R:Type}(nn:Nat)(a0:List B5):Nat->Int->Int->Gp->(Int->Int->Bool->Gp->Option R)->Option R
 |0,_,_,_,_=>O
 |n+1,x9,aI,ax,k2=>let k1:=λx9 aI ax=>Nu nn a0 n x9 aI ax k2;let z1:=decide (aI<x9);bif z1 then(match idx a0 aI with|O=>O|J y6=>(
 let v:Gp->Option R:=λz=>let r:=Kj y6 z;gd (okB [] kP r) (let r:=Kc [[10]] (gP r);gd (okB [] kP r) (k1 x9 (Aac .i64 (aI+1)) (gP r)))
 let t:Gp->Option R:=λz=>let r:=MN y6.note [10] z;gd (okB [] kP r) (bif y6.extd then(let r:=Kc [Rc] (gP r);gd (okB [] kP r) (v (gP r)))else v (gP r))
 bif decide (aI>0)then(let r:=Kc [[10]] ax;gd (okB [] kP r) (t (gP r)))else t ax))else(k2 x9 aI z1 ax)
def D0N{R}(nn a0)(K:Kt R):∀n x9 aI ax,Nu nn a0 n x9 aI ax (λx9 aI cY ax=>K (.exit 0) ⟨[eP 3 107,eL 8 .sys a0,eI 9 x9,eI 10 aI,eB 11 cY,(1000107,.bx 107 [.ptr 107 A9,.sl .u8 ax (J 2010701)])],[107,2010701]⟩)=LP E12 nn Tryz.f12 75 n ⟨[eP 3 107,eL 8 .sys a0,eI 9 x9,eI 10 aI,(1000107,.bx 107 [.ptr 107 A9,.sl .u8 ax (J 2010701)])],[107,2010701]⟩ K:=λn=>n.rec (by intros;rfl) λn i=>by
 intros;rw[Nu];simp only[i];kernel_rfl
def B6R(nn:Nat)(a0:List B5):Gq:=Nu nn a0 nn (Aaa a0:Int) 0 [] (λz1 z2 z3 z4=>gd (okB [.str] kP (Kl z4)) (J (.one (.str (lS (gB (Kl z4) 0))))))
def Xe(a0:List B5):Gq:=B6R NN a0
def S12:KY
 |[.sl .sys a0 O]=>pR [.str] (Xe a0)
 |_=>O
def C2A:Env Ty6 A2:=mkE [(217,B35)] [] (lkR [(0,2,2),(1,0,1),(1,10,1),(3,11,1),(5,13,4),(6,17,1),(7,8,1),(7,18,8),(8,9,1),(8,26,1),(9,4,4),(9,12,1),(9,27,3),(10,6,2),(10,18,1),(10,27,1),(10,30,4),(11,4,2),(11,12,3),(11,34,3)]) 37 [] 0 [] []
def D6G{R}(nn a0)(K:Kt R):∀n x5 cZ,To nn a0 n x5 cZ (λx2 x3=>K .ret ⟨[eO 2 .i32 x2 105,eI 3 x3],[105]⟩) (λx5 cZ=>K (.exit 0) ⟨[eS 4 a0,eO 5 .i32 x5 105,(12,.iter a0 cZ),(13,.tup [.bool V]),eB 14 V],[105]⟩)=LP C2A nn f190 151 n ⟨[eS 4 a0,eO 5 .i32 x5 105,(12,.iter a0 cZ)],[105]⟩ K:=λn=>n.rec (by intros;rfl) λn i=>by
 intros;rw[To];simp only[i];kernel_rfl
def B3E:KY
 |[.str a0]=>pR [.sl .i32 (J 1),.int .i64] (On a0)
 |_=>O
def D63:Env Ty6 A2:=mkE [] [] noD 25 [] 0 [] []
def B4A:KY
 |[.int .i32 a0]=>pR [.bool] (Zc a0)
 |_=>O
def D2G:Env Ty6 A2:=mkE [] [] noD 26 [] 0 [] []
def B8L:KY
 |[.sl .i32 a0 O,.int .i64 a1]=>pR [.bool] (ZW a0 a1)
 |_=>O
def C39:Env Ty6 A2:=mkE [(218,B8L)] [] (lkR [(0,2,1),(5,10,4),(6,6,1),(6,14,4),(6,26,1),(7,5,1),(7,19,3),(8,4,1),(8,6,1),(8,18,1),(8,22,4),(10,18,1),(10,27,2),(11,6,1),(11,26,1),(11,29,1),(12,0,1),(12,3,2),(12,7,4),(12,30,4)]) 34 [] 0 [] []
def C9R{R}(nn a0)(K:Kt R):∀n x3 x4 x8 x9,Wu nn a0 n x3 x4 x8 x9 (λx3 x4 x8 x9 aI=>K (.exit 0) ⟨[eL 0 .i32 a0,eO 3 .rs x3 103,eO 4 .i32 x4 104,eL 7 .i32 a0,eI 8 x8,eI 9 x9,eB 10 aI],[103,104]⟩)=LP C39 nn f192 151 n ⟨[eL 0 .i32 a0,eO 3 .rs x3 103,eO 4 .i32 x4 104,eL 7 .i32 a0,eI 8 x8,eI 9 x9],[103,104]⟩ K:=λn=>n.rec (by intros;rfl) λn i=>by
 intros;rw[Wu];simp only[i];kernel_rfl
def B8p:KY
 |[.sl .i32 a0 O]=>pR [.sl .rs (J 1)] (ZX a0)
 |_=>O
def D2Q:Env Ty6 A2:=mkE [] [] noD 9 [] 0 [] []
def A9I:KY
 |[.int .i32 a0]=>pR [.bool] (Oo a0)
 |_=>O
def C4p:Env Ty6 A2:=mkE [(194,A9I)] [] (lkR [(0,2,1),(2,4,10),(3,14,3),(4,0,1),(4,3,1),(4,14,1),(4,17,1)]) 18 [] 0 [] []
def C8G{R}(nn a0)(K:Kt R):∀n x3,Wv nn a0 n x3 (λx3 cv=>K (.exit 0) ⟨[eL 0 .i32 a0,eI 3 x3,eB 14 cv],[]⟩)=LP C4p nn f237 35 n ⟨[eL 0 .i32 a0,eI 3 x3],[]⟩ K:=λn=>n.rec (by intros;rfl) λn i=>by
 intros;rw[Wv];simp only[i];kernel_rfl
def B5r:KY
 |[.sl .i32 a0 O]=>pR [.int .i64] (B3p a0)
 |_=>O
def C6c:Env Ty6 A2:=mkE [(237,B5r)] [] noD 8 [] 0 [] []
def B4y:KY
 |[.sl .i32 a0 O]=>pR [.bool] (Oq a0)
 |_=>O
def C0x:Env Ty6 A2:=mkE [(194,A9I),(219,B4y)] [] (lkR [(0,2,1),(1,5,12),(2,0,1),(2,17,1),(3,17,3),(4,0,1),(4,20,1),(5,0,1),(5,20,1),(7,24,3),(8,4,1),(8,27,9),(9,21,3),(9,36,1),(10,36,2),(11,21,4)]) 38 [] 0 [] []
def C63{R}(nn a0)(K:Kt R):∀n gr fw,Tp nn a0 n gr fw (K .ret ⟨[eB 2 Z],[]⟩) (λgr fw ij=>K (.exit 0) ⟨[eL 21 .rs a0,eI 22 gr,eI 23 fw,eB 24 ij],[]⟩)=LP C0x nn f193 151 n ⟨[eL 21 .rs a0,eI 22 gr,eI 23 fw],[]⟩ K:=λn=>n.rec (by intros;rfl) λn i=>by
 intros;rw[Tp];simp only[i];kernel_rfl
def B4l:KY
 |[.sl .rs a0 O]=>pR [.bool] (ZY a0)
 |_=>O
def D2c:Env Ty6 A2:=mkE [] [] noD 24 [] 0 [] []
def B6e:KY
 |[.sl .i32 a0 O]=>pR [.bool] (Wy a0)
 |_=>O
def D0H:Env Ty6 A2:=mkE [] [] noD 17 [] 0 [] []
def B7M:KY
 |[.int .i32 a0]=>pR [.bool] (ZZ a0)
 |_=>O
def C8b:Env Ty6 A2:=mkE [] [] noD 78 [] 0 [] []
def B4u:KY
 |[.sl .u8 a0 (J 0),.int .i32 a1]=>pR [.sl .u8 (J 0)] (Za a0 a1)
 |_=>O
def D67:Env Ty6 A2:=mkE [(238,B4u)] [] noD 16 [] 0 [] []
def B72:KY
 |[.sl .u8 a0 (J 0),.int .i32 a1]=>pR [.sl .u8 (J 0)] (Zb a0 a1)
 |_=>O
def C5r:Env Ty6 A2:=mkE [(220,B7M),(221,B72)] [] (lkR [(0,2,2),(2,0,1),(4,10,3),(5,13,2),(6,4,1),(6,6,4),(6,15,1),(7,6,1),(7,15,4),(8,19,1),(9,4,1),(9,7,4),(9,20,2)]) 22 [] 0 [] []
def D5O{R}(nn a0)(K:Kt R):∀n x4 x8 x9,Ww nn a0 n x4 x8 x9 (K .ret ⟨[(2,.one (.str [])),eB 3 V],[]⟩) (λx4 x8 x9 aI=>K (.exit 0) ⟨[eO 4 .u8 x4 104,eL 7 .i32 a0,eI 8 x8,eI 9 x9,eB 10 aI],[104]⟩)=LP C5r nn f196 75 n ⟨[eO 4 .u8 x4 104,eL 7 .i32 a0,eI 8 x8,eI 9 x9],[104]⟩ K:=λn=>n.rec (by intros;rfl) λn i=>by
 intros;rw[Ww];simp only[i];kernel_rfl
def B0H:KY
 |[.sl .i32 a0 O]=>pR [.str,.bool] (Qu a0)
 |_=>O
def B6V:Env Ty6 A2:=mkE [(190,B3E),(191,B4A),(192,B8p),(193,B4l),(194,A9I),(195,B6e),(196,B0H)] [] (lkR [(0,2,2),(1,13,1),(2,0,1),(2,14,1),(3,14,6),(4,0,1),(4,5,1),(4,20,3),(5,4,1),(5,23,1),(6,23,1),(8,27,3),(9,7,1),(9,30,6),(10,4,1),(10,24,3),(10,36,1),(11,36,2),(12,24,4),(12,38,2),(13,40,2),(14,4,1),(14,8,1),(14,42,1),(15,42,2),(16,8,1),(16,44,9),(17,53,4),(18,53,1),(19,57,3),(20,61,2),(21,60,1),(21,63,3),(22,66,4),(23,70,2),(24,66,1),(24,72,7),(25,4,1),(25,9,2),(25,12,1),(25,60,1),(25,79,7),(26,11,1),(26,86,1)]) 87 [] 0 [] []
end Go.Aev
namespace Go.Aev.Sy
section
variable {R:Type}{b b0:Gp}{d:B5}
def C0K{α:Type}{l:List α}(f:α->PartT)(Lf:Nat->Nat->List PartT->Option R)(K:List PartT->Option R)(dV:∀n x,Lf (n+1) l.length x=K x)
  (hs:∀n i x y,l[i]?=J y->i<l.length->x.length<=4400000->Lf (n+1) i x=Lf n (i+1) (x++[f y])):∀(n i:Nat)(x:List PartT),i<=l.length->l.length<n+i->x.length+l.length<=4400000+i->Lf n i x=K (x++(l.drop i).map f)
 |0,i,x,h1,h2,h3=>FK
 |n+1,i,x,h1,h2,h3=>by
  by_cases hi:i<l.length;have hd:l.drop i=l[i]::l.drop (i+1):=Ht hi;rw[hd,hs n i x l[i] (GE hi) hi FK,C0K f Lf K dV hs n (i+1) _ FK FK (by rw[Fd,Hl];omega)];rw[IN,GV];rfl;have bO:i=l.length:=FK;subst bO;rw[IL,dV];simp
def bl{α:Type}{l:List α}(f:α->PartT)(Lf:Nat->Nat->List PartT->Option R)(K:List PartT->Option R)(x:List PartT)(hx:x.length+l.length<=4400000)(dV:∀n x,Lf (n+1) l.length x=K x)
 (hs:∀n i x y,l[i]?=J y->i<l.length->x.length<=4400000->Lf (n+1) i x=Lf n (i+1) (x++[f y])):Lf NN 0 x=K (x++l.map f):=C0K f Lf K dV hs NN 0 x (HH _) (by rw[NNv];omega) hx
def B17{m:Nat}(h:m<=4400000):A3 (m+1) 16=Z:=by
 unfold A3;apply GG;omega
def MX(d:B5):List PartT:=d.roots.map .root++d.fields.map .field++d.values.map .value++(if d.kind=7 then d.inputs.map .input else [])
def p89(h:GSys d):F89 d=J (.one (.sl .part (MX d) (J 1))):=by
 have l1:=h.rds.1;have l2:=h.fds.1;have l3:=h.vals.1;have l4:=h.ivs.1;show RX NN d NN [] d.roots (d.roots.length:Int) ((0:Nat):Int) _=_;rw[bl (l:=d.roots) .root (λn i x=>RX NN d n x d.roots (d.roots.length:Int) (i:Int) _) (λx=>_) [] GQ (λn x=>by unfold RX;simp only[dge,GF];rfl) (λn i x y hy hi hx=>by
  conv=>lhs;unfold RX
  simp only[dlt hi,GD,B1,hy,B17 hx,gd,S3 l1 hi])]
 rw[Hj];show RY NN d NN _ d.fields (d.fields.length:Int) ((0:Nat):Int) _=_;rw[bl (l:=d.fields) .field (λn i x=>RY NN d n x d.fields (d.fields.length:Int) (i:Int) _) (λx=>_) _ GQ (λn x=>by unfold RY;simp only[dge,GF];rfl) (λn i x y hy hi hx=>by
  conv=>lhs;unfold RY
  simp only[dlt hi,GD,B1,hy,B17 hx,gd,S3 l2 hi])]
 show RZ NN d NN _ d.values (d.values.length:Int) ((0:Nat):Int) _=_;rw[bl (l:=d.values) .value (λn i x=>RZ NN d n x d.values (d.values.length:Int) (i:Int) _) (λx=>_) _ GQ (λn x=>by unfold RZ;simp only[dge,GF];rfl) (λn i x y hy hi hx=>by
  conv=>lhs;unfold RZ
  simp only[dlt hi,GD,B1,hy,B17 hx,gd,S3 l3 hi])]
 unfold MX;by_cases h7:d.kind=7
 ·have yD:(d.kind==7)=Z:=by simpa using h7
  rw[GJ h7,yD,GD];show Ra NN d NN _ d.inputs (d.inputs.length:Int) ((0:Nat):Int) _=_;rw[bl (l:=d.inputs) .input (λn i x=>Ra NN d n x d.inputs (d.inputs.length:Int) (i:Int) _) (λx=>_) _ GQ (λn x=>by unfold Ra;simp only[dge,GF];rfl) (λn i x y hy hi hx=>by
   conv=>lhs;unfold Ra
   simp only[dlt hi,GD,B1,hy,B17 hx,gd,S3 l4 hi])]
 have yD:(d.kind==7)=V:=by simpa using h7
 rw[GI h7,yD,GF,GY]
def D1w(h:GSys d):(MX d).length<=4400000/\∀x∈MX d,GP x:=by
 have l1:=h.rds.1;have l2:=h.fds.1;have l3:=h.vals.1;have l4:=h.ivs.1;unfold MX;constructor;simp only[Fd,HR];split;simp only[HR];omega;simp only[GT];omega;intro x hx;simp only[Hg,Ii]at hx;rcases hx with((⟨r,hr,e⟩|⟨r,hr,e⟩)|⟨r,hr,e⟩)|hx;rw[<-e];exact h.rds.2 r hr;rw[<-e];exact h.fds.2 r hr;rw[<-e];exact h.vals.2 r hr;split at hx;obtain⟨r,hr,e⟩:=Ii.1 hx;rw[<-e];exact h.ivs.2 r hr;cases hx
def C9s(h:GSys d):prB (MX d)=P1 d:=by
 have e:(MX d).map prP=lns d:=by
  unfold MX lns;simp only[Ic,Iz];split;simp only[Iz];rfl;rfl
 unfold prB P1;rw[<-e,List.flatMap_map];simp only[List.map_eq_nil_iff]
def B7K(lead m:rg){l:List E5}(h:l≠[]):nms lead m l=lead++nms [] m l:=by
 cases l with
 |nil=>exact absurd rfl h
 |cons x r=>simp[nms]
def B9g{α:Type}{l:List α}:decide ((Aaa l:Int)>0)= !l.isEmpty:=by
 cases l with
 |nil=>rfl
 |cons x r=>exact GG (by rw[Fr];omega)
def B5h(h:GSys d)(hb:wOk b (P1 d)):j38 d b=J ([],B7 (b++bI (P1 d))):=by
 have e1:okR [.sl .part (J 1)] (J (.one (.sl .part (MX d) (J 1))):Gq)=Z:=rfl;have e2:SX (gL (J (.one (.sl .part (MX d) (J 1))):Gq) 0)=MX d:=rfl;rw[<-C9s h]at hb ⊢;unfold j38;rw[p89 h];simp only[gd,e1,e2,p63 (D1w h) hb,D2,C2,GD]
def Re(h:GSys d)(hb:wOk b (E2 d.dirs++(nms [32,61,32] [32,124,32] d.members++P1 d))):t38 d b=J ([],B7 (b++bI (E2 d.dirs++(nms [32,61,32] [32,124,32] d.members++P1 d)))):=by
 have em:∀z,d.members≠[]->wOk z (nms [32,61,32] [32,124,32] d.members++P1 d)->m38 d z=J ([],B7 (z++bI (nms [32,61,32] [32,124,32] d.members++P1 d))):=λz hm hb=>by
  have pK:=λb hb=>p87 (b:=b) (m:=[124]) h.mbs rfl hb;simp only[IZ,Hj]at pK;rw[B7K _ _ hm]at hb ⊢;simp only[wOk,Fd,Fr,GT]at hb;unfold m38;simp(disch:=first|exact GS|skip)only[gd,p27,pK,B5h h,D2,C2,GD,GV,C9,GZ,HD,GY]
 unfold t38;simp only[wOk,Fd,Fr,GT]at hb;by_cases h5:d.kind=5;have vU:(d.kind==5)=Z:=by simpa using h5
 by_cases hm:d.members=[];have ee:nms [32,61,32] [32,124,32] d.members=[]:=by rw[hm];rfl
 have e0:decide ((Aaa d.members:Int)>0)=V:=by rw[hm];rfl
 rw[ee]at hb ⊢;simp(disch:=first|exact GS|skip)only[vU,e0,gd,p68 h.ds,B5h h,D2,C2,GD,GF,beq_self_eq_true,Hj,GV,C9,GZ,HD,GY];have e0:decide ((Aaa d.members:Int)>0)=Z:=by
  rw[B9g];cases hh:d.members with
  |nil=>exact absurd hh hm
  |cons x r=>rfl
 have em:=λz hb=>em z hm hb;simp(disch:=first|exact GS|skip)only[vU,e0,gd,p68 h.ds,em,D2,C2,GD,beq_self_eq_true,GV,C9,GZ,HD,GY]
 have vU:(d.kind==5)=V:=by simpa using h5
 have ee:nms [32,61,32] [32,124,32] d.members=[]:=by rw[h.k5 h5];rfl
 rw[ee]at hb ⊢;simp(disch:=first|exact GS|skip)only[vU,gd,p68 h.ds,B5h h,D2,C2,GD,GF,Hj,show(V==Z)=V from rfl,GV,C9,GZ,HD,GY]
def C0Z(h:GSys d)(hb:wOk b (nms UZ [32,38,32] d.ifaces++(E2 d.dirs++(nms [32,61,32] [32,124,32] d.members++P1 d)))):i38 d b=J ([],B7 (b++bI (nms UZ [32,38,32] d.ifaces++(E2 d.dirs++(nms [32,61,32] [32,124,32] d.members++P1 d))))):=by
 unfold i38;by_cases hm:d.ifaces=[];have ee:nms UZ [32,38,32] d.ifaces=[]:=by rw[hm];rfl
 have e0:decide ((Aaa d.ifaces:Int)>0)=V:=by rw[hm];rfl
 rw[ee]at hb ⊢;rw[e0,GF];exact Re h hb;have e0:decide ((Aaa d.ifaces:Int)>0)=Z:=by
  rw[B9g];cases hh:d.ifaces with
  |nil=>exact absurd hh hm
  |cons x r=>rfl
 have pK:=λb hb=>p87 (b:=b) (m:=[38]) h.ifs rfl hb;simp only[IZ,Hj]at pK;rw[B7K _ _ hm]at hb ⊢;simp only[wOk,Fd,Fr,GT]at hb;simp(disch:=first|exact GS|skip)only[e0,gd,p27,pK,Re h,D2,C2,GD,GV,C9,GZ,HD,GY]
def C2R{s:Gy}{f:Gp->Gr}{x:rg}(hs:s.length<=1000)(hb:wOk b (s.flatten++x))(hf:∀b,wOk b x->f b=J ([],B7 (b++bI x))):w38 s f b=J ([],B7 (b++bI (s.flatten++x))):=by
 simp only[wOk,Fd,Fr,GT]at hb;unfold w38;simp(disch:=first|exact GS|skip)only[gd,p27,hf,D2,C2,GD];simp only[C9,GV]
def Ua{a nm:rg}{f:Gp->Gr}{x:rg}(hb:wOk b (a++nm++x))(hf:∀b,wOk b x->f b=J ([],B7 (b++bI x))):w38 [a,nm] f b=J ([],B7 (b++bI (a++nm++x))):=by
 have e:([a,nm]:Gy).flatten=a++nm:=GN;have:=C2R (s:=[a,nm]) (f:=f) (x:=x) (b:=b) (by show 2<=1000;omega) (by rw[e];exact hb) hf;rw[e]at this;exact this
def B59{a:rg}{f:Gp->Gr}{x:rg}(hb:wOk b (a++x))(hf:∀b,wOk b x->f b=J ([],B7 (b++bI x))):w38 [a] f b=J ([],B7 (b++bI (a++x))):=by
 have e:([a]:Gy).flatten=a:=GN;have:=C2R (s:=[a]) (f:=f) (x:=x) (b:=b) (by show 1<=1000;omega) (by rw[e];exact hb) hf;rw[e]at this;exact this
def p38(h:GSys d)(hb:wOk b (hdN d++Z1 d)):Kj d b=J ([],B7 (b++bI (hdN d++Z1 d))):=by
 have hk:=h.kd;have ti:d.kind≠8->Z1 d=nms UZ [32,38,32] d.ifaces++(E2 d.dirs++(nms [32,61,32] [32,124,32] d.members++P1 d)):=λh8=>by
  unfold Z1;rw[GI h8];simp only[GV]
 have tt:d.kind≠8->d.kind≠3->d.kind≠4->Z1 d=E2 d.dirs++(nms [32,61,32] [32,124,32] d.members++P1 d):=λh8 h3 h4=>by
  rw[ti h8,h.k34 h3 h4];rfl
 have hn:d.kind≠1->1<=d.kind->d.kind<=8->hdN d=hdW d.kind++d.name:=λh1 h2 h3=>by
  unfold hdN;rw[show(d.kind==1)=V by simpa using h1,GH FK];rfl
 have hk:(d.kind=0\/8<d.kind)\/d.kind=1\/d.kind=2\/d.kind=3\/d.kind=4\/d.kind=5\/d.kind=6\/d.kind=7\/d.kind=8:=FK;rcases hk with hk|hk|hk|hk|hk|hk|hk|hk|hk;have e0:∀k:Int,1<=k->k<=8->(d.kind==k)=V:=λk h1 h2=>GQ
 have e:Kj d b=t38 d b:=by
  unfold Kj o38;simp only[e0 1 GO GO,e0 2 GO GO,e0 3 GO GO,e0 4 GO GO,e0 5 GO GO,e0 6 GO GO,e0 7 GO GO,e0 8 GO GO,GF]
 have eN:hdN d=[]:=by
  unfold hdN;rw[e0 1 GO GO,GG FK];rfl
 rw[eN,Hj,tt FK FK FK]at hb ⊢;rw[e];exact Re h hb;have e:Kj d b=w38 [hdW d.kind] (t38 d) b:=by unfold Kj;rw[hk];rfl
 rw[tt FK FK FK,show hdN d=hdW d.kind by unfold hdN;rw[hk];rfl]at hb ⊢;rw[e];exact B59 hb λb hb=>Re h hb
 have e:Kj d b=w38 [hdW d.kind,d.name] (t38 d) b:=by unfold Kj;rw[hk];rfl
 rw[tt FK FK FK,hn FK FK FK]at hb ⊢;rw[e];exact Ua hb λb hb=>Re h hb
 have e:Kj d b=w38 [hdW d.kind,d.name] (i38 d) b:=by unfold Kj o38;rw[hk];rfl
 rw[ti FK,hn FK FK FK]at hb ⊢;rw[e];exact Ua hb λb hb=>C0Z h hb
 have e:Kj d b=w38 [hdW d.kind,d.name] (i38 d) b:=by unfold Kj o38;rw[hk];rfl
 rw[ti FK,hn FK FK FK]at hb ⊢;rw[e];exact Ua hb λb hb=>C0Z h hb
 have e:Kj d b=w38 [hdW d.kind,d.name] (t38 d) b:=by unfold Kj o38;rw[hk];rfl
 rw[tt FK FK FK,hn FK FK FK]at hb ⊢;rw[e];exact Ua hb λb hb=>Re h hb
 have e:Kj d b=w38 [hdW d.kind,d.name] (t38 d) b:=by unfold Kj o38;rw[hk];rfl
 rw[tt FK FK FK,hn FK FK FK]at hb ⊢;rw[e];exact Ua hb λb hb=>Re h hb
 have e:Kj d b=w38 [hdW d.kind,d.name] (t38 d) b:=by unfold Kj o38;rw[hk];rfl
 rw[tt FK FK FK,hn FK FK FK]at hb ⊢;rw[e];exact Ua hb λb hb=>Re h hb
 have e:Kj d b=w38 [hdW d.kind,d.name] (λz=>let r:=XK d.inputs z;gd (okB [] kP r) (bif d.repeatable then w38 [Rb] (q38 d) (B3 (gC r 0 1))else q38 d (B3 (gC r 0 1)))) b:=by unfold Kj o38;rw[hk];rfl
 rw[e];rw[hn FK FK FK]at hb ⊢;refine Ua hb λb hb=>?_;unfold Z1 at hb ⊢;rw[GJ hk]at hb ⊢;have pK:=λb hb=>p87 (b:=b) (m:=[124]) h.pls rfl hb;simp only[IZ,Hj]at pK;have eq:∀z,wOk z (nms [32,111,110,32] [32,124,32] d.places)->q38 d z=J ([],B7 (z++bI (nms [32,111,110,32] [32,124,32] d.places))):=λz hb=>by
  rw[B7K _ _ (h.k8 hk)]at hb ⊢;unfold q38;refine B59 hb λb hb=>?_;simp only[gd,pK b hb,D2,C2,GD]
 cases hr:d.repeatable<;>rw[hr]at hb<;>simp only[GD,GF]at hb;simp only[wOk,Fd,Fr,GT]at hb;simp(disch:=first|exact GS|skip)only[gd,p88 h.ivs,eq,D2,C2,GD,GF,GY,GV,C9,GZ,HD,GY];simp only[wOk,Fd,Fr,GT]at hb;have ew:∀z,wOk z (Rb++nms [32,111,110,32] [32,124,32] d.places)->w38 [Rb] (q38 d) z=J ([],B7 (z++bI (Rb++nms [32,111,110,32] [32,124,32] d.places))):=λz hb=>B59 hb eq;simp(disch:=first|exact GS|skip)only[gd,p88 h.ivs,ew,D2,C2,GD,GV,C9,GZ,HD,GY]
def prAll(l:List B5):rg:=pcs (λi x=>(if i=0 then []else [10])++(prSys x++[10])) 0 l
def p12{l:List B5}(hl:GL GSys l)(hb:wOk [] (prAll l)):Xe l=J (.one (.str (prAll l))):=by
 have bm:∀(k2:Int->Int->Bool->Gp->Gq),Nu NN l NN (l.length:Int) ((0:Nat):Int) [] k2=k2 (l.length:Int) (l.length:Int) V ([]++bI (prAll l)):=λk2=>by
  unfold prAll at hb ⊢;refine wl _ (λn i buf=>Nu NN l n (l.length:Int) (i:Int) buf k2) (λbuf=>k2 (l.length:Int) (l.length:Int) V buf) hl.1 (λn buf=>?_) (λn i x buf hx hi hm hb=>?_) hb;show Nu NN l (n+1) (l.length:Int) (l.length:Int) buf k2=_;unfold Nu;simp only[dge,GF]
  ·have hg:=hl.2 x hm;have hn:=hg.nt;have ex:∀b,Kj (⟨x.kind,x.extd,⟨x.note.has,x.note.block,x.note.text⟩,x.name,x.ifaces,x.dirs,x.fields,x.inputs,x.members,x.values,x.roots,x.repeatable,x.places,⟨x.pos.line,x.pos.col⟩⟩:B5) b=Kj x b:=λb=>rfl;have en:∀g b,MN (⟨x.note.has,x.note.block,x.note.text⟩:G5) g b=MN x.note g b:=λg b=>rfl;unfold prSys Rc at hb ⊢;by_cases h0:i=0
   ·have hz:decide (((i:Nat):Int)>0)=V:=GH FK;rw[GJ h0]at hb ⊢;cases dC:x.extd<;>rw[dC]at hb<;>simp only[dC]at ex<;>simp only[GD,GF]at hb<;>simp only[wOk,Fd,Fr,GT]at hb<;>(conv=>lhs;unfold Nu)<;>simp(disch:=first|exact GS|skip)only[Rc,gd,dlt hi,hz,dC,B1,hx,GD,GF,en,ex,p37 hn,p27,p38 hg,D2,C2,S3 hl.1 hi,Hj,GV,C9,GZ,HD,GY]
   ·have hz:decide (((i:Nat):Int)>0)=Z:=GG FK;rw[GI h0]at hb ⊢;cases dC:x.extd<;>rw[dC]at hb<;>simp only[dC]at ex<;>simp only[GD,GF]at hb<;>simp only[wOk,Fd,Fr,GT]at hb<;>(conv=>lhs;unfold Nu)<;>simp(disch:=first|exact GS|skip)only[Rc,gd,dlt hi,hz,dC,B1,hx,GD,GF,en,ex,p37 hn,p27,p38 hg,D2,C2,S3 hl.1 hi,Hj,GV,C9,GZ,HD,GY]
 refine(bm _).trans ?_;rw[Hj];have uI:Kl (bI (prAll l))=J ([.str (prAll l)],B7 (bI (prAll l))):=by
  unfold Kl;rw[GG (by unfold wOk MB at hb;rw[C1];simp at hb;omega),C4f];rfl
 rw[uI];rfl
def prAll_len:∀(l:List B5)(i:Nat),(pcs (λi x=>(if i=0 then []else [10])++(prSys x++[10])) i l).length<=sl prSys l
 |[],_=>HH _
 |x::r,i=>by
  have h1:=prAll_len r (i+1);have h2:(if i=0 then []else([10]:rg)).length<=1:=by split<;>decide
  unfold sl at*;simp only[pcs,sw,Fd,Fr,GT]at*;omega
end
end Go.Aev.Sy
namespace Go.Aev
open Go.Proofs
def D7r{R}(nn a0)(K:Kt R):∀n x4 ij lV fv,Wx nn a0 n x4 ij lV fv (K .ret ⟨[(2,.one (.str [])),eB 3 V],[]⟩) (λx4 ij lV fv jt=>K (.exit 0) ⟨[eO 4 .i32 x4 1017,eO 24 .i32 ij 1017,eI 25 lV,eI 26 fv,eB 27 jt],[1017]⟩)=LP B6V nn f155 303 n ⟨[eO 4 .i32 x4 1017,eO 24 .i32 ij 1017,eI 25 lV,eI 26 fv],[1017]⟩ K:=λn=>n.rec (by intros;rfl) λn i=>by
 intros;rw[Wx];simp only[i];kernel_rfl
def D5H{R}(nn a0)(K:Kt R):∀n x4 x9 aI,Qv nn a0 n x4 x9 aI (λx4 x9 aI EN=>K (.exit 2) ⟨[eO 4 .i32 x4 1017,eO 9 .i32 x9 143,eI 10 aI,eB 60 EN],[143,1017]⟩)=LP B6V nn f155 9727 n ⟨[eO 4 .i32 x4 1017,eO 9 .i32 x9 143,eI 10 aI],[143,1017]⟩ K:=λn=>n.rec (by intros;rfl) λn i=>by
 intros;rw[Qv];simp only[i];kernel_rfl
def D5q:Env Ty6 A2:=mkE [] [] noD 19 [] 0 [] []
def B8D:KY
 |[.int .i32 a0]=>pR [.int .i32,.int .i32,.bool] (Tr a0)
 |_=>O
def C2n:Env Ty6 A2:=mkE [] [] (lkR [(0,4,1),(1,6,3),(3,9,1),(4,11,2),(5,10,1),(5,13,9),(6,0,2),(6,5,1),(6,10,1),(6,22,1)]) 23 [] 0 [] []
def D2v{R}(nn a0 a1)(K:Kt R):∀n x0 x5,Ot nn a0 a1 n x0 x5 (λx0 x5 aI=>K (.exit 0) ⟨[eO 0 .i32 x0 0,eC 1 a1,eI 5 x5,eB 10 aI],[0]⟩)=LP C2n nn f223 75 n ⟨[eO 0 .i32 x0 0,eC 1 a1,eI 5 x5],[0]⟩ K:=λn=>n.rec (by intros;rfl) λn i=>by
 intros;rw[Ot];simp only[i];kernel_rfl
def B4r:KY
 |[.sl .i32 a0 (J 0),.int .i32 a1]=>pR [.sl .i32 (J 0)] (NZ a0 a1)
 |_=>O
def C7p:Env Ty6 A2:=mkE [(222,B8D),(223,B4r)] [] noD 66 [] 0 [] []
def B6p:KY
 |[.sl .i32 a0 (J 0),.int .i32 a1]=>pR [.sl .i32 (J 0)] (Zf a0 a1)
 |_=>O
def C1S:Env Ty6 A2:=mkE [(190,B3E),(196,B0H),(197,B6p)] [] (lkR [(0,2,2),(1,11,5),(2,0,1),(2,5,1),(2,16,3),(3,4,1),(3,19,1),(4,19,2),(5,4,1),(7,24,3),(8,8,1),(8,27,3),(9,30,1),(10,6,1),(10,10,1),(10,21,4),(10,31,7),(11,9,1),(11,38,1)]) 39 [] 0 [] []
def D0v{R}(nn a0)(K:Kt R):∀n x6 nL gr fw,XA nn a0 n x6 nL gr fw (λx6 nL gr fw ij=>K (.exit 0) ⟨[eO 6 .i32 x6 120,eO 21 .i32 nL 1013,eI 22 gr,eI 23 fw,eB 24 ij],[120,1013]⟩)=LP C1S nn f156 303 n ⟨[eO 6 .i32 x6 120,eO 21 .i32 nL 1013,eI 22 gr,eI 23 fw],[120,1013]⟩ K:=λn=>n.rec (by intros;rfl) λn i=>by
 intros;rw[XA];simp only[i];kernel_rfl
def E15:Env Ty6 A2:=mkE [] [(29,QX),(44,Zi)] noD 13 [4,5] 0 [] [(4,105)]
def F15(a0:LitT):Gq:=gd (okB [] kP (LS a0 [])) (let z1:=(B3 (gC (LS a0 []) 0 1));gd (okB [.str] kP (Kl z1)) (J (.one (.str (lS (gB (Kl z1) 0))))))
def S15:KY
 |[.agg .lit a0]=>pR [.str] (F15 a0)
 |_=>O
def B1l(g:LitT->LitT->Bool->Gq):KY
 |[.agg .lit a0,.agg .lit a1,.bool a2]=>pR [.bool] (g a0 a1 a2)
 |_=>O
def E21(gM:LitT->LitT->Bool->Gq):Env Ty6 A2:=mkE [(21,B1l gM)] [] (lkR [(0,0,2),(0,6,1),(1,11,46),(2,2,3),(2,57,1),(2,1000103,2),(3,57,1),(4,58,4),(5,63,2),(5,78,1),(6,62,1),(6,65,12),(7,8,1),(7,77,1),(8,2,3),(8,7,1),(8,78,1),(8,1000103,2),(9,7,1),(9,62,1),(10,79,4),(11,84,2),(11,134,1),(12,83,1),(12,86,14),(13,10,1),(13,100,34),(14,2,3),(14,9,1),(14,134,1),(14,1000103,2),(15,2,3),(15,9,1),(15,83,1),(15,1000103,2)]) 135 [] 0 [] []
def Ub{R:Type}(nn:Nat)(gM:LitT->LitT->Bool->Gq)(a0 a1:LitT)(a2:Bool):Nat->Int->Option R->(Int->Bool->Option R)->Option R
 |0,_,_,_=>O
 |n+1,x7,k1,k3=>let k2:=λx7=>Ub nn gM a0 a1 a2 n x7 k1 k3;let z1:=decide (x7<(Aaa a0.items:Int));bif z1 then(match idx a0.items x7 with|O=>O|J y2=>(match idx a1.items x7 with|O=>O|J y3=>(let r5:=gM y2 y3 a2;gd (okR [.bool] r5) (let z4:=(lB (gL r5 0));bif(!z4)then k1 else(k2 (Aac .i64 (x7+1)))))))else(k3 x7 z1)
def D5r{R}(nn gM a0 a1 a2)(K:Kt R):∀n x7,Ub nn gM a0 a1 a2 n x7 (K .ret ⟨[eB 6 V],[]⟩) (λx7 EO=>K (.exit 0) ⟨[eB 2 a2,(3,.one (.elem .lit a0 0)),(4,.one (.elem .lit a1 0)),eI 7 x7,eB 62 EO],[]⟩)=LP (E21 gM) nn Aa3 75 n ⟨[eB 2 a2,(3,.one (.elem .lit a0 0)),(4,.one (.elem .lit a1 0)),eI 7 x7],[]⟩ K:=λn=>n.rec (by intros;rfl) λn i=>by
 intros;rw[Ub];simp only[i];kernel_rfl
def Rf{R:Type}(nn:Nat)(gM:LitT->LitT->Bool->Gq)(a0 a1:LitT)(a2:Bool):Nat->Int->Option R->(Int->Bool->Option R)->Option R
 |0,_,_,_=>O
 |n+1,x9,k1,k3=>let k2:=λx9=>Rf nn gM a0 a1 a2 n x9 k1 k3;let z1:=decide (x9<(Aaa a0.fields:Int));bif z1 then(let j2:Int->Bool->Option R:=λz3 z4=>k2 (Aac .i64 (z3+1));match idx a0.fields x9 with|O=>O|J y5=>(match idx a1.fields x9 with|O=>O|J y6=>(let cP:=gM (LitT.mk y5.value.kind y5.value.text y5.value.block y5.value.items y5.value.fields y5.value.pos) (LitT.mk y6.value.kind y6.value.text y6.value.block y6.value.items y6.value.fields y6.value.pos) a2;gd (okR [.bool] cP) (bif(!(lB (gL cP 0)))==V then(match idx a0.fields x9 with|O=>O|J y7=>(match idx a1.fields x9 with|O=>O|J y8=>(bif(!(y7.name==y8.name))==V then(bif a2==Z then(match idx a0.fields x9 with|O=>O|J y9=>(match idx a1.fields x9 with|O=>O|J dT=>(let bY:= !((y9.pos.line==dT.pos.line)&&(y9.pos.col==dT.pos.col));bif bY then k1 else(j2 x9 bY))))else(j2 x9 V))else k1)))else k1))))else(k3 x9 z1)
def C8K{R}(nn gM a0 a1 a2)(K:Kt R):∀n x9,Rf nn gM a0 a1 a2 n x9 (K .ret ⟨[eB 6 V],[]⟩) (λx9 EP=>K (.exit 2) ⟨[eB 2 a2,(3,.one (.elem .lit a0 0)),(4,.one (.elem .lit a1 0)),eI 9 x9,eB 83 EP],[]⟩)=LP (E21 gM) nn Aa3 151 n ⟨[eB 2 a2,(3,.one (.elem .lit a0 0)),(4,.one (.elem .lit a1 0)),eI 9 x9],[]⟩ K:=λn=>n.rec (by intros;rfl) λn i=>by
 intros;rw[Rf];simp only[i];kernel_rfl
def B2v(nn:Nat)(gM:LitT->LitT->Bool->Gq)(a0 a1:LitT)(a2:Bool):Gq:=let j1:Bool->Gq:=λz2=>Ub nn gM a0 a1 a2 nn 0 (J (.one (.bool V))) (λz3 z4=>Rf nn gM a0 a1 a2 nn 0 (J (.one (.bool V))) (λz5 z6=>J (.one (.bool Z))));bif(a0.kind !=a1.kind)==V then(bif(!(a0.text==a1.text))==V then(bif(!(a0.block==a1.block))==V then(bif a2==Z then(bif(!((a0.pos.line==a1.pos.line)&&(a0.pos.col==a1.pos.col)))==V then(bif((Aaa a0.items:Int) !=(Aaa a1.items:Int))==V then(let z7:=(Aaa a0.fields:Int) !=(Aaa a1.fields:Int);bif z7 then(J (.one (.bool V)))else(j1 z7))else(J (.one (.bool V))))else(J (.one (.bool V))))else(bif((Aaa a0.items:Int) !=(Aaa a1.items:Int))==V then(let z8:=(Aaa a0.fields:Int) !=(Aaa a1.fields:Int);bif z8 then(J (.one (.bool V)))else(j1 z8))else(J (.one (.bool V)))))else(J (.one (.bool V))))else(J (.one (.bool V))))else(J (.one (.bool V)))
def B4U(gM:LitT->LitT->Bool->Gq)(a0 a1:LitT)(a2:Bool):Gq:=B2v NN gM a0 a1 a2
def D4x(nn:Nat)(gM:LitT->LitT->Bool->Gq){a0 a1:LitT}{a2:Bool}:P4 (E21 gM) nn Aa3 [.agg .lit a0,.agg .lit a1,.bool a2]=B2v nn gM a0 a1 a2:=by
 unfold B2v;simp(disch:=exact krl)only[lc2 kF (D5r ..),lc2 kF (C8K ..)];kernel_rfl
def Lc:Nat->LitT->LitT->Bool->Gq
 |0,_,_,_=>O
 |d+1,a0,a1,a2=>B4U (Lc d) a0 a1 a2
def Pi(a0:LitT)(a1:LitT)(a2:Bool):Gq:=Lc DD a0 a1 a2
def S21:KY
 |[.agg .lit a0,.agg .lit a1,.bool a2]=>pR [.bool] (Pi a0 a1 a2)
 |_=>O
def C5w:Env Ty6 A2:=mkE [(21,S21)] [] (lkR [(0,6,1),(1,9,4),(2,0,3),(2,13,1),(3,13,1),(4,14,3),(5,18,2),(5,62,1),(6,17,1),(6,20,12),(7,8,1),(7,32,30),(8,0,3),(8,7,1),(8,62,1),(9,0,3),(9,7,1),(9,17,1)]) 63 [] 0 [] []
def Uc{R:Type}(nn:Nat)(a0 a1:List E0)(a2:Bool):Nat->Int->Option R->(Int->Bool->Option R)->Option R
 |0,_,_,_=>O
 |n+1,x7,k1,k3=>let k2:=λx7=>Uc nn a0 a1 a2 n x7 k1 k3;let z1:=decide (x7<(Aaa a0:Int));bif z1 then(let j2:Int->Bool->Option R:=λz3 z4=>k2 (Aac .i64 (z3+1));match idx a0 x7 with|O=>O|J y5=>(match idx a1 x7 with|O=>O|J y6=>(let cP:=Pi (LitT.mk y5.value.kind y5.value.text y5.value.block y5.value.items y5.value.fields y5.value.pos) (LitT.mk y6.value.kind y6.value.text y6.value.block y6.value.items y6.value.fields y6.value.pos) a2;gd (okR [.bool] cP) (bif(!(lB (gL cP 0)))==V then(match idx a0 x7 with|O=>O|J y7=>(match idx a1 x7 with|O=>O|J y8=>(bif(!(y7.name==y8.name))==V then(bif a2==Z then(match idx a0 x7 with|O=>O|J y9=>(match idx a1 x7 with|O=>O|J dT=>(let bY:= !((y9.pos.line==dT.pos.line)&&(y9.pos.col==dT.pos.col));bif bY then k1 else(j2 x7 bY))))else(j2 x7 V))else k1)))else k1))))else(k3 x7 z1)
def D0S{R}(nn a0 a1 a2)(K:Kt R):∀n x7,Uc nn a0 a1 a2 n x7 (K .ret ⟨[eB 6 V],[]⟩) (λx7 rh=>K (.exit 0) ⟨[eL 0 .arg a0,eL 1 .arg a1,eB 2 a2,eI 7 x7,eB 17 rh],[]⟩)=LP C5w nn Tryz.f170 75 n ⟨[eL 0 .arg a0,eL 1 .arg a1,eB 2 a2,eI 7 x7],[]⟩ K:=λn=>n.rec (by intros;rfl) λn i=>by
 intros;rw[Uc];simp only[i];kernel_rfl
def B2R(nn:Nat)(a0 a1:List E0)(a2:Bool):Gq:=let z1:=(Aaa a0:Int) !=(Aaa a1:Int);bif z1 then(J (.one (.bool V)))else(Uc nn a0 a1 a2 nn 0 (J (.one (.bool V))) (λz2 z3=>J (.one (.bool Z))))
def A9t(a0 a1:List E0)(a2:Bool):Gq:=B2R NN a0 a1 a2
def B30:KY
 |[.sl .arg a0 O,.sl .arg a1 O,.bool a2]=>pR [.bool] (A9t a0 a1 a2)
 |_=>O
def C5l:Env Ty6 A2:=mkE [(170,B30)] [] (lkR [(0,6,1),(1,9,4),(2,0,3),(2,13,1),(3,13,1),(4,14,3),(5,18,2),(5,62,1),(6,17,1),(6,20,12),(7,8,1),(7,32,30),(8,0,3),(8,7,1),(8,62,1),(9,0,3),(9,7,1),(9,17,1)]) 63 [] 0 [] []
def Ud{R:Type}(nn:Nat)(a0 a1:List C3)(a2:Bool):Nat->Int->Option R->(Int->Bool->Option R)->Option R
 |0,_,_,_=>O
 |n+1,x7,k1,k3=>let k2:=λx7=>Ud nn a0 a1 a2 n x7 k1 k3;let z1:=decide (x7<(Aaa a0:Int));bif z1 then(let j2:Int->Bool->Option R:=λz3 z4=>k2 (Aac .i64 (z3+1));match idx a0 x7 with|O=>O|J y5=>(match idx a1 x7 with|O=>O|J y6=>(let cP:=A9t y5.args y6.args a2;gd (okR [.bool] cP) (bif(!(lB (gL cP 0)))==V then(match idx a0 x7 with|O=>O|J y7=>(match idx a1 x7 with|O=>O|J y8=>(bif(!(y7.name==y8.name))==V then(bif a2==Z then(match idx a0 x7 with|O=>O|J y9=>(match idx a1 x7 with|O=>O|J dT=>(let bY:= !((y9.pos.line==dT.pos.line)&&(y9.pos.col==dT.pos.col));bif bY then k1 else(j2 x7 bY))))else(j2 x7 V))else k1)))else k1))))else(k3 x7 z1)
def C8s{R}(nn a0 a1 a2)(K:Kt R):∀n x7,Ud nn a0 a1 a2 n x7 (K .ret ⟨[eB 6 V],[]⟩) (λx7 rh=>K (.exit 0) ⟨[eL 0 .dir a0,eL 1 .dir a1,eB 2 a2,eI 7 x7,eB 17 rh],[]⟩)=LP C5l nn f113 75 n ⟨[eL 0 .dir a0,eL 1 .dir a1,eB 2 a2,eI 7 x7],[]⟩ K:=λn=>n.rec (by intros;rfl) λn i=>by
 intros;rw[Ud];simp only[i];kernel_rfl
def B1c(nn:Nat)(a0 a1:List C3)(a2:Bool):Gq:=let z1:=(Aaa a0:Int) !=(Aaa a1:Int);bif z1 then(J (.one (.bool V)))else(Ud nn a0 a1 a2 nn 0 (J (.one (.bool V))) (λz2 z3=>J (.one (.bool Z))))
def Nv(a0 a1:List C3)(a2:Bool):Gq:=B1c NN a0 a1 a2
def Pj:KY
 |[.sl .dir a0 O,.sl .dir a1 O,.bool a2]=>pR [.bool] (Nv a0 a1 a2)
 |_=>O
def C3x:Env Ty6 A2:=mkE [(21,S21),(113,Pj)] [] (lkR [(0,6,1),(0,1000108,2),(1,10,4),(1,1000108,2),(2,0,3),(2,14,1),(2,1000108,2),(3,14,1),(3,1000108,2),(4,15,3),(4,1000108,2),(5,19,2),(5,73,1),(5,1000108,2),(6,18,1),(6,21,4),(6,1000109,1),(7,25,4),(8,29,28),(9,0,3),(9,7,3),(9,57,1),(9,1000108,2),(10,8,2),(10,57,16),(10,1000108,2),(11,0,3),(11,7,1),(11,73,1),(11,1000108,2),(12,0,3),(12,7,1),(12,18,1),(12,1000108,2),(10004,1000108,2)]) 74 [] 0 [] []
def Ue{R:Type}(nn:Nat)(a0 a1:List VdT)(a2:Bool):Nat->Int->Option R->(Int->Bool->Option R)->Option R
 |0,_,_,_=>O
 |n+1,x7,k1,k3=>let k2:=λx7=>Ue nn a0 a1 a2 n x7 k1 k3;let z1:=decide (x7<(Aaa a0:Int));bif z1 then(let j2:Int->Bool->Option R:=λz3 z4=>k2 (Aac .i64 (z3+1));match idx a0 x7 with|O=>O|J y5=>(match idx a1 x7 with|O=>O|J y6=>(let j7:Int->VdT->VdT->Bool->Option R:=λz8 z9 bP bY=>let eF:=Pi (LitT.mk z9.dflt.kind z9.dflt.text z9.dflt.block z9.dflt.items z9.dflt.fields z9.dflt.pos) (LitT.mk bP.dflt.kind bP.dflt.text bP.dflt.block bP.dflt.items bP.dflt.fields bP.dflt.pos) a2;gd (okR [.bool] eF) (bif(!(lB (gL eF 0)))==V then(let cg:=Nv z9.dirs bP.dirs a2;gd (okR [.bool] cg) (let cr:= !(lB (gL cg 0));bif cr then k1 else(j2 z8 cr)))else k1);bif(!(y5.name==y6.name))==V then(bif(!((y5.type_.name==y6.type_.name)&&(y5.type_.wrap==y6.type_.wrap)))==V then(bif(!(y5.hasDefault==y6.hasDefault))==V then(bif a2==Z then(let cH:= !((y5.pos.line==y6.pos.line)&&(y5.pos.col==y6.pos.col));bif cH then k1 else(j7 x7 y5 y6 cH))else(j7 x7 y5 y6 V))else k1)else k1)else k1)))else(k3 x7 z1)
def D4w{R}(nn a0 a1 a2)(K:Kt R):∀n x7,Ue nn a0 a1 a2 n x7 (K .ret ⟨[eB 6 V],[]⟩) (λx7 qT=>K (.exit 0) ⟨[eL 0 .vd a0,eL 1 .vd a1,eB 2 a2,eI 7 x7,eB 18 qT],[]⟩)=LP C3x nn f112 75 n ⟨[eL 0 .vd a0,eL 1 .vd a1,eB 2 a2,eI 7 x7],[]⟩ K:=λn=>n.rec (by intros;rfl) λn i=>by
 intros;rw[Ue];simp only[i];kernel_rfl
def B29(nn:Nat)(a0 a1:List VdT)(a2:Bool):Gq:=let z1:=(Aaa a0:Int) !=(Aaa a1:Int);bif z1 then(J (.one (.bool V)))else(Ue nn a0 a1 a2 nn 0 (J (.one (.bool V))) (λz2 z3=>J (.one (.bool Z))))
def B0I(a0 a1:List VdT)(a2:Bool):Gq:=B29 NN a0 a1 a2
def B4n:KY
 |[.sl .vd a0 O,.sl .vd a1 O,.bool a2]=>pR [.bool] (B0I a0 a1 a2)
 |_=>O
def B1v(g:GC->GC->Bool->Gq):KY
 |[.sl .sel a0 O,.sl .sel a1 O,.bool a2]=>pR [.bool] (g a0 a1 a2)
 |_=>O
def B4m(eY:GC->GC->Bool->Gq):Env Ty6 A2:=mkE [(113,Pj),(114,B1v eY),(170,B30)] [] (lkR [(0,6,1),(0,1000108,2),(1,10,4),(1,1000108,2),(2,0,3),(2,14,1),(2,1000108,2),(3,14,1),(3,1000108,2),(4,15,3),(4,1000108,2),(5,19,2),(5,89,1),(5,1000108,2),(6,18,1),(6,21,4),(6,1000109,1),(7,25,4),(8,29,35),(9,0,3),(9,7,3),(9,64,1),(9,1000108,2),(10,8,2),(10,64,25),(10,1000108,2),(11,0,3),(11,7,1),(11,89,1),(11,1000108,2),(12,0,3),(12,7,1),(12,18,1),(12,1000108,2),(10004,1000108,2)]) 90 [] 0 [] []
def Uf{R:Type}(nn:Nat)(eY:GC->GC->Bool->Gq)(a0 a1:GC)(a2:Bool):Nat->Int->Option R->(Int->Bool->Option R)->Option R
 |0,_,_,_=>O
 |n+1,x7,k1,k3=>let k2:=λx7=>Uf nn eY a0 a1 a2 n x7 k1 k3;let z1:=decide (x7<(Aaa a0:Int));bif z1 then(let j2:Int->Bool->Option R:=λz3 z4=>k2 (Aac .i64 (z3+1));match idx a0 x7 with|O=>O|J y5=>(match idx a1 x7 with|O=>O|J y6=>(let j7:Int->SelT->SelT->Bool->Option R:=λz8 z9 bP bY=>let ft:=A9t z9.args bP.args a2;gd (okR [.bool] ft) (bif(!(lB (gL ft 0)))==V then(let eF:=Nv z9.dirs bP.dirs a2;gd (okR [.bool] eF) (bif(!(lB (gL eF 0)))==V then(let cg:=eY z9.sels bP.sels a2;gd (okR [.bool] cg) (let cr:= !(lB (gL cg 0));bif cr then k1 else(j2 z8 cr)))else k1))else k1);bif(y5.kind !=y6.kind)==V then(bif(!(y5.alias_==y6.alias_))==V then(bif(!(y5.name==y6.name))==V then(bif(!(y5.on_==y6.on_))==V then(bif a2==Z then(let dD:= !((y5.pos.line==y6.pos.line)&&(y5.pos.col==y6.pos.col));bif dD then k1 else(j7 x7 y5 y6 dD))else(j7 x7 y5 y6 V))else k1)else k1)else k1)else k1)))else(k3 x7 z1)
def C94{R}(nn eY a0 a1 a2)(K:Kt R):∀n x7,Uf nn eY a0 a1 a2 n x7 (K .ret ⟨[eB 6 V],[]⟩) (λx7 qT=>K (.exit 0) ⟨[eL 0 .sel a0,eL 1 .sel a1,eB 2 a2,eI 7 x7,eB 18 qT],[]⟩)=LP (B4m eY) nn f114 75 n ⟨[eL 0 .sel a0,eL 1 .sel a1,eB 2 a2,eI 7 x7],[]⟩ K:=λn=>n.rec (by intros;rfl) λn i=>by
 intros;rw[Uf];simp only[i];kernel_rfl
def B1U(nn:Nat)(eY:GC->GC->Bool->Gq)(a0 a1:GC)(a2:Bool):Gq:=let z1:=(Aaa a0:Int) !=(Aaa a1:Int);bif z1 then(J (.one (.bool V)))else(Uf nn eY a0 a1 a2 nn 0 (J (.one (.bool V))) (λz2 z3=>J (.one (.bool Z))))
def B5v(eY:GC->GC->Bool->Gq)(a0 a1:GC)(a2:Bool):Gq:=B1U NN eY a0 a1 a2
def D3e(nn:Nat)(eY:GC->GC->Bool->Gq){a0 a1:GC}{a2:Bool}:P4 (B4m eY) nn f114 [.sl .sel a0 O,.sl .sel a1 O,.bool a2]=B1U nn eY a0 a1 a2:=by
 unfold B1U;simp(disch:=exact krl)only[lc2 kF (C94 ..)];kernel_rfl
def Rh:Nat->GC->GC->Bool->Gq
 |0,_,_,_=>O
 |d+1,a0,a1,a2=>B5v (Rh d) a0 a1 a2
def B78(a0:GC)(a1:GC)(a2:Bool):Gq:=Rh DD a0 a1 a2
def C4B:KY
 |[.sl .sel a0 O,.sl .sel a1 O,.bool a2]=>pR [.bool] (B78 a0 a1 a2)
 |_=>O
def E50:Env Ty6 A2:=mkE [(112,B4n),(113,Pj),(114,C4B)] [] (lkR [(0,6,1),(0,1000108,2),(1,10,4),(1,1000108,2),(2,0,3),(2,14,1),(2,1000108,2),(3,14,1),(3,1000108,2),(4,15,3),(4,1000108,2),(5,19,2),(5,89,1),(5,1000108,2),(6,18,1),(6,21,4),(6,1000109,1),(7,25,4),(8,29,35),(9,0,3),(9,7,3),(9,64,1),(9,1000108,2),(10,8,2),(10,64,25),(10,1000108,2),(11,0,3),(11,7,1),(11,89,1),(11,1000108,2),(12,0,3),(12,7,1),(12,18,1),(12,1000108,2),(10004,1000108,2)]) 90 [] 0 [] []
def Ug{R:Type}(nn:Nat)(a0 a1:List D9)(a2:Bool):Nat->Int->Option R->(Int->Bool->Option R)->Option R
 |0,_,_,_=>O
 |n+1,x7,k1,k3=>let k2:=λx7=>Ug nn a0 a1 a2 n x7 k1 k3;let z1:=decide (x7<(Aaa a0:Int));bif z1 then(let j2:Int->Bool->Option R:=λz3 z4=>k2 (Aac .i64 (z3+1));match idx a0 x7 with|O=>O|J y5=>(match idx a1 x7 with|O=>O|J y6=>(let j7:Int->D9->D9->Bool->Option R:=λz8 z9 bP bY=>let ft:=B0I z9.vars bP.vars a2;gd (okR [.bool] ft) (bif(!(lB (gL ft 0)))==V then(let eF:=Nv z9.dirs bP.dirs a2;gd (okR [.bool] eF) (bif(!(lB (gL eF 0)))==V then(let cg:=B78 z9.sels bP.sels a2;gd (okR [.bool] cg) (let cr:= !(lB (gL cg 0));bif cr then k1 else(j2 z8 cr)))else k1))else k1);bif(y5.kind !=y6.kind)==V then(bif(!(y5.name==y6.name))==V then(bif(!(y5.on_==y6.on_))==V then(bif(!(y5.short==y6.short))==V then(bif a2==Z then(let dD:= !((y5.pos.line==y6.pos.line)&&(y5.pos.col==y6.pos.col));bif dD then k1 else(j7 x7 y5 y6 dD))else(j7 x7 y5 y6 V))else k1)else k1)else k1)else k1)))else(k3 x7 z1)
def D7a{R}(nn a0 a1 a2)(K:Kt R):∀n x7,Ug nn a0 a1 a2 n x7 (K .ret ⟨[eB 6 V],[]⟩) (λx7 qT=>K (.exit 0) ⟨[eL 0 .dfn a0,eL 1 .dfn a1,eB 2 a2,eI 7 x7,eB 18 qT],[]⟩)=LP E50 nn f50 75 n ⟨[eL 0 .dfn a0,eL 1 .dfn a1,eB 2 a2,eI 7 x7],[]⟩ K:=λn=>n.rec (by intros;rfl) λn i=>by
 intros;rw[Ug];simp only[i];kernel_rfl
def B08(nn:Nat)(a0 a1:List D9)(a2:Bool):Gq:=let z1:=(Aaa a0:Int) !=(Aaa a1:Int);bif z1 then(J (.one (.bool V)))else(Ug nn a0 a1 a2 nn 0 (J (.one (.bool V))) (λz2 z3=>J (.one (.bool Z))))
def F50(a0 a1:List D9)(a2:Bool):Gq:=B08 NN a0 a1 a2
def S50:KY
 |[.sl .dfn a0 O,.sl .dfn a1 O,.bool a2]=>pR [.bool] (F50 a0 a1 a2)
 |_=>O
def E22:Env Ty6 A2:=mkE [(50,S50)] [] noD 13 [] 0 [] []
def F22(a0 a1:I6)(a2:Bool):Gq:=let r1:=F50 a0.defs a1.defs a2;gd (okR [.bool] r1) (J (.one (.bool (lB (gL r1 0)))))
def S22:KY
 |[.agg .doc a0,.agg .doc a1,.bool a2]=>pR [.bool] (F22 a0 a1 a2)
 |_=>O
def C25:Env Ty6 A2:=mkE [] [] (lkR [(0,6,1),(1,8,4),(2,0,3),(2,12,1),(3,12,1),(4,13,3),(5,17,2),(5,45,1),(6,16,1),(6,19,26),(7,0,3),(7,7,1),(7,45,1),(8,0,3),(8,7,1),(8,16,1)]) 46 [] 0 [] []
def Uh{R:Type}(nn:Nat)(a0 a1:List E5)(a2:Bool):Nat->Int->Option R->(Int->Bool->Option R)->Option R
 |0,_,_,_=>O
 |n+1,x7,k1,k3=>let k2:=λx7=>Uh nn a0 a1 a2 n x7 k1 k3;let z1:=decide (x7<(Aaa a0:Int));bif z1 then(let j2:Int->Bool->Option R:=λz3 z4=>k2 (Aac .i64 (z3+1));match idx a0 x7 with|O=>O|J y5=>(match idx a1 x7 with|O=>O|J y6=>(bif(!(y5.name==y6.name))==V then(bif a2==Z then(match idx a0 x7 with|O=>O|J y7=>(match idx a1 x7 with|O=>O|J y8=>(let z9:= !((y7.pos.line==y8.pos.line)&&(y7.pos.col==y8.pos.col));bif z9 then k1 else(j2 x7 z9))))else(j2 x7 V))else k1)))else(k3 x7 z1)
def D2J{R}(nn a0 a1 a2)(K:Kt R):∀n x7,Uh nn a0 a1 a2 n x7 (K .ret ⟨[eB 6 V],[]⟩) (λx7 fk=>K (.exit 0) ⟨[eL 0 .named a0,eL 1 .named a1,eB 2 a2,eI 7 x7,eB 16 fk],[]⟩)=LP C25 nn f115 75 n ⟨[eL 0 .named a0,eL 1 .named a1,eB 2 a2,eI 7 x7],[]⟩ K:=λn=>n.rec (by intros;rfl) λn i=>by
 intros;rw[Uh];simp only[i];kernel_rfl
def B3X(nn:Nat)(a0 a1:List E5)(a2:Bool):Gq:=let z1:=(Aaa a0:Int) !=(Aaa a1:Int);bif z1 then(J (.one (.bool V)))else(Uh nn a0 a1 a2 nn 0 (J (.one (.bool V))) (λz2 z3=>J (.one (.bool Z))))
def Xf(a0 a1:List E5)(a2:Bool):Gq:=B3X NN a0 a1 a2
def B7c:KY
 |[.sl .named a0 O,.sl .named a1 O,.bool a2]=>pR [.bool] (Xf a0 a1 a2)
 |_=>O
def C27:Env Ty6 A2:=mkE [(21,S21),(113,Pj)] [] (lkR [(0,6,1),(1,8,4),(2,0,3),(2,12,1),(3,12,1),(4,13,3),(5,17,2),(5,112,1),(6,16,1),(6,19,65),(7,0,3),(7,7,1),(7,84,1),(8,84,28),(9,0,3),(9,7,1),(9,112,1),(10,0,3),(10,7,1),(10,16,1)]) 113 [] 0 [] []
def Ui{R:Type}(nn:Nat)(a0 a1:List IvT)(a2:Bool):Nat->Int->Option R->(Int->Bool->Option R)->Option R
 |0,_,_,_=>O
 |n+1,x7,k1,k3=>let k2:=λx7=>Ui nn a0 a1 a2 n x7 k1 k3;let z1:=decide (x7<(Aaa a0:Int));bif z1 then(let j2:Int->Bool->Option R:=λz3 z4=>k2 (Aac .i64 (z3+1));let j5:Int->Bool->Option R:=λz6 z7=>match idx a0 z6 with|O=>O|J y8=>(match idx a1 z6 with|O=>O|J y9=>(let eF:=Pi (LitT.mk y8.dflt.kind y8.dflt.text y8.dflt.block y8.dflt.items y8.dflt.fields y8.dflt.pos) (LitT.mk y9.dflt.kind y9.dflt.text y9.dflt.block y9.dflt.items y9.dflt.fields y9.dflt.pos) a2;gd (okR [.bool] eF) (bif(!(lB (gL eF 0)))==V then(match idx a0 z6 with|O=>O|J dT=>(match idx a1 z6 with|O=>O|J gq=>(let cg:=Nv dT.dirs gq.dirs a2;gd (okR [.bool] cg) (let cr:= !(lB (gL cg 0));bif cr then k1 else(j2 z6 cr)))))else k1)));match idx a0 x7 with|O=>O|J lr=>(match idx a1 x7 with|O=>O|J lU=>(bif(!((lr.note.has==lU.note.has)&&((lr.note.block==lU.note.block)&&(lr.note.text==lU.note.text))))==V then(match idx a0 x7 with|O=>O|J nH=>(match idx a1 x7 with|O=>O|J qS=>(bif(!(nH.name==qS.name))==V then(match idx a0 x7 with|O=>O|J uK=>(match idx a1 x7 with|O=>O|J pH=>(bif(!((uK.type_.name==pH.type_.name)&&(uK.type_.wrap==pH.type_.wrap)))==V then(match idx a0 x7 with|O=>O|J pD=>(match idx a1 x7 with|O=>O|J mO=>(bif(!(pD.hasDefault==mO.hasDefault))==V then(bif a2==Z then(match idx a0 x7 with|O=>O|J sf=>(match idx a1 x7 with|O=>O|J pE=>(let ig:= !((sf.pos.line==pE.pos.line)&&(sf.pos.col==pE.pos.col));bif ig then k1 else(j5 x7 ig))))else(j5 x7 V))else k1)))else k1)))else k1)))else k1)))else(k3 x7 z1)
def D1s{R}(nn a0 a1 a2)(K:Kt R):∀n x7,Ui nn a0 a1 a2 n x7 (K .ret ⟨[eB 6 V],[]⟩) (λx7 fk=>K (.exit 0) ⟨[eL 0 .iv a0,eL 1 .iv a1,eB 2 a2,eI 7 x7,eB 16 fk],[]⟩)=LP C27 nn f117 75 n ⟨[eL 0 .iv a0,eL 1 .iv a1,eB 2 a2,eI 7 x7],[]⟩ K:=λn=>n.rec (by intros;rfl) λn i=>by
 intros;rw[Ui];simp only[i];kernel_rfl
def B3z(nn:Nat)(a0 a1:List IvT)(a2:Bool):Gq:=let z1:=(Aaa a0:Int) !=(Aaa a1:Int);bif z1 then(J (.one (.bool V)))else(Ui nn a0 a1 a2 nn 0 (J (.one (.bool V))) (λz2 z3=>J (.one (.bool Z))))
def B0p(a0 a1:List IvT)(a2:Bool):Gq:=B3z NN a0 a1 a2
def B21:KY
 |[.sl .iv a0 O,.sl .iv a1 O,.bool a2]=>pR [.bool] (B0p a0 a1 a2)
 |_=>O
def B9Z:Env Ty6 A2:=mkE [(113,Pj),(117,B21)] [] (lkR [(0,6,1),(1,8,4),(2,0,3),(2,12,1),(3,12,1),(4,13,3),(5,17,2),(5,99,1),(6,16,1),(6,19,52),(7,0,3),(7,7,1),(7,71,1),(8,71,28),(9,0,3),(9,7,1),(9,99,1),(10,0,3),(10,7,1),(10,16,1)]) 100 [] 0 [] []
def Uj{R:Type}(nn:Nat)(a0 a1:List FdT)(a2:Bool):Nat->Int->Option R->(Int->Bool->Option R)->Option R
 |0,_,_,_=>O
 |n+1,x7,k1,k3=>let k2:=λx7=>Uj nn a0 a1 a2 n x7 k1 k3;let z1:=decide (x7<(Aaa a0:Int));bif z1 then(let j2:Int->Bool->Option R:=λz3 z4=>k2 (Aac .i64 (z3+1));let j5:Int->Bool->Option R:=λz6 z7=>match idx a0 z6 with|O=>O|J y8=>(match idx a1 z6 with|O=>O|J y9=>(let eF:=B0p y8.args y9.args a2;gd (okR [.bool] eF) (bif(!(lB (gL eF 0)))==V then(match idx a0 z6 with|O=>O|J dT=>(match idx a1 z6 with|O=>O|J gq=>(let cg:=Nv dT.dirs gq.dirs a2;gd (okR [.bool] cg) (let cr:= !(lB (gL cg 0));bif cr then k1 else(j2 z6 cr)))))else k1)));match idx a0 x7 with|O=>O|J lr=>(match idx a1 x7 with|O=>O|J lU=>(bif(!((lr.note.has==lU.note.has)&&((lr.note.block==lU.note.block)&&(lr.note.text==lU.note.text))))==V then(match idx a0 x7 with|O=>O|J nH=>(match idx a1 x7 with|O=>O|J qS=>(bif(!(nH.name==qS.name))==V then(match idx a0 x7 with|O=>O|J uK=>(match idx a1 x7 with|O=>O|J pH=>(bif(!((uK.type_.name==pH.type_.name)&&(uK.type_.wrap==pH.type_.wrap)))==V then(bif a2==Z then(match idx a0 x7 with|O=>O|J pD=>(match idx a1 x7 with|O=>O|J mO=>(let fD:= !((pD.pos.line==mO.pos.line)&&(pD.pos.col==mO.pos.col));bif fD then k1 else(j5 x7 fD))))else(j5 x7 V))else k1)))else k1)))else k1)))else(k3 x7 z1)
def D5n{R}(nn a0 a1 a2)(K:Kt R):∀n x7,Uj nn a0 a1 a2 n x7 (K .ret ⟨[eB 6 V],[]⟩) (λx7 fk=>K (.exit 0) ⟨[eL 0 .fd a0,eL 1 .fd a1,eB 2 a2,eI 7 x7,eB 16 fk],[]⟩)=LP B9Z nn f116 75 n ⟨[eL 0 .fd a0,eL 1 .fd a1,eB 2 a2,eI 7 x7],[]⟩ K:=λn=>n.rec (by intros;rfl) λn i=>by
 intros;rw[Uj];simp only[i];kernel_rfl
def B1b(nn:Nat)(a0 a1:List FdT)(a2:Bool):Gq:=let z1:=(Aaa a0:Int) !=(Aaa a1:Int);bif z1 then(J (.one (.bool V)))else(Uj nn a0 a1 a2 nn 0 (J (.one (.bool V))) (λz2 z3=>J (.one (.bool Z))))
def B3x(a0 a1:List FdT)(a2:Bool):Gq:=B1b NN a0 a1 a2
def B67:KY
 |[.sl .fd a0 O,.sl .fd a1 O,.bool a2]=>pR [.bool] (B3x a0 a1 a2)
 |_=>O
def B80:Env Ty6 A2:=mkE [(113,Pj)] [] (lkR [(0,6,1),(1,8,4),(2,0,3),(2,12,1),(3,12,1),(4,13,3),(5,17,2),(5,71,1),(6,16,1),(6,19,39),(7,0,3),(7,7,1),(7,58,1),(8,58,13),(9,0,3),(9,7,1),(9,71,1),(10,0,3),(10,7,1),(10,16,1)]) 72 [] 0 [] []
def Uk{R:Type}(nn:Nat)(a0 a1:List P6)(a2:Bool):Nat->Int->Option R->(Int->Bool->Option R)->Option R
 |0,_,_,_=>O
 |n+1,x7,k1,k3=>let k2:=λx7=>Uk nn a0 a1 a2 n x7 k1 k3;let z1:=decide (x7<(Aaa a0:Int));bif z1 then(let j2:Int->Bool->Option R:=λz3 z4=>k2 (Aac .i64 (z3+1));let j5:Int->Bool->Option R:=λz6 z7=>match idx a0 z6 with|O=>O|J y8=>(match idx a1 z6 with|O=>O|J y9=>(let dz:=Nv y8.dirs y9.dirs a2;gd (okR [.bool] dz) (let bP:= !(lB (gL dz 0));bif bP then k1 else(j2 z6 bP))));match idx a0 x7 with|O=>O|J ic=>(match idx a1 x7 with|O=>O|J lT=>(bif(!((ic.note.has==lT.note.has)&&((ic.note.block==lT.note.block)&&(ic.note.text==lT.note.text))))==V then(match idx a0 x7 with|O=>O|J uy=>(match idx a1 x7 with|O=>O|J lr=>(bif(!(uy.name==lr.name))==V then(bif a2==Z then(match idx a0 x7 with|O=>O|J lU=>(match idx a1 x7 with|O=>O|J nH=>(let dB:= !((lU.pos.line==nH.pos.line)&&(lU.pos.col==nH.pos.col));bif dB then k1 else(j5 x7 dB))))else(j5 x7 V))else k1)))else k1)))else(k3 x7 z1)
def D7w{R}(nn a0 a1 a2)(K:Kt R):∀n x7,Uk nn a0 a1 a2 n x7 (K .ret ⟨[eB 6 V],[]⟩) (λx7 fk=>K (.exit 0) ⟨[eL 0 .vald a0,eL 1 .vald a1,eB 2 a2,eI 7 x7,eB 16 fk],[]⟩)=LP B80 nn f118 75 n ⟨[eL 0 .vald a0,eL 1 .vald a1,eB 2 a2,eI 7 x7],[]⟩ K:=λn=>n.rec (by intros;rfl) λn i=>by
 intros;rw[Uk];simp only[i];kernel_rfl
def B05(nn:Nat)(a0 a1:List P6)(a2:Bool):Gq:=let z1:=(Aaa a0:Int) !=(Aaa a1:Int);bif z1 then(J (.one (.bool V)))else(Uk nn a0 a1 a2 nn 0 (J (.one (.bool V))) (λz2 z3=>J (.one (.bool Z))))
def B1W(a0 a1:List P6)(a2:Bool):Gq:=B05 NN a0 a1 a2
def B54:KY
 |[.sl .vald a0 O,.sl .vald a1 O,.bool a2]=>pR [.bool] (B1W a0 a1 a2)
 |_=>O
def C2q:Env Ty6 A2:=mkE [] [] (lkR [(0,6,1),(1,8,4),(2,0,3),(2,12,1),(3,12,1),(4,13,3),(5,17,2),(5,58,1),(6,16,1),(6,19,39),(7,0,3),(7,7,1),(7,58,1),(8,0,3),(8,7,1),(8,16,1)]) 59 [] 0 [] []
def Ul{R:Type}(nn:Nat)(a0 a1:List RdT)(a2:Bool):Nat->Int->Option R->(Int->Bool->Option R)->Option R
 |0,_,_,_=>O
 |n+1,x7,k1,k3=>let k2:=λx7=>Ul nn a0 a1 a2 n x7 k1 k3;let z1:=decide (x7<(Aaa a0:Int));bif z1 then(let j2:Int->Bool->Option R:=λz3 z4=>k2 (Aac .i64 (z3+1));match idx a0 x7 with|O=>O|J y5=>(match idx a1 x7 with|O=>O|J y6=>(bif(y5.op !=y6.op)==V then(match idx a0 x7 with|O=>O|J y7=>(match idx a1 x7 with|O=>O|J y8=>(bif(!(y7.type_==y8.type_))==V then(bif a2==Z then(match idx a0 x7 with|O=>O|J y9=>(match idx a1 x7 with|O=>O|J dT=>(let bY:= !((y9.pos.line==dT.pos.line)&&(y9.pos.col==dT.pos.col));bif bY then k1 else(j2 x7 bY))))else(j2 x7 V))else k1)))else k1)))else(k3 x7 z1)
def D6V{R}(nn a0 a1 a2)(K:Kt R):∀n x7,Ul nn a0 a1 a2 n x7 (K .ret ⟨[eB 6 V],[]⟩) (λx7 fk=>K (.exit 0) ⟨[eL 0 .rd a0,eL 1 .rd a1,eB 2 a2,eI 7 x7,eB 16 fk],[]⟩)=LP C2q nn f119 75 n ⟨[eL 0 .rd a0,eL 1 .rd a1,eB 2 a2,eI 7 x7],[]⟩ K:=λn=>n.rec (by intros;rfl) λn i=>by
 intros;rw[Ul];simp only[i];kernel_rfl
def B3b(nn:Nat)(a0 a1:List RdT)(a2:Bool):Gq:=let z1:=(Aaa a0:Int) !=(Aaa a1:Int);bif z1 then(J (.one (.bool V)))else(Ul nn a0 a1 a2 nn 0 (J (.one (.bool V))) (λz2 z3=>J (.one (.bool Z))))
def B2L(a0 a1:List RdT)(a2:Bool):Gq:=B3b NN a0 a1 a2
def B5p:KY
 |[.sl .rd a0 O,.sl .rd a1 O,.bool a2]=>pR [.bool] (B2L a0 a1 a2)
 |_=>O
def E51:Env Ty6 A2:=mkE [(113,Pj),(115,B7c),(116,B67),(117,B21),(118,B54),(119,B5p)] [] noD 114 [] 0 [] []
def F51(a0 a1:B5)(a2:Bool):Gq:=let j1:Gq:=let j2:Gq:=let j3:Gq:=let r5:=B2L a0.roots a1.roots a2;gd (okR [.bool] r5) (bif(lB (gL r5 0))==Z then(let r4:=Nv a0.dirs a1.dirs a2;gd (okR [.bool] r4) (J (.one (.bool (lB (gL r4 0))))))else(J (.one (.bool V))));let r8:=B3x a0.fields a1.fields a2;gd (okR [.bool] r8) (bif(!(lB (gL r8 0)))==V then(let r7:=B0p a0.inputs a1.inputs a2;gd (okR [.bool] r7) (bif(!(lB (gL r7 0)))==V then(let r6:=B1W a0.values a1.values a2;gd (okR [.bool] r6) (bif(!(lB (gL r6 0)))then(J (.one (.bool V)))else j3))else(J (.one (.bool V)))))else(J (.one (.bool V))));let dz:=Xf a0.ifaces a1.ifaces a2;gd (okR [.bool] dz) (bif(!(lB (gL dz 0)))==V then(let cF:=Xf a0.members a1.members a2;gd (okR [.bool] cF) (bif(!(lB (gL cF 0)))==V then(let r9:=Xf a0.places a1.places a2;gd (okR [.bool] r9) (bif(!(lB (gL r9 0)))then(J (.one (.bool V)))else j2))else(J (.one (.bool V)))))else(J (.one (.bool V))));bif(a0.kind !=a1.kind)==V then(bif(!(a0.extd==a1.extd))==V then(bif(!((a0.note.has==a1.note.has)&&((a0.note.block==a1.note.block)&&(a0.note.text==a1.note.text))))==V then(bif(!(a0.name==a1.name))==V then(bif(!(a0.repeatable==a1.repeatable))==V then(bif a2==Z then(bif(!((a0.pos.line==a1.pos.line)&&(a0.pos.col==a1.pos.col)))then(J (.one (.bool V)))else j1)else j1)else(J (.one (.bool V))))else(J (.one (.bool V))))else(J (.one (.bool V))))else(J (.one (.bool V))))else(J (.one (.bool V)))
def S51:KY
 |[.agg .sys a0,.agg .sys a1,.bool a2]=>pR [.bool] (F51 a0 a1 a2)
 |_=>O
def E23:Env Ty6 A2:=mkE [(51,S51)] [] (lkR [(0,6,1),(1,8,4),(2,0,3),(2,12,1),(3,12,1),(4,13,3),(5,17,2),(5,29,1),(6,16,1),(6,19,10),(7,0,3),(7,7,1),(7,29,1),(8,0,3),(8,7,1),(8,16,1)]) 30 [] 0 [] []
def Um{R:Type}(nn:Nat)(a0 a1:List B5)(a2:Bool):Nat->Int->Option R->(Int->Bool->Option R)->Option R
 |0,_,_,_=>O
 |n+1,x7,k1,k3=>let k2:=λx7=>Um nn a0 a1 a2 n x7 k1 k3;let z1:=decide (x7<(Aaa a0:Int));bif z1 then(match idx a0 x7 with|O=>O|J y2=>(match idx a1 x7 with|O=>O|J y3=>(let r5:=F51 y2 y3 a2;gd (okR [.bool] r5) (let z4:= !(lB (gL r5 0));bif z4 then k1 else(k2 (Aac .i64 (x7+1)))))))else(k3 x7 z1)
def D49{R}(nn a0 a1 a2)(K:Kt R):∀n x7,Um nn a0 a1 a2 n x7 (K .ret ⟨[eB 6 V],[]⟩) (λx7 fk=>K (.exit 0) ⟨[eL 0 .sys a0,eL 1 .sys a1,eB 2 a2,eI 7 x7,eB 16 fk],[]⟩)=LP E23 nn f23 75 n ⟨[eL 0 .sys a0,eL 1 .sys a1,eB 2 a2,eI 7 x7],[]⟩ K:=λn=>n.rec (by intros;rfl) λn i=>by
 intros;rw[Um];simp only[i];kernel_rfl
def B1u(nn:Nat)(a0 a1:List B5)(a2:Bool):Gq:=let z1:=(Aaa a0:Int) !=(Aaa a1:Int);bif z1 then(J (.one (.bool V)))else(Um nn a0 a1 a2 nn 0 (J (.one (.bool V))) (λz2 z3=>J (.one (.bool Z))))
def F23(a0 a1:List B5)(a2:Bool):Gq:=B1u NN a0 a1 a2
def S23:KY
 |[.sl .sys a0 O,.sl .sys a1 O,.bool a2]=>pR [.bool] (F23 a0 a1 a2)
 |_=>O
def C0D:Env Ty6 A2:=mkE [] [] (lkR [(0,2,1),(1,6,1),(2,3,1),(2,7,10),(4,17,3),(5,21,2),(6,20,1),(6,23,9),(7,0,1),(7,4,2),(7,20,1),(7,32,2)]) 34 [] 0 [] []
def D4c{R}(nn a0)(K:Kt R):∀n x4 x5,We nn a0 n x4 x5 (λx4 x5 yE=>K (.exit 0) ⟨[eL 0 .u8 a0,eI 4 x4,eI 5 x5,eB 20 yE],[]⟩)=LP C0D nn f171 151 n ⟨[eL 0 .u8 a0,eI 4 x4,eI 5 x5],[]⟩ K:=λn=>n.rec (by intros;rfl) λn i=>by
 intros;rw[We];simp only[i];kernel_rfl
def B6H:KY
 |[.sl .u8 a0 O]=>pR [.int .i32] (ZP a0)
 |_=>O
def C02:Env Ty6 A2:=mkE [] [] (lkR [(0,4,1),(1,6,4),(2,0,2),(2,10,1),(3,10,1),(4,11,3),(5,15,2),(5,25,1),(6,14,1),(6,17,8),(7,0,2),(7,5,1),(7,25,1),(8,0,2),(8,5,1),(8,14,1)]) 26 [] 0 [] []
def D5E{R}(nn a0 a1)(K:Kt R):∀n x5,Wf nn a0 a1 n x5 (K .ret ⟨[eB 4 V],[]⟩) (λx5 cv=>K (.exit 0) ⟨[eL 0 .u8 a0,eL 1 .u8 a1,eI 5 x5,eB 14 cv],[]⟩)=LP C02 nn f173 75 n ⟨[eL 0 .u8 a0,eL 1 .u8 a1,eI 5 x5],[]⟩ K:=λn=>n.rec (by intros;rfl) λn i=>by
 intros;rw[Wf];simp only[i];kernel_rfl
def B7h:KY
 |[.sl .u8 a0 O,.sl .u8 a1 O]=>pR [.bool] (B0Z a0 a1)
 |_=>O
def C4F:Env Ty6 A2:=mkE [(171,B6H),(172,B1e),(173,B7h)] [] (lkR [(0,2,2),(2,7,7),(3,5,1),(3,15,2),(3,33,1),(4,14,1),(4,17,4),(5,21,2),(6,6,1),(6,23,10),(7,0,1),(7,4,2),(7,33,3),(8,0,1),(8,4,1),(8,14,1)]) 36 [] 0 [] []
def D2I{R}(nn a0)(K:Kt R):∀n x4,Wg nn a0 n x4 (λx2 x3=>K .ret ⟨[eC 2 x2,eI 3 x3],[]⟩) (λx4 cv=>K (.exit 0) ⟨[eL 0 .u8 a0,eI 4 x4,eB 14 cv],[]⟩)=LP C4F nn f120 37 n ⟨[eL 0 .u8 a0,eI 4 x4],[]⟩ K:=λn=>n.rec (by intros;rfl) λn i=>by
 intros;rw[Wg];simp only[i];kernel_rfl
def B65:KY
 |[.sl .u8 a0 O]=>pR [.int .i32,.int .i64] (Wh a0)
 |_=>O
def E52:Env Ty6 A2:=mkE [(120,B65)] [] (lkR [(0,2,2),(3,8,3),(4,11,8),(5,19,1),(6,6,1),(6,20,5),(7,7,1),(7,25,3),(8,0,1),(8,4,4),(8,11,1),(8,20,1),(8,28,2)]) 30 [] 0 [] []
def D0h{R}(nn a0)(K:Kt R):∀n x4 x5,Wi nn a0 n x4 x5 (λx4 x5 x6 x7 yE=>K (.exit 0) ⟨[eL 0 .u8 a0,eO 4 .i32 x4 104,eI 5 x5,eC 6 x6,eI 7 x7,eB 20 yE],[104]⟩) (λx4 x5 cY=>K (.exit 0) ⟨[eL 0 .u8 a0,eO 4 .i32 x4 104,eI 5 x5,eB 11 cY],[104]⟩)=LP E52 nn f52 71 n ⟨[eL 0 .u8 a0,eO 4 .i32 x4 104,eI 5 x5],[104]⟩ K:=λn=>n.rec (by intros;rfl) λn i=>by
 intros;rw[Wi];simp only[i];kernel_rfl
def C0z:Env Ty6 A2:=mkE [(122,B3W)] [] (lkR [(0,2,1),(2,8,2),(4,10,3),(5,14,2),(6,13,1),(6,16,2),(7,18,4),(8,22,7),(9,29,20),(10,49,3),(11,22,1),(11,49,1),(11,52,7),(12,6,1),(12,59,9),(13,7,1),(13,68,4),(14,0,1),(14,3,3),(14,13,1),(14,72,1)]) 73 [] 0 [] []
def D2M{R}(nn a0)(K:Kt R):∀n x3 x4 x5,TX nn a0 n x3 x4 x5 (λx3 x4 x5 ck=>K (.exit 0) ⟨[eL 0 .i32 a0,eO 3 .rs x3 103,eO 4 .i64 x4 1009,eI 5 x5,eB 13 ck],[103,1009]⟩)=LP C0z nn f198 151 n ⟨[eL 0 .i32 a0,eO 3 .rs x3 103,eO 4 .i64 x4 1009,eI 5 x5],[103,1009]⟩ K:=λn=>n.rec (by intros;rfl) λn i=>by
 intros;rw[TX];simp only[i];kernel_rfl
def B5S:KY
 |[.sl .i32 a0 O]=>pR [.sl .rs (J 1)] (ZG a0)
 |_=>O
def D1X:Env Ty6 A2:=mkE [] [] noD 9 [] 0 [] []
def B8m:KY
 |[.int .i32 a0]=>pR [.bool] (ZH a0)
 |_=>O
def D0k:Env Ty6 A2:=mkE [] [] noD 41 [] 0 [] []
def B1O:KY
 |[.sl .i32 a0 O,.int .i64 a1]=>pR [.bool] (TY a0 a1)
 |_=>O
def C37:Env Ty6 A2:=mkE [(121,Yx),(239,B1O)] [] (lkR [(0,2,1),(4,8,3),(5,4,1),(5,11,6),(6,6,1),(6,17,1),(7,0,1),(7,3,1),(7,5,1),(7,18,1),(8,18,4),(9,7,1),(10,22,1),(12,23,2),(13,22,1),(13,25,4),(14,29,1),(15,30,3),(16,30,1),(17,33,1),(18,0,1),(18,3,3),(18,34,1),(19,34,3),(20,0,1),(20,3,3),(20,11,1),(20,37,6)]) 43 [] 0 [] []
end Go.Aev
section
namespace Go.Aev
def tt:Gq:=J (.one (.bool Z))
def oTt:okR [.bool] tt=Z:=rfl
def gTt:lB (gL tt 0)=Z:=rfl
def slT{α:Type}{l:List α}{L:Nat->Int->Gq}(hl:l.length<=1100000)(h:∀(n i:Nat)(y:α),l[i]?=J y->y∈l->decide ((i:Int)<(l.length:Int))=Z->Aac .i64 ((i:Int)+1)=((i+1:Nat):Int)->L (n+1) i=L n ((i+1:Nat):Int))(he:∀n,decide ((l.length:Int)<(l.length:Int))=V->L (n+1) (l.length:Int)=tt):L NN 0=tt:=by
 have bm:∀(k n i:Nat),i+k=l.length->k+1<=n->L n (i:Int)=tt:=by
  intro k
  induction k with
  |zero=>
   intro n i hi hn;obtain⟨m,rfl⟩:∃m,n=m+1:=⟨n - 1,FK⟩;rw[show i=l.length from FK];exact he m GN
  |succ k ih=>
   intro n i hi hn;obtain⟨m,rfl⟩:∃m,n=m+1:=⟨n - 1,FK⟩;have aE:i<l.length:=FK;rw[h m i l[i] (GE aE) (IG _) (by simpa using aE) (E7 FK)];exact ih m (i+1) FK FK
 exact bm l.length NN 0 FK (by have:=NNv;omega)
def Xg:∀(d:Nat)(v:LitT),F5 d v->wt d v<=1100000->Lc d v v Z=tt
 |0,_,h,_=>h.elim
 |d+1,v,⟨h1,h2,h3,h4,h5,h6⟩,hw=>by
  have hi:∀x∈v.items,Lc d x x Z=tt:=λx hx=>Xg d x (h5 x hx) (by
   have:=Yj (wt d) v.items x hx;simp only[wt]at hw;omega)
  have hf:∀f∈v.fields,Lc d f.value f.value Z=tt:=λf hf=>Xg d f.value (h6 f hf).2 (by
   have:=Yj (λ(f:LfT)=>1+wt d f.value) v.fields f hf;simp only[wt]at hw;omega)
  have dp:v.items=[]\/0<d:=by
   rcases d with _|d;refine .inl ?_;rcases e:v.items with _|⟨x,r⟩;rfl;exact(h5 x (by rw[e];exact HO)).elim;exact .inr FK
  have li:v.items.length<=1100000:=by
   rcases dp with e|e;rw[e];exact HH _;have:=Sp (wt d) v.items (λx _=>B22 e x);simp only[wt]at hw;omega
  have lf:v.fields.length<=1100000:=by
   have:=Sp (λ(f:LfT)=>1+wt d f.value) v.fields (λx _=>FK);simp only[wt]at hw;omega
  have e2:Rf NN (Lc d) v v Z NN 0 (J (.one (.bool V))) (λz5 z6=>J (.one (.bool Z)))=tt:=by
   refine slT (l:=v.fields) (L:=λn i=>Rf NN (Lc d) v v Z n i _ _) lf (λn i y hy hm hd hw=>?_) (λn hd=>?_);have e1:=hf y hm;simp only[Rf,gd,B1,hy,hd,U3,oTt,gTt,beq_self_eq_true,bne_self_eq_false,Hy,HY,HP,GD,GF,hw,e1];simp only[Rf,hd,GF];rfl
  show B4U (Lc d) v v Z=tt;unfold B4U B2v;simp only[bne_self_eq_false,beq_self_eq_true,Hy,HY,GF,GD,e2];refine slT (l:=v.items) (L:=λn i=>Ub NN (Lc d) v v Z n i _ _) li (λn i y hy hm hd hw=>?_) (λn hd=>?_);have e1:=hi y hm;simp only[Ub,gd,B1,hy,hd,U3,oTt,gTt,beq_self_eq_true,bne_self_eq_false,Hy,HY,HP,GD,GF,hw,e1];simp only[Ub,hd,GF]
def C45{l:List E0}(h:GL Y8 l):A9t l l Z=tt:=by
 unfold A9t B2R;simp only[bne_self_eq_false,GF];refine slT (l:=l) (L:=λn i=>Uc NN l l Z n i _ _) h.1 (λn i y hy hm hd hw=>?_) (λn hd=>?_);have g:=h.2 y hm;have e1:=show Pi y.value y.value Z=tt from Xg _ _ g.2.1 g.2.2
 simp only[Uc,gd,B1,hy,hd,U3,oTt,gTt,beq_self_eq_true,bne_self_eq_false,Hy,HY,HP,GD,GF,hw,e1];simp only[Uc,hd,GF];rfl
def Un{l:List C3}(h:GL K1 l):Nv l l Z=tt:=by
 unfold Nv B1c;simp only[bne_self_eq_false,GF];refine slT (l:=l) (L:=λn i=>Ud NN l l Z n i _ _) h.1 (λn i y hy hm hd hw=>?_) (λn hd=>?_);have g:=h.2 y hm;have e1:=C45 g.2;simp only[Ud,gd,B1,hy,hd,U3,oTt,gTt,beq_self_eq_true,bne_self_eq_false,Hy,HY,HP,GD,GF,hw,e1];simp only[Ud,hd,GF];rfl
def D4K{l:List VdT}(h:GL GVd l):B0I l l Z=tt:=by
 unfold B0I B29;simp only[bne_self_eq_false,GF];refine slT (l:=l) (L:=λn i=>Ue NN l l Z n i _ _) h.1 (λn i y hy hm hd hw=>?_) (λn hd=>?_);have g:=h.2 y hm;have e1:=show Pi y.dflt y.dflt Z=tt from Xg _ _ (g.2.2.1 rfl).1 (g.2.2.1 rfl).2
 have e2:=Un g.2.2.2;simp only[Ue,gd,B1,hy,hd,U3,oTt,gTt,beq_self_eq_true,bne_self_eq_false,Hy,HY,HP,GD,GF,hw,e1,e2];simp only[Ue,hd,GF];rfl
def C3J:∀(d D:Nat)(l:GC),d<D->GL (V6 d) l->Rh D l l Z=tt
 |d,0,l,h0,h=>absurd h0 (Jo _)
 |d,D+1,l,h0,h=>by
  show B5v (Rh D) l l Z=tt;unfold B5v B1U;simp only[bne_self_eq_false,GF];refine slT (l:=l) (L:=λn i=>Uf NN (Rh D) l l Z n i _ _) h.1 (λn i y hy hm hd hw=>?_) (λn hd=>?_);have g:=h.2 y hm;rcases d with _|d;exact g.elim;obtain⟨g1,g2,g3,g4,g5,g6,g8,g9⟩:=g;have e1:=C45 g5;have e2:=Un g6;have e3:=C3J d D y.sels FK ⟨g8,g9⟩;simp only[Uf,gd,B1,hy,hd,U3,oTt,gTt,beq_self_eq_true,bne_self_eq_false,Hy,HY,HP,GD,GF,hw,e1,e2,e3];simp only[Uf,hd,GF];rfl
def D5a{l:List D9}(h:GL PI l):F50 l l Z=tt:=by
 unfold F50 B08;simp only[bne_self_eq_false,GF];refine slT (l:=l) (L:=λn i=>Ug NN l l Z n i _ _) h.1 (λn i y hy hm hd hw=>?_) (λn hd=>?_);have g:=h.2 y hm;have e1:=D4K g.vs;have e2:=Un g.ds;have e3:=show B78 y.sels y.sels Z=tt from C3J 201 DD _ GO g.ss
 simp only[Ug,gd,B1,hy,hd,U3,oTt,gTt,beq_self_eq_true,bne_self_eq_false,Hy,HY,HP,GD,GF,hw,e1,e2,e3];simp only[Ug,hd,GF];rfl
def D52{x:I6}(h:B2S x):F22 x x Z=tt:=by
 unfold F22;simp only[D5a h,oTt,gTt,gd,GD];rfl
namespace Sy
def B4L{l:List E5}(h:GL GNm l):Xf l l Z=tt:=by
 unfold Xf B3X;simp only[bne_self_eq_false,GF];refine slT (l:=l) (L:=λn i=>Uh NN l l Z n i _ _) h.1 (λn i y hy hm hd hw=>?_) (λn hd=>?_);have g:=h.2 y hm;simp only[Uh,gd,B1,hy,hd,U3,oTt,gTt,beq_self_eq_true,bne_self_eq_false,Hy,HY,HP,GD,GF,hw];simp only[Uh,hd,GF];rfl
def C3Q{l:List IvT}(h:GL GIv l):B0p l l Z=tt:=by
 unfold B0p B3z;simp only[bne_self_eq_false,GF];refine slT (l:=l) (L:=λn i=>Ui NN l l Z n i _ _) h.1 (λn i y hy hm hd hw=>?_) (λn hd=>?_);have g:=h.2 y hm;have e1:=show Pi y.dflt y.dflt Z=tt from Xg _ _ (g.2.2.2.1 rfl).1 (g.2.2.2.1 rfl).2
 have e2:=Un g.2.2.2.2;simp only[Ui,gd,B1,hy,hd,U3,oTt,gTt,beq_self_eq_true,bne_self_eq_false,Hy,HY,HP,GD,GF,hw,e1,e2];simp only[Ui,hd,GF];rfl
def C6d{l:List FdT}(h:GL GFd l):B3x l l Z=tt:=by
 unfold B3x B1b;simp only[bne_self_eq_false,GF];refine slT (l:=l) (L:=λn i=>Uj NN l l Z n i _ _) h.1 (λn i y hy hm hd hw=>?_) (λn hd=>?_);have g:=h.2 y hm;have e1:=C3Q g.2.2.1;have e2:=Un g.2.2.2.2;simp only[Uj,gd,B1,hy,hd,U3,oTt,gTt,beq_self_eq_true,bne_self_eq_false,Hy,HY,HP,GD,GF,hw,e1,e2];simp only[Uj,hd,GF];rfl
def C84{l:List P6}(h:GL GVd l):B1W l l Z=tt:=by
 unfold B1W B05;simp only[bne_self_eq_false,GF];refine slT (l:=l) (L:=λn i=>Uk NN l l Z n i _ _) h.1 (λn i y hy hm hd hw=>?_) (λn hd=>?_);have g:=h.2 y hm;have e1:=Un g.2.2;simp only[Uk,gd,B1,hy,hd,U3,oTt,gTt,beq_self_eq_true,bne_self_eq_false,Hy,HY,HP,GD,GF,hw,e1];simp only[Uk,hd,GF];rfl
def D0E{l:List RdT}(h:GL GRd l):B2L l l Z=tt:=by
 unfold B2L B3b;simp only[bne_self_eq_false,GF];refine slT (l:=l) (L:=λn i=>Ul NN l l Z n i _ _) h.1 (λn i y hy hm hd hw=>?_) (λn hd=>?_);have g:=h.2 y hm;simp only[Ul,gd,B1,hy,hd,U3,oTt,gTt,beq_self_eq_true,bne_self_eq_false,Hy,HY,HP,GD,GF,hw];simp only[Ul,hd,GF];rfl
def D58{x:B5}(h:GSys x):F51 x x Z=tt:=by
 unfold F51;simp only[B4L h.ifs,B4L h.mbs,B4L h.pls,C6d h.fds,C3Q h.ivs,C84 h.vals,D0E h.rds,Un h.ds,gd,oTt,gTt,beq_self_eq_true,bne_self_eq_false,Hy,HY,HP,GD,GF];rfl
def same23{l:List B5}(h:GL GSys l):F23 l l Z=tt:=by
 unfold F23 B1u;simp only[bne_self_eq_false,GF];refine slT (l:=l) (L:=λn i=>Um NN l l Z n i _ _) h.1 (λn i y hy hm hd hw=>?_) (λn hd=>?_);have g:=h.2 y hm;have e1:=D58 g;simp only[Um,gd,B1,hy,hd,U3,oTt,gTt,beq_self_eq_true,bne_self_eq_false,Hy,HY,HP,GD,GF,hw,e1];simp only[Um,hd,GF];rfl
end Sy
end Go.Aev
end
namespace Go.Aev
open Go.Proofs
def tbL(t:Aan):TK Ty6:=match t with
 |46=>.struct .lit0 [(0,1),(1,1),(2,1),(3,1),(4,1),(5,2)]
 |t=>tb6 t
def zrL(t:Aan):Option Gt:=match t with
 |46=>J [.int .i64 0,.str [],.bool V,.nils,.nils,.int .i64 0,.int .i64 0]
 |t=>zr6 t
def ftL(t:Aan):Option Ty6:=match t with
 |46=>J .lit
 |_=>O
def D2T(t:Aan):M4 Aab U6 t (tbL t):=by
 unfold tbL;split;exact YW GM GM;exact QS _
def D4F(t:Aan)(zs:Gt)(h:zrL t=J zs):Ky Aab U6 t zs:=by
 unfold zrL at h;split at h;cases h;exact YX GM;exact QT _ _ h
def Xh(g:Gp->Int->Gq):KY
 |[.sl .u8 a0 O,.int .i64 a1]=>pR [.agg .lit,.slc .u8] (g a0 a1)
 |_=>O
def Kn(g:Gp->Int->Gq):Env Ty6 A2:={mkE [(20,Xh g)] [] (lkR [(0,5,1),(0,1000106,1),(0,1000109,1),(1,10,2),(1,1000106,1),(1,1000109,1),(2,0,2),(2,12,2),(2,1000106,1),(2,1000109,1),(3,12,1),(3,14,23),(3,1000109,1),(4,37,5),(4,1000109,1),(5,42,2),(5,1000109,1),(6,1000109,1),(7,44,6),(7,1000109,1),(8,51,2),(8,1000109,1),(9,50,1),(10,53,7),(11,60,2),(12,9,1),(12,62,7),(12,1000109,1),(13,9,1),(13,62,1),(13,69,9),(13,1000109,1),(14,0,2),(14,6,3),(14,50,1),(14,78,2),(14,1000106,1),(14,1000109,1),(10007,1000109,1)]) 80 [4,6,9] 0 [] []with tb:=tbL,zr:=zrL,rw:=Z,fty:=ftL}
def MY(a1:Int)(x0:Gp)(n i k:Int)(s:rg)(bl:Bool)(dU eE:L6)(lv:Gv):S6:=⟨[(0,.one (.sl .u8 x0 O)),(1,.one (.int .i64 a1)),(4,.one (.ptr 104 0)),(6,.one (.ptr 106 0)),(7,.one (.int .i64 n)),(8,.one (.int .i64 i)),(1000104,.bx 104 [.int .i64 0,.str [],.bool V,.nils,.nils,.int .i64 0,.int .i64 0]),(1000106,.bx 106 [.int .i64 k,.str s,.bool bl,dU,eE,.int .i64 0,.int .i64 0])],lv⟩
def C8O(nn:Nat)(g20:Gp->Int->Gq)(a0:Gp)(a1:Int):P4 (Kn g20) nn Aaf [.sl .u8 a0 O,.int .i64 a1]=let z1:=decide ((Aaa a0:Int)<2);bif z1 then(J (.tup [.agg .lit (LitT.mk 6 [] V [] [] (⟨0,0⟩:A4)),.sl .u8 [] (J 2)]))else(match idx a0 0 with|O=>O|J y2=>(match idx a0 1 with|O=>O|J y3=>(match sub a0 1 (if(Aac .i64 (1+(Aac .i64 (Aad y3 8))))<(Aaa a0:Int)then(Aac .i64 (1+(Aac .i64 (Aad y3 8))))else(Aaa a0:Int))with|O=>O|J y4=>(match idx a0 1 with|O=>O|J y5=>(match idx a0 1 with|O=>O|J y6=>(match sub a0 2 (Aaa a0:Int)with|O=>O|J y7=>(LP (Kn g20) nn Aaf 607 nn (MY a1 y7 (Aac .i64 (Aad y6 4)) 0 (Aac .i64 (Aad y2 12)) (Aa8 (λ(n:Int)=>Aa0 n.toNat) y4) ((Aad y5 2)==0) .nils .nils [104,106]) (Mi 0 (sk (Kn g20) nn Aaf [1,1,1,1,1,1] (VG (Kn g20) f20.results.toList)))))))))):=GM
def wE(w:LitT):LitT:=.mk w.kind w.text w.block w.items w.fields ⟨w.pos.line,w.pos.col⟩
def Nw{R:Type}(g:Gp->Int->Gq)(a1:Int)(x0:Gp)(c i:Int)(k1:Gp->LitT->Option R)(k2:Bool->Option R):Option R:=
 bif(decide (i<c))==Z then(let z:=decide (a1>0);bif z then(let r:=g x0 (Aac .i64 (a1 - 1));gd (okR [.agg .lit,.slc .u8] r) (k1 (B3 (gL r 1)) (wE (G9 (gL r 0)))))else k2 z)else k2 V
def Nx{R:Type}(g:Gp->Int->Gq)(a1 c:Int)(s:rg)(K:Bool->Gp->Int->GB->List LfT->Option R):Nat->Gp->Int->GB->List LfT->Option R
 |0,_,_,_,_=>O
 |n+1,x0,i,dU,eE=>Nw g a1 x0 c i (λy w=>bif(Aad i 2)==0 then gd (A3 (dU.length+1) 96) (Nx g a1 c s K n y (Aac .i64 (i+1)) (dU++[w]) eE)else gd (A3 (eE.length+1) 128) (Nx g a1 c s K n y (Aac .i64 (i+1)) dU (eE++[(s,w,⟨0,0⟩)]))) λz=>K z x0 i dU eE
def C0N{R:Type}(nn:Nat)(g:Gp->Int->Gq)(a1 c k:Int)(s:rg)(bl:Bool)(K:Ex->S6->Option R):∀(n:Nat)(x0:Gp)(i:Int)(dU:GB)(eE:List LfT),LP (Kn g) nn Aaf 607 n (MY a1 x0 c i k s bl (.sl .lit dU (J 167)) (.sl .lf eE (J 176)) [104,106,167,176]) K=Nx g a1 c s (λz x0 i dU eE=>K (.exit 0) (Q7 (eB 50 z) (MY a1 x0 c i k s bl (.sl .lit dU (J 167)) (.sl .lf eE (J 176)) [104,106,167,176]))) n x0 i dU eE
 |0,_,_,_,_=>rfl
 |n+1,x0,i,dU,eE=>by
  rw[Nx];simp only[<-C0N nn g a1 c k s bl K n];kernel_rfl
def D2h{R:Type}(nn:Nat)(g:Gp->Int->Gq)(a1 c k:Int)(s:rg)(bl:Bool)(K:Ex->S6->Option R)(n:Nat)(x0:Gp):LP (Kn g) nn Aaf 607 (n+1) (MY a1 x0 c 0 k s bl .nils .nils [104,106]) K=Nw g a1 x0 c 0 (λy w=>gd (A3 (0+1) 96) (LP (Kn g) nn Aaf 607 n (MY a1 y c 1 k s bl (.sl .lit ([]++[w]) (J 167)) .nils [104,106,167]) K)) λz=>K (.exit 0) (Q7 (eB 50 z) (MY a1 x0 c 0 k s bl .nils .nils [104,106])):=GM
def D4X{R:Type}(nn:Nat)(g:Gp->Int->Gq)(a1 c k:Int)(s:rg)(bl:Bool)(K:Ex->S6->Option R)(n:Nat)(x0:Gp)(dU:GB):LP (Kn g) nn Aaf 607 (n+1) (MY a1 x0 c 1 k s bl (.sl .lit dU (J 167)) .nils [104,106,167]) K=Nw g a1 x0 c 1 (λy w=>gd (A3 (0+1) 128) (LP (Kn g) nn Aaf 607 n (MY a1 y c 2 k s bl (.sl .lit dU (J 167)) (.sl .lf ([]++[(s,w,⟨0,0⟩)]) (J 176)) [104,106,167,176]) K)) λz=>K (.exit 0) (Q7 (eB 50 z) (MY a1 x0 c 1 k s bl (.sl .lit dU (J 167)) .nils [104,106,167])):=GM
def Uo(k:Int)(s:rg)(bl:Bool)(x0:Gp)(dU:GB)(eE:List LfT):Gq:=J (.tup [.agg .lit (.mk k s bl dU eE ⟨0,0⟩),.sl .u8 x0 O])
def H20(g:Gp->Int->Gq)(a1:Int)(x0:Gp)(c k:Int)(s:rg)(bl:Bool):Gq:=
 Nw g a1 x0 c 0 (λy w=>gd (A3 (0+1) 96) (Nw g a1 y c 1 (λy w2=>gd (A3 (0+1) 128) (Nx g a1 c s (λ_ x0 _ dU eE=>Uo k s bl x0 dU eE) (NN - 2) y 2 ([]++[w]) ([]++[(s,w2,⟨0,0⟩)]))) λ_=>Uo k s bl y ([]++[w]) [])) λ_=>Uo k s bl x0 [] []
def B2O(g:Gp->Int->Gq)(a0:Gp)(a1:Int):Gq:=let z1:=decide ((Aaa a0:Int)<2);bif z1 then(J (.tup [.agg .lit (LitT.mk 6 [] V [] [] (⟨0,0⟩:A4)),.sl .u8 [] (J 2)]))else(match idx a0 0 with|O=>O|J y2=>(match idx a0 1 with|O=>O|J y3=>(match sub a0 1 (if(Aac .i64 (1+(Aac .i64 (Aad y3 8))))<(Aaa a0:Int)then(Aac .i64 (1+(Aac .i64 (Aad y3 8))))else(Aaa a0:Int))with|O=>O|J y4=>(match idx a0 1 with|O=>O|J y5=>(match idx a0 1 with|O=>O|J y6=>(match sub a0 2 (Aaa a0:Int)with|O=>O|J y7=>(H20 g a1 y7 (Aac .i64 (Aad y6 4)) (Aac .i64 (Aad y2 12)) (Aa8 (λ(n:Int)=>Aa0 n.toNat) y4) ((Aad y5 2)==0))))))))
def C8L(g:Gp->Int->Gq){a0:Gp}{a1:Int}:P4 (Kn g) NN Aaf [.sl .u8 a0 O,.int .i64 a1]=B2O g a0 a1:=by
 have bm:∀(x0:Gp)(c k:Int)(s:rg)(bl:Bool),LP (Kn g) NN Aaf 607 NN (MY a1 x0 c 0 k s bl .nils .nils [104,106]) (Mi 0 (sk (Kn g) NN Aaf [1,1,1,1,1,1] (VG (Kn g) f20.results.toList)))=H20 g a1 x0 c k s bl:=λx0 c k s bl=>by
  have e:∀N:Nat,LP (Kn g) NN Aaf 607 (N+1+1) (MY a1 x0 c 0 k s bl .nils .nils [104,106]) (Mi 0 (sk (Kn g) NN Aaf [1,1,1,1,1,1] (VG (Kn g) f20.results.toList)))=
    Nw g a1 x0 c 0 (λy w=>gd (A3 (0+1) 96) (Nw g a1 y c 1 (λy w2=>gd (A3 (0+1) 128) (Nx g a1 c s (λ_ x0 _ dU eE=>Uo k s bl x0 dU eE) N y 2 ([]++[w]) ([]++[(s,w2,⟨0,0⟩)]))) λ_=>Uo k s bl y ([]++[w]) [])) λ_=>Uo k s bl x0 [] []:=λN=>by
   rw[D2h];simp only[D4X,C0N];show _=_;kernel_rfl
  exact e (NN - 2)
 rw[C8O];simp only[bm];rfl
def Ri:Nat->Gp->Int->Gq
 |0,_,_=>O
 |d+1,a0,a1=>B2O (Ri d) a0 a1
def Xi(a0:Gp)(a1:Int):Gq:=Ri DD a0 a1
def S20:KY
 |[.sl .u8 a0 O,.int .i64 a1]=>pR [.agg .lit,.slc .u8] (Xi a0 a1)
 |_=>O
section
variable {I:Inv}
def D3v(hb:HB I){g:Gp->Int->Gq}(h:SP I 20 (Xh g)):EnvI Aab (Kn g) I:=
 ⟨u6_ok,D2T,D4F,λ_ _ _ h1=>Sn (T:=[(20,Xh g)]) ⟨h,trivial⟩ h1,λ_ _ _ _ _ h=>So (T:=[]) trivial h,λ_ _ _ _ _ _ _ _ h=>(by cases h),λf ls cs rs h=>(by cases h),hb.mono,VZ,λ_ _ _ h=>(by cases h),qe6 rfl rfl,Va⟩
def C2U(hb:HB I):∀d,SP I 20 (Xh (Ri d))
 |0=>⟨Abd,λls r h=>by
  unfold sG Xh at h;split at h<;>cases h⟩
 |d+1=>Sound.close (S0:=P4 (Kn (Ri d)) NN Aaf) (B2h (D3v hb (C2U hb d)) func20 rfl Abd λls r h=>⟨NN,h⟩) (λls r h=>by
  unfold sG Xh at h;split at h;exact mF h (C8L (Ri d));cases h)
def D55(hb:HB I):SP I 20 S20:=C2U hb DD
end
end Go.Aev
namespace Go.Aev
def By8(l:Gp):Prop:=(∀x∈l,0<=x/\x<=255)/\l.length<=1048576
def GW(d W:Nat)(v:LitT):Prop:=F5 d v/\wt d v<=W/\v.text.length<=7
def Ld(d W:Nat)(o:Gq):Prop:=∃v r n,o=J (.tup [.agg .lit v,.sl .u8 r n])/\GW d W v/\By8 r
section
variable {R:Type}{g:Gp->Int->Gq}{d W k:Nat}
def B5L{o:Option R}:gd Z o=o:=rfl
def b20{P:Option R->Prop}{a1 c i:Int}{x0:Gp}{k1:Gp->LitT->Option R}{k2:Bool->Option R}(hg:0<a1->∀x,By8 x->Ld d W (g x (Aac .i64 (a1 - 1))))(hx:By8 x0)(h1:0<a1->∀y w,By8 y->GW d W w->P (k1 y w))(h2:∀z,P (k2 z)):P (Nw g a1 x0 c i k1 k2):=by
 unfold Nw;refine A7 (λ_=>A7 (λh=>?_) λ_=>h2 _) λ_=>h2 _;have h0:0<a1:=by simpa using h
 obtain⟨v,r,n,e,hv,hr⟩:=hg h0 x0 hx;rw[e];have:wE v=v:=LitT.eta v;show gd Z (k1 r (wE v))|>P
 rw[this];exact h1 h0 r v hr hv
def B2C{c:Int}{s:rg}{bl:Bool}{x:Gp}{dU:GB}{eE:List LfT}(hk:0<=c/\c<=11)(hs:s.length<=7)(hx:By8 x)(hi:dU.length<=2/\∀v∈dU,GW d W v)(hf:eE.length<=1/\∀f∈eE,f.name.length<=7/\GW d W f.value):Ld (d+1) (3*W+2) (Uo c s bl x dU eE):=by
 refine⟨_,_,_,rfl,⟨⟨hk.1,hk.2,by show s.length<=_;omega,λ_ _=>rfl,λv hv=>(hi.2 v hv).1,λf h=>⟨by have:=(hf.2 f h).1;omega,(hf.2 f h).2.1⟩⟩,?_,hs⟩,hx⟩;show 1+sw (wt d) dU+sw (λ(f:LfT)=>1+wt d f.value) eE<=_;have e1:sw (wt d) dU<=2*W:=by
  rcases dU with _|⟨a,_|⟨b,_|⟨c,r⟩⟩⟩;exact HH _;have:=(hi.2 a GN).2.1;simp only[sw];omega;have:=(hi.2 a GN).2.1;have:=(hi.2 b GN).2.1;simp only[sw];omega;have:=hi.1;simp at this
 have e2:sw (λ(f:LfT)=>1+wt d f.value) eE<=1+W:=by
  rcases eE with _|⟨a,_|⟨b,r⟩⟩;exact HH _;have:=(hf.2 a GN).2.2.1;simp only[sw];omega;have:=hf.1;simp at this
 omega
def h20{a1 c q:Int}{s:rg}{bl:Bool}{x:Gp}(hg:0<a1->∀x,By8 x->Ld d W (g x (Aac .i64 (a1 - 1))))(hx:By8 x)(hc:c<=3)(hq:0<=q/\q<=11)(hs:s.length<=7):Ld (d+1) (3*W+2) (H20 g a1 x c q s bl):=by
 unfold H20;refine b20 (P:=Ld (d+1) (3*W+2)) hg hx (λ_ y w hy hw=>?_) λ_=>B2C hq hs hx ⟨GN,λ_ h=>(by cases h)⟩ ⟨GN,λ_ h=>(by cases h)⟩;rw[show A3 (0+1) 96=Z from rfl,B5L];have one:∀(w:LitT),GW d W w->∀v∈([]:GB)++[w],GW d W v:=λw hw v hv=>by
  rw[Hj,HW]at hv;rw[hv];exact hw
 refine b20 (P:=Ld (d+1) (3*W+2)) hg hy (λ_ y2 w2 tH wq=>?_) λ_=>B2C hq hs hy ⟨GN,one w hw⟩ ⟨GN,λ_ h=>(by cases h)⟩;have fl:∀f∈(([]:List LfT)++[(⟨s,w2,⟨0,0⟩⟩:LfT)]),(LfT.name f).length<=7/\GW d W (LfT.value f):=λf hf=>by
  rw[Hj,HW]at hf;rw[hf];exact⟨hs,wq⟩
 rw[show A3 (0+1) 128=Z from rfl,B5L];show Ld _ _ (Nx g a1 c s _ (NN - 3+1) y2 2 _ _);unfold Nx;refine b20 (P:=Ld (d+1) (3*W+2)) hg tH (λ_ y3 w3 EQ xA=>?_) λ_=>B2C hq hs tH ⟨GN,one w hw⟩ ⟨GN,fl⟩;rw[show(Aad 2 2==0)=Z from rfl,GD,show A3 ((([]:GB)++[w]).length+1) 96=Z from rfl,B5L];show Ld _ _ (Nx g a1 c s _ (NN - 4+1) y3 3 _ _);unfold Nx Nw;rw[show decide ((3:Int)<c)=V from GH FK];refine B2C hq hs EQ ⟨GN,λv hv=>?_⟩ ⟨GN,fl⟩;rcases Hg.1 hv with h|h
 exact one w hw v h;rw[HW]at h;rw[h];exact xA
end
def B4V{a m:Int}(h:0<=a/\a<=255)(hm:0<m):0<=Aad a m/\Aad a m<m:=⟨Jq _ h.1,Je _ hm⟩
def C1f{l:Gp}(hx:By8 l){i:Nat}(h:i<l.length):∃y,idx l (i:Int)=J y/\0<=y/\y<=255:=⟨l[i],by rw[B1];exact GE h,hx.1 _ (IG h)⟩
def C1B{l:Gp}(hx:By8 l){a b:Int}(h0:0<=a)(h1:a<=b)(h2:b<=(l.length:Int)):∃s,sub l a b=J s/\By8 s/\(s.length:Int)<=b - a:=by
 refine⟨(l.drop a.toNat).take (b.toNat - a.toNat),?_,⟨λx h=>hx.1 x (KJ (IP h)),?_⟩,?_⟩;unfold sub;simp[h0,h1,h2];have:=hx.2;simp only[IK,IR];omega;simp only[IK,IR];omega
def g20{g:Gp->Int->Gq}{d W:Nat}{a1:Int}{a0:Gp}(hg:0<a1->∀x,By8 x->Ld d W (g x (Aac .i64 (a1 - 1))))(hx:By8 a0):Ld (d+1) (3*W+2) (B2O g a0 a1):=by
 have hl:=hx.2;unfold B2O;refine A7 (λ_=>?_) λh=>?_
 exact⟨_,_,_,rfl,⟨⟨by show(0:Int)<=6;omega,by show(6:Int)<=11;omega,HH _,λ_ _=>rfl,λ_ h=>(by cases h),λ_ h=>(by cases h)⟩,by show 1+0+0<=_;omega,HH _⟩,λ_ h=>(by cases h),HH _⟩;have h:¬(a0.length:Int)<2:=of_decide_eq_false h;obtain⟨y0,i0,r0⟩:=C1f hx (i:=0) FK;obtain⟨y1,i1,r1⟩:=C1f hx (i:=1) FK;have t0:=B4V r0 (m:=12) GO;have t1:=B4V r1 (m:=8) GO;have t2:=B4V r1 (m:=4) GO;have w1:Aac .i64 (1+Aac .i64 (Aad y1 8))=1+Aad y1 8:=by rw[P0 (n:=Aad y1 8) FK FK,P0 FK FK]
 obtain⟨s,e1,s1,s2⟩:=C1B hx (a:=1) (b:=if(1+Aad y1 8)<(a0.length:Int)then 1+Aad y1 8 else(a0.length:Int)) GO (by split<;>omega) (by split<;>omega);obtain⟨x,e2,x1,_⟩:=C1B hx (a:=2) (b:=(a0.length:Int)) GO FK (Jm _);have i0:idx a0 0=J y0:=i0;have i1:idx a0 1=J y1:=i1;simp only[i0,i1,w1,e1,e2];refine h20 hg x1 (by rw[P0 FK FK];omega) (by rw[P0 FK FK];omega) ?_;rw[HR];split at s2<;>omega
def w20:Nat->Nat
 |0=>2
 |k+1=>3*w20 k+2
def C2G:∀(k D:Nat)(a0:Gp),k<D->k<=4->By8 a0->Ld (k+1) (w20 k) (Ri D a0 (k:Int))
 |_,0,_,h,_,_=>absurd h (Jo _)
 |0,D+1,a0,h,_,hx=>g20 (d:=0) (W:=0) (g:=Ri D) (a1:=0) (λh=>absurd h GO) hx
 |k+1,D+1,a0,h,h4,hx=>by
  have e:Aac .i64 (((k+1:Nat):Int) - 1)=(k:Int):=by rw[P0 FK FK];omega
  exact g20 (g:=Ri D) (a1:=((k+1:Nat):Int)) (a0:=a0) (d:=k+1) (W:=w20 k) (λ_ x hx=>by rw[e];exact C2G k D x FK FK hx) hx
def agO(v:LitT):List E0:=[⟨v.text,v,⟨0,0⟩⟩]
def drO(v:LitT):List C3:=[⟨v.text,agO v,⟨0,0⟩⟩]
def sO(v:LitT)(q:Int):SelT:=.mk q v.text v.text v.text (agO v) (drO v) [] ⟨0,0⟩
def dO(v:LitT)(w:rg)(q p:Int):D9:=⟨p,v.text,[],v.block,[⟨v.text,⟨v.text,w⟩,Z,v,[],⟨0,0⟩⟩],drO v,[.mk 3 [] [] [] [] [] [sO v q,.mk q [] [] [] [] [] [sO v q] ⟨0,0⟩] ⟨0,0⟩],⟨0,0⟩⟩
def iO(v:LitT)(w:rg):IvT:=⟨⟨Z,v.block,v.text⟩,v.text,⟨v.text,w⟩,Z,v,drO v,⟨0,0⟩⟩
def yO(v:LitT)(w:rg)(k:Int):B5:=⟨k,v.block,⟨Z,v.block,v.text⟩,v.text,[],drO v,[⟨⟨V,V,[]⟩,v.text,[iO v w],⟨v.text,w⟩,[],⟨0,0⟩⟩],[iO v w],[],[],[],V,[⟨v.text,⟨0,0⟩⟩],⟨0,0⟩⟩
def gl1{α:Type}{G:α->Prop}{x:α}(h:G x):GL G [x]:=⟨GN,λy hy=>by rw[HW]at hy;rw[hy];exact h⟩
section
variable {v:LitT}{w:rg}{q p k:Int}
def VO(v:LitT):Prop:=F5 DD v/\wt DD v<=242/\v.text.length<=7
def gAg(h:VO v):GL Y8 (agO v):=gl1 ⟨by have:=h.2.2;show v.text.length<=_;omega,h.1,by have:=h.2.1;show wt DD v<=_;omega⟩
def gDr(h:VO v):GL K1 (drO v):=gl1 ⟨by have:=h.2.2;show v.text.length<=_;omega,gAg h⟩
def B1m(h:VO v):(prN DD v).length<=25000000000:=by
 have:=Zm DD v h.1;have:=Ip 101000000 h.2.1;omega
def C3t(h:VO v):(X1 (agO v)).length<=25000000020:=by
 have:=B1m h;have:=h.2.2;show([40]++([]++(v.text++[58,32]++prN DD v)++[])++[41]:rg).length<=_;simp only[Fd,Fr,GT];omega
def B2l(h:VO v):(E2 (drO v)).length<=25000000040:=by
 have:=C3t h;have:=h.2.2;show(([32,64]++v.text++X1 (agO v))++[]:rg).length<=_;simp only[Fd,Fr,GT];omega
def M0{g lv:Nat}{x:SelT}(hl:lv<=201)(h1:x.alias_.length<=8400000)(h2:x.name.length<=8400000)(h3:x.on_.length<=8400000):(E1 (g+1) lv x).length<=18000000+(X1 x.args).length+(E2 x.dirs).length+sw (λy=>(E1 g (lv+1) y).length+500) x.sels:=by
 have a1:=C5A h1 h2 h3;have a2:=B5b (f:=E1 g (lv+1)) hl x.sels;rw[show E1 (g+1) lv x=Zr x++E2 x.dirs++(bif x.kind==2 then []else if x.sels=[]then []else [32]++brS (E1 g (lv+1)) lv x.sels)from rfl];simp only[Fd];cases x.kind==2;simp only[GF];split;simp only[GT];omega;simp only[Fd,Fr,GT];omega;simp only[GD,GT];omega
def gS0(h:VO v)(hq:0<=q/\q<=4)(g:Nat):V6 (g+1) (sO v q):=by
 have:=h.2.2;exact UA hq FK FK FK (gAg h) (gDr h) GN (λ_ h=>(by cases h))
def C4e(h:VO v){g lv:Nat}(hl:lv<=201):(E1 (g+1) lv (sO v q)).length<=51000000000:=by
 have a1:=C3t h;have a2:=B2l h;have:=h.2.2;have a3:=M0 (g:=g) (lv:=lv) (x:=sO v q) hl (by show v.text.length<=_;omega) (by show v.text.length<=_;omega) (by show v.text.length<=_;omega);have a3:_<=18000000+(X1 (agO v)).length+(E2 (drO v)).length+0:=a3;omega
def gd0(h:VO v)(hw:w.length<=1048576)(hq:0<=q/\q<=4):PI (dO v w q p):=by
 have h7:=h.2.2;have h0:GL K1 []:=GL.nil;have hA:GL Y8 []:=GL.nil;refine⟨by show v.text.length<=_;omega,HH _,gl1 ⟨by show v.text.length<=_;omega,⟨by show v.text.length<=_;omega,by show w.length<=_;omega⟩,λ_=>⟨h.1,by have:=h.2.1;show wt DD v<=_;omega⟩,h0⟩,gDr h,gl1 ?_,λe=>(by cases e)⟩;refine UA (g:=200) GO GN GN GN hA h0 GN λx hx=>?_;rcases HC.1 hx with rfl|hx
 exact gS0 h hq 199;rw[HW]at hx;rw[hx];exact UA (g:=199) hq GN GN GN hA h0 GN λx hx=>by rw[HW]at hx;rw[hx];exact gS0 h hq 198
def D1A(h:VO v)(hw:w.length<=1048576)(hq:0<=q/\q<=4):∃t,F9 (⟨[dO v w q p]⟩:I6)=J (.one (.str t)):=by
 refine⟨_,p9 (gl1 (gd0 h hw hq)) ?_⟩;have a1:=B1m h;have a2:=B2l h;have h7:=h.2.2;have t1:=B2P (⟨v.text,w⟩:F6);have t1:(prT (⟨v.text,w⟩:F6)).length<=2*w.length+v.text.length:=t1;have b1:(E1 200 2 (sO v q)).length<=51000000000:=C4e (q:=q) (g:=199) (lv:=2) h GO;have b2:(E1 199 3 (sO v q)).length<=51000000000:=C4e (q:=q) (g:=198) (lv:=3) h GO;have b3:=M0 (g:=199) (lv:=2) (x:=.mk q [] [] [] [] [] [sO v q] ⟨0,0⟩) GO (by simp[SelT.alias_]) (by simp[SelT.name]) (by simp[SelT.on_]);have b3:(E1 200 2 (.mk q [] [] [] [] [] [sO v q] ⟨0,0⟩)).length<=18000000+0+0+((E1 199 3 (sO v q)).length+500+0):=b3;have b4:=M0 (g:=200) (lv:=1) (x:=.mk 3 [] [] [] [] [] [sO v q,.mk q [] [] [] [] [] [sO v q] ⟨0,0⟩] ⟨0,0⟩) GO (by simp[SelT.alias_]) (by simp[SelT.name]) (by simp[SelT.on_]);have b4:(E1 201 1 (.mk 3 [] [] [] [] [] [sO v q,.mk q [] [] [] [] [] [sO v q] ⟨0,0⟩] ⟨0,0⟩)).length<=18000000+0+0+((E1 200 2 (sO v q)).length+500+((E1 200 2 (.mk q [] [] [] [] [] [sO v q] ⟨0,0⟩)).length+500+0)):=b4;have b5:=B5b (f:=E1 201 1) (lv:=0) GO [.mk 3 [] [] [] [] [] [sO v q,.mk q [] [] [] [] [] [sO v q] ⟨0,0⟩] ⟨0,0⟩];simp only[sw]at b5;have c1:(Nc (dO v w q p).vars).length<=25010000000:=by
  show([40]++([]++([36]++v.text++[58,32]++prT ⟨v.text,w⟩++([32,61,32]++prN DD v)++[])++[])++[41]:rg).length<=_;simp only[Fd,Fr,GT];omega
 have c2:(Zs (dO v w q p)).length<=1000+(Nc (dO v w q p).vars).length:=by
  have o:(opW (dO v w q p).kind).length<=12:=by unfold opW;cases (dO v w q p).kind==2<;>cases (dO v w q p).kind==3<;>decide
  unfold Zs;have n1:(dO v w q p).name.length<=7:=h7;have n2:(dO v w q p).on_.length=0:=rfl;cases (dO v w q p).kind==4<;>simp only[GD,GF,Fd,Fr,GT]<;>(try split)<;>(try simp only[Fd,Fr,GT])<;>omega
 have c3:(I8 (dO v w q p)).length<=300000000000:=by
  have d1:(E2 (dO v w q p).dirs).length<=25000000040:=a2;have d2:(brS (E1 201 1) 0 (dO v w q p).sels).length<=200000000000:=by
   show(brS (E1 201 1) 0 [.mk 3 [] [] [] [] [] [sO v q,.mk q [] [] [] [] [] [sO v q] ⟨0,0⟩] ⟨0,0⟩]).length<=_;omega
  unfold I8;cases (dO v w q p).short&& !((dO v w q p).kind==4)<;>simp only[GD,GF,Fd,Fr,GT]<;>omega
 show 0+([]++(I8 (dO v w q p)++[10])++[]:rg).length+3000<=MB;simp only[MB,Fd,Fr,GT];omega
def D02(h:VO v):∃t,F15 v=J (.one (.str t)):=by
 have a1:=B1m h;have e:=B1I (b:=[]) ⟨h.1,by have:=h.2.1;omega⟩ (show 0+(prN DD v).length+3000<=MB by unfold MB;omega);refine⟨prN DD v,?_⟩;unfold F15;rw[e,Hj];show gd (okB [.str] kP (Kl (bI (prN DD v)))) (J (.one (.str (lS (gB (Kl (bI (prN DD v))) 0)))):Gq)=_;rw[p29 FK];rfl
end
end Go.Aev
namespace Go.Aev.Sy
section
variable {v:LitT}{w:rg}{k:Int}
def gI0(h:VO v)(hw:w.length<=1048576):GIv (iO v w):=by
 have h7:=h.2.2;exact⟨⟨by show v.text.length<=_;omega,λ_=>rfl⟩,by show v.text.length<=_;omega,⟨by show v.text.length<=_;omega,by show w.length<=_;omega⟩,λ_=>⟨h.1,by have:=h.2.1;show wt DD v<=_;omega⟩,gDr h⟩
def B6l(b:Bool)(g:rg)(h:VO v)(hg:g.length<=3):(J2 ⟨Z,b,v.text⟩ g).length<=101000010:=by
 have h7:=h.2.2;have:=B7C b (t:=v.text) FK;show(qq b v.text++g).length<=_;rw[Fd];omega
def C5n(h:VO v)(hw:w.length<=1048576):(LY (iO v w)).length<=51000000000:=by
 have a1:=B1m h;have a2:=B2l h;have h7:=h.2.2;have t1:(prT (⟨v.text,w⟩:F6)).length<=2*w.length+v.text.length:=B2P _;show(v.text++[58,32]++prT ⟨v.text,w⟩++([32,61,32]++prN DD v)++E2 (drO v):rg).length<=_;simp only[Fd,Fr,GT];omega
def C3u(h:VO v)(hw:w.length<=1048576):(La [iO v w]).length<=52000000000:=by
 have a1:=C5n h hw;have a2:=B6l (v:=v) v.block [32] h GO;show([40]++([]++(J2 ⟨Z,v.block,v.text⟩ [32]++LY (iO v w))++[])++[41]:rg).length<=_;simp only[Fd,Fr,GT];omega
def gY(h:VO v)(hw:w.length<=1048576)(hk:0<=k/\k<=10):GSys (yO v w k):=by
 have h7:=h.2.2;have hG:GL K1 []:=GL.nil;exact{nt:=⟨by show v.text.length<=_;omega,λ_=>rfl⟩,nm:=by show v.text.length<=_;omega,ds:=gDr h,kd:=hk,fds:=gl1 ⟨⟨HH _,λh=>(by cases h)⟩,by show v.text.length<=_;omega,gl1 (gI0 h hw),⟨by show v.text.length<=_;omega,by show w.length<=_;omega⟩,hG⟩,ivs:=gl1 (gI0 h hw),pls:=gl1 (show v.text.length<=_ from FK),k8:=λ_ e=>(by cases e)}
def D3a(h:VO v)(hw:w.length<=1048576):(P1 (yO v w k)).length<=200000000000:=by
 have a1:=C3u h hw;have a2:=C5n h hw;have a3:=B6l (v:=v) v.block [10,32,32] h GO;have h7:=h.2.2;have t1:(prT (⟨v.text,w⟩:F6)).length<=2*w.length+v.text.length:=B2P _;have f1:(Lb (⟨⟨V,V,[]⟩,v.text,[iO v w],⟨v.text,w⟩,[],⟨0,0⟩⟩:FdT)).length<=53000000000:=by
  show([32,32]++[]++v.text++La [iO v w]++[58,32]++prT ⟨v.text,w⟩++[]:rg).length<=_;simp only[Fd,Fr,GT];omega
 have f2:(N8 (iO v w)).length<=53000000000:=by
  show([32,32]++J2 ⟨Z,v.block,v.text⟩ [10,32,32]++LY (iO v w):rg).length<=_;simp only[Fd,Fr,GT];omega
 have e:lns (yO v w k)=Lb (⟨⟨V,V,[]⟩,v.text,[iO v w],⟨v.text,w⟩,[],⟨0,0⟩⟩:FdT)::(if k=7 then [N8 (iO v w)]else []):=rfl;unfold P1;rw[e,GI GN];split<;>simp only[ID,List.flatMap_nil,Fd,Fr,GT]<;>omega
def f12_odd(h:VO v)(hw:w.length<=1048576)(hk:0<=k/\k<=10):∃t,Xe [yO v w k]=J (.one (.str t)):=by
 refine⟨_,p12 (gl1 (gY h hw hk)) ?_⟩;have h7:=h.2.2;have a1:=C3u h hw;have a2:=B2l h;have a3:=D3a (k:=k) h hw;have a4:=B6l (v:=v) v.block [10] h GO;have a5:=C01 (yO v w k);have a5:_<=11+v.text.length:=a5;have c1:(Z1 (yO v w k)).length<=300000000000:=by
  unfold Z1;split;show(La [iO v w]++[]++([32,111,110,32]++v.text++[]):rg).length<=_;simp only[Fd,Fr,GT];omega;show([]++E2 (drO v)++[]++P1 (yO v w k):rg).length<=_;simp only[Fd,Fr,GT];omega
 have c2:(bif v.block then Rc else []).length<=7:=by cases v.block<;>decide
 show 0+([]++(J2 ⟨Z,v.block,v.text⟩ [10]++(bif v.block then Rc else [])++hdN (yO v w k)++Z1 (yO v w k)++[10])++[]:rg).length+3000<=MB;simp only[MB,Fd,Fr,GT];omega
end
end Go.Aev.Sy
namespace Go.Aev
def B1k(T:Gu)(d:Lu)(j:Nat)(k:Int):Gq:=
 bif k !=0 then
  match T[j]? with
  |some t=>J (.tup [.agg .doc (⟨[]⟩:I6),.agg .fault (⟨k,[t.pos],[]⟩:T5)])
  |none=>O
 else bif okB [.agg .doc] kN (Od d.nodes d.toks)then J (.tup [.agg .doc (YZ (gB (Od d.nodes d.toks) 0)),.agg .fault (⟨0,[],[]⟩:T5)])else O
def Le(a1:Int):Int:=bif decide (200<a1)then 200 else a1
def F8(a0:Gp)(a1:Int):Gq:=
 bif okR [.sl .tok (J 1)] (Km a0)then
  (bif W0 (T8 (gL (Km a0) 0)).length then
   match I4 (T8 (gL (Km a0) 0)) (Le a1) NN [⟨L8,[],0⟩] [0] 0 0 with
   |some (d,j,k)=>B1k (T8 (gL (Km a0) 0)) d j k
   |none=>O
  else O)
 else O
def S8:KY
 |[.sl .u8 a0 O,.int .i64 a1]=>pR [.agg .doc,.agg .fault] (F8 a0 a1)
 |_=>O
def C6G(a1:Int):Le a1<=200:=by
 unfold Le;cases h:decide (200<a1);have:=of_decide_eq_false h;simp only[GF];omega;simp
def C79{a0:Gp}(hl:a0.length<=1048576)(a1:Int):∃x f,F8 a0 a1=J (.tup [.agg .doc x,.agg .fault f])/\B2S x/\sl I8 x.defs<=KB*1100000:=by
 obtain⟨T,pJ,tw⟩:=C3T hl;have hT:=tw.len;obtain⟨d,j,k,nS,hj,hk⟩:=C8a (D:=Le a1) tw;have ER:okR [.sl .tok (J 1)] (Km a0)=Z:=by rw[pJ];rfl
 have ES:T8 (gL (Km a0) 0)=T:=by rw[pJ];rfl
 unfold F8;rw[ER,ES,GD];unfold NY at nS;cases hs:W0 T.length with
 |false=>rw[hs]at nS;cases nS
 |true=>
  simp only[hs,GD]at nS ⊢;cases hd:I4 T (Le a1) NN [⟨L8,[],0⟩] [0] 0 0 with
 |none=>rw[hd]at nS;cases nS
 |some q=>
  obtain⟨d',j',k'⟩:=q;rw[hd]at nS;have e1:d'=d/\j'=j/\k'=k:=by
   simp only[GX,Ent.tup.injEq,Ir,Leaf.agg.injEq,Leaf.int.injEq,true_and,and_true,heq_eq_eq]at nS;exact⟨nS.1,FK,nS.2.2⟩
  obtain⟨rfl,rfl,rfl⟩:=e1;show ∃x f,B1k T d' j' k'=_/\_;unfold B1k;by_cases h0:k'=0;obtain⟨h1,h2,h3⟩:=hk h0;obtain⟨x,i,ET,hi,hg,hq⟩:=C7u tw (C6G a1) h3 h2;refine⟨x,⟨0,[],[]⟩,?_,hg,?_⟩;rw[h1,ET,h0];rfl;have:=Ip KB (show i<=1100000 from FK);unfold lq at hq;omega;have aP:(k' !=0)=Z:=by simpa using h0
  rw[aP,GD,GE hj];exact⟨_,_,rfl,GL.nil,HH _⟩
def prAll_len:∀(l:List D9)(i:Nat),(pcs (λi x=>(if i=0 then []else [10])++(I8 x++[10])) i l).length<=sl I8 l
 |[],_=>HH _
 |x::r,i=>by
  have h1:=prAll_len r (i+1);have h2:(if i=0 then []else([10]:rg)).length<=1:=by split<;>decide
  unfold sl at*;simp only[pcs,sw,Fd,Fr,GT]at*;omega
def C88{x:I6}(h1:B2S x)(h2:sl I8 x.defs<=KB*1100000):∃t,F9 (⟨x.defs⟩:I6)=J (.one (.str t)):=by
 have h3:=prAll_len x.defs 0;have:KB=120000000:=rfl;rw[this]at h2;exact⟨_,p9 (d:=⟨x.defs⟩) h1 (by
  unfold wOk MB prAll;simp only[GT];omega)⟩
def D4f{l:List B5}(h1:GL Sy.GSys l)(h2:lq (sl Sy.prSys l) 0 1100000):∃t,Xe l=J (.one (.str t)):=by
 have h3:=Sy.prAll_len l 0;have:KB=120000000:=rfl;unfold lq at h2;rw[this]at h2;exact⟨_,Sy.p12 h1 (by
  unfold wOk MB Sy.prAll;simp only[GT];omega)⟩
def F7:Gq:=J (.one (.bool Z))
def S7:KY
 |[]=>pR [.bool] F7
 |_=>O
end Go.Aev
namespace Go.Aev
open Go.Proofs
def E06:Env Ty6 A2:=mkE [(7,S7),(8,S8),(9,S9),(11,YF),(12,S12),(15,S15),(18,Tx),(20,S20),(21,S21),(22,S22),(23,S23)] [] noD 187 [12,16,17,19,20,21,23] 0 [] []
def F06(a0 a1:Gp):Gq:=gd (okR [.bool] F7) (bif(!(lB (gL F7 0)))then(J (.one (.bool V)))else(gd (okR [.agg .lit,.slc .u8] (Xi a0 4)) (let z1:=(G9 (gL (Xi a0 4) 0));gd (okR [.agg .lit,.slc .u8] (Xi a0 4)) (let z2:=(G9 (gL (Xi a0 4) 0));let z3:=(⟨z1.text,Aa8 (λ(n:Int)=>Aa0 n.toNat) a0⟩:F6);let z4:=[(⟨z1.text,[(⟨z1.text,(LitT.mk z1.kind z1.text z1.block z1.items z1.fields z1.pos),(⟨0,0⟩:A4)⟩:E0)],(⟨0,0⟩:A4)⟩:C3)];let z5:=(⟨(⟨Z,z1.block,z1.text⟩:G5),z1.text,z3,Z,(LitT.mk z1.kind z1.text z1.block z1.items z1.fields z1.pos),z4,(⟨0,0⟩:A4)⟩:IvT);match idx z4 0 with|O=>O|J y6=>(let z7:=Aad (Aaa a0:Int) 5;gd (okR [.str] (F9 (⟨[(⟨Aad (Aaa a0:Int) 7,z1.text,[],z1.block,[(⟨z1.text,z3,Z,(LitT.mk z1.kind z1.text z1.block z1.items z1.fields z1.pos),[],(⟨0,0⟩:A4)⟩:VdT)],z4,[(SelT.mk 3 [] [] [] [] [] [(SelT.mk z7 z1.text z1.text z1.text y6.args z4 [] (⟨0,0⟩:A4)),(SelT.mk z7 [] [] [] [] [] [(SelT.mk z7 z1.text z1.text z1.text y6.args z4 [] (⟨0,0⟩:A4))] (⟨0,0⟩:A4))] (⟨0,0⟩:A4))],(⟨0,0⟩:A4)⟩:D9)]⟩:I6))) (gd (okR [.str] (Xe [(⟨Aad (Aaa a0:Int) 11,z1.block,z5.note,z1.text,[],z4,[(⟨(⟨V,V,[]⟩:G5),z1.text,[z5],z3,[],(⟨0,0⟩:A4)⟩:FdT)],[z5],[],[],[],V,[(⟨z1.text,(⟨0,0⟩:A4)⟩:E5)],(⟨0,0⟩:A4)⟩:B5)])) (gd (okR [.str] (F15 z1)) (gd (okR [.str] (Nb z3)) (gd (okR [.agg .doc,.agg .fault] (F8 a1 9)) (let z8:=(YZ (gL (F8 a1 9) 0)).defs;gd (okR [.slc .sys,.agg .fault] (LZ a1 9)) (let z9:=(B7R (gL (LZ a1 9) 0));gd (okR [.str] (F9 (⟨z8⟩:I6))) (gd (okR [.str] (Xe z9)) (gd (okR [.agg .doc,.agg .fault] (F8 a1 9)) (let bP:=(YZ (gL (F8 a1 9) 0)).defs;gd (okR [.slc .sys,.agg .fault] (LZ a1 9)) (let bY:=(B7R (gL (LZ a1 9) 0));let eF:=Pi z1 z2 Z;gd (okR [.bool] eF) (bif(lB (gL eF 0))==Z then(bif(((Vb (gL (F8 a1 9) 1)).kind)==((Vb (gL (F8 a1 9) 1)).kind))==Z then(bif(((Vb (gL (LZ a1 9) 1)).kind)==((Vb (gL (LZ a1 9) 1)).kind))==Z then(let cg:=F22 (⟨z8⟩:I6) (⟨bP⟩:I6) Z;gd (okR [.bool] cg) (bif(lB (gL cg 0))==Z then(let cP:=F23 z9 bY Z;gd (okR [.bool] cP) (J (.one (.bool (lB (gL cP 0))))))else(J (.one (.bool V)))))else(J (.one (.bool V))))else(J (.one (.bool V))))else(J (.one (.bool V)))))))))))))))))))
def S06:KY
 |[.sl .u8 a0 O,.sl .u8 a1 O]=>pR [.bool] (F06 a0 a1)
 |_=>O
end Go.Aev
namespace Go.Aev
def C9y{α:Type}(x:α)(l:List α):idx (x::l) 0=J x:=rfl
def D3G{a0 a1:Gp}(hB:isB a0=Z)(h0:a0.length<=1048576)(h1:a1.length<=1048576):F06 a0 a1=J (.one (.bool Z)):=by
 have hb:By8 a0:=⟨λx hx=>by
  have:=HM.1 hB x hx;simpa using this,h0⟩
 obtain⟨v,r,n,yF,⟨g1,g2,g3⟩,_⟩:=C2G 4 DD a0 GO GO hb;have yF:Xi a0 4=J (.tup [.agg .lit v,.sl .u8 r n]):=yF;have EU:okR [.agg .lit,.slc .u8] (J (.tup [.agg .lit v,.sl .u8 r n]):Gq)=Z:=rfl;have EV:G9 (gL (J (.tup [.agg .lit v,.sl .u8 r n]):Gq) 0)=v:=rfl;have upq:=B4a g1 (DD - 5);have hv:VO v:=⟨upq.1,by have:=upq.2;rw[show 4+1+(DD - 5)=DD from rfl]at this;rw[this];exact g2,g3⟩;have hW:(toB a0).length<=1048576:=by unfold toB;rw[HR];exact h0
 have m5:0<=Aad (a0.length:Int) 5/\Aad (a0.length:Int) 5<5:=⟨Jq _ FK,Je _ GO⟩;have Gf:0<=Aad (a0.length:Int) 11/\Aad (a0.length:Int) 11<11:=⟨Jq _ FK,Je _ GO⟩;obtain⟨x,f,e8,d1,d2⟩:=C79 h1 9;have o8:okR [.agg .doc,.agg .fault] (J (.tup [.agg .doc x,.agg .fault f]):Gq)=Z:=rfl;have q8:YZ (gL (J (.tup [.agg .doc x,.agg .fault f]):Gq) 0)=x:=rfl;have EW:Vb (gL (J (.tup [.agg .doc x,.agg .fault f]):Gq) 1)=f:=rfl;obtain⟨T,pJ,tw⟩:=C3T h1;obtain⟨l,n',f',EX,l1,l2⟩:=Sy.parse_ok tw (a1:=9) pJ;have EY:okR [.slc .sys,.agg .fault] (J (.tup [.sl .sys l n',.agg .fault f']):Gq)=Z:=rfl;have EZ:B7R (gL (J (.tup [.sl .sys l n',.agg .fault f']):Gq) 0)=l:=rfl;have yG:Vb (gL (J (.tup [.sl .sys l n',.agg .fault f']):Gq) 1)=f':=rfl;obtain⟨t1,e9⟩:=D1A (q:=Aad (a0.length:Int) 5) (p:=Aad (a0.length:Int) 7) hv hW FK;obtain⟨t2,Bz⟩:=Sy.f12_odd (k:=Aad (a0.length:Int) 11) hv hW FK;obtain⟨t3,Fa⟩:=D02 hv;have vR:Nb (⟨v.text,toB a0⟩:F6)=_:=B97 (by show v.text.length<=_;omega) (by show(toB a0).length<=_;omega);obtain⟨t4,Fb⟩:=C88 d1 d2;obtain⟨t5,yH⟩:=D4f l1 l2;have Fc:Pi v v Z=tt:=Xg DD v hv.1 (by have:=hv.2.1;omega);have Fe:F22 (⟨x.defs⟩:I6) (⟨x.defs⟩:I6) Z=tt:=D52 (x:=⟨x.defs⟩) d1;have Ff:F23 l l Z=tt:=Sy.same23 l1;have e7:okR [.bool] F7=Z:=rfl;have Fg:(!(lB (gL F7 0)))=V:=rfl;unfold dO sO drO agO toB at e9;unfold yO iO drO agO toB at Bz;unfold toB at vR;unfold F06;simp only[gd,e7,Fg,yF,EU,EV,U3,C9y,e9,Bz,Fa,vR,e8,o8,q8,EW,EX,EY,EZ,yG,Fb,yH,Fc,Fe,Ff,oTt,gTt,oS1,gS1,GD,GF,beq_self_eq_true]
section
variable {P:Aat}{ops:Array Oper}{Q:Exit->Act->World->Prop}{S:World->Prop}{L:Nat}
def Lg(P:Aat)(ops:Array Oper)(Q:Exit->Act->World->Prop)(S:World->Prop)(L:Nat):Nat->Array Bool->Act->World->Prop
 |0,listed,a,w=>Aaj .any ops listed=[]/\Q .normal a w
 |fuel+1,listed,a,w=>
  (Aaj .any ops listed=[]->Q .normal a w)/\
  ∀i∈Aaj .any ops listed,wpOp P ops Q i (λa' w'=>(i≠L->S w')/\Lg P ops Q S L fuel (listed.setIfInBounds i Z) a' w') a w
def C2z:∀(fuel:Nat)(listed:Array Bool)(a:Act)(w:World),Lg P ops Q S L fuel listed a w->wpAny P .any ops Q fuel listed a w
 |0,_,_,_,h=>h
 |fuel+1,_,_,_,h=>⟨h.1,λi hi=>wpOp_mono (λa' w' h'=>C2z fuel _ a' w' h'.2) (h.2 i hi)⟩
def B3m(ops:Array Oper)(L i:Nat):Bool:=match ops[L]? with
 |some o=>o.after.any λe=>Aa6 .any e&&Aal e.on i
 |none=>V
def D5f{i:Nat}{oi:Oper}{v:Value}(hi:ops[i]?=J oi)(fC:∀(j:Nat)(o:Oper) cs b,ops[j]?=J o->o.op≠ .select cs b)
  (hQ:∀c a w,Q (.panic c) (a.put oi.dst v) w->Q (.panic c) a w)(hL:B3m ops L i=Z):
  ∀(fuel:Nat)(listed:Array Bool)(a:Act)(w:World),
   (∀j oj,ops[j]?=J oj->j≠i->listed.getD j Z=V->(∀e∈oj.after,Aa6 .any e=Z->e.on≠i)->oi.apart ops oj=Z)->
   i∈Aaj .any ops listed->i≠L->YieldsIf P ops S oi v a->S w->
   Lg P ops Q S L fuel (listed.setIfInBounds i Z) (a.put oi.dst v) w->Lg P ops Q S L (fuel+1) listed a w:=by
 intro fuel
 induction fuel with
 |zero=>
  intro listed a w _ hr rn hy hS H;refine⟨λh=>(by rw[h]at hr;cases hr),λj hj=>?_⟩;by_cases fJ:j=i;subst fJ;exact hy.wpOp hi hS ⟨λ_=>hS,H⟩;have:=Aaz hj fJ;rw[H.1]at this;cases this
 |succ fuel ih=>
  intro listed a w hH hr rn hy hS H;refine⟨λh=>(by rw[h]at hr;cases hr),λj hj=>?_⟩;by_cases fJ:j=i;subst fJ;exact hy.wpOp hi hS ⟨λ_=>hS,H⟩;have h1:=H.2 j (Aaz hj fJ);obtain⟨uL,oj,ja,eU⟩:=mem_ready.1 hj;have fX:∀e∈oj.after,Aa6 .any e=Z->e.on≠i:=λe he hb eT=>by
   have k1:=eU e he hb;have k0:=(mem_ready.1 hr).1;rw[eT]at k1;rcases Hv i listed.size with h'|h';simp[h']at k0 k1;rw[k0]at k1;cases k1;simp[IQ h']at k1
  have Fh:j≠L:=λe=>by
   subst e;unfold B3m at hL;rw[ja]at hL;simp only[Array.any_eq_true',Fn]at hL;obtain⟨e,he,hb,xL⟩:=hL;exact fX e he hb ((D5 _ _).1 xL)
  have h2:=wpOp_putIf ja (hH j oj ja fJ uL fX) (λcs b=>fC i oi cs b hi) (λcs b=>fC j oj cs b ja) hQ hy h1;refine wpOp_mono (λa' w' h3=>⟨h3.2.1,ih (listed.setIfInBounds j Z) a' w' (λk ok hk Fi iZ eu=>hH k ok hk Fi ?_ eu) (Aaz hr (IC fJ)) rn h3.1 (h3.2.1 Fh) ?_⟩) h2;by_cases BA:j=k;subst BA;exact uL;rw[getD_set_ne Z BA]at iZ;exact iZ;rw[Jy _ _ fJ];exact h3.2.2
variable {a:Act}{w w':World}{c:Code}{n:Nat}{fr:List (Nat×Value)}{o:Oper}{K:Act->World->Prop}
def C5v{S:World->Prop}(L:Nat)(hm:P.follows .mixedOrders=Z)(id m:Nat)(h:c=.region id (Mp c) Z)(hs:(Mp c).size=m)
  (hw:Lg P (Mp c) (H6 Q) S L m (Abl m V) a {w with drawn:=w.drawn+1}):c.wp P Q a w:=by
 rw[h];refine Code.wp_mono (Q:=H6 Q) (λe a w h=>by cases e<;>first|exact h|exact h.elim) ?_;subst hs;exact wp_region_any hm (C2z _ _ _ _ hw)
def D7d{listed:Array Bool}{fuel i d:Nat}{v:Value}(tm:Tm a n fr)(hi:ops[i]?=J o)(hs:Aa4 ops=Z)(hf:Aa5 .any ops listed i=Z)
  (hr:(Aaj .any ops listed).contains i=Z)(hL:B3m ops L i=Z)(rn:Aal i L=V)(hg:o.guard=O)(aV:o.dst=J d)(hd:Aam d n=Z)(hS:S w)(af:∀w,S w->(Aaq a.eval o).run P w=.ok (.value v) w)
  (hk:∀a',Tm a' n ((d,v)::fr)->Lg P ops (H6 Q) S L fuel (listed.setIfInBounds i Z) a' w):Lg P ops (H6 Q) S L (fuel+1) listed a w:=by
 refine D5f hi (Region.noSelect_spec hs) (λ_ _ _ h=>h.elim) hL fuel listed a w (Region.free_spec hi hf) (by simpa using hr) (λe=>by rw[(D5 _ _).2 e]at rn;cases rn) (.inl ⟨by simp[Aax,hg],af⟩) hS ?_;rw[aV];exact hk _ (tm.put hd)
def Rj{listed:Array Bool}{fuel i:Nat}(hr:Aaj .any ops listed=[i])(hi:ops[i]?=J o)(hg:o.guard=O)
  (h:∀K:Act->World->Prop,(∀a' w',(i≠L->S w')->Lg P ops (H6 Q) S L fuel (listed.setIfInBounds i Z) a' w'->K a' w')->o.wp P a w K (H6 Q)):Lg P ops (H6 Q) S L (fuel+1) listed a w:=by
 refine⟨λh0=>(by rw[hr]at h0;cases h0),λj hj=>?_⟩;rw[hr]at hj;rcases HW.1 hj with rfl;unfold Go.wpOp;simp only[hi];rw[GJ (by simp[Aax,hg])];exact .inl (h _ λa' w' h1 h2=>⟨h1,h2⟩)
def C5z{listed:Array Bool}(hr:Aaj .any ops listed=[])(h:Q .normal a w):∀(fuel:Nat),Lg P ops (H6 Q) S L fuel listed a w
 |0=>⟨hr,h⟩
 |_+1=>⟨λ_=>h,by rw[hr];simp⟩
end
def Xj(q:Gv):∀(p:Gv)(c:Code),nav c (p++q)=nav (nav c p) q:=by
 intro p
 induction p with
 |nil=>intro c;cases c<;>rfl
 |cons i p ih=>
  intro c;cases c with
  |seq a b=>cases i<;>exact ih _
  |cond o a b=>cases i<;>exact ih _
  |block _ c=>exact ih c
  |loop c=>exact ih c
  |_=>cases q<;>rfl
def B0C(c:Code):nav c []=c:=by cases c<;>rfl
def C7k:Code->Bool
 | .seq _ _=>Z
 |_=>V
def cnO:Code->Option Aau
 | .cond o _ _=>J o
 |_=>O
def blO:Code->GA
 | .block i _=>J i
 |_=>O
def D6P:Code->Bool
 | .loop _=>Z
 |_=>V
def Up(n:Nat)(o:Oper):GA:=match o.guard,o.dst with
 |none,J d=>bif Aam d n then J d else O
 |_,_=>O
def C2Y(n:Nat)(fr:List (Nat×Value))(ops:Array Oper)(o:Oper)(j g:Nat):GA:=match o.guard,o.dst,(ops[j]?).bind (·.dst),T2 fr g with
 |some (i,aS),J d,J k,J (.bool b)=>bif(Aal i j&&Aal k g)&&(Aam g n&&(Aam d n&&(b==aS)))then J d else O
 |_,_,_,_=>O
section
variable {P:Aat}{a:Act}{n:Nat}{fr:List (Nat×Value)}{w w':World}{o:Oper}{Q:Exit->Act->World->Prop}{f:Func}{p:Gv}
def wsq(h:C7k (C0 f p)=Z)(hx:(C0 f (p++[0])).wp P (Exit.then ((C0 f (p++[1])).wp P Q) Q) a w):(C0 f p).wp P Q a w:=by
 unfold C0 at*;rw[Xj,Xj]at hx;generalize nav (body f) p=c at*;cases c<;>first|(cases h;done)|skip
 simp only[nav,B0C]at hx;exact wp_seq hx
def wcn(tm:Tm a n fr){o:Aau}(h:cnO (C0 f p)=J o)(b:Bool)(hv:evV fr o=J (.bool b))(hx:(if b then C0 f (p++[0])else C0 f (p++[1])).wp P Q a w):(C0 f p).wp P Q a w:=by
 unfold C0 at*;rw[Xj,Xj]at hx;generalize nav (body f) p=c at*;cases c<;>first|(cases h;done)|skip
 cases h;simp only[nav,B0C]at hx;exact wp_cond (tm.ev hv) hx
def wbl(id:Nat)(h:blO (C0 f p)=J id)(hx:(C0 f (p++[0])).wp P (Aay id Q) a w):(C0 f p).wp P Q a w:=by
 unfold C0 at*;rw[Xj]at hx;generalize nav (body f) p=c at*;cases c<;>first|(cases h;done)|skip
 cases h;simp only[nav,B0C]at hx;exact wp_block hx
def wlp(h:D6P (C0 f p)=Z)(I:Nat->Act->World->Prop)(n₀:Nat)(h₀:I n₀ a w)
  (mU:∀n a w,I n a w->(C0 f (p++[0])).wp P (Exit.then (λa' w'=>∃n',n'<n/\I n' a' w') Q) a w):(C0 f p).wp P Q a w:=by
 unfold C0 at*;rw[Xj]at mU;generalize nav (body f) p=c at*;cases c<;>first|(cases h;done)|skip
 simp only[nav,B0C]at mU;exact wp_loop_ghost I n₀ h₀ mU
def Wn{ops:Array Oper}{c:Code}{Q1:Exit->Act->World->Prop}(h:c.wp P Q1 a w):Aah P ops (Exit.then (c.wp P Q1) Q) [] a w:=h
def B4h{d:Nat}(h:Up n o=J d):o.guard=O/\o.dst=J d/\Aam d n=Z:=by
 unfold Up at h;split at h;rename_i d' h1 h2;cases hb:Aam d' n with
 |false=>rw[hb]at h;cases h
 |true=>rw[hb]at h;cases h;exact⟨h1,h2,hb⟩
 cases h
def Pv{ops:Array Oper}{ao:List Oper}(tm:Tm a n fr){d:Nat}{v:Value}(af:(Aaq a.eval o).run P w=.ok (.value v) w')(hk:∀a',Tm a' n ((d,v)::fr)->Aah P ops Q ao a' w')(hd:Up n o=J d:=by rfl):Aah P ops Q (o::ao) a w:=by
 obtain⟨h1,h2,h3⟩:=B4h hd;exact Aae h1 λK hK=>Sf tm h2 h3 af λa tm=>hK _ _ (hk a tm)
def Pg{ops:Array Oper}{ao:List Oper}(tm:Tm a n fr)(j g:Nat){d:Nat}{v:Value}(af:(Aaq a.eval o).run P w=.ok (.value v) w')(hk:∀a',Tm a' n ((d,v)::fr)->Aah P ops Q ao a' w')(hd:C2Y n fr ops o j g=J d:=by rfl):Aah P ops Q (o::ao) a w:=by
 unfold C2Y at hd;split at hd;rename_i i aS d' k b h1 h2 h3 h4;cases hb:((Aal i j&&Aal k g)&&(Aam g n&&(Aam d' n&&(b==aS))))with
 |false=>rw[hb]at hd;cases hd
 |true=>
  rw[hb]at hd;cases hd;simp only[Fn,D5]at hb;obtain⟨⟨rfl,rfl⟩,e3,e4,e5⟩:=hb;cases eq_of_beq e5;exact C6k tm h1 h3 e3 h4 λK hK=>Sf tm h2 e4 af λa tm=>hK _ _ (hk a tm)
 cases hd
def Ps{ops:Array Oper}{ao:List Oper}(tm:Tm a n fr){t:Aan}{x y:Aau}{b off sz hJ:Nat}{zc us:Gw}{v:Value}(bO:N6 P t=J (sz,hJ,J zc))(dg:(storeCells ⟨b,off,O⟩ us).run P w=.ok () w')(hk:Aah P ops Q ao a w')
  (hg:o.guard=O:=by rfl)(aV:o.dst=O:=by rfl)(ag:o.op=.store t x y:=by rfl)(hx:evV fr x=J (.pointer (J ⟨b,off,O⟩)):=by rfl)(hy:evV fr y=J v:=by rfl)(hv:v.cells=us.toArray:=by rfl)(hl:us.length=sz:=by rfl):Aah P ops Q (o::ao) a w:=
 Aae hg λK hK=>OR tm bO aV ag hx hy hv hl dg (hK _ _ hk)
def Pm{ops:Array Oper}{ao:List Oper}(tm:Tm a n fr){d:Nat}{v:Value}{x:Aau}(hk:∀a',Tm a' n ((d,v)::fr)->Aah P ops Q ao a' w)(ag:o.op=.move x:=by rfl)(hx:evV fr x=J v:=by rfl)(hd:Up n o=J d:=by rfl):Aah P ops Q (o::ao) a w:=Pv tm (Z9 tm ag hx) hk hd
def Pa{ops:Array Oper}{ao:List Oper}(tm:Tm a n fr){d:Nat}{v:Value}{x:Aau}(hk:∀a',Tm a' n ((d,v)::fr)->Aah P ops Q ao a' w)(ag:o.op=.assign x:=by rfl)(hx:evV fr x=J v:=by rfl)(hd:Up n o=J d:=by rfl):Aah P ops Q (o::ao) a w:=Pv tm (B3l tm ag hx) hk hd
def Dt{ops:Array Oper}{S:World->Prop}{listed:Array Bool}{fuel d:Nat}{v:Value}(tm:Tm a n fr)(i:Nat)(hi:ops[i]?=J o)(hS:S w)(af:∀w,S w->(Aaq a.eval o).run P w=.ok (.value v) w)
  (hk:∀a',Tm a' n ((d,v)::fr)->Aap P .any ops (H6 Q) S fuel (listed.setIfInBounds i Z) a' w)(hs:Aa4 ops=Z:=by kernel_rfl)(hf:Aa5 .any ops listed i=Z:=by kernel_rfl)
  (hr:(Aaj .any ops listed).contains i=Z:=by kernel_rfl) (hd:Up n o=J d:=by rfl):Aap P .any ops (H6 Q) S (fuel+1) listed a w:=by
 obtain⟨h1,h2,h3⟩:=B4h hd;exact D4Q tm hi hs hf hr h1 h2 h3 hS af hk
def Lt{ops:Array Oper}{L:Nat}{S:World->Prop}{listed:Array Bool}{fuel d:Nat}{v:Value}(tm:Tm a n fr)(i:Nat)(hi:ops[i]?=J o)(hS:S w)(af:∀w,S w->(Aaq a.eval o).run P w=.ok (.value v) w)
  (hk:∀a',Tm a' n ((d,v)::fr)->Lg P ops (H6 Q) S L fuel (listed.setIfInBounds i Z) a' w)(hs:Aa4 ops=Z:=by kernel_rfl)(hf:Aa5 .any ops listed i=Z:=by kernel_rfl)
  (hr:(Aaj .any ops listed).contains i=Z:=by kernel_rfl) (hL:B3m ops L i=Z:=by kernel_rfl) (rn:Aal i L=V:=by kernel_rfl) (hd:Up n o=J d:=by rfl):Lg P ops (H6 Q) S L (fuel+1) listed a w:=by
 obtain⟨h1,h2,h3⟩:=B4h hd;exact D7d tm hi hs hf hr hL rn h1 h2 h3 hS af hk
inductive Pk (fr:List (Nat×Value)):Gv->List (Nat×Value)->Prop where
 |nil:Pk fr [] []
 |cons {i:Nat} {v:Value} {is:Gv} {r:List (Nat×Value)} (h:T2 fr i=J v) (t:Pk fr is r):Pk fr (i::is) ((i,v)::r)
def Pk.all{is:Gv}{r:List (Nat×Value)}(h:Pk fr is r):B6N fr r:=by
 induction h with
 |nil=>trivial
 |cons h _ ih=>exact⟨h,ih⟩
def Tm.keep(tm:Tm a n fr)(is:Gv){r:List (Nat×Value)}(h:Pk fr is r:=by repeat' constructor):Tm a n r:=tm.sub h.all
end
end Go.Aev
namespace Go.Aev
open Go.Proofs
def B2o:Se Aab 102 1=J (1,1+1):=GM
def D6Y:Se Aab 153 0=J (0,0+1):=GM
def C3E:Se Aab 153 1=J (1,0+1):=GM
def C7e:Se Aab 153 2=J (2,0+1):=GM
def Uq:Se Aab 97 0=J (0,0+1):=GM
def C6q:Sd Aab 151=Z:=GM
def pl3:Sd Aab 3=Z:=GM
def pl9:Sd Aab 9=Z:=GM
def Xk:Sd Aab 95=Z:=GM
def Xl:OO Aab 102=Z:=GM
def D2X:OO Aab 26=Z:=GM
def C6v:OO Aab 31=Z:=GM
def A8w:OO Aab 44=Z:=GM
def C0d:OO Aab 97=Z:=GM
def Z3:N6 Aab 102=J (7,72,J [.int .i64 0,.int .i64 0,.int .i64 0,.int .i64 0,.int .i64 0,.string ⟨[].toArray⟩,.string ⟨[].toArray⟩]):=GM
def D7j:N6 Aab 151=J (1,24,J [.slice O 0 0]):=GM
def Ur:N6 Aab 153=J (3,48,J [.string ⟨[].toArray⟩,.slice O 0 0,.int .i64 0]):=GM
def B0s:N6 Aab 26=J (1,24,J [.slice O 0 0]):=GM
def tz3:N6 Aab 3=J (1,8,J [.int .i64 0]):=GM
def A9X:N6 Aab 31=J (3,56,J [.int .i64 0,.slice O 0 0,.slice O 0 0]):=GM
def Lh:N6 Aab 44=J (2,16,J [.int .i64 0,.int .i64 0]):=GM
def tz9:N6 Aab 9=J (1,16,J [.string ⟨[].toArray⟩]):=GM
def C6D:N6 Aab 95=J (1,24,J [.slice O 0 0]):=GM
def Ny:N6 Aab 97=J (2,48,J [.slice O 0 0,.slice O 0 0]):=GM
def W4:Aas Aab 122=J (.slice 9):=GM
def Z8:Aas Aab 151=J (.slice 3):=GM
def B1M:Aas Aab 93=J (.slice 102):=GM
def Pl:Aas Aab 95=J (.slice 153):=GM
def C5i{w:World}{m:Nat->Nat}{t:Ty6}{l:List (A2 t)}{o:GA}{v:Value}(h:CRep U6 w m (.sl t l o) v){i:Nat}{x:A2 t}(hi:l[i]?=J x):
  ∃(b off cap:Nat)(us:Gw),v=.slice (J ⟨b,off,O⟩) l.length cap/\l.length<=cap/\us.length=U6.size t/\(∀(j:Nat)(u:Value),us[j]?=J u->w.cell? ⟨b,off+i*U6.size t+j,O⟩=J u)/\CRep U6 w m (.agg t x) (.agg us.toArray):=by
 have mg:=G7 hi;rcases h.sl_cells u6_ok with⟨rfl,_⟩|⟨b,off,cap,cs,hv,aW,ba,hc,fR⟩;simp at mg;have aY:∀(j:Nat) lf,(U6.cells t x)[j]?=J lf->(flat U6 t l)[i*U6.size t+j]?=J lf:=λj lf hj=>by
  have bD:=G7 hj;rw[u6_ok.len]at bD;rw[flat_get u6_ok t l i x j hi bD];exact hj
 have cE:=u6_ok.len t x;refine⟨b,off,cap,(Aak (U6.size t)).map λj=>cs (i*U6.size t+j),hv,aW,GN,λj u hj=>?_,?_⟩;have bD:j<U6.size t:=by have:=G7 hj;simpa using this
 rw[HG,Ho bD]at hj;cases hj;have:=hc (i*U6.size t+j) _ (aY j _ (GE FK));rw[If];exact this;refine .agg t x _ GN (λj=>cs (i*U6.size t+j)) (λj lf hj=>?_) (λj lf hj=>fR _ lf (aY j lf hj));have bD:=G7 hj;rw[cE]at bD;rw[HG,Ho bD];rfl
def C3F{w:World}{m:Nat->Nat}:∀(ls:Gt)(vs:Gw),ls.length=vs.length->(∀(j:Nat) lf,ls[j]?=J lf->∃u,vs[j]?=J u/\CRep U6 w m lf u)->LsC U6 w m ls vs
 |[],[],_,_=>trivial
 |l::ls,v::vs,hl,h=>by
  refine⟨?_,C3F ls vs (by simpa using hl) λj lf hj=>?_⟩;obtain⟨u,h1,h2⟩:=h 0 l rfl;cases h1;exact h2;obtain⟨u,h1,h2⟩:=h (j+1) lf (by simpa using hj);exact⟨u,by simpa using h1,h2⟩
 |[],_::_,hl,_=>by cases hl
 |_::_,[],hl,_=>by cases hl
def B8P{w:World}{m:Nat->Nat}{t:Ty6}{x:A2 t}{v:Value}(h:CRep U6 w m (.agg t x) v):∃vs:Gw,v=.agg vs.toArray/\LsC U6 w m (U6.cells t x) vs:=by
 obtain⟨vs,hv,hl,cs,h1,h2⟩:=SI h;exact⟨vs,hv,C3F _ _ (by rw[u6_ok.len,hl]) λj lf hj=>⟨_,h1 j lf hj,h2 j lf hj⟩⟩
def Xm{w:World}{m:Nat->Nat}{t:Ty6}{x:A2 t}{vs:Gw}(h:LsC U6 w m (U6.cells t x) vs):CRep U6 w m (.agg t x) (.agg vs.toArray):=by
 have hl:=h.len;rw[u6_ok.len]at hl;refine .agg t x vs hl.symm (λj=>vs.getD j undef) (λj lf hj=>?_) λj lf hj=>?_
 obtain⟨u,h1,h2⟩:=h.get j lf hj;rw[HQ,h1];rfl;obtain⟨u,h1,h2⟩:=h.get j lf hj;rw[HQ,h1];exact h2
def F3(s:rg):Value:=.string ⟨s.toArray⟩
def H7(p:A4):Gw:=[.int .i64 p.line,.int .i64 p.col]
def P7(t:A0):Gw:=[.int .i64 t.kind,.int .i64 t.pos.line,.int .i64 t.pos.col,.int .i64 t.from_,.int .i64 t.to_,F3 t.text,F3 t.value]
def exV:L6->Option Value
 | .int k n=>J (.int k n)
 | .bool b=>J (.bool b)
 | .str s=>J (F3 s)
 |_=>O
def B1B:Gt->Option Gw
 |[]=>J []
 |l::ls=>match exV l,B1B ls with
  |some v,J vs=>J (v::vs)
  |_,_=>O
def D0y{w:World}{m:Nat->Nat}{l:L6}{v u:Value}(h:CRep U6 w m l v)(he:exV l=J u):v=u:=by
 cases l<;>simp only[exV,GX]at he<;>first
  |(cases he;done)
  |(subst he;exact CRep.int_inv h)
  |(subst he;exact CRep.bool_inv h)
  |(subst he;exact CRep.str_inv h)
def C26{w:World}{m:Nat->Nat}:∀{ls:Gt}{vs us:Gw},LsC U6 w m ls vs->B1B ls=J us->vs=us
 |[],[],us,_,he=>by simp only[B1B,GX]at he;exact he
 |l::ls,v::vs,us,h,he=>by
  simp only[B1B]at he;split at he;rename_i v' ny h1 h2;cases he;rw[D0y h.1 h1,C26 h.2 h2];cases he
 |[],_::_,_,h,_=>h.elim
 |_::_,[],_,h,_=>h.elim
def D40{w:World}{m:Nat->Nat}{t:A0}{v:Value}(h:CRep U6 w m (.agg .tok t) v):v=.agg (P7 t).toArray:=by
 obtain⟨vs,hv,hs⟩:=B8P h;rw[hv,C26 hs (us:=P7 t) rfl]
def B2i{w:World}{m:Nat->Nat}(t:A0):CRep U6 w m (.agg .tok t) (.agg (P7 t).toArray):=Xm ⟨.int _ _,.int _ _,.int _ _,.int _ _,.int _ _,.str _,.str _,trivial⟩
def C9T{w:World}{m:Nat->Nat}(t:A4):CRep U6 w m (.agg .pos t) (.agg (H7 t).toArray):=Xm ⟨.int _ _,.int _ _,trivial⟩
def Xn{w:World}{m:Nat->Nat}{l:Gu}{v:Value}(h:CRep U6 w m (.sl .tok l O) v){i:Nat}{t:A0}(hi:l[i]?=J t):
  ∃b off cap,v=.slice (J ⟨b,off,O⟩) l.length cap/\∀(j:Nat) u,(P7 t)[j]?=J u->w.cell? ⟨b,off+i*7+j,O⟩=J u:=by
 obtain⟨b,off,cap,us,hv,_,hl,hc,hr⟩:=C5i h hi;have h1:=D40 hr;have:us=P7 t:=by
  simp only[Abb]at h1;have:=congrArg Abk h1;simpa using this
 subst this;exact⟨b,off,cap,hv,hc⟩
def B9K{w:World}{m:Nat->Nat}{l:Gy}{v:Value}(h:CRep U6 w m (.sl .str l O) v){i:Nat}{t:rg}(hi:l[i]?=J t):
  ∃b off cap,v=.slice (J ⟨b,off,O⟩) l.length cap/\w.cell? ⟨b,off+i*1,O⟩=J (F3 t):=by
 obtain⟨b,off,cap,us,hv,_,hl,hc,hr⟩:=C5i (t:=.str) h hi;obtain⟨vs,h1,h2⟩:=B8P hr;have:us=vs:=by
  simp only[Abb]at h1;have:=congrArg Abk h1;simpa using this
 subst this
 match us,h2 with
 |[u],⟨h3,_⟩=>
  have:=CRep.str_inv h3;subst this;exact⟨b,off,cap,hv,hc 0 _ rfl⟩
def C6e{w:World}{m:Nat->Nat}{l:Gy}{v:Value}(h:CRep U6 w m (.sl .str l O) v){i:Nat}{t:rg}(hi:l[i]?=J t):
  ∃b off cap,v=.slice (J ⟨b,off,O⟩) l.length cap/\w.cell? ⟨b,off+i*1,O⟩=J (F3 t)/\off+i*1<m b:=by
 have mg:=G7 hi;obtain⟨b,off,cap,hv,hc⟩:=B9K h hi;refine⟨b,off,cap,hv,hc,?_⟩;rcases h.sl_cells u6_ok with⟨rfl,_⟩|⟨b',kM,gu,cs,dE,aW,ba,_⟩;simp at mg;rw[hv]at dE;cases dE;have:off+l.length*1<=m b:=ba;omega
def Nz{S:Gt->Option (Bool×E6)}{ls:Gt}{b:Bool}{r:E6}(h:S ls=J (b,r))(hb:b=Z):sG S ls=J r:=by
 subst hb;unfold sG;rw[h];rfl
def C9g{S:Gt->Gz->Option (Bool×Gt×Gz)}{ls:Gt}{cs:Gz}{b:Bool}{r:Gt×Gz}(h:S ls cs=J (b,r))(hb:b=Z):sGB S ls cs=J r:=by
 subst hb;unfold sGB;rw[h];rfl
def Pn{n:Int}(h1: -9223372036854775808<=n)(h2:n<9223372036854775808):Aac .i64 n=n:=by
 exact Go.IntWalk.i64_in n ⟨h1,FK⟩
def B2Z{n:Nat}(h:n<4611686018427387904):Aac .i64 ((n:Int)+1)=((n+1:Nat):Int):=by
 have h1:=Pn (n:=(n:Int)+1) FK FK;rw[h1];omega
def B4S{w0 w':World}{m0 m':Nat->Nat}{M BM:Nat->Prop}{np:Nat}{pv:Nat->Value}(k:KM w0 m0 w' m' M)(hM:∀b,M b->BM b){ls:Gt}{vs:Gw}(h:LsC U6 w' m' ls vs)(hc:ls.all clL=Z)(g:Gh)(hg:g.wm=m'):
  Post U6 ⟨w0,m0,BM,np,pv⟩ g (.tup ls) (.tuple vs.toArray) w':=by
 have eu:∀d,(Ent.tup ls:E6).has d=Z->False:=λd hd=>by
  simp only[Ent.has,Hm]at hd;obtain⟨lf,h1,h2⟩:=hd;rw[Yh ((HM.1 hc) lf h1)]at h2;cases h2
 exact{os:=k.os,tape:=k.tape,output:=k.output,size:=k.size,frame:=λb hb hn=>by rw[hg];exact k.heap b hb λe=>hn (hM b e),ext:=by rw[hg];exact k.ext,zero:=by rw[hg];exact k.zero,rep:=⟨vs,rfl,h.rep hg hc⟩,nit:=rfl,tip:=λd hd=>(eu d hd).elim,disj:=λd _ _ hd=>(eu d hd).elim,mine:=λd _ hd=>(eu d hd).elim}
def C4(n:Nat):Value:=.int .i64 (n:Int)
def L4(s:rg):Gw:=[F3 s,.slice O 0 0,.int .i64 0]
structure NodR(w:World)(m:Nat->Nat)(xs:Gw)(N:Gx)(ex:GA):Prop where
 len:xs.length=N.length*3
 sym:∀(i:Nat) nd,N[i]?=J nd->xs[i*3]?=J (F3 nd.sym)
 tok:∀(i:Nat) nd,N[i]?=J nd->xs[i*3+2]?=J (.int .i64 nd.tok)
 kid:∀(i:Nat) nd,N[i]?=J nd->ex≠J i->∃kv,xs[i*3+1]?=J kv/\CRep U6 w m (.sl .i64 nd.kids O) kv/\(nd.kids=[]->kv=.slice O 0 0)
section
variable {w w':World}{m m':Nat->Nat}{xs:Gw}{N:Gx}{ex:GA}{S:Nat->Prop}
def NodR.keep(h:NodR w m xs N ex)(k:KM w m w' m' S):NodR w' m' xs N ex:=
 ⟨h.len,h.sym,h.tok,λi nd hi he=>by obtain⟨kv,h1,h2,h3⟩:=h.kid i nd hi he;exact⟨kv,h1,h2.mono u6_ok k.ext,h3⟩⟩
def MZ{α:Type}{l:List α}{i:Nat}{x:α}(h:l[i]?=J x):i<l.length:=(HN.1 h).1
def NodR.setTok(h:NodR w m xs N ex){n:Nat}{nd:A1}(hn:N[n]?=J nd)(at_:Nat):NodR w m (xs.set (n*3+2) (C4 at_)) (setTok N n nd at_) ex:=by
 have nT:=MZ hn;have sE:n*3+2<xs.length:=by rw[h.len];omega
 have bm:∀(i:Nat) x,(Aev.setTok N n nd at_)[i]?=J x->(i=n/\x={nd with tok:=(at_:Int)})\/(i≠n/\N[i]?=J x):=λi x hx=>by
  unfold Aev.setTok at hx;rw[Ie]at hx;by_cases hi:n=i;rw[GJ hi,GJ nT]at hx;cases hx;exact .inl ⟨hi.symm,rfl⟩;rw[GI hi]at hx;exact .inr ⟨IC hi,hx⟩
 refine⟨by rw[IT,h.len];unfold Aev.setTok;rw[IT],λi x hx=>?_,λi x hx=>?_,λi x hx he=>?_⟩;rw[Id FK];rcases bm i x hx with⟨rfl,rfl⟩|⟨_,h1⟩;exact h.sym _ nd hn;exact h.sym i x h1;rcases bm i x hx with⟨rfl,rfl⟩|⟨h0,h1⟩;rw[KF sE];rfl;rw[Id FK];exact h.tok i x h1;rw[Id FK];rcases bm i x hx with⟨rfl,rfl⟩|⟨h0,h1⟩;exact h.kid _ nd hn he;exact h.kid i x h1 he
def NodR.push(h:NodR w m xs N ex)(s:rg)(gW:∀i,ex=J i->i<N.length):NodR w m (xs++L4 s) (N++[⟨s,[],0⟩]) ex:=by
 have hl:=h.len;have bm:∀(i:Nat) x,(N++[(⟨s,[],0⟩:A1)])[i]?=J x->(i=N.length/\x=⟨s,[],0⟩)\/(i<N.length/\N[i]?=J x):=λi x hx=>by
  by_cases hi:i<N.length;rw[HV hi]at hx;exact .inr ⟨hi,hx⟩;have h2:=MZ hx;rw[Fd,Hl]at h2;have h3:i=N.length:=FK;subst h3;rw[Hk (GU _),Nat.sub_self]at hx;cases hx;exact .inl ⟨rfl,rfl⟩
 have yI:∀j,j<N.length*3->(xs++L4 s)[j]?=xs[j]? :=λj hj=>HV FK;have new:∀j,(xs++L4 s)[N.length*3+j]?=(L4 s)[j]? :=λj=>by rw[Hk FK,hl];congr 1;omega
 refine⟨by rw[Fd,Fd,hl,Hl,Hz];rfl,λi x hx=>?_,λi x hx=>?_,λi x hx he=>?_⟩;rcases bm i x hx with⟨rfl,rfl⟩|⟨h0,h1⟩;exact new 0;rw[yI _ FK];exact h.sym i x h1;rcases bm i x hx with⟨rfl,rfl⟩|⟨h0,h1⟩;exact new 2;rw[yI _ FK];exact h.tok i x h1;rcases bm i x hx with⟨rfl,rfl⟩|⟨h0,h1⟩;exact⟨_,new 1,.nil _ _ _ _,λ_=>rfl⟩;rw[yI _ FK];exact h.kid i x h1 he
def NodR.setKid{n:Nat}(h:NodR w m xs N (J n))(kv:Value):NodR w m (xs.set (n*3+1) kv) N (J n):=by
 refine⟨by rw[IT];exact h.len,λi x hx=>?_,λi x hx=>?_,λi x hx he=>?_⟩;rw[Id FK];exact h.sym i x hx;rw[Id FK];exact h.tok i x hx;have:n≠i:=λe=>he (by rw[e]);rw[Id FK];exact h.kid i x hx he
def NodR.open(h:NodR w m xs N O)(n:Nat):NodR w m xs N (J n):=⟨h.len,h.sym,h.tok,λi nd hi _=>h.kid i nd hi (λe=>by cases e)⟩
def NodR.shut{n:Nat}{nd:A1}{K:Gp}(h:NodR w m xs N (J n))(hn:N[n]?=J nd){kv:Value}(hx:xs[n*3+1]?=J kv)(hk:CRep U6 w m (.sl .i64 K O) kv)(bJ:K=[]->kv=.slice O 0 0):NodR w m xs (N.set n {nd with kids:=K}) O:=by
 have nT:=MZ hn;have bm:∀(i:Nat) x,(N.set n {nd with kids:=K})[i]?=J x->(i=n/\x={nd with kids:=K})\/(i≠n/\N[i]?=J x):=λi x hx=>by
  rw[Ie]at hx;by_cases hi:n=i;rw[GJ hi,GJ nT]at hx;cases hx;exact .inl ⟨hi.symm,rfl⟩;rw[GI hi]at hx;exact .inr ⟨IC hi,hx⟩
 refine⟨by rw[IT];exact h.len,λi x hx=>?_,λi x hx=>?_,λi x dC he=>?_⟩;rcases bm i x hx with⟨rfl,rfl⟩|⟨h0,h1⟩;exact h.sym _ nd hn;exact h.sym i x h1;rcases bm i x hx with⟨rfl,rfl⟩|⟨h0,h1⟩;exact h.tok _ nd hn;exact h.tok i x h1;rcases bm i x dC with⟨rfl,rfl⟩|⟨h0,h1⟩;exact⟨kv,hx,hk,bJ⟩;exact h.kid i x h1 (λe=>h0 (by cases e;rfl))
def C0o{t:Ty6}{l:List (A2 t)}{j:Nat}{lf:L6}(h:(flat U6 t l)[j]?=J lf):∃x,l[j / U6.size t]?=J x/\(U6.cells t x)[j % U6.size t]?=J lf:=by
 have co:=u6_ok.pos t;have bD:=MZ h;rw[Ln u6_ok]at bD;have mh:j / U6.size t<l.length:=(KG co).2 bD;refine⟨_,GE mh,?_⟩;rw[<-flat_get u6_ok t l (j / U6.size t) _ (j % U6.size t) (GE mh) (KV j co),Ji j (U6.size t)];exact h
def NodR.flat(h:NodR w m xs N O):∀(j:Nat)(lf:L6),(Aev.flat U6 .node N)[j]?=J lf->∃u:Value,xs[j]?=J u/\CRep U6 w m lf u:=λj lf hj=>by
 obtain⟨x,h1,h2⟩:=C0o (t:=.node) hj;have hs:U6.size .node=3:=rfl;rw[hs]at h1 h2;have hd:=Ji j 3;have hm:=KV j (show 3>0 from GO);generalize j % 3=r at h2 hd hm
 match r,h2,hm with
 |0,h2,_=>cases h2;rw[<-hd];exact⟨_,h.sym _ _ h1,.str _⟩
 |1,h2,_=>
  cases h2;rw[<-hd];obtain⟨kv,q1,q2,_⟩:=h.kid _ _ h1 (λe=>by cases e);exact⟨kv,q1,q2⟩
 |2,h2,_=>cases h2;rw[<-hd];exact⟨_,h.tok _ _ h1,.int _ _⟩
end
structure DerI(w0:World)(m0:Nat->Nat)(w:World)(m:Nat->Nat)(ρ:Nat->Nat)(N:Gx)(ex:GA)(stk:Gv)(nv sv vt:Value)(xs:Gw)(bd bz:Nat):Prop where
 sys:Sys w0 m0 (λ_=>False) w m ρ
 arr:ArrN w 3 nv N.length xs
 ar:∀b,G1 nv=J b->ρ b=4
 rep:NodR w m xs N ex
 stk:ArrN w 1 sv stk.length (stk.reverse.map C4)
 sr:∀b,G1 sv=J b->ρ b=3
 d:Bk w bd [nv,vt]
 dr:ρ bd=2
 z:Bk w bz [.slice O 0 0,.slice O 0 0]
 zr:ρ bz=1
section
variable {w0 w w':World}{m0 m m' ρ:Nat->Nat}{N:Gx}{ex:GA}{stk:Gv}{nv sv vt:Value}{xs:Gw}{bd bz:Nat}{S:Nat->Prop}
def DerI.z0(h:DerI w0 m0 w m ρ N ex stk nv sv vt xs bd bz):∀b,w.heap.size<=b->m b=0:=h.sys.z
def DerI.step(h:DerI w0 m0 w m ρ N ex stk nv sv vt xs bd bz)(k:KM w m w' m' S)(hS:∀b,b<w.heap.size->S b->5<=ρ b)(hm:(∀b, ¬S b)\/m'=m)(r:Nat)(hr:r≠0->m'=m):DerI w0 m0 w' m' (G0 ρ w.heap.size r) N ex stk nv sv vt xs bd bz:=by
 have no:∀b,b<w.heap.size->ρ b<5->¬S b:=λb hb aE hs=>by have:=hS b hb hs;omega
 have fc:∀b,G1 nv=J b->¬S b:=λb hb=>no b (h.arr.lt hb) (by rw[h.ar b hb];decide);have gR:∀b,G1 sv=J b->¬S b:=λb hb=>no b (h.stk.lt hb) (by rw[h.sr b hb];decide);refine⟨h.sys.step k (λb hb hs=>by have:=hS b hb hs;omega) (λb hb hs=>?_) r (λh0 b hb=>by rw[hr h0];exact h.z0 b hb),k.arr h.arr fc,λb hb=>?_,h.rep.keep k,k.arr h.stk gR,λb hb=>?_,k.bk h.d (no _ h.d.lt (by rw[h.dr];decide)),?_,k.bk h.z (no _ h.z.lt (by rw[h.zr];decide)),?_⟩
 rcases hm with h1|h1;exact absurd hs (h1 b);rw[h1];exact h.sys.zr b (by have:=hS b hb hs;omega);rw[I0 (h.arr.lt hb)];exact h.ar b hb;rw[I0 (h.stk.lt hb)];exact h.sr b hb;rw[I0 h.d.lt];exact h.dr;rw[I0 h.z.lt];exact h.zr
def DerI.shut(h:DerI w0 m0 w m ρ N ex stk nv sv vt xs bd bz)(k:KM w m w m' S)(hS:∀b,b<w.heap.size->S b->5<=ρ b):∃ρ':Nat->Nat,DerI w0 m0 w m' ρ' N ex stk nv sv vt xs bd bz:=by
 classical
 have no:∀b,b<w.heap.size->ρ b<5->¬S b:=λb hb aE hs=>by have:=hS b hb hs;omega
 have bm:∀b,b<w.heap.size->ρ b<5->(if S b then 0 else ρ b)=ρ b:=λb hb aE=>GI (no b hb aE);refine⟨λb=>if S b then 0 else ρ b,h.sys.close k (λb hb hs=>by have:=hS b hb hs;omega) (λb hb=>?_),h.arr,λb hb=>?_,h.rep.keep k,h.stk,λb hb=>?_,h.d,?_,h.z,?_⟩
 by_cases hs:S b;rw[GJ hs]at hb;exact absurd rfl hb;rw[GI hs]at hb;exact⟨hb,hs⟩;rw[bm b (h.arr.lt hb) (by rw[h.ar b hb];decide)];exact h.ar b hb;rw[bm b (h.stk.lt hb) (by rw[h.sr b hb];decide)];exact h.sr b hb;rw[bm bd h.d.lt (by rw[h.dr];decide)];exact h.dr;rw[bm bz h.z.lt (by rw[h.zr];decide)];exact h.zr
def DerI.newStk(h:DerI w0 m0 w m ρ N ex stk nv sv vt xs bd bz){pL:Value}{stk':Gv}(k:KM w m w' m S)(hS:∀b,b<w.heap.size->S b->ρ b=3)(cV:ArrN w' 1 pL stk'.length (stk'.reverse.map C4))(hb:∀b,G1 pL=J b->G1 sv=J b\/w.heap.size<=b):
  DerI w0 m0 w' m (G0 ρ w.heap.size 3) N ex stk' nv pL vt xs bd bz:=by
 have no:∀b,b<w.heap.size->ρ b≠3->¬S b:=λb hb aP hs=>aP (hS b hb hs);refine⟨h.sys.stepM k (λb hb hs=>by rw[hS b hb hs];decide) 3,k.arr h.arr λb hb=>no b (h.arr.lt hb) (by rw[h.ar b hb];decide),λb hb=>?_,h.rep.keep k,cV,λb h1=>?_,k.bk h.d (no _ h.d.lt (by rw[h.dr];decide)),?_,k.bk h.z (no _ h.z.lt (by rw[h.zr];decide)),?_⟩
 rw[I0 (h.arr.lt hb)];exact h.ar b hb;rcases hb b h1 with h2|h2;rw[I0 (h.stk.lt h2)];exact h.sr b h2;exact LE h2;rw[I0 h.d.lt];exact h.dr;rw[I0 h.z.lt];exact h.zr
def DerI.newArr(h:DerI w0 m0 w m ρ N ex stk nv sv vt xs bd bz){jx:Value}{N':Gx}{mc:Gw}{uM:GA}{w1:World}(k:KM w m w1 m S)(hS:∀b,b<w.heap.size->S b->ρ b=4)(hb:∀b,G1 jx=J b->G1 nv=J b\/w.heap.size<=b)
  (cV:ArrN w1 3 jx N'.length mc)(anq:NodR w1 m mc N' uM)(k2:KM w1 m w' m (λb=>b=bd))(hd:Bk w' bd [jx,vt]):
  DerI w0 m0 w' m (G0 ρ w.heap.size 4) N' uM stk jx sv vt mc bd bz:=by
 have no:∀b,b<w.heap.size->ρ b≠4->¬S b:=λb hb aP hs=>aP (hS b hb hs);have fe:=h.sys.stepM k (λb hb hs=>by rw[hS b hb hs];decide) 4;have jZ:G0 ρ w.heap.size 4 bd=2:=by rw[I0 h.d.lt];exact h.dr
 have BC:∀b,G1 jx=J b->G0 ρ w.heap.size 4 b=4:=λb h1=>by
  rcases hb b h1 with h2|h2;rw[I0 (h.arr.lt h2)];exact h.ar b h2;exact LE h2
 have dg:=k.arr h.stk λb hb=>no b (h.stk.lt hb) (by rw[h.sr b hb];decide);have BD:∀b,G1 sv=J b->G0 ρ w.heap.size 4 b=3:=λb hb=>by rw[I0 (h.stk.lt hb)];exact h.sr b hb
 have hz:=k.bk h.z (no _ h.z.lt (by rw[h.zr];decide));have yJ:G0 ρ w.heap.size 4 bz=1:=by rw[I0 h.z.lt];exact h.zr
 refine⟨fe.stay k2 (λb _ hs=>by rw[hs,jZ];decide),k2.arr cV λb hb hs=>?_,BC,anq.keep k2,k2.arr dg λb hb hs=>?_,BD,hd,jZ,k2.bk hz λhs=>?_,yJ⟩;have:=BC b hb;rw[hs,jZ]at this;cases this;have:=BD b hb;rw[hs,jZ]at this;cases this;rw[hs,jZ]at yJ;cases yJ
def DerI.setArr(h:DerI w0 m0 w m ρ N ex stk nv sv vt xs bd bz){N':Gx}{mc:Gw}{uM:GA}{b0:Nat}(py:G1 nv=J b0)(k:KM w m w' m (λb=>b=b0))(hl:N'.length=N.length)(cV:ArrN w' 3 nv N.length mc)(anq:NodR w m mc N' uM):
  DerI w0 m0 w' m ρ N' uM stk nv sv vt mc bd bz:=by
 have h4:=h.ar b0 py;refine⟨h.sys.stay k (λb _ hs=>by rw[hs,h4];decide),by rw[hl];exact cV,h.ar,anq.keep k,k.arr h.stk λb hb hs=>?_,h.sr,k.bk h.d λhs=>?_,h.dr,k.bk h.z λhs=>?_,h.zr⟩;have:=h.sr b hb;rw[hs,h4]at this;cases this;have:=h.dr;rw[hs,h4]at this;cases this;have:=h.zr;rw[hs,h4]at this;cases this
end
end Go.Aev
namespace Go.Aev
open Go.Proofs
variable {I:Inv}
def B40(hb:HB I):SP I 56 S56:=A8 E56 hb rfl trivial trivial func56 call56 (λls r h=>by
 unfold S56 at h;split at h;exact pF h;cases h)
def B7v(hb:HB I):SP I 129 Yk:=A8 C7l hb rfl trivial trivial func129 call129 (λls r h=>by
 unfold Yk at h;split at h;exact pF h;cases h)
def B1D(hb:HB I):SP I 131 Vl:=A8 C7W hb rfl trivial trivial func131 call131 (λls r h=>by
 unfold Vl at h;split at h;exact pF h;cases h)
def B5l(hb:HB I):SP I 183 Yl:=A8 D7k hb rfl ⟨B1D hb,trivial⟩ trivial func183 call183 (λls r h=>by
 unfold Yl at h;split at h;exact pF h;cases h)
def C8M(hb:HB I):SP I 126 B6c:=Vk D2n hb rfl ⟨B7v hb,B1D hb,B5l hb,trivial⟩ trivial func126 call126 (λls r h=>by
 unfold B6c at h;split at h;exact mF h;cases h)
def D7s(hb:HB I):SP I 127 B8Q:=Vk C7R hb rfl ⟨B7v hb,B5l hb,trivial⟩ trivial func127 call127 (λls r h=>by
 unfold B8Q at h;split at h;exact mF h;cases h)
def C7V(hb:HB I):SP I 128 B8a:=Vk D43 hb rfl ⟨B1D hb,B5l hb,trivial⟩ trivial func128 call128 (λls r h=>by
 unfold B8a at h;split at h;exact mF h;cases h)
def C2l(hb:HB I):SP I 57 S57:=A8 E57 hb rfl ⟨C8M hb,D7s hb,C7V hb,trivial⟩ trivial func57 call57 (λls r h=>by
 unfold S57 at h;split at h;exact pF h;cases h)
def D2R(hb:HB I):SP I 130 B7k:=A8 D2i hb rfl trivial trivial func130 call130 (λls r h=>by
 unfold B7k at h;split at h;exact pF h;cases h)
def C5u(hb:HB I):SP I 58 S58:=A8 E58 hb rfl ⟨B7v hb,D2R hb,B1D hb,trivial⟩ trivial func58 call58 (λls r h=>by
 unfold S58 at h;split at h;exact pF h;cases h)
end Go.Aev
namespace Go.Aev
open Go.Proofs
def D1i{w0:World}{m0:Nat->Nat}{Q:Exit->Act->World->Prop}{vt sv nv:Value}{depth op:Int}{at_ bz bd:Nat}{a:Act}{w:World}{m ρ:Nat->Nat}{N:Gx}{xs:Gw}{N0 len:Nat}{ao:Gv}(aA:N0+(len+ao.length)<=1099511627776)(hi:DerI w0 m0 w m ρ N O ao nv sv vt xs bd bz)(tm:Tm a 136 [(0,vt),(1,.int .i64 depth),(4,.pointer (J ⟨bz,0,O⟩)),(7,.pointer (J ⟨bd,0,O⟩)),(8,sv),(9,C4 at_),(10,.int .i64 op),(15,C4 N0),(17,.int .i64 ((len:Int) - 1))])
  (hk:∀a w m ρ sv,Tm a 136 [(0,vt),(1,.int .i64 depth),(4,.pointer (J ⟨bz,0,O⟩)),(7,.pointer (J ⟨bd,0,O⟩)),(8,sv),(9,C4 at_),(10,.int .i64 op)]->DerI w0 m0 w m ρ N O ((Aak len).map (λi=>N0+i)++ao) nv sv vt xs bd bz->Q .normal a w):(C0 Aai [1,1,1,1,1,0,0,0,1,0,1,1,1,1,0,1,0,1,1,1,0,1]).wp Aab Q a w:=by
 generalize hc:(Aak len).map (λi=>N0+i)=c at hk;have cE:c.length=len:=by rw[<-hc,HR,JL]
 have Fj:∀n,n<len->c[n]?=J (N0+n):=λn hn=>by rw[<-hc,HG,Ho hn];rfl
 refine wbl 4 rfl ?_;refine wlp rfl (λn a w=>∃m ρ sv,n<=len/\Tm a 136 [(0,vt),(1,.int .i64 depth),(4,.pointer (J ⟨bz,0,O⟩)),(7,.pointer (J ⟨bd,0,O⟩)),(8,sv),(9,C4 at_),(10,.int .i64 op),(15,C4 N0),(17,.int .i64 ((n:Int) - 1))]/\DerI w0 m0 w m ρ N O (c.drop n++ao) nv sv vt xs bd bz) len ⟨m,ρ,sv,GU _,tm,by rw[<-cE,IL,Hj];exact hi⟩ ?_;clear tm hi m ρ sv a w;rintro n a w ⟨m,ρ,sv,hn,tm,hi⟩;refine wsq rfl ?_;refine wsq rfl ?_;refine C5 19 2 rfl rfl ?_;refine Pm tm λa tm=>?_;refine Pv tm (B5y tm) λa tm=>?_;refine Wn ?_;refine wcn tm rfl _ rfl ?_;cases n with
 |zero=>
  rw[GI GN];refine Si 4 rfl ?_;simp only[Exit.then,Aay,if_true];have tm:=tm.keep [0,1,4,7,8,9,10];exact hk a w m ρ sv tm hi
 |succ n=>
  rw[GJ GN];refine M2 rfl ?_;show(C0 _ _).wp _ _ _ _;have tm:=tm.keep [0,1,4,7,8,9,10,15,17];have po:(((n+1:Nat):Int) - 1)=(n:Int):=FK;rw[po]at tm;refine wsq rfl ?_;refine wbl 5 rfl ?_;have cS:Aac .i64 ((N0:Int)+(n:Int))=((N0+n:Nat):Int):=by rw[Pn FK FK];omega
  refine C5 21 7 rfl rfl ?_;refine Pm tm λa tm=>?_;refine Pm tm λa tm=>?_;refine Pm tm λa tm=>?_;refine Pv tm (QZ tm) λa tm=>?_;rw[cS]at tm;refine Aae rfl λK hK=>OQ tm Z8 tz3 rfl rfl rfl rfl rfl (us:=[C4 (N0+n)]) rfl rfl rfl GO GO λa tm=>hK _ _ ?_;have eR:=Y1 w m (.cells [C4 (N0+n)].toArray 3) hi.z0;have cD:=hi.step eR (λb _ h=>h.elim) (.inl λ_ h=>h) 0 (λh=>absurd rfl h);have fc:ArrN (w.alloc (.cells [C4 (N0+n)].toArray 3)) 1 (.slice (J ⟨w.heap.size,0,O⟩) 1 1) 1 [C4 (N0+n)]:=QY (w:=w) rfl rfl (GU _) GN (λj x hj=>by simpa using hj);obtain⟨ie,z,e1,e2,e3,e4,e5⟩:=Lw tz3;have eZ:(c.drop (n+1)++ao).length<=1099511627776:=by rw[Fd,IR];omega
  obtain⟨pL,w2,af,ct,cK,dM⟩:=B3j (P:=Aab) (t:=151) (u:=151) (ty:=151) (e:=3) (y:=.slice (J ⟨w.heap.size,0,O⟩) 1 1) (k:=1) (ys:=[C4 (N0+n)]) (m:=m) Z8 (.inl ⟨3,Z8⟩) e1 e2 e4 (by rw[e5];rfl) cD.stk (by simp[Aba]) (fc.first _) rfl (λx hx=>by rcases HW.1 hx with rfl;rfl) (λb hb=>cD.sys.zr b (by rw[cD.sr b hb];decide)) cD.z0 (by rw[e3];omega) (by rw[e3];decide);refine Aae rfl λK hK=>B02 tm rfl rfl rfl rfl rfl rfl rfl rfl af λa tm=>hK _ _ ?_;refine Pa tm λa tm=>?_;refine Aag ?_;show(C0 _ _).wp _ _ _ _;refine C5 20 3 rfl rfl ?_;refine Pm tm λa tm=>?_;refine Pv tm (OP tm) λa tm=>?_;refine Pa tm λa tm=>?_;refine Aag ?_;have jZ:c.drop n=(N0+n)::c.drop (n+1):=by
   have h1:=Fj n FK;have h2:=(HN.1 h1);rw[Ht h2.1,h2.2]
  have cL:=cD.newStk (stk':=c.drop n++ao) cK (λb _ hs=>cD.sr b hs) (by rw[jZ,IZ,Fr,JK,Ic];exact ct) dM;have hw:Aac .i64 ((n:Int) - 1)=(n:Int) - 1:=Pn FK FK;rw[hw]at tm;exact⟨n,HX n,m,_,pL,FK,tm.sub ⟨rfl,rfl,rfl,rfl,rfl,rfl,rfl,rfl,rfl,trivial⟩,cL⟩
def KI(l:Nat)(i:Nat):(Aak (i+1)).map (λj=>C4 (l+j))=(Aak i).map (λj=>C4 (l+j))++[C4 (l+i)]:=by
 rw[List.range_succ,Ic];rfl
def D31{w0:World}{m0:Nat->Nat}{Q:Exit->Act->World->Prop}{vt vr sv nv:Value}{depth op:Int}{at_ bz bd:Nat}{a:Act}{w:World}{m ρ:Nat->Nat}{N:Gx}{xs:Gw}{n:Nat}{nd:A1}{r:Gy}{stk:Gv}(hN:N[n]?=J nd)(dK:nd.kids=[])(aA:N.length+r.length<=1099511627776)(hi:DerI w0 m0 w m ρ N O stk nv sv vt xs bd bz)(dt:CRep U6 w m (.sl .str r O) vr)
  (tm:Tm a 136 [(0,vt),(1,.int .i64 depth),(4,.pointer (J ⟨bz,0,O⟩)),(7,.pointer (J ⟨bd,0,O⟩)),(8,sv),(9,C4 at_),(10,.int .i64 op),(11,C4 n),(14,vr),(15,C4 N.length),(16,C4 0)])
  (hk:∀a w m ρ nv xs,Tm a 136 [(0,vt),(1,.int .i64 depth),(4,.pointer (J ⟨bz,0,O⟩)),(7,.pointer (J ⟨bd,0,O⟩)),(8,sv),(9,C4 at_),(10,.int .i64 op),(14,vr),(15,C4 N.length)]->DerI w0 m0 w m ρ (Y5 N n nd r) O stk nv sv vt xs bd bz->CRep U6 w m (.sl .str r O) vr->Q .normal a w):(C0 Aai [1,1,1,1,1,0,0,0,1,0,1,1,1,1,0,1,0,1,1,0,1]).wp Aab Q a w:=by
 have nT:=MZ hN;obtain⟨Gg,sT,yK,rq⟩:=hi.rep.kid n nd hN (λe=>by cases e);have rq:=rq dK;subst rq;refine wbl 2 rfl ?_;refine wlp rfl (λq a w=>∃i m ρ nv xs kv,q=r.length - i/\i<=r.length/\Tm a 136 [(0,vt),(1,.int .i64 depth),(4,.pointer (J ⟨bz,0,O⟩)),(7,.pointer (J ⟨bd,0,O⟩)),(8,sv),(9,C4 at_),(10,.int .i64 op),(11,C4 n),(14,vr),(15,C4 N.length),(16,C4 i)]/\DerI w0 m0 w m ρ (N++(r.take i).map (λs=>(⟨s,[],0⟩:A1))) (J n) stk nv sv vt xs bd bz/\xs[n*3+1]?=J kv/\ArrN w 1 kv i ((Aak i).map λj=>C4 (N.length+j))/\(∀b,G1 kv=J b->ρ b=5)/\CRep U6 w m (.sl .str r O) vr/\(i=0->kv=.slice O 0 0)) r.length ⟨0,m,ρ,nv,xs,.slice O 0 0,rfl,HH _,tm,?_,sT,ArrN.nil,λb hb=>by simp[G1]at hb,dt,λ_=>rfl⟩ ?_;rw[JW,KE,GY];exact{hi with rep:=hi.rep.open n};clear tm hi dt sT yK m ρ nv xs a w;rintro q a w ⟨i,m,ρ,nv,xs,kv,rfl,Gi,tm,hi,hx,l8,nU,dt,bJ⟩;obtain⟨ra,yL,ru⟩:=dt.sl_inv;have yM:(N++(r.take i).map (λs=>(⟨s,[],0⟩:A1))).length=N.length+i:=by rw[Fd,HR,IK];omega
 refine wsq rfl ?_;refine wsq rfl ?_;refine C5 14 4 rfl rfl ?_;refine Pm tm λa tm=>?_;refine Pm tm λa tm=>?_;refine Pv tm (Lx tm W4 rfl rfl rfl rfl rfl ru) λa tm=>?_;refine Pv tm (C2k tm) λa tm=>?_;refine Wn ?_;refine wcn tm rfl _ rfl ?_;have tm:=tm.keep [0,1,4,7,8,9,10,11,14,15,16];by_cases aE:i<r.length
 rw[GJ (by simpa using aE)];refine M2 rfl ?_;show(C0 _ _).wp _ _ _ _;refine wsq rfl ?_;refine wbl 3 rfl ?_;refine wsq rfl ?_;have yN:r[i]?=J r[i]:=GE aE;generalize r[i]=s at yN;obtain⟨rb,oD,BE,ry,sn,yP⟩:=C6e dt yN;refine C5v (S:=λw'=>w'.cell? ⟨bd,0+0,O⟩=J nv/\w'.cell? ⟨rb,oD+i*1,O⟩=J (F3 s)) 10 rfl 16 11 rfl rfl ?_;have kd:=Vi hi.z0;have hi:=hi.step kd (λb _ h=>h.elim) (.inl λ_ h=>h) 0 (λh=>absurd rfl h);have nU:∀b,G1 kv=J b->G0 ρ w.heap.size 0 b=5:=λb hb=>by rw[I0 (l8.lt hb)];exact nU b hb
 have l8:=kd.arr l8 (λb _ h=>h);have dt:=dt.mono u6_ok kd.ext;have sn:=(kd.ext.cell _ _ yP).trans sn
 skip
 generalize G0 ρ w.heap.size 0=ρ at hi nU;generalize ({w with drawn:=w.drawn+1}:World)=w at hi l8 dt sn ⊢;clear kd;have HS:w.cell? ⟨bd,0+0,O⟩=J nv/\w.cell? ⟨rb,oD+i*1,O⟩=J (F3 s):=⟨hi.d.cell rfl,sn⟩;obtain⟨ie,z,e1,e2,e3,e4,e5⟩:=Lw Ur;refine Lt tm 0 rfl (by exact HS) (λw hS=>U7 tm Uq) λa tm=>?_;refine Lt tm 1 rfl (by exact HS) (λw hS=>LD tm Xk rfl rfl (hS.1)) λa tm=>?_;refine Lt tm 2 rfl (by exact HS) (λw hS=>Z9 tm) λa tm=>?_;refine Lt tm 3 rfl (by exact HS) (λw hS=>Z9 tm) λa tm=>?_;refine Lt tm 4 rfl (by exact HS) (λw hS=>Ly tm W4 tz9 rfl rfl ry rfl rfl aE) λa tm=>?_;refine Lt tm 5 rfl (by exact HS) (λw hS=>LD tm pl9 rfl rfl (hS.2)) λa tm=>?_;refine Lt tm 6 rfl (by exact HS) (λw hS=>C5c tm rfl rfl rfl (cs:=(L4 s).toArray) GM) λa tm=>?_;refine Rj (i:=7) GM rfl rfl λK hK=>?_;have eR:=Y1 w m (.cells (L4 s).toArray 153) hi.z0;have cD:=hi.step eR (λb _ h=>h.elim) (.inl λ_ h=>h) 0 (λh=>absurd rfl h);have iw:∀b,G1 kv=J b->G0 ρ w.heap.size 0 b=5:=λb hb=>by rw[I0 (l8.lt hb)];exact nU b hb
 have jj:=eR.arr l8 (λb _ h=>h);have ly:=dt.mono u6_ok eR.ext;have mV:=(eR.ext.cell _ _ yP).trans sn;have fc:ArrN (w.alloc (.cells (L4 s).toArray 153)) 3 (.slice (J ⟨w.heap.size,0,O⟩) 1 1) 1 (L4 s):=QY (w:=w) rfl rfl (GU _) (by simp[L4]) (λj x hj=>by simpa using hj);generalize yQ:w.heap.size=wn at*;refine OQ tm Pl Ur rfl rfl rfl rfl rfl (us:=L4 s) rfl rfl rfl GO GO λa tm=>hK _ _ (λ_=>⟨cD.d.cell rfl,mV⟩) ?_;rw[yQ]at tm;generalize (w.alloc (.cells (L4 s).toArray 153))=w at cD jj ly mV fc eR ⊢;have HS:w.cell? ⟨bd,0+0,O⟩=J nv/\w.cell? ⟨rb,oD+i*1,O⟩=J (F3 s):=⟨cD.d.cell rfl,mV⟩;refine Rj (i:=8) GM rfl rfl λK hK=>?_;obtain⟨jx,w2,af,ct,cK,dM⟩:=B3j (P:=Aab) (t:=95) (u:=95) (ty:=95) (e:=153) (y:=.slice (J ⟨wn,0,O⟩) 1 1) (k:=1) (ys:=L4 s) (m:=m) Pl (.inl ⟨153,Pl⟩) e1 e2 e4 (by rw[e5];rfl) cD.arr (by simp[Aba]) (fc.first _) rfl (λx hx=>by simp only[L4,HC,Hh,or_false]at hx;rcases hx with rfl|rfl|rfl<;>rfl) (λb hb=>cD.sys.zr b (by rw[cD.ar b hb];decide)) cD.z0 (by rw[e3,yM];omega) (by rw[e3];decide);have kZ:=cK.bk cD.d (λhs=>by have:=cD.ar bd hs;rw[cD.dr]at this;cases this);have rz:=(cK.ext.cell _ _ yP).trans mV;refine B02 tm rfl rfl rfl rfl rfl rfl rfl rfl af λa tm=>hK _ _ (λ_=>⟨kZ.cell rfl,rz⟩) ?_;have HS:w2.cell? ⟨bd,0+0,O⟩=J nv/\w2.cell? ⟨rb,oD+i*1,O⟩=J (F3 s):=⟨kZ.cell rfl,rz⟩;refine Lt tm 9 rfl (by exact HS) (λw hS=>U7 tm Uq) λa tm=>?_;refine Rj (i:=10) GM rfl rfl λK hK=>?_;obtain⟨q1,q2,q3⟩:=kZ.store (m:=m) Aab (off:=0) (vs:=[jx]) GN (λv hv=>by rcases HW.1 hv with rfl;obtain⟨pa,oE,rfl⟩:=ct.len;rfl) (cD.sys.zr bd (by rw[cD.dr];decide)) cK.zero;have yR:jx.cells=[jx].toArray:=by obtain⟨pa,oE,rfl⟩:=ct.len;rfl
 refine OR tm C6D rfl rfl rfl rfl (us:=[jx]) yR rfl q1 (hK _ _ (λh=>absurd rfl h) ?_);refine C5z GM ?_ _;have gW:∀j,J n=J j->j<(N++(r.take i).map (λs=>(⟨s,[],0⟩:A1))).length:=λj e=>by cases e;rw[yM];omega
 have dQ:=(cD.rep.keep cK).push s gW;have rO:N++(r.take i).map (λs=>(⟨s,[],0⟩:A1))++[(⟨s,[],0⟩:A1)]=N++(r.take (i+1)).map (λs=>(⟨s,[],0⟩:A1)):=by
  rw[List.take_add_one,yN,Ic,GV];rfl
 rw[rO]at dQ;have rB:(N++(r.take (i+1)).map (λs=>(⟨s,[],0⟩:A1))).length=N.length+(i+1):=by rw[Fd,HR,IK];omega
 have mW:ArrN w2 3 jx (N++(r.take (i+1)).map (λs=>(⟨s,[],0⟩:A1))).length (xs++L4 s):=by rw[rB, <-If, <-yM];exact ct
 have cL:=cD.newArr cK (λb _ hs=>cD.ar b hs) dM mW dQ q3 q2;have jH:∀b,G1 kv=J b->G0 (G0 ρ wn 0) w.heap.size 4 b=5:=λb hb=>by rw[I0 (jj.lt hb)];exact iw b hb
 have oF:=q3.arr (cK.arr jj (λb hb hs=>by have h1:=iw b hb;rw[cD.ar b hs]at h1;cases h1)) (λb hb hs=>by have h1:=iw b hb;rw[hs,cD.dr]at h1;cases h1);have mX:=(ly.mono u6_ok cK.ext).mono u6_ok q3.ext;have dC:(xs++L4 s)[n*3+1]?=J kv:=by rw[HV (MZ hx)];exact hx
 generalize G0 (G0 ρ wn 0) w.heap.size 4=ρ at cL jH;generalize (C7 w2 bd 0 [jx])=w at cL oF mX ⊢;clear cD iw jj ly mV fc eR hi nU l8 dt sn HS af ct cK dM kZ rz q1 q2 q3 dQ mW hx;have tm:=tm.keep [0,1,4,7,8,9,10,11,14,15,16];show(C0 _ _).wp _ _ _ _;obtain⟨nb,rC,lQ,uN,eh,fo,mY⟩:=cL.arr.at dC;have BF:n<(N++(r.take (i+1)).map (λs=>(⟨s,[],0⟩:A1))).length:=by rw[rB];omega
 refine C5v (S:=λw'=>w'.cell? ⟨bd,0+0,O⟩=J jx/\w'.cell? ⟨nb,0+n*3+1,O⟩=J kv) 16 rfl 17 17 rfl rfl ?_;have kd:=Vi cL.z0;have hi:=cL.step kd (λb _ h=>h.elim) (.inl λ_ h=>h) 0 (λh=>absurd rfl h);have nU:∀b,G1 kv=J b->G0 ρ w.heap.size 0 b=5:=λb hb=>by rw[I0 (oF.lt hb)];exact jH b hb
 have l8:=kd.arr oF (λb _ h=>h);have dt:=mX.mono u6_ok kd.ext;generalize G0 ρ w.heap.size 0=ρ at hi nU;generalize ({w with drawn:=w.drawn+1}:World)=w at hi l8 dt ⊢;clear kd cL jH oF mX fo mY;have gj:∀{w:World}{ρ:Nat->Nat}{x:Value}{xs:Gw}{M:Gx}{e:GA},DerI w0 m0 w m ρ M e stk jx sv vt xs bd bz->xs[n*3+1]?=J x->w.cell? ⟨nb,0+n*3+1,O⟩=J x/\w.frozen? ⟨nb,0+n*3+1,O⟩=V:=λ{w}{ρ}{x}{xs}{M}{e} hi hx=>by
  obtain⟨Gj,BG,rD,_,_,h4,h5⟩:=hi.arr.at hx;rw[lQ]at rD;simp only[JI,GX,Jd]at rD;obtain⟨⟨rfl,_⟩,_⟩:=rD;rw[HL];exact⟨h4,h5⟩
 have HS:w.cell? ⟨bd,0+0,O⟩=J jx/\w.cell? ⟨nb,0+n*3+1,O⟩=J kv:=⟨hi.d.cell rfl,(gj hi dC).1⟩;obtain⟨Gk,z2,d1,d2,d3,d4,d5⟩:=Lw tz3;have cS:Aac .i64 ((N.length:Int)+(i:Int))=((N.length+i:Nat):Int):=by rw[Pn FK FK];omega
 refine Lt tm 0 rfl (by exact HS) (λw hS=>U7 tm Uq) λa tm=>?_;refine Lt tm 1 rfl (by exact HS) (λw hS=>LD tm Xk rfl rfl (hS.1)) λa tm=>?_;refine Lt tm 2 rfl (by exact HS) (λw hS=>Z9 tm) λa tm=>?_;refine Lt tm 3 rfl (by exact HS) (λw hS=>U7 tm Uq) λa tm=>?_;refine Lt tm 4 rfl (by exact HS) (λw hS=>LD tm Xk rfl rfl (hS.1)) λa tm=>?_;refine Lt tm 5 rfl (by exact HS) (λw hS=>Z9 tm) λa tm=>?_;refine Lt tm 6 rfl (by exact HS) (λw hS=>Ly tm Pl Ur rfl rfl lQ rfl rfl BF) λa tm=>?_;refine Lt tm 7 rfl (by exact HS) (λw hS=>U7 tm C3E) λa tm=>?_;refine Lt tm 8 rfl (by exact HS) (λw hS=>LD tm C6q rfl rfl (hS.2)) λa tm=>?_;refine Lt tm 9 rfl (by exact HS) (λw hS=>Z9 tm) λa tm=>?_;refine Lt tm 10 rfl (by exact HS) (λw hS=>Z9 tm) λa tm=>?_;refine Lt tm 11 rfl (by exact HS) (λw hS=>QZ tm) λa tm=>?_;refine Rj (i:=12) GM rfl rfl λK hK=>?_;rw[cS]at tm;have eR:=Y1 w m (.cells [C4 (N.length+i)].toArray 3) hi.z0;have cD:=hi.step eR (λb _ h=>h.elim) (.inl λ_ h=>h) 0 (λh=>absurd rfl h);have iw:∀b,G1 kv=J b->G0 ρ w.heap.size 0 b=5:=λb hb=>by rw[I0 (l8.lt hb)];exact nU b hb
 have jj:=eR.arr l8 (λb _ h=>h);have ly:=dt.mono u6_ok eR.ext;have fc:ArrN (w.alloc (.cells [C4 (N.length+i)].toArray 3)) 1 (.slice (J ⟨w.heap.size,0,O⟩) 1 1) 1 [C4 (N.length+i)]:=QY (w:=w) rfl rfl (GU _) GN (λj x hj=>by simpa using hj);generalize yQ:w.heap.size=yS at cD iw fc;refine OQ tm Z8 tz3 rfl rfl rfl rfl rfl (us:=[C4 (N.length+i)]) rfl rfl rfl GO GO λa tm=>hK _ _ (λ_=>⟨cD.d.cell rfl,(gj cD dC).1⟩) ?_;rw[yQ]at tm;generalize (w.alloc (.cells [C4 (N.length+i)].toArray 3))=w at cD jj ly fc eR ⊢;refine Rj (i:=13) GM rfl rfl λK hK=>?_;obtain⟨pM,w2,af,ct,cK,dM⟩:=B3j (P:=Aab) (t:=151) (u:=151) (ty:=151) (e:=3) (y:=.slice (J ⟨yS,0,O⟩) 1 1) (k:=1) (ys:=[C4 (N.length+i)]) (m:=m) Z8 (.inl ⟨3,Z8⟩) d1 d2 d4 (by rw[d5];rfl) jj (by simp[Aba]) (fc.first _) rfl (λx hx=>by rcases HW.1 hx with rfl;rfl) (λb hb=>cD.sys.zr b (by rw[iw b hb];decide)) cD.z0 (by rw[d3];omega) (by rw[d3];decide);have cL:=cD.step cK (λb _ hs=>by rw[iw b hs];decide) (.inr rfl) 5 (λ_=>rfl);have ry:=ly.mono u6_ok cK.ext;have jH:∀b,G1 pM=J b->G0 (G0 ρ yS 0) w.heap.size 5 b=5:=λb hb=>by
  rcases dM b hb with h|h;rw[I0 (jj.lt h)];exact iw b h;exact LE h
 refine B02 tm rfl rfl rfl rfl rfl rfl rfl rfl af λa tm=>hK _ _ (λ_=>⟨cL.d.cell rfl,(gj cL dC).1⟩) ?_;generalize G0 (G0 ρ yS 0) w.heap.size 5=ρ at cL jH;refine Rj (i:=14) GM rfl rfl λK hK=>?_;refine Sf tm rfl rfl (Ly tm Pl Ur rfl rfl lQ rfl rfl BF) λa tm=>hK _ _ (λ_=>⟨cL.d.cell rfl,(gj cL dC).1⟩) ?_;refine Rj (i:=15) GM rfl rfl λK hK=>?_;refine Sf tm rfl rfl (U7 tm C3E rfl rfl) λa tm=>hK _ _ (λ_=>⟨cL.d.cell rfl,(gj cL dC).1⟩) ?_;refine Rj (i:=16) GM rfl rfl λK hK=>?_;have yT:pM.cells= #[pM]:=by obtain⟨pa,oE,rfl⟩:=ct.len;rfl
 have yU:pM.oneCell'=Z:=by obtain⟨pa,oE,rfl⟩:=ct.len;rfl
 refine B8Y (sz:=1) tm D7j rfl rfl rfl rfl yT yU (gj cL dC).1 (gj cL dC).2 (hK _ _ (λh=>absurd rfl h) ?_);refine C5z GM ?_ _;have mZ:(⟨nb,0+n*3+1,O⟩:Addr)=⟨nb,n*3+1,O⟩:=by rw[HL]
 rw[mZ];have nc:=cL.arr.set (j:=n*3+1) (by rw[rB];omega) lQ pM;have uO:=C35 w2 m (b:=nb) (off:=n*3+1) pM (cL.sys.zr nb (by rw[cL.ar nb eh];decide)) cL.z0;have uP:=cL.setArr eh uO rfl nc (cL.rep.setKid pM);have uQ:=uO.arr ct (λb hb hs=>by have h1:=jH b hb;rw[hs,cL.ar nb eh]at h1;cases h1);rw[<-KI]at uQ;have yV:=ry.mono u6_ok uO.ext;show(C0 _ _).wp _ _ _ _;have tm:=tm.keep [0,1,4,7,8,9,10,11,14,15,16];refine C5 15 3 rfl rfl ?_;refine Pm tm λa tm=>?_;refine Pv tm (QZ tm) λa tm=>?_;refine Pa tm λa tm=>?_;refine Aag ?_;have yp:Aac .i64 ((i:Int)+1)=((i+1:Nat):Int):=B2Z FK;rw[yp]at tm;exact⟨r.length - (i+1),FK,i+1,m,ρ,jx,_,pM,rfl,FK,tm.sub ⟨rfl,rfl,rfl,rfl,rfl,rfl,rfl,rfl,rfl,rfl,rfl,trivial⟩,uP,KF (MZ dC),uQ,jH,yV,λh=>FK⟩
 rw[GI (by simpa using aE)];refine Si 2 rfl ?_;simp only[Exit.then,Aay,if_true];have bO:i=r.length:=FK;subst bO;rw[JQ]at hi;have jP:∀(j:Nat)(lf:L6),(flat U6 .i64 ((Aak r.length).map λi=>((N.length+i:Nat):Int)))[j]?=J lf->∃u:Value,((Aak r.length).map λj=>C4 (N.length+j))[j]?=J u/\CRep U6 w m lf u:=λj lf hj=>by
  obtain⟨x,h1,h2⟩:=C0o (t:=.i64) hj;have hs:U6.size .i64=1:=rfl;rw[hs,Nat.div_one]at h1;rw[hs,Nat.mod_one]at h2;have h3:=MZ h1;rw[HR,JL]at h3;rw[HG,Ho h3]at h1;cases h1;cases h2;exact⟨_,by rw[HG,Ho h3];rfl,.int _ _⟩
 obtain⟨m',cE,oG⟩:=B2b (U:=U6) u6_ok (t:=.i64) (l:=(Aak r.length).map λi=>((N.length+i:Nat):Int)) l8 GN jP (λb hb=>hi.sys.zr b (by rw[nU b hb];decide)) hi.z0;obtain⟨ρ',cL⟩:=hi.shut oG (λb _ hs=>by rw[nU b hs];decide);have rO:(N++r.map (λs=>(⟨s,[],0⟩:A1)))[n]?=J nd:=by rw[HV nT];exact hN
 have pN:=cL.rep.shut rO hx cE (λh0=>bJ (by simpa using h0));have hg:(N++r.map (λs=>(⟨s,[],0⟩:A1))).set n {nd with kids:=(Aak r.length).map λi=>((N.length+i:Nat):Int)}=Y5 N n nd r:=by
  unfold Y5;rw[List.set_append_left _ _ nT]
 rw[hg]at pN;have yn:(Y5 N n nd r).length=(N++r.map (λs=>(⟨s,[],0⟩:A1))).length:=by rw[<-hg,IT]
 exact hk a w m' ρ' nv xs (tm.sub ⟨rfl,rfl,rfl,rfl,rfl,rfl,rfl,rfl,rfl,trivial⟩) {cL with arr:=by(rw[yn];exact cL.arr),rep:=pN} (dt.mono u6_ok oG.ext)
def C7F{Q:Exit->Act->World->Prop}{vt sv:Value}{depth op:Int}{at_ bz bd n:Nat}{sym:rg}{a:Act}{w:World}(tm:Tm a 136 [(0,vt),(1,.int .i64 depth),(4,.pointer (J ⟨bz,0,O⟩)),(7,.pointer (J ⟨bd,0,O⟩)),(8,sv),(9,C4 at_),(10,.int .i64 op),(11,C4 n),(12,F3 sym),(107,F3 sym)])(hk:∀a,Tm a 136 [(0,vt),(1,.int .i64 depth),(4,.pointer (J ⟨bz,0,O⟩)),(7,.pointer (J ⟨bd,0,O⟩)),(8,sv),(9,C4 at_),(10,.int .i64 op),(11,C4 n),(12,F3 sym),(107,F3 sym),(108,.bool (L1 sym))]->Q .normal a w):(C0 Aai [1,1,1,1,1,0,0,0,1,0,1,1,1,1,1,1,0,1,0,0]).wp Aab Q a w:=by
 refine wsq rfl ?_;refine C5 25 2 rfl rfl ?_;refine Pv tm (Vg tm rfl (i:=sym) (j:=[40]) rfl rfl) λa tm=>?_;refine Pa tm λa tm=>?_;refine Wn ?_;refine wcn tm rfl _ rfl ?_;have tm:=tm.keep [0,1,4,7,8,9,10,11,12,107,108];cases h1:(sym==[40])with
 |true=>
  rw[GJ rfl];rw[h1]at tm;refine M2 rfl (hk a ?_);rw[show L1 sym=Z by unfold L1;rw[h1];rfl];exact tm
 |false=>
  rw[GI GN];refine wsq rfl ?_;refine C5 26 2 rfl rfl ?_;refine Pv tm (Vg tm rfl (i:=sym) (j:=[91]) rfl rfl) λa tm=>?_;refine Pa tm λa tm=>?_;refine Wn ?_;refine wcn tm rfl _ rfl ?_;have tm:=tm.keep [0,1,4,7,8,9,10,11,12,107,108];cases h2:(sym==[91])with
  |true=>
   rw[GJ rfl];rw[h2]at tm;refine M2 rfl (hk a ?_);rw[show L1 sym=Z by unfold L1;rw[h1,h2];rfl];exact tm
  |false=>
   rw[GI GN];refine C5 27 2 rfl rfl ?_;refine Pv tm (Vg tm rfl (i:=sym) (j:=[123]) rfl rfl) λa tm=>?_;refine Pa tm λa tm=>?_;refine Aag ?_;refine hk _ ?_;rw[show L1 sym=(sym==[123])by unfold L1;rw[h1,h2];rfl];exact tm.sub (by repeat' constructor)
def D25{Q:Exit->Act->World->Prop}{vt sv:Value}{depth op:Int}{at_ bz bd n:Nat}{sym:rg}{a:Act}{w:World}(tm:Tm a 136 [(0,vt),(1,.int .i64 depth),(4,.pointer (J ⟨bz,0,O⟩)),(7,.pointer (J ⟨bd,0,O⟩)),(8,sv),(9,C4 at_),(10,.int .i64 op),(11,C4 n),(12,F3 sym),(107,F3 sym)])(hk:∀a,Tm a 136 [(0,vt),(1,.int .i64 depth),(4,.pointer (J ⟨bz,0,O⟩)),(7,.pointer (J ⟨bd,0,O⟩)),(8,sv),(9,C4 at_),(10,.int .i64 op),(11,C4 n),(12,F3 sym),(107,F3 sym),(119,.bool (LR sym))]->Q .normal a w):(C0 Aai [1,1,1,1,1,0,0,0,1,0,1,1,1,1,1,1,0,1,0,1,1,0]).wp Aab Q a w:=by
 refine wsq rfl ?_;refine C5 31 2 rfl rfl ?_;refine Pv tm (Vg tm rfl (i:=sym) (j:=[41]) rfl rfl) λa tm=>?_;refine Pa tm λa tm=>?_;refine Wn ?_;refine wcn tm rfl _ rfl ?_;have tm:=tm.keep [0,1,4,7,8,9,10,11,12,107,119];cases h1:(sym==[41])with
 |true=>
  rw[GJ rfl];rw[h1]at tm;refine M2 rfl (hk a ?_);rw[show LR sym=Z by unfold LR;rw[h1];rfl];exact tm
 |false=>
  rw[GI GN];refine wsq rfl ?_;refine C5 32 2 rfl rfl ?_;refine Pv tm (Vg tm rfl (i:=sym) (j:=[93]) rfl rfl) λa tm=>?_;refine Pa tm λa tm=>?_;refine Wn ?_;refine wcn tm rfl _ rfl ?_;have tm:=tm.keep [0,1,4,7,8,9,10,11,12,107,119];cases h2:(sym==[93])with
  |true=>
   rw[GJ rfl];rw[h2]at tm;refine M2 rfl (hk a ?_);rw[show LR sym=Z by unfold LR;rw[h1,h2];rfl];exact tm
  |false=>
   rw[GI GN];refine C5 33 2 rfl rfl ?_;refine Pv tm (Vg tm rfl (i:=sym) (j:=[125]) rfl rfl) λa tm=>?_;refine Pa tm λa tm=>?_;refine Aag ?_;refine hk _ ?_;rw[show LR sym=(sym==[125])by unfold LR;rw[h1,h2];rfl];exact tm.sub (by repeat' constructor)
def C7y{Q:Exit->Act->World->Prop}{vt sv:Value}{depth op:Int}{at_ bz bd n:Nat}{sym:rg}{a:Act}{w:World}{w0:World}{m0 m ρ:Nat->Nat}{N:Gx}{ex:GA}{stk:Gv}{nv:Value}{xs:Gw}(hi:DerI w0 m0 w m ρ N ex stk nv sv vt xs bd bz)(tm:Tm a 136 [(0,vt),(1,.int .i64 depth),(4,.pointer (J ⟨bz,0,O⟩)),(7,.pointer (J ⟨bd,0,O⟩)),(8,sv),(9,C4 at_),(10,.int .i64 op),(11,C4 n),(12,F3 sym)])
  (yW:L1 sym=Z->depth<Aac .i64 (op+1)->∀a w m,Tm a 136 [(4,.pointer (J ⟨bz,0,O⟩)),(5,C4 at_),(6,.int .i64 71)]->Bk w bz [.slice O 0 0,.slice O 0 0]->KM w0 m0 w m (λ_=>False)->Q .ret a w)
  (hk:∀a uR,(L1 sym=Z->¬depth<Aac .i64 (op+1)/\uR=Aac .i64 (op+1))->(L1 sym=V->uR=(bif LR sym then Aac .i64 (op - 1)else op))->Tm a 136 [(0,vt),(1,.int .i64 depth),(4,.pointer (J ⟨bz,0,O⟩)),(7,.pointer (J ⟨bd,0,O⟩)),(8,sv),(9,C4 at_),(10,.int .i64 uR),(11,C4 n),(12,F3 sym)]->Q .normal a w):(C0 Aai [1,1,1,1,1,0,0,0,1,0,1,1,1,1,1,1,0]).wp Aab Q a w:=by
 refine wsq rfl ?_;refine C5 24 1 rfl rfl ?_;refine Pm tm λa tm=>?_;refine Wn ?_;refine wbl 6 rfl ?_;refine wsq rfl ?_;refine C7F (tm.sub ⟨rfl,rfl,rfl,rfl,rfl,rfl,rfl,rfl,rfl,rfl,trivial⟩) λa tm=>?_;show(C0 _ _).wp _ _ _ _;refine wcn tm rfl _ rfl ?_;cases ho:L1 sym with
 |true=>
  rw[GJ rfl];refine wsq rfl ?_;refine C5 28 3 rfl rfl ?_;refine Pm tm λa tm=>?_;refine Pv tm (QZ tm) λa tm=>?_;refine Pa tm λa tm=>?_;refine Wn ?_;refine wsq rfl ?_;refine C5 29 3 rfl rfl ?_;refine Pm tm λa tm=>?_;refine Pm tm λa tm=>?_;refine Pv tm (B2c tm) λa tm=>?_;refine Wn ?_;refine wcn tm rfl _ rfl ?_;have tm:=tm.keep [0,1,4,7,8,9,10,11,12];by_cases hd:depth<Aac .i64 (op+1)
  rw[GJ (by simpa using hd)];refine wsq rfl ?_;obtain⟨q1,q2,q3⟩:=hi.z.store (m:=m) Aab (off:=0) (vs:=[.slice O 0 0,.slice O 0 0]) GN (λv hv=>by simp only[HC,Hh,or_false]at hv;rcases hv with rfl|rfl<;>rfl) (hi.sys.zr bz (by rw[hi.zr];decide)) hi.z0;refine C5 30 5 rfl rfl ?_;refine Pv tm (Sh tm rfl rfl (cs:= #[.slice O 0 0,.slice O 0 0]) GM) λa tm=>?_;refine Pm tm λa tm=>?_;refine Ps tm Ny q1 ?_;refine Pa tm λa tm=>?_;refine Pa tm λa tm=>?_;refine Wn ?_;refine Mq rfl ?_;exact yW ho hd _ _ m (tm.sub ⟨rfl,rfl,rfl,trivial⟩) q2 (hi.sys.stay q3 (λb _ hs=>by rw[hs,hi.zr];decide)).km
  rw[GI (by simpa using hd)];refine M2 rfl ?_;exact hk a _ (λ_=>⟨hd,rfl⟩) (λh=>by rw[ho]at h;cases h) tm
 |false=>
  rw[GI GN];refine wsq rfl ?_;refine D25 (tm.sub ⟨rfl,rfl,rfl,rfl,rfl,rfl,rfl,rfl,rfl,rfl,trivial⟩) λa tm=>?_;show(C0 _ _).wp _ _ _ _;refine wcn tm rfl _ rfl ?_;cases hc:LR sym with
  |true=>
   rw[GJ rfl];refine C5 34 3 rfl rfl ?_;refine Pm tm λa tm=>?_;refine Pv tm (OP tm) λa tm=>?_;refine Pa tm λa tm=>?_;refine Aag ?_;exact hk _ _ (λh=>by rw[ho]at h;cases h) (λ_=>by rw[hc];rfl) (tm.sub ⟨rfl,rfl,rfl,rfl,rfl,rfl,rfl,rfl,rfl,trivial⟩)
  |false=>
   rw[GI GN];refine M2 rfl ?_;exact hk _ _ (λh=>by rw[ho]at h;cases h) (λ_=>by rw[hc];rfl) (tm.sub ⟨rfl,rfl,rfl,rfl,rfl,rfl,rfl,rfl,rfl,trivial⟩)
def C8j{Q:Exit->Act->World->Prop}{vt sv:Value}{depth op:Int}{at_ bz bd n:Nat}{sym:rg}{a:Act}{w:World}{w0:World}{m0 m ρ:Nat->Nat}{N:Gx}{stk:Gv}{nv:Value}{xs:Gw}{nd:A1}(hi:DerI w0 m0 w m ρ N O stk nv sv vt xs bd bz)(hN:N[n]?=J nd)(BH:nd.sym=sym)(pn:at_<=1099511627776)(tm:Tm a 136 [(0,vt),(1,.int .i64 depth),(4,.pointer (J ⟨bz,0,O⟩)),(7,.pointer (J ⟨bd,0,O⟩)),(8,sv),(9,C4 at_),(10,.int .i64 op),(11,C4 n),(12,F3 sym)])
  (hk:∀a w xs,Tm a 136 [(0,vt),(1,.int .i64 depth),(4,.pointer (J ⟨bz,0,O⟩)),(7,.pointer (J ⟨bd,0,O⟩)),(8,sv),(9,C4 (bif Qs sym then at_ else at_+1)),(10,.int .i64 op)]->DerI w0 m0 w m ρ (setTok N n nd at_) O stk nv sv vt xs bd bz->Q .normal a w):(C0 Aai [1,1,1,1,1,0,0,0,1,0,1,1,1,1,1,1,1]).wp Aab Q a w:=by
 have nT:=MZ hN;have hx:=hi.rep.tok n nd hN;obtain⟨nb,rC,lQ,uN,eh,fo,mY⟩:=hi.arr.at hx;have mZ:(⟨nb,0+n*3+2,O⟩:Addr)=⟨nb,n*3+2,O⟩:=by rw[HL]
 refine wsq rfl ?_;refine C5 35 7 rfl rfl ?_;refine Pv tm (U7 tm Uq) λa tm=>?_;refine Pv tm (LD tm Xk rfl rfl (hi.d.cell rfl)) λa tm=>?_;refine Pm tm λa tm=>?_;refine Pm tm λa tm=>?_;refine Pv tm (Ly tm Pl Ur rfl rfl lQ rfl rfl nT) λa tm=>?_;refine Pv tm (U7 tm C7e) λa tm=>?_;refine Aae rfl λK hK=>B8Y (sz:=1) tm tz3 rfl rfl rfl rfl rfl rfl (by rw[mZ];exact fo) (by rw[mZ];exact mY) (hK _ _ ?_);refine Aag ?_;rw[mZ];have nc:=hi.arr.set (j:=n*3+2) FK lQ (C4 at_);have uO:=C35 w m (b:=nb) (off:=n*3+2) (C4 at_) (hi.sys.zr nb (by rw[hi.ar nb eh];decide)) hi.z0;have uP:=hi.setArr eh uO (by unfold setTok;rw[IT]) nc (hi.rep.setTok hN at_);generalize (w.setCell ⟨nb,n*3+2,O⟩ (C4 at_))=w at uP ⊢;show(C0 _ _).wp _ _ _ _;refine wsq rfl ?_;have tm:=tm.keep [0,1,4,7,8,9,10,11,12];refine C5 36 2 rfl rfl ?_;refine Pm tm λa tm=>?_;refine Pv tm (D22 tm rfl (i:=sym) (j:=[101,110,100]) rfl rfl) λa tm=>?_;refine Wn ?_;refine wcn tm rfl _ rfl ?_;have tm:=tm.keep [0,1,4,7,8,9,10,11,12];cases he:Qs sym with
 |true=>
  rw[GI (by rw[show(sym==[101,110,100])=Z from he];simp)];refine M2 rfl ?_;refine hk _ _ _ ?_ uP;rw[he];exact tm.sub (by repeat' constructor)
 |false=>
  rw[GJ (by rw[show(sym==[101,110,100])=V from he];rfl)];refine C5 37 3 rfl rfl ?_;refine Pm tm λa tm=>?_;refine Pv tm (QZ tm) λa tm=>?_;refine Pa tm λa tm=>?_;refine Aag ?_;have hw:Aac .i64 ((at_:Int)+1)=((at_+1:Nat):Int):=B2Z FK;rw[hw]at tm;refine hk _ _ _ ?_ uP;rw[he];exact tm.sub (by repeat' constructor)
def C4k(w0:World)(m0:Nat->Nat)(d:Lu)(at_:Nat)(k:Int)(Q:Exit->Act->World->Prop):Prop:=
 ∀e a w m (us:Gw),(e=.normal\/e=.ret)->a.defers=[]->(results Aai a.tmps).run Aab w=.ok (.tuple #[.agg us.toArray,C4 at_,.int .i64 k]) w->CRep U6 w m (.agg .tree d) (.agg us.toArray)->KM w0 m0 w m (λ_=>False)->Q e a w
def B79{w0 w:World}{m0 m:Nat->Nat}{d:Lu}{at_:Nat}{k:Int}{Q:Exit->Act->World->Prop}(hQ:C4k w0 m0 d at_ k Q){e:Exit}{a:Act}{bz:Nat}{us:Gw}(he:e=.normal\/e=.ret)(tm:Tm a 136 [(4,.pointer (J ⟨bz,0,O⟩)),(5,C4 at_),(6,.int .i64 k)])(hb:Bk w bz us)(hl:us.length=2)(hr:CRep U6 w m (.agg .tree d) (.agg us.toArray))(hk:KM w0 m0 w m (λ_=>False)):Q e a w:=by
 refine hQ e a w m us he tm.dfr ?_ hr hk;have h4:=tm.get 4 _ rfl;have h5:=tm.get 5 _ rfl;have h6:=tm.get 6 _ rfl;have hl:(loadVar 97 ⟨bz,0,O⟩).run Aab w=.ok (.agg us.toArray) w:=Yf C0d Ny hl (λj u hj=>by rw[HL];exact hb.cell hj);exact VS Aab Aai a w [.cell 4 97,.tmp 5,.tmp 6] GM (vs:=[.agg us.toArray,C4 at_,.int .i64 k]) (λf hf=>by
  simp[hf.tmp,hf.cell,h4,h5,h6,asAddr,hl])
def C0T{w:World}{m:Nat->Nat}:CRep U6 w m (.agg .tree ⟨[],[]⟩) (.agg [.slice O 0 0,.slice O 0 0].toArray):=Xm ⟨.nil _ _ _ _,.nil _ _ _ _,trivial⟩
def D3J{w:World}{sv:Value}{n:Nat}{ao:Gv}(h:ArrN w 1 sv (n::ao).length ((n::ao).reverse.map C4)):
  ∃b cap,sv=.slice (J ⟨b,0,O⟩) (ao.length+1) cap/\ao.length+1<=cap/\w.cell? ⟨b,0+ao.length*1,O⟩=J (C4 n):=by
 obtain⟨b,cap,hv,_,_,bw,hc⟩:=h.blk GN;refine⟨b,cap,hv,bw,?_⟩;rw[HL,JB];exact(hc ao.length _ GN).1
def D15{I:Inv}(hb:HB I){w0:World}{m0:Nat->Nat}(hI:I w0 m0)(hz:∀b,w0.heap.size<=b->m0 b=0){toks:Gu}{depth:Int}{d:Lu}{yX:Nat}{k:Int}{Q:Exit->Act->World->Prop}{vt:Value}{F:Nat}
  (af:I4 toks depth F [⟨L8,[],0⟩] [0] 0 0=J (d,yX,k))(iN:toks.length<=1099511627776)(oH:CRep U6 w0 m0 (.sl .tok toks O) vt)(hQ:C4k w0 m0 d yX k Q){a:Act}(tm:Tm a 136 [(0,vt),(1,.int .i64 depth)]):
  (C0 Aai []).wp Aab Q a w0:=by
 obtain⟨pv,oE,rE⟩:=oH.sl_inv;refine wsq rfl ?_;refine C5 0 3 rfl rfl ?_;refine Aae rfl λK hK=>Qa tm Ny rfl rfl rfl λa tm=>hK _ _ ?_;refine Pa tm λa tm=>?_;refine Pa tm λa tm=>?_;refine Wn ?_;refine wsq rfl ?_;have k1:=Y1 w0 m0 (.cells [.slice O 0 0,.slice O 0 0].toArray 97) hz;have s0:Sys w0 m0 (λ_=>False) w0 m0 (λ_=>0):=⟨KM.refl _ _ _ hz,λb h=>absurd rfl h,λb _ h=>absurd rfl h⟩;have s1:=s0.stepM k1 (λ_ _ h=>h.elim) 1;have b1:Bk (w0.alloc (.cells [.slice O 0 0,.slice O 0 0].toArray 97)) w0.heap.size [.slice O 0 0,.slice O 0 0]:=Sk;have dG:G0 (λ_=>0) w0.heap.size 1 w0.heap.size=1:=LE (GU _);generalize w0.heap.size=bz at tm s1 b1 dG;generalize G0 (λ_=>0) bz 1=ρ1 at s1 dG;generalize (w0.alloc (.cells [.slice O 0 0,.slice O 0 0].toArray 97))=w1 at k1 s1 b1 tm ⊢;refine C5 1 6 rfl rfl ?_;refine Pm tm λa tm=>?_;refine Pv tm (C5c tm rfl rfl rfl (v:=F3 L8) (cs:=(L4 L8).toArray) GM) λa tm=>?_;refine Aae rfl λK hK=>OQ tm Pl Ur rfl rfl rfl rfl rfl (us:=L4 L8) rfl rfl rfl GO GO λa tm=>hK _ _ ?_;have k2:=Y1 w1 m0 (.cells (L4 L8).toArray 153) s1.z;have s2:=s1.stepM k2 (λ_ _ h=>h.elim) 4;have a2:ArrN (w1.alloc (.cells (L4 L8).toArray 153)) 3 (.slice (J ⟨w1.heap.size,0,O⟩) 1 1) 1 (L4 L8):=QY (w:=w1) rfl rfl (GU _) (by simp[L4]) (λj x hj=>by simpa using hj);have gp:G0 ρ1 w1.heap.size 4 w1.heap.size=4:=LE (GU _);have dG:=(I0 (r:=4) b1.lt).trans dG;have b1:=k2.bk b1 (λh=>h);generalize w1.heap.size=bn at tm s2 a2 dG gp;generalize G0 ρ1 bn 4=ρ2 at s2 dG gp;generalize (w1.alloc (.cells (L4 L8).toArray 153))=w2 at k2 s2 b1 a2 ⊢;refine Pv tm (B7H tm rfl rfl rfl rfl (cs:= #[.slice (J ⟨bn,0,O⟩) 1 1,vt]) (by rw[rE];kernel_rfl)) λa tm=>?_;refine Aae rfl λK hK=>Qa tm Ny rfl rfl rfl λa tm=>hK _ _ ?_;have k3:=Y1 w2 m0 (.cells [.slice O 0 0,.slice O 0 0].toArray 97) s2.z;have s3:=s2.stepM k3 (λ_ _ h=>h.elim) 2;have b3:Bk (w2.alloc (.cells [.slice O 0 0,.slice O 0 0].toArray 97)) w2.heap.size [.slice O 0 0,.slice O 0 0]:=Sk;have iI:G0 ρ2 w2.heap.size 2 w2.heap.size=2:=LE (GU _);have dG:=(I0 (r:=2) b1.lt).trans dG;have gp:=(I0 (r:=2) (a2.lt (X7 GO))).trans gp;have b1:=k3.bk b1 (λh=>h);have a2:=k3.arr a2 (λ_ _ h=>h);generalize w2.heap.size=bd at tm s3 b3 dG gp iI;generalize G0 ρ2 bd 2=ρ3 at s3 dG gp iI;generalize (w2.alloc (.cells [.slice O 0 0,.slice O 0 0].toArray 97))=w3 at k3 s3 b1 a2 b3 ⊢;obtain⟨q1,q2,q3⟩:=b3.store (m:=m0) Aab (off:=0) (vs:=[.slice (J ⟨bn,0,O⟩) 1 1,vt]) GN (λv hv=>by simp only[HC,Hh,or_false]at hv;rcases hv with rfl|rfl;rfl;rw[rE];rfl) (s3.zr bd (by rw[iI];decide)) s3.z;refine Ps tm Ny q1 ?_;have s4:=s3.stay q3 (λb _ hs=>by rw[hs,iI];decide);have b1:=q3.bk b1 (λhs=>by rw[hs,iI]at dG;cases dG);have a2:=q3.arr a2 (λb hb hs=>by rw[X7 GO]at hb;cases hb;rw[hs,iI]at gp;cases gp);have b3:Bk _ bd [.slice (J ⟨bn,0,O⟩) 1 1,vt]:=q2;generalize (C7 w3 bd 0 [.slice (J ⟨bn,0,O⟩) 1 1,vt])=w4 at s4 b1 a2 b3 ⊢;refine Wn ?_;refine wsq rfl ?_;refine C5 2 2 rfl rfl ?_;refine Aae rfl λK hK=>OQ tm Z8 tz3 rfl rfl rfl rfl rfl (us:=[C4 0]) rfl rfl rfl GO GO λa tm=>hK _ _ ?_;refine Pa tm λa tm=>?_;refine Aag ?_;have k5:=Y1 w4 m0 (.cells [C4 0].toArray 3) s4.z;have s5:=s4.stepM k5 (λ_ _ h=>h.elim) 3;have a5:ArrN (w4.alloc (.cells [C4 0].toArray 3)) 1 (.slice (J ⟨w4.heap.size,0,O⟩) 1 1) 1 [C4 0]:=QY (w:=w4) rfl rfl (GU _) GN (λj x hj=>by simpa using hj);have hi:∃ρ sv,sv=Aao (J ⟨w4.heap.size,0,O⟩) 1 1/\DerI w0 m0 (w4.alloc (.cells [C4 0].toArray 3)) m0 ρ [⟨L8,[],0⟩] O [0] (.slice (J ⟨bn,0,O⟩) 1 1) sv vt (L4 L8) bd bz:=by
  refine⟨_,_,rfl,s5,k5.arr a2 (λ_ _ h=>h),λb hb=>?_,⟨rfl,λi nd hi=>?_,λi nd hi=>?_,λi nd hi _=>?_⟩,a5,λb hb=>?_,k5.bk b3 (λh=>h),?_,k5.bk b1 (λh=>h),?_⟩;have h1:=hb;rw[X7 GO]at hb;cases hb;rw[I0 (a2.lt h1)];exact gp
  match i,hi with
  |0,hi=>cases hi;rfl
  |i+1,hi=>simp at hi
  match i,hi with
  |0,hi=>cases hi;rfl
  |i+1,hi=>simp at hi
  match i,hi with
  |0,hi=>cases hi;exact⟨_,rfl,.nil _ _ _ _,λ_=>rfl⟩
  |i+1,hi=>simp at hi
  rw[X7 GO]at hb;cases hb;exact LE (GU _);rw[I0 b3.lt];exact iI;rw[I0 b1.lt];exact dG
 obtain⟨ρ,sv,jO,hi⟩:=hi;rw[<-jO]at tm;generalize (w4.alloc (.cells [C4 0].toArray 3))=w at hi ⊢;generalize (Aao (J ⟨bn,0,O⟩) 1 1)=nv at hi;clear jO k1 s1 k2 s2 k3 s3 q1 q2 q3 s4 b1 a2 b3 k5 s5 a5 dG gp iI;show(C0 _ _).wp _ _ _ _;refine wsq rfl ?_;refine C5 3 1 rfl rfl ?_;refine Pa tm λa tm=>?_;refine Wn ?_;refine wsq rfl ?_;refine C5 4 1 rfl rfl ?_;refine Pa tm λa tm=>?_;refine Wn ?_;refine wsq rfl ?_;refine wbl 0 rfl ?_;refine wlp rfl (λq a w=>∃N stk at_ op m ρ nv sv xs,I4 toks depth q N stk at_ op=J (d,yX,k)/\Tm a 136 [(0,vt),(1,.int .i64 depth),(4,.pointer (J ⟨bz,0,O⟩)),(7,.pointer (J ⟨bd,0,O⟩)),(8,sv),(9,C4 at_),(10,.int .i64 op)]/\DerI w0 m0 w m ρ N O stk nv sv vt xs bd bz/\stk.length<=1099511627776) F ⟨_,[0],0,0,m0,ρ,nv,sv,_,af,tm.sub ⟨rfl,rfl,rfl,rfl,rfl,rfl,rfl,trivial⟩,hi,GN⟩ ?_;clear tm hi af s0;rintro q a w ⟨N,stk,at_,op,m,ρ,nv,sv,xs,af,tm,hi,so⟩;cases q with
 |zero=>cases af
 |succ q=>
  obtain⟨pa,cap,jO⟩:=hi.stk.len;refine wsq rfl ?_;refine wsq rfl ?_;refine C5 5 3 rfl rfl ?_;refine Pm tm λa tm=>?_;refine Pv tm (Lx tm Z8 rfl rfl rfl rfl rfl jO) λa tm=>?_;refine Pv tm (B2c tm) λa tm=>?_;refine Wn ?_;refine wcn tm rfl _ rfl ?_;cases stk with
 |nil=>
  simp only[I4,GX,He]at af;obtain⟨rfl,rfl,rfl⟩:=af;rw[GI GN];refine Si 0 rfl ?_;simp only[Exit.then,Aay,if_true];show(C0 _ _).wp _ _ _ _;refine wsq rfl ?_;obtain⟨m',cE,oG⟩:=B2b (U:=U6) u6_ok (t:=.node) hi.arr rfl hi.rep.flat (λb hb=>hi.sys.zr b (by rw[hi.ar b hb];decide)) hi.z0;obtain⟨na,rC,rG⟩:=hi.arr.len;obtain⟨q1,q2,q3⟩:=hi.z.store (m:=m) Aab (off:=0) (vs:=[nv,vt]) GN (λv hv=>by simp only[HC,Hh,or_false]at hv;rcases hv with rfl|rfl;rw[rG];rfl;rw[rE];rfl) (hi.sys.zr bz (by rw[hi.zr];decide)) hi.z0;refine C5 38 4 rfl rfl ?_;refine Pv tm (Lz tm C0d Ny rfl rfl (us:=[nv,vt]) rfl (λj u hj=>by rw[HL];exact hi.d.cell hj)) λa tm=>?_;refine Ps tm Ny q1 ?_;refine Pa tm λa tm=>?_;refine Pa tm λa tm=>?_;refine Wn ?_;refine Mq rfl ?_;have s1:=hi.sys.stay q3 (λb _ hs=>by rw[hs,hi.zr];decide);have dQ:=hi.rep.keep q3;have ct:=q3.arr hi.arr (λb hb hs=>by have h1:=hi.ar b hb;rw[hs,hi.zr]at h1;cases h1);obtain⟨m',cE,oG⟩:=B2b (U:=U6) u6_ok (t:=.node) ct rfl dQ.flat (λb hb=>s1.zr b (by rw[hi.ar b hb];decide)) s1.z;have s2:=s1.close oG (λb _ hs=>by rw[hi.ar b hs];decide) (ρ':=λ_=>0) (λb h=>absurd rfl h);exact B79 hQ (.inr rfl) (tm.sub ⟨rfl,rfl,rfl,trivial⟩) q2 rfl (Xm ⟨cE,oH.mono u6_ok s2.km.ext,trivial⟩) s2.km
 |cons n ao=>
  rw[GJ GN];refine M2 rfl ?_;show(C0 _ _).wp _ _ _ _;refine wbl 1 rfl ?_;simp only[I4]at af;split at af;cases af;rename_i nd hN;split at af;cases af;rename_i t nf;obtain⟨sb,ng,jI,nh,iy⟩:=D3J hi.stk;rw[jI]at jO tm;rw[Fr]at so;have jk:Aac .i64 (((ao.length+1:Nat):Int) - 1)=(ao.length:Int):=by rw[Pn FK FK];omega
  have tm:=tm.keep [0,1,4,7,8,9,10];refine wsq rfl ?_;refine C5 6 7 rfl rfl ?_;refine Pm tm λa tm=>?_;refine Pm tm λa tm=>?_;refine Pv tm (Lx tm Z8) λa tm=>?_;refine Pv tm (OP tm) λa tm=>?_;refine Pv tm (Ly tm Z8 tz3 rfl rfl rfl rfl jk FK) λa tm=>?_;refine Pv tm (LD tm pl3 rfl rfl (iy)) λa tm=>?_;refine Pa tm λa tm=>?_;refine Wn ?_;refine wsq rfl ?_;refine C5 7 6 rfl rfl ?_;refine Pm tm λa tm=>?_;refine Pm tm λa tm=>?_;refine Pv tm (Lx tm Z8) λa tm=>?_;refine Pv tm (OP tm) λa tm=>?_;refine Pv tm (C1q tm Z8 tz3 rfl rfl rfl rfl jk FK nh) λa tm=>?_;refine Pa tm λa tm=>?_;refine Aag ?_;have cV:=hi.stk;rw[jI]at cV;have ct:=cV.cut (k:=ao.length) GN;have ni:((n::ao).reverse.map C4).take (ao.length*1)=ao.reverse.map C4:=by
   rw[JB,JK,Ic,Jl GN];exact Iw GN
  rw[ni]at ct;have hi:DerI w0 m0 w m ρ N O ao nv (.slice (J ⟨sb,0,O⟩) ao.length ng) vt xs bd bz:={hi with stk:=ct,sr:=λb hb=>hi.sr b (by rw[jI];exact(B4M (m:=ao.length)).trans hb)};generalize yY:(Aao (J ⟨sb,0,O⟩) ao.length ng)=sv at hi tm;obtain⟨tb,nj,rH,nV,sp⟩:=Xn (oH.mono u6_ok hi.sys.km.ext) nf;have jJ:=MZ nf;have nT:=MZ hN;obtain⟨nb,rC,lQ,uN,eh,fo,mY⟩:=hi.arr.at (hi.rep.sym n nd hN);have kA:w.cell? ⟨nb,0+n*3+0,O⟩=J (F3 nd.sym):=by rw[HL,Iv];exact fo
  have tm:=tm.keep [0,1,4,7,8,9,10,11];show(C0 _ _).wp _ _ _ _;refine wsq rfl ?_;refine C5 8 7 rfl rfl ?_;refine Pv tm (U7 tm Uq) λa tm=>?_;refine Pv tm (LD tm Xk rfl rfl (hi.d.cell rfl)) λa tm=>?_;refine Pm tm λa tm=>?_;refine Pv tm (Ly tm Pl Ur rfl rfl lQ rfl rfl nT) λa tm=>?_;refine Pv tm (U7 tm D6Y) λa tm=>?_;refine Pv tm (LD tm pl9 rfl rfl (kA)) λa tm=>?_;refine Pa tm λa tm=>?_;refine Wn ?_;refine wsq rfl ?_;refine C5 9 6 rfl rfl ?_;refine Pm tm λa tm=>?_;refine Pm tm λa tm=>?_;refine Pv tm (Ly tm B1M Z3 rfl rfl nV rfl rfl jJ) λa tm=>?_;refine Pv tm (Lz tm Xl Z3 rfl rfl rfl sp) λa tm=>?_;refine Aae rfl λK hK=>Qa tm Z3 rfl rfl rfl λa tm=>hK _ _ ?_;have eR:=Y1 w m (.cells [.int .i64 0,.int .i64 0,.int .i64 0,.int .i64 0,.int .i64 0,.string ⟨[].toArray⟩,.string ⟨[].toArray⟩].toArray 102) hi.z0;have hi:=hi.step eR (λb _ h=>h.elim) (.inl λ_ h=>h) 6 (λ_=>rfl);have df:Bk (w.alloc (.cells [.int .i64 0,.int .i64 0,.int .i64 0,.int .i64 0,.int .i64 0,.string ⟨[].toArray⟩,.string ⟨[].toArray⟩].toArray 102)) w.heap.size _:=Sk;have fM:G0 ρ w.heap.size 6 w.heap.size=6:=LE (GU _);generalize yZ:w.heap.size=bt at hi df fM tm;obtain⟨q1,q2,q3⟩:=df.store (m:=m) Aab (off:=0) (vs:=P7 t) (by simp[P7]) (λv hv=>by simp only[P7,HC,Hh,or_false]at hv;rcases hv with rfl|rfl|rfl|rfl|rfl|rfl|rfl<;>rfl) (hi.sys.zr bt (by rw[fM];decide)) hi.z0;refine Ps tm Z3 q1 ?_;refine Aag ?_;have hi:=hi.step q3 (λb _ hs=>by rw[hs,fM];decide) (.inr rfl) 0 (λh=>absurd rfl h);have df:Bk _ bt (P7 t):=q2;generalize G0 (G0 ρ bt 6) _ 0=ρ at hi;generalize (C7 _ bt 0 (P7 t))=w at hi df ⊢;clear lQ fo mY kA nV sp iy;have tm:=tm.keep [0,1,4,7,8,9,10,11,12,13];cases h1:okR [.bool] (Kh nd.sym)with
  |false=>rw[h1]at af;cases af
  |true=>
   rw[h1]at af;simp only[GD]at af;show(C0 _ _).wp _ _ _ _;refine wsq rfl ?_;refine wsq rfl ?_;refine C5 10 3 rfl rfl ?_;refine Pm tm λa tm=>?_;refine Aae rfl λK hK=>MA tm rfl rfl rfl (B40 hb).enter rfl (Vh tm rfl rfl) (Mr (B40 hb) (ls:=[.str nd.sym]) (Nz (r:=.one (.bool (lB (gL (Kh nd.sym) 0)))) rfl h1) (hb.mono _ _ _ _ hI hi.sys.km.ext) hi.z0 ⟨.str _,trivial⟩ rfl) ?_;rintro e w1 ⟨v1,m1,rfl,k1,e1⟩;have df:=k1.bk df (λh=>h);have hi:=hi.step k1 (λb _ h=>h.elim) (.inl λ_ h=>h) 0 (λh=>absurd rfl h);obtain rfl:=CRep.bool_inv e1;refine⟨_,rfl,λa tm=>hK _ _ ?_⟩;refine Pv tm (B2q tm) λa tm=>?_;refine Wn ?_;refine wcn tm rfl _ rfl ?_;have tm:=tm.keep [0,1,4,7,8,9,10,11,12,13];cases h2:lB (gL (Kh nd.sym) 0)with
  |false=>
   rw[h2]at af;simp only[GF]at af;rw[GJ (show(!V)=Z from rfl)];split at af;rename_i dK;cases h3:okR [.sl .str O] (Ke nd.sym t)with
   |false=>rw[h3]at af;cases af
   |true=>
    rw[h3]at af;simp only[GD]at af;generalize Fk:F0 (gL (Ke nd.sym t) 0)=r at af;cases h4:W0 (N.length+(ao.length+r.length))with
   |false=>rw[h4]at af;cases af
   |true=>
    rw[h4]at af;simp only[GD]at af;have aA:N.length+(ao.length+r.length)<=1099511627776:=by simpa [W0]using h4
    refine wsq rfl ?_;refine C5 11 4 rfl rfl ?_;refine Pm tm λa tm=>?_;refine Pv tm (Lz tm Xl Z3 rfl rfl rfl (λj u hj=>by rw[HL];exact df.cell hj)) λa tm=>?_;refine Aae rfl λK hK=>MA tm rfl rfl rfl (C2l hb).enter rfl (B1t tm rfl rfl rfl) (Mr (C2l hb) (ls:=[.str nd.sym,.agg .tok t]) (Nz (r:=.one (.sl .str (lL .str (gL (Ke nd.sym t) 0)) O)) rfl h3) (hb.mono _ _ _ _ hI hi.sys.km.ext) hi.z0 ⟨.str _,B2i t,trivial⟩ rfl) ?_;rintro e w1 ⟨v1,m1,rfl,k1,e1⟩;have df:=k1.bk df (λh=>h);have hi:=hi.step k1 (λb _ h=>h.elim) (.inl λ_ h=>h) 0 (λh=>absurd rfl h);have dt:CRep U6 w1 m1 (.sl .str r O) v1:=by rw[<-Fk];exact e1
    refine⟨_,rfl,λa tm=>hK _ _ ?_⟩;refine Pa tm λa tm=>?_;refine Wn ?_;refine wsq rfl ?_;obtain⟨na,BI,rG⟩:=hi.arr.len;refine C5 12 4 rfl rfl ?_;refine Pv tm (U7 tm Uq) λa tm=>?_;refine Pv tm (LD tm Xk rfl rfl (hi.d.cell rfl)) λa tm=>?_;refine Pv tm (Lx tm Pl rfl rfl rfl rfl rfl rG) λa tm=>?_;refine Pa tm λa tm=>?_;refine Wn ?_;refine wsq rfl ?_;refine wsq rfl ?_;refine C5 13 1 rfl rfl ?_;refine Pa tm λa tm=>?_;refine Wn ?_;refine D31 hN dK FK hi dt (tm.sub ⟨rfl,rfl,rfl,rfl,rfl,rfl,rfl,rfl,rfl,rfl,rfl,trivial⟩) λa w m ρ nv xs tm hi dt=>?_;show(C0 _ _).wp _ _ _ _;refine wsq rfl ?_;refine wsq rfl ?_;obtain⟨ra,yL,ru⟩:=dt.sl_inv;refine C5 18 4 rfl rfl ?_;refine Pm tm λa tm=>?_;refine Pv tm (Lx tm W4 rfl rfl rfl rfl rfl ru) λa tm=>?_;refine Pv tm (OP tm) λa tm=>?_;refine Pa tm λa tm=>?_;refine Aag ?_;have za:Aac .i64 ((r.length:Int) - 1)=(r.length:Int) - 1:=Pn FK FK;rw[za]at tm;show(C0 _ _).wp _ _ _ _;refine D1i (len:=r.length) (N0:=N.length) FK hi (tm.sub ⟨rfl,rfl,rfl,rfl,rfl,rfl,rfl,rfl,rfl,trivial⟩) λa w m ρ sv tm hi=>?_;show(C0 _ _).wp _ _ _ _;refine Si 1 rfl ?_;exact⟨q,HX q,_,_,at_,op,m,ρ,nv,sv,xs,af,tm,hi,by rw[Fd,HR,JL];omega⟩
   cases af
  |true=>
   rw[h2]at af;simp only[GD]at af;rw[GI GN];refine M2 rfl ?_;cases h3:okR [.bool] (Ko nd.sym t)with
   |false=>rw[h3]at af;cases af
   |true=>
    rw[h3]at af;simp only[GD]at af;show(C0 _ _).wp _ _ _ _;refine wsq rfl ?_;refine wsq rfl ?_;refine C5 22 4 rfl rfl ?_;refine Pm tm λa tm=>?_;refine Pv tm (Lz tm Xl Z3 rfl rfl rfl (λj u hj=>by rw[HL];exact df.cell hj)) λa tm=>?_;refine Aae rfl λK hK=>MA tm rfl rfl rfl (C5u hb).enter rfl (B1t tm rfl rfl rfl) (Mr (C5u hb) (ls:=[.str nd.sym,.agg .tok t]) (Nz (r:=.one (.bool (lB (gL (Ko nd.sym t) 0)))) rfl h3) (hb.mono _ _ _ _ hI hi.sys.km.ext) hi.z0 ⟨.str _,B2i t,trivial⟩ rfl) ?_;rintro e w1 ⟨v1,m1,rfl,k1,e1⟩;have df:=k1.bk df (λh=>h);have hi:=hi.step k1 (λb _ h=>h.elim) (.inl λ_ h=>h) 0 (λh=>absurd rfl h);obtain rfl:=CRep.bool_inv e1;refine⟨_,rfl,λa tm=>hK _ _ ?_⟩;refine Pv tm (B2q tm) λa tm=>?_;refine Wn ?_;refine wcn tm rfl _ rfl ?_;have tm:=tm.keep [0,1,4,7,8,9,10,11,12,13];cases h4:lB (gL (Ko nd.sym t) 0)with
   |false=>
    rw[h4]at af;simp only[GF,GX,He]at af;obtain⟨rfl,rfl,rfl⟩:=af;rw[GJ (show(!V)=Z from rfl)];refine wsq rfl ?_;obtain⟨q1,q2,q3⟩:=hi.z.store (m:=_) Aab (off:=0) (vs:=[.slice O 0 0,.slice O 0 0]) GN (λv hv=>by simp only[HC,Hh,or_false]at hv;rcases hv with rfl|rfl<;>rfl) (hi.sys.zr bz (by rw[hi.zr];decide)) hi.z0;refine C5 23 5 rfl rfl ?_;refine Pv tm (Sh tm rfl rfl (cs:= #[.slice O 0 0,.slice O 0 0]) GM) λa tm=>?_;refine Pm tm λa tm=>?_;refine Ps tm Ny q1 ?_;refine Pa tm λa tm=>?_;refine Pa tm λa tm=>?_;refine Wn ?_;refine Mq rfl ?_;exact B79 hQ (.inr rfl) (tm.sub ⟨rfl,rfl,rfl,trivial⟩) q2 rfl C0T (hi.sys.stay q3 (λb _ hs=>by rw[hs,hi.zr];decide)).km
   |true=>
    rw[h4]at af;simp only[GD]at af;rw[GI GN];refine M2 rfl ?_;show(C0 _ _).wp _ _ _ _;refine wsq rfl ?_;generalize BH:nd.sym=sym at af tm;refine C7y hi (tm.sub ⟨rfl,rfl,rfl,rfl,rfl,rfl,rfl,rfl,rfl,trivial⟩) (λho hd a w m tm zb oG=>?_) (λa uR ag zd tm=>?_);rw[ho]at af;simp only[GD,GG hd,GX,He]at af;obtain⟨rfl,rfl,rfl⟩:=af;exact B79 hQ (.inr rfl) tm zb rfl C0T oG;show(C0 _ _).wp _ _ _ _;refine C8j hi hN BH FK tm λa w xs tm hi=>?_;refine⟨q,HX q,_,ao,_,uR,_,_,nv,sv,xs,?_,tm,hi,FK⟩;cases ho:L1 sym with
    |true=>
     rw[ho]at af;obtain⟨h8,h9⟩:=ag ho;simp only[GD,GH h8,GF]at af;rw[h9];exact af
    |false=>
     rw[ho]at af;simp only[GF]at af;rw[zd ho];exact af
def C4j{n:Nat}{vs:Gw}(hn:vs.length<=n){fr:List (Nat×Value)}(h:∀i v,T2 fr i=J v->vs[i]?=J v):Tm {tmps:=vs.toArray++Abl (n - vs.toArray.size) undef,defers:=[]} n fr:=by
 refine⟨GQ,rfl,λi v hv=>?_⟩;have h1:=h i v hv;have h2:=(HN.1 h1).1;rw[HE,Hf (by simpa using h2)];simp[h1]
def B4f{I:Inv}(hb:HB I):Sound Aab U6 I 25 (sG S25):=by
 refine⟨call25,λls r hr=>?_⟩;unfold sG at hr;unfold S25 at hr;split at hr;rename_i toks depth;obtain⟨h1,h2⟩:=ON hr;unfold NY at h1 h2;cases iN:W0 toks.length with
 |false=>rw[iN]at h1;cases h1
 |true=>
  rw[iN]at h1 h2;simp only[GD]at h1 h2;split at h2;rename_i d at_ k af;intro w0 g vs hI hz anq _ _
  match vs,anq with
  |[vt,vd],⟨e1,e2,_⟩=>
   obtain rfl:=CRep.int_inv e2.1;refine calls_of_wp func25 (show f25.body=J (C0 Aai [])from GM) ?_;refine D15 hb hI hz af (by simpa [W0]using iN) e1.1 (λe a w m us he hd hv hr hk=>?_) (C4j (show 2<=136 from GO) λi v h=>?_);have cI:∃v g',Ending.returned (.tuple #[.agg us.toArray,C4 at_,.int .i64 k])=.returned v/\Post U6 ⟨w0,g.wm,λb=>L2 [.sl .tok toks O,(.int .i64 depth:L6)]=Z/\spare (g.G 0)=J b,0,λ_=>undef⟩ g' r v w:=by
    refine⟨_,{g with wm:=m},rfl,?_⟩;rw[<-h2];exact B4S (ls:=[.agg .tree d,.int .i64 (at_:Int),.int .i64 k]) (vs:=[.agg us.toArray,C4 at_,.int .i64 k]) hk (λ_ h=>h.elim) ⟨hr,.int _ _,.int _ _,trivial⟩ rfl _ rfl
   rcases he with rfl|rfl<;>exact⟨hd,_,hv,cI⟩;unfold T2 at h
   match i,h with
   |0,h=>cases h;rfl
   |1,h=>cases h;rfl
  rename_i hn;rw[hn]at h1;cases h1
 cases hr
end Go.Aev
namespace Go.Aev
open Go.Proofs
variable {I:Inv}
def B38(hb:HB I):SP I 73 S73:=A8 E73 hb rfl trivial trivial func73 call73 (λls r h=>by
 unfold S73 at h;split at h;exact pF h;cases h)
def B7W(hb:HB I):SP I 146 Ym:=Vk C3D hb rfl trivial trivial func146 call146 (λls r h=>by
 unfold Ym at h;split at h;exact mG (B46 · _ _) h λnn=>by unfold B46;simp(disch:=exact krl)only[lc2 kF (D08 ..)];kernel_rfl
 cases h)
def B6n(hb:HB I):SP I 77 Yn:=A8 E77 hb rfl trivial trivial func77 call77 (λls r h=>by
 unfold Yn at h;split at h;exact pG (B7U · _) h λnn=>by unfold B7U;simp(disch:=exact krl)only[lc1 kF (D0n ..)];kernel_rfl
 cases h)
def D5m(hb:HB I):SP I 149 B8o:=A8 C2S hb rfl ⟨B6n hb,trivial⟩ trivial func149 call149 (λls r h=>by
 unfold B8o at h;split at h;exact pG (B0F · _ _) h λnn=>by unfold B0F;simp(disch:=exact krl)only[lc2 kF (D24 ..)];kernel_rfl
 cases h)
def B7Q(hb:HB I):SP I 75 S75:=A8 E75 hb rfl ⟨D5m hb,trivial⟩ trivial func75 call75 (λls r h=>by
 unfold S75 at h;split at h;exact pF h;cases h)
def C3p(hb:HB I):∀d,SP I 148 (B03 (Yo d))
 |0=>by
  exact⟨Abh,λls r h=>by
   unfold sG B03 at h;split at h<;>cases h⟩
 |d+1=>by
  have uS:=C3p hb d;exact A8 (B3y (Yo d)) hb rfl ⟨B38 hb,B7W hb,uS,trivial⟩ trivial func148 Abh (λls r h=>by
   unfold B03 at h;split at h;exact pF h (C66 NN (Yo d));cases h)
def C36(hb:HB I):SP I 148 B4i:=(C3p hb DD)
def C1I(hb:HB I):∀d,SP I 147 (B3t (OT d))
 |0=>by
  exact⟨Abi,λls r h=>by
   unfold sG B3t at h;split at h<;>cases h⟩
 |d+1=>by
  have uT:=C1I hb d;exact A8 (B3J (OT d)) hb rfl ⟨B38 hb,B7Q hb,B7W hb,uT,C36 hb,trivial⟩ trivial func147 Abi (λls r h=>by
   unfold B3t at h;split at h;exact pF h (D0f NN (OT d));cases h)
def D5N(hb:HB I):SP I 147 C2p:=(C1I hb DD)
end Go.Aev
namespace Go.Aev
open Go.Proofs
variable {I:Inv}
def B82(hb:HB I):SP I 74 S74:=Vk E74 hb rfl ⟨B7W hb,D5N hb,C36 hb,trivial⟩ trivial func74 call74 (λls r h=>by
 unfold S74 at h;split at h;exact mG (B3B · _ _ _) h λnn=>by unfold B3B;simp(disch:=exact krl)only[lc2 kF (D5g ..)];kernel_rfl
 cases h)
def B3a(hb:HB I):SP I 76 S76:=A8 E76 hb rfl trivial trivial func76 call76 (λls r h=>by
 unfold S76 at h;split at h;exact pF h;cases h)
def C3A(hb:HB I):SP I 34 S34:=A8 E34 hb rfl ⟨B6n hb,trivial⟩ trivial func34 call34 (λls r h=>by
 unfold S34 at h;split at h;exact pG (B8F · _) h λnn=>by unfold B8F;simp(disch:=exact krl)only[lc1 kF (D5M ..)];kernel_rfl
 cases h)
def Li(hb:HB I):SB I 60 Ks:=H4 E60 hb rfl trivial trivial func60 call60 (λls cs r h=>by
 unfold Ks at h;split at h;exact fN (ps:=[0]) h;cases h)
def Us(hb:HB I):SB I 136 MF:=H4 D0A hb rfl trivial trivial func136 call136 (λls cs r h=>by
 unfold MF at h;split at h;exact fN (ps:=[0]) h;cases h)
def A88(hb:HB I):SB I 61 OV:=LF E61 hb rfl trivial trivial ⟨Li hb,Us hb,trivial⟩ ⟨LI,Sq,trivial⟩ func61 call61 (λls cs r h=>by
 unfold OV at h;split at h;exact fN h (D3B NN);cases h)
def Rk(hb:HB I):SB I 134 LJ:=H4 C8W hb rfl trivial trivial func134 call134 (λls cs r h=>by
 unfold LJ at h;split at h;exact fN (ps:=[0]) h;cases h)
def B8W(hb:HB I):SB I 132 Sr:=LF B4k hb rfl ⟨B40 hb,trivial⟩ trivial ⟨Li hb,Rk hb,trivial⟩ ⟨LI,Qc,trivial⟩ func132 call132 (λls cs r h=>by
 unfold Sr at h;split at h;exact fN h (C8w NN);cases h)
end Go.Aev
namespace Go.Aev
open Go.Proofs
variable {I:Inv}
def C5G(hb:HB I):∀d,SB I 187 (Vq ((G8 d).1))/\SB I 216 (B0L ((G8 d).2))
 |0=>by
  exact⟨⟨Abe,λls cs rs ay h=>by
   unfold sGB Vq at h;split at h;obtain⟨_,h⟩:=H8 h;cases h;cases h⟩,⟨Abc,λls cs rs ay h=>by
   unfold sGB B0L at h;split at h;obtain⟨_,h⟩:=H8 h;cases h;cases h⟩⟩
 |d+1=>by
  obtain⟨uU,uV⟩:=C5G hb d;exact⟨LF (C4l ((G8 d).1) ((G8 d).2)) hb rfl trivial ⟨uV,trivial⟩ ⟨B8W hb,trivial⟩ ⟨B5g,trivial⟩ func187 Abe (λls cs r h=>by
   unfold Vq at h;split at h;exact fN h (D2l ((G8 d).1) ((G8 d).2));cases h),LF (B1f ((G8 d).1) ((G8 d).2)) hb rfl trivial trivial ⟨Li hb,A88 hb,Rk hb,uU,trivial⟩ ⟨LI,Yp,Qc,(C4q d),trivial⟩ func216 Abc (λls cs r h=>by
   unfold B0L at h;split at h;obtain⟨hc,h⟩:=H8 h;simp only[Fn,I3]at hc;obtain⟨⟨⟨⟨rfl,rfl⟩,⟨rfl,rfl⟩⟩,rfl⟩,rfl⟩:=hc;exact L3 (D0w NN ((G8 d).1) ((G8 d).2)) rfl rfl h;cases h)⟩
def C5K(hb:HB I):SB I 187 B3S:=(C5G hb DD).1
def D1f(hb:HB I):SB I 215 Yq:=LF D3Z hb rfl trivial trivial ⟨Li hb,Rk hb,C5K hb,trivial⟩ ⟨LI,Qc,C4T,trivial⟩ func215 call215 (λls cs r h=>by
 unfold Yq at h;split at h;exact fN (ps:=[0]) h;cases h)
def C4Z(hb:HB I):SB I 185 Vs:=LF B7B hb rfl trivial trivial ⟨Li hb,A88 hb,Us hb,D1f hb,trivial⟩ ⟨LI,Yp,Sq,D1z,trivial⟩ func185 call185 (λls cs r h=>by
 unfold Vs at h;split at h;exact fN h (C7H NN);cases h)
def B8d(hb:HB I):SB I 135 Sv:=LF B7g hb rfl trivial trivial ⟨Li hb,Rk hb,Us hb,C4Z hb,trivial⟩ ⟨LI,Qc,Sq,C03,trivial⟩ func135 call135 (λls cs r h=>by
 unfold Sv at h;split at h;exact fN h (D1U NN);cases h)
end Go.Aev
namespace Go.Aev
open Go.Proofs
variable {I:Inv}
def C1w(hb:HB I):∀d,SB I 133 (Vt ((H2 d).1))/\SB I 184 (Vu ((H2 d).2))
 |0=>by
  exact⟨⟨Abj,λls cs rs ay h=>by
   unfold sGB Vt at h;split at h;obtain⟨_,h⟩:=H8 h;cases h;cases h⟩,⟨Abg,λls cs rs ay h=>by
   unfold sGB Vu at h;split at h;obtain⟨_,h⟩:=H8 h;cases h;cases h⟩⟩
 |d+1=>by
  obtain⟨uW,uX⟩:=C1w hb d;exact⟨LF (B76 ((H2 d).1) ((H2 d).2)) hb rfl trivial trivial ⟨Li hb,A88 hb,uX,trivial⟩ ⟨LI,Yp,(C9m d),trivial⟩ func133 Abj (λls cs r h=>by
   unfold Vt at h;split at h;exact fN h (C6L NN ((H2 d).1) ((H2 d).2));cases h),LF (C2x ((H2 d).1) ((H2 d).2)) hb rfl trivial trivial ⟨Li hb,B8W hb,uW,Rk hb,B8d hb,Us hb,C4Z hb,trivial⟩ ⟨LI,B5g,(C17 d),Qc,B51,Sq,C03,trivial⟩ func184 Abg (λls cs r h=>by
   unfold Vu at h;split at h;exact fN h (D5w ((H2 d).1) ((H2 d).2));cases h)⟩
def C8N(hb:HB I):SB I 133 B4G:=(C1w hb DD).1
def B9I(hb:HB I):∀d,SB I 186 (Vw (My d))
 |0=>by
  exact⟨Abf,λls cs rs ay h=>by
   unfold sGB Vw at h;split at h;obtain⟨_,h⟩:=H8 h;cases h;cases h⟩
 |d+1=>by
  have uY:=B9I hb d;exact LF (B9u (My d)) hb rfl trivial trivial ⟨Li hb,Rk hb,Us hb,uY,trivial⟩ ⟨LI,Qc,Sq,(C3o d),trivial⟩ func186 Abf (λls cs r h=>by
   unfold Vw at h;split at h;exact fN h (C7w (My d));cases h)
def D2K(hb:HB I):SB I 186 B6M:=(B9I hb DD)
end Go.Aev
namespace Go.Aev
open Go.Proofs
variable {I:Inv}
def D5C(hb:HB I):SB I 137 Yu:=LF D6O hb rfl trivial trivial ⟨Li hb,Rk hb,B8d hb,Us hb,D2K hb,C5K hb,trivial⟩ ⟨LI,Qc,B51,Sq,D6l,C4T,trivial⟩ func137 call137 (λls cs r h=>by
 unfold Yu at h;split at h;exact fN (ps:=[0]) h;cases h)
def D2A(hb:HB I):SB I 59 Yw:=C6W Sw hb rfl trivial trivial ⟨Li hb,A88 hb,B8W hb,C8N hb,Rk hb,B8d hb,Us hb,D5C hb,trivial⟩ ⟨LI,Yp,B5g,D5v,Qc,B51,Sq,D69,trivial⟩ func59 call59 (λls cs r h=>by
 unfold Yw at h;split at h;exact fN h (D03 NN);cases h)
def C3U(hb:HB I):SB I 26 S26:=LF E26 hb rfl trivial trivial ⟨D2A hb,Li hb,A88 hb,trivial⟩ ⟨D34,LI,Yp,trivial⟩ func26 call26 (λls cs r h=>by
 unfold S26 at h;split at h;exact fN h (D3M NN);cases h)
def B0i(hb:HB I):SP I 174 TE:=A8 C4w hb rfl trivial trivial func174 call174 (λls r h=>by
 unfold TE at h;split at h;exact pG (Vy · _ _) h λnn=>by unfold Vy;simp(disch:=exact krl)only[lc2 kF (D5A ..)];kernel_rfl
 cases h)
def C2g(hb:HB I):SP I 175 B0O:=A8 D0t hb rfl trivial trivial func175 call175 (λls r h=>by
 unfold B0O at h;split at h;exact pF h;cases h)
def B5N(hb:HB I):SP I 121 Yx:=A8 C86 hb rfl ⟨B0i hb,C2g hb,trivial⟩ trivial func121 call121 (λls r h=>by
 unfold Yx at h;split at h;exact pF h;cases h)
def D2W(hb:HB I):SP I 53 S53:=A8 E53 hb rfl ⟨B5N hb,trivial⟩ trivial func53 call53 (λls r h=>by
 unfold S53 at h;split at h;exact pG (WA · _ _) h λnn=>by unfold WA;simp(disch:=exact krl)only[lc1 kF (C9k ..)];kernel_rfl
 cases h)
def B9C(hb:HB I):SP I 122 B3W:=A8 C1c hb rfl trivial trivial func122 call122 (λls r h=>by
 unfold B3W at h;split at h;exact pG (TL · _) h λnn=>by unfold TL;simp(disch:=exact krl)only[lc1 kF (C90 ..)];kernel_rfl
 cases h)
def D1S(hb:HB I):SP I 54 S54:=A8 E54 hb rfl ⟨B9C hb,trivial⟩ trivial func54 call54 (λls r h=>by
 unfold S54 at h;split at h;exact pG (Oe · _) h λnn=>by unfold Oe;simp(disch:=exact krl)only[lc1 kF (D1a ..)];kernel_rfl
 cases h)
end Go.Aev
namespace Go.Aev
open Go.Proofs
variable {I:Inv}
def D4B(hb:HB I):SP I 176 B48:=A8 C9j hb rfl ⟨B0i hb,trivial⟩ trivial func176 call176 (λls r h=>by
 unfold B48 at h;split at h;exact pF h;cases h)
def C8d(hb:HB I):SP I 123 B5k:=A8 B61 hb rfl ⟨D4B hb,trivial⟩ trivial func123 call123 (λls r h=>by
 unfold B5k at h;split at h;exact pG (WD · _ _) h λnn=>by unfold WD;simp(disch:=exact krl)only[lc1 kF (D1r ..)];kernel_rfl
 cases h)
def C6w(hb:HB I):SP I 177 B52:=A8 D5e hb rfl ⟨B0i hb,trivial⟩ trivial func177 call177 (λls r h=>by
 unfold B52 at h;split at h;exact pF h;cases h)
def C23(hb:HB I):SP I 208 B3G:=A8 D4C hb rfl ⟨B0i hb,trivial⟩ trivial func208 call208 (λls r h=>by
 unfold B3G at h;split at h;exact pF h;cases h)
def C82(hb:HB I):SP I 178 B4R:=A8 C5M hb rfl ⟨C23 hb,trivial⟩ trivial func178 call178 (λls r h=>by
 unfold B4R at h;split at h;exact pG (ZA · _ _) h λnn=>by unfold ZA;simp(disch:=exact krl)only[lc1 kF (D1k ..)];kernel_rfl
 cases h)
def C78(hb:HB I):SP I 179 B8t:=A8 C6O hb rfl ⟨B0i hb,trivial⟩ trivial func179 call179 (λls r h=>by
 unfold B8t at h;split at h;exact pF h;cases h)
def C8f(hb:HB I):SP I 230 B6B:=A8 C71 hb rfl trivial trivial func230 call230 (λls r h=>by
 unfold B6B at h;split at h;exact pF h;cases h)
def D5Q(hb:HB I):SP I 231 B4x:=A8 D6p hb rfl trivial trivial func231 call231 (λls r h=>by
 unfold B4x at h;split at h;exact pF h;cases h)
def D0Z(hb:HB I):SP I 209 B8v:=A8 C0M hb rfl ⟨C8f hb,D5Q hb,trivial⟩ trivial func209 call209 (λls r h=>by
 unfold B8v at h;split at h;exact pG (ZC · _ _) h λnn=>by unfold ZC;simp(disch:=exact krl)only[lc2 kF (C85 ..)];kernel_rfl
 cases h)
def D5B(hb:HB I):SP I 180 B6o:=A8 D09 hb rfl ⟨C23 hb,D0Z hb,trivial⟩ trivial func180 call180 (λls r h=>by
 unfold B6o at h;split at h;exact pF h;cases h)
end Go.Aev
namespace Go.Aev
open Go.Proofs
def D0M{R}(nn a0)(K:Kt R):∀n x3 x4 x5,WM nn a0 n x3 x4 x5 (K .ret ⟨[eB 2 V],[]⟩) (λx3 x4 x5 cY=>K (.exit 0) ⟨[eL 0 .i32 a0,eI 3 x3,eC 4 x4,eI 5 x5,eB 11 cY],[]⟩)=LP C37 nn f232 143 n ⟨[eL 0 .i32 a0,eI 3 x3,eC 4 x4,eI 5 x5],[]⟩ K:=λn=>n.rec (by intros;rfl) λn i=>by
 intros;rw[WM];simp only[i];kernel_rfl
def B44:KY
 |[.sl .i32 a0 O]=>pR [.bool] (B27 a0)
 |_=>O
def C04:Env Ty6 A2:=mkE [(239,B1O)] [] (lkR [(0,2,1),(3,6,3),(4,9,4),(5,5,1),(6,13,3),(7,16,3),(8,19,2),(9,13,1),(9,21,7),(10,28,2),(11,0,1),(11,3,2),(11,9,1),(11,30,1)]) 31 [] 0 [] []
def D6c{R}(nn a0)(K:Kt R):∀n x3 x4,WS nn a0 n x3 x4 (λx3 x4 x9=>K (.exit 0) ⟨[eL 0 .i32 a0,eO 3 .i32 x3 103,eI 4 x4,eB 9 x9],[103]⟩)=LP C04 nn f233 71 n ⟨[eL 0 .i32 a0,eO 3 .i32 x3 103,eI 4 x4],[103]⟩ K:=λn=>n.rec (by intros;rfl) λn i=>by
 intros;rw[WS];simp only[i];kernel_rfl
def B42:KY
 |[.sl .i32 a0 O]=>pR [.sl .i32 (J 1)] (B1y a0)
 |_=>O
def C4W:Env Ty6 A2:=mkE [(200,B8m)] [] (lkR [(0,2,1),(2,4,10),(3,14,3),(4,0,1),(4,3,1),(4,14,1),(4,17,1)]) 18 [] 0 [] []
def D27{R}(nn a0)(K:Kt R):∀n x3,WN nn a0 n x3 (λx3 cv=>K (.exit 0) ⟨[eL 0 .i32 a0,eI 3 x3,eB 14 cv],[]⟩)=LP C4W nn Tryz.f225 35 n ⟨[eL 0 .i32 a0,eI 3 x3],[]⟩ K:=λn=>n.rec (by intros;rfl) λn i=>by
 intros;rw[WN];simp only[i];kernel_rfl
def B2k:KY
 |[.sl .i32 a0 O]=>pR [.int .i64] (WO a0)
 |_=>O
def D2B:Env Ty6 A2:=mkE [(225,B2k)] [] noD 8 [] 0 [] []
def B6S:KY
 |[.sl .i32 a0 O]=>pR [.bool] (Ta a0)
 |_=>O
def C48:Env Ty6 A2:=mkE [(225,B2k)] [] (lkR [(0,2,1),(3,6,3),(4,5,1),(4,10,2),(4,32,1),(5,9,1),(5,12,5),(6,17,15),(7,5,1),(7,32,2),(8,0,1),(8,4,1),(8,9,1),(8,34,1),(9,3,1),(9,35,1),(10,3,1),(10,35,2)]) 37 [] 0 [] []
def D5s{R}(nn a0)(K:Kt R):∀n x3 x4,WP nn a0 n x3 x4 (λx3 x4 x9=>K (.exit 0) ⟨[eL 0 .rs a0,eI 3 x3,eI 4 x4,eB 9 x9],[]⟩)=LP C48 nn Tryz.f240 75 n ⟨[eL 0 .rs a0,eI 3 x3,eI 4 x4],[]⟩ K:=λn=>n.rec (by intros;rfl) λn i=>by
 intros;rw[WP];simp only[i];kernel_rfl
def B6x:KY
 |[.sl .rs a0 O]=>pR [.int .i64] (B2z a0)
 |_=>O
def B39:Env Ty6 A2:=mkE [(224,B6S),(240,B6x)] [] (lkR [(0,2,1),(1,10,2),(4,12,3),(5,16,2),(6,15,1),(6,18,4),(7,22,7),(8,29,1),(9,29,2),(10,31,4),(11,31,1),(12,6,1),(12,35,3),(13,7,1),(13,38,4),(14,0,1),(14,3,1),(14,5,1),(14,15,1),(15,42,10),(16,52,3),(17,52,1),(17,55,2),(18,57,10),(19,67,3),(20,4,1),(20,8,2),(20,67,1),(20,70,4)]) 74 [] 0 [] []
def C6A{R}(nn a0)(K:Kt R):∀n x3 x4 x5,TZ nn a0 n x3 x4 x5 (λx3 x4 x5 eQ=>K (.exit 0) ⟨[eL 0 .rs a0,eI 3 x3,eO 4 .rs x4 104,eI 5 x5,eB 15 eQ],[104]⟩)=LP B39 nn Aa2 151 n ⟨[eL 0 .rs a0,eI 3 x3,eO 4 .rs x4 104,eI 5 x5],[104]⟩ K:=λn=>n.rec (by intros;rfl) λn i=>by
 intros;rw[TZ];simp only[i];kernel_rfl
def C9Y{R}(nn a0)(K:Kt R):∀n x4 x8,WQ nn a0 n x4 x8 (λx4 x8 Fl=>K (.exit 2) ⟨[eO 4 .rs x4 104,eI 8 x8,eB 52 Fl],[104]⟩)=LP B39 nn Aa2 287 n ⟨[eO 4 .rs x4 104,eI 8 x8],[104]⟩ K:=λn=>n.rec (by intros;rfl) λn i=>by
 intros;rw[WQ];simp only[i];kernel_rfl
def C6a{R}(nn a0)(K:Kt R):∀n x4 x8 x9,WR nn a0 n x4 x8 x9 (λx4 x8 x9 Fm=>K (.exit 4) ⟨[eO 4 .rs x4 104,eI 8 x8,eI 9 x9,eB 67 Fm],[104]⟩)=LP B39 nn Aa2 1151 n ⟨[eO 4 .rs x4 104,eI 8 x8,eI 9 x9],[104]⟩ K:=λn=>n.rec (by intros;rfl) λn i=>by
 intros;rw[WR];simp only[i];kernel_rfl
def B8n:KY
 |[.sl .rs a0 O]=>pR [.sl .rs O] (ZI a0)
 |_=>O
def B6w:Env Ty6 A2:=mkE [(125,ZO),(198,B5S),(232,B44),(233,B42),(234,B8n)] [] (lkR [(0,2,2),(1,14,2),(2,4,1),(2,16,1),(3,0,1),(3,17,1),(4,0,1),(4,17,3),(7,20,3),(8,24,2),(9,23,1),(9,26,5),(10,8,1),(10,31,4),(11,5,3),(11,23,1),(11,35,2),(14,37,3),(15,41,2),(16,40,1),(16,43,1),(17,44,4),(18,44,1),(18,48,6),(19,9,3),(19,13,1),(19,40,1),(19,54,5),(20,12,1),(20,59,1)]) 60 [] 0 [] []
def D2k{R}(nn a0)(K:Kt R):∀n x5 x6 x7,WU nn a0 n x5 x6 x7 (λx5 x6 x7 fw=>K (.exit 0) ⟨[eO 5 .rs x5 1019,eO 6 .rs x6 106,eI 7 x7,eB 23 fw],[106,1019]⟩)=LP B6w nn Tryz.f212 607 n ⟨[eO 5 .rs x5 1019,eO 6 .rs x6 106,eI 7 x7],[106,1019]⟩ K:=λn=>n.rec (by intros;rfl) λn i=>by
 intros;rw[WU];simp only[i];kernel_rfl
def C7N{R}(nn a0)(K:Kt R):∀n x9 aI cY,WV nn a0 n x9 aI cY (λx9 aI cY l7=>K (.exit 2) ⟨[eL 9 .rs x9,eO 10 .i32 aI 110,eI 11 cY,eB 40 l7],[110]⟩)=LP B6w nn Tryz.f212 4863 n ⟨[eL 9 .rs x9,eO 10 .i32 aI 110,eI 11 cY],[110]⟩ K:=λn=>n.rec (by intros;rfl) λn i=>by
 intros;rw[WV];simp only[i];kernel_rfl
def C68:Env Ty6 A2:=mkE [(121,Yx)] [] noD 21 [] 0 [] []
def B5P:KY
 |[.int .i32 a0]=>pR [.bool] (ZJ a0)
 |_=>O
def C46:Env Ty6 A2:=mkE [] [] (lkR [(0,2,1),(4,6,3),(5,10,2),(5,17,1),(6,9,1),(6,12,5),(7,0,1),(7,3,3),(7,17,5),(8,0,1),(8,3,3),(8,9,1)]) 22 [] 0 [] []
def D6Z{R}(nn a0)(K:Kt R):∀n x3 x4 x5,WX nn a0 n x3 x4 x5 (λx2=>K .ret ⟨[eC 2 x2],[]⟩) (λx3 x4 x5 x9=>K (.exit 0) ⟨[eC 0 a0,eS 3 x3,eS 4 x4,eI 5 x5,eB 9 x9],[]⟩)=LP C46 nn f242 151 n ⟨[eC 0 a0,eS 3 x3,eS 4 x4,eI 5 x5],[]⟩ K:=λn=>n.rec (by intros;rfl) λn i=>by
 intros;rw[WX];simp only[i];kernel_rfl
def B7y:KY
 |[.int .i32 a0]=>pR [.int .i32] (B1w a0)
 |_=>O
end Go.Aev
namespace Go.Aev
open Go.Proofs
variable {I:Inv}
def B6F(hb:HB I):SP I 210 ZD:=A8 D4m hb rfl trivial trivial func210 call210 (λls r h=>by
 unfold ZD at h;split at h;exact pF h;cases h)
def C9o(hb:HB I):SP I 211 B8r:=A8 C0V hb rfl ⟨B6F hb,trivial⟩ trivial func211 call211 (λls r h=>by
 unfold B8r at h;split at h;exact pG (ZE · _ _) h λnn=>by unfold ZE;simp(disch:=exact krl)only[lc2 kF (D6A ..)];kernel_rfl
 cases h)
def D4Z(hb:HB I):SP I 213 B8j:=A8 C5F hb rfl trivial trivial func213 call213 (λls r h=>by
 unfold B8j at h;split at h;exact pG (ZF · _ _) h λnn=>by unfold ZF;simp(disch:=exact krl)only[lc2 kF (D12 ..)];kernel_rfl
 cases h)
def C0E(hb:HB I):SP I 172 B1e:=A8 D2f hb rfl ⟨C2g hb,trivial⟩ trivial func172 call172 (λls r h=>by
 unfold B1e at h;split at h;exact pF h;cases h)
def B6s(hb:HB I):SP I 125 ZO:=A8 C0w hb rfl ⟨C0E hb,trivial⟩ trivial func125 call125 (λls r h=>by
 unfold ZO at h;split at h;exact pG (WJ · _) h λnn=>by unfold WJ;simp(disch:=exact krl)only[lc2 kF (D3d ..)];kernel_rfl
 cases h)
def D5W(hb:HB I):SP I 198 B5S:=A8 C0z hb rfl ⟨B9C hb,trivial⟩ trivial func198 call198 (λls r h=>by
 unfold B5S at h;split at h;exact pG (B1g · _) h λnn=>by unfold B1g;simp(disch:=exact krl)only[lc1 kF (D2M ..)];kernel_rfl
 cases h)
def C3m(hb:HB I):SP I 239 B1O:=A8 D0k hb rfl trivial trivial func239 call239 (λls r h=>by
 unfold B1O at h;split at h;exact pF h;cases h)
def D11(hb:HB I):SP I 232 B44:=A8 C37 hb rfl ⟨B5N hb,C3m hb,trivial⟩ trivial func232 call232 (λls r h=>by
 unfold B44 at h;split at h;exact pG (B7q · _) h λnn=>by unfold B7q;simp(disch:=exact krl)only[lc2 kF (D0M ..)];kernel_rfl
 cases h)
def D0G(hb:HB I):SP I 233 B42:=A8 C04 hb rfl ⟨C3m hb,trivial⟩ trivial func233 call233 (λls r h=>by
 unfold B42 at h;split at h;exact pG (B75 · _) h λnn=>by unfold B75;simp(disch:=exact krl)only[lc1 kF (D6c ..)];kernel_rfl
 cases h)
def D28(hb:HB I):SP I 200 B8m:=A8 D1X hb rfl trivial trivial func200 call200 (λls r h=>by
 unfold B8m at h;split at h;exact pF h;cases h)
end Go.Aev
namespace Go.Aev
open Go.Proofs
def C1s:Env Ty6 A2:=mkE [] [] (lkR [(0,2,1),(4,6,1),(5,8,2),(5,23,1),(6,7,1),(6,10,13),(7,0,1),(7,3,3),(7,23,2),(8,0,1),(8,3,3),(8,7,1)]) 25 [] 0 [] []
def D2H{R}(nn a0)(K:Kt R):∀n x3 x4 x5,WY nn a0 n x3 x4 x5 (λx2=>K .ret ⟨[eI 2 x2],[]⟩) (λx3 x4 x5 x7=>K (.exit 0) ⟨[eC 0 a0,eS 3 x3,eS 4 x4,eI 5 x5,eB 7 x7],[]⟩)=LP C1s nn f245 151 n ⟨[eC 0 a0,eS 3 x3,eS 4 x4,eI 5 x5],[]⟩ K:=λn=>n.rec (by intros;rfl) λn i=>by
 intros;rw[WY];simp only[i];kernel_rfl
def B8w:KY
 |[.int .i32 a0]=>pR [.int .i64] (B07 a0)
 |_=>O
def C2F:Env Ty6 A2:=mkE [(245,B8w)] [] (lkR [(0,4,1),(1,8,19),(2,0,2),(2,27,1),(3,27,1),(4,28,2),(5,30,3),(6,34,2),(7,33,1),(7,36,5),(8,41,1),(9,0,2),(9,5,3),(9,42,1),(10,7,1),(10,42,6),(11,0,2),(11,5,2),(11,33,1),(11,48,1)]) 49 [] 0 [] []
def D7l{R}(nn a0 a1)(K:Kt R):∀n x5 x6,Tb nn a0 a1 n x5 x6 (K .ret ⟨[eC 4 (-1)],[]⟩) (λx5 x6 Fo=>K (.exit 0) ⟨[eL 0 .i32 a0,eI 1 a1,eC 5 x5,eI 6 x6,eB 33 Fo],[]⟩)=LP C2F nn f243 151 n ⟨[eL 0 .i32 a0,eI 1 a1,eC 5 x5,eI 6 x6],[]⟩ K:=λn=>n.rec (by intros;rfl) λn i=>by
 intros;rw[Tb];simp only[i];kernel_rfl
def B43:KY
 |[.sl .i32 a0 O,.int .i64 a1]=>pR [.int .i32] (Tc a0 a1)
 |_=>O
def C65:Env Ty6 A2:=mkE [] [] noD 27 [] 0 [] []
def B8h:KY
 |[.int .i32 a0,.int .i32 a1]=>pR [.int .i32,.bool] (Td a0 a1)
 |_=>O
def D6q:Env Ty6 A2:=mkE [(241,B5P),(242,B7y),(243,B43),(244,B8h)] [] noD 78 [] 0 [] []
def B6j:KY
 |[.sl .i32 a0 O,.int .i64 a1]=>pR [.int .i32,.int .i64] (WZ a0 a1)
 |_=>O
def C07:Env Ty6 A2:=mkE [(125,ZO),(235,B6j)] [] (lkR [(0,2,2),(3,10,3),(4,13,7),(5,20,1),(6,0,1),(6,4,4),(6,21,1),(7,6,1),(7,21,5),(8,7,1),(8,26,3),(9,0,1),(9,4,2),(9,9,1),(9,13,1),(9,29,5),(10,8,1),(10,34,1)]) 35 [] 0 [] []
def C7o{R}(nn a0)(K:Kt R):∀n x4 x5,Wa nn a0 n x4 x5 (K .ret ⟨[(2,.one (.str [])),eI 3 60],[]⟩) (λx4 x5 ck=>K (.exit 0) ⟨[eL 0 .i32 a0,eO 4 .i32 x4 104,eI 5 x5,eB 13 ck],[104]⟩)=LP C07 nn f214 71 n ⟨[eL 0 .i32 a0,eO 4 .i32 x4 104,eI 5 x5],[104]⟩ K:=λn=>n.rec (by intros;rfl) λn i=>by
 intros;rw[Wa];simp only[i];kernel_rfl
end Go.Aev
namespace Go.Aev
open Go.Proofs
variable {I:Inv}
def B90(hb:HB I):SP I 225 B2k:=A8 C4W hb rfl ⟨D28 hb,trivial⟩ trivial func225 call225 (λls r h=>by
 unfold B2k at h;split at h;exact pG (B5t · _) h λnn=>by unfold B5t;simp(disch:=exact krl)only[lc1 kF (D27 ..)];kernel_rfl
 cases h)
def D7i(hb:HB I):SP I 224 B6S:=A8 D2B hb rfl ⟨B90 hb,trivial⟩ trivial func224 call224 (λls r h=>by
 unfold B6S at h;split at h;exact pF h;cases h)
def C9l(hb:HB I):SP I 240 B6x:=A8 C48 hb rfl ⟨B90 hb,trivial⟩ trivial func240 call240 (λls r h=>by
 unfold B6x at h;split at h;exact pG (B8A · _) h λnn=>by unfold B8A;simp(disch:=exact krl)only[lc1 kF (D5s ..)];kernel_rfl
 cases h)
def D4g(hb:HB I):SP I 234 B8n:=A8 B39 hb rfl ⟨D7i hb,C9l hb,trivial⟩ trivial func234 call234 (λls r h=>by
 unfold B8n at h;split at h;exact pG (B32 · _) h λnn=>by unfold B32;simp(disch:=exact krl)only[lc1 kF (C6A ..),lc1 kF (C9Y ..),lc1 kF (C6a ..)];kernel_rfl
 cases h)
def D3r(hb:HB I):SP I 212 B4D:=A8 B6w hb rfl ⟨B6s hb,D5W hb,D11 hb,D0G hb,D4g hb,trivial⟩ trivial func212 call212 (λls r h=>by
 unfold B4D at h;split at h;exact pG (B3f · _) h λnn=>by unfold B3f;simp(disch:=exact krl)only[lc1 kF (D2k ..),lc1 kF (C7N ..)];kernel_rfl
 cases h)
def C6F(hb:HB I):SP I 241 B5P:=A8 C68 hb rfl ⟨B5N hb,trivial⟩ trivial func241 call241 (λls r h=>by
 unfold B5P at h;split at h;exact pF h;cases h)
def D1K(hb:HB I):SP I 242 B7y:=A8 C46 hb rfl trivial trivial func242 call242 (λls r h=>by
 unfold B7y at h;split at h;exact pG (B7E · _) h λnn=>by unfold B7E;simp(disch:=exact krl)only[lc2 kF (D6Z ..)];kernel_rfl
 cases h)
def D5u(hb:HB I):SP I 245 B8w:=A8 C1s hb rfl trivial trivial func245 call245 (λls r h=>by
 unfold B8w at h;split at h;exact pG (B7V · _) h λnn=>by unfold B7V;simp(disch:=exact krl)only[lc2 kF (D2H ..)];kernel_rfl
 cases h)
def C9C(hb:HB I):SP I 243 B43:=A8 C2F hb rfl ⟨D5u hb,trivial⟩ trivial func243 call243 (λls r h=>by
 unfold B43 at h;split at h;exact pG (B16 · _ _) h λnn=>by unfold B16;simp(disch:=exact krl)only[lc2 kF (D7l ..)];kernel_rfl
 cases h)
def D4W(hb:HB I):SP I 244 B8h:=A8 C65 hb rfl trivial trivial func244 call244 (λls r h=>by
 unfold B8h at h;split at h;exact pF h;cases h)
end Go.Aev
namespace Go.Aev
open Go.Proofs
variable {I:Inv}
def D13(hb:HB I):SP I 235 B6j:=A8 D6q hb rfl ⟨C6F hb,D1K hb,C9C hb,D4W hb,trivial⟩ trivial func235 call235 (λls r h=>by
 unfold B6j at h;split at h;exact pF h;cases h)
def D3m(hb:HB I):SP I 214 B5O:=A8 C07 hb rfl ⟨B6s hb,D13 hb,trivial⟩ trivial func214 call214 (λls r h=>by
 unfold B5O at h;split at h;exact pG (B6f · _) h λnn=>by unfold B6f;simp(disch:=exact krl)only[lc2 kF (C7o ..)];kernel_rfl
 cases h)
def C6f(hb:HB I):SP I 181 B5X:=A8 D1x hb rfl ⟨B6F hb,C9o hb,D3r hb,D4Z hb,D3m hb,trivial⟩ trivial func181 call181 (λls r h=>by
 unfold B5X at h;split at h;exact pF h;cases h)
def D1R(hb:HB I):SP I 182 B50:=A8 C06 hb rfl ⟨B6F hb,trivial⟩ trivial func182 call182 (λls r h=>by
 unfold B50 at h;split at h;exact pG (Wc · _ _) h λnn=>by unfold Wc;simp(disch:=exact krl)only[lc2 kF (D4e ..)];kernel_rfl
 cases h)
def D10(hb:HB I):SP I 124 B77:=A8 D2e hb rfl ⟨C6w hb,C82 hb,C78 hb,D5B hb,C6f hb,D1R hb,trivial⟩ trivial func124 call124 (λls r h=>by
 unfold B77 at h;split at h;exact pF h;cases h)
def D6g(hb:HB I):SP I 55 S55:=A8 E55 hb rfl ⟨C8d hb,D10 hb,B6s hb,trivial⟩ trivial func55 call55 (λls r h=>by
 unfold S55 at h;split at h;exact pF h;cases h)
def C6B(hb:HB I):SP I 171 B6H:=A8 C0D hb rfl trivial trivial func171 call171 (λls r h=>by
 unfold B6H at h;split at h;exact pG (B3O · _) h λnn=>by unfold B3O;simp(disch:=exact krl)only[lc1 kF (D4c ..)];kernel_rfl
 cases h)
def C9h(hb:HB I):SP I 173 B7h:=A8 C02 hb rfl trivial trivial func173 call173 (λls r h=>by
 unfold B7h at h;split at h;exact pG (B3u · _ _) h λnn=>by unfold B3u;simp(disch:=exact krl)only[lc2 kF (D5E ..)];kernel_rfl
 cases h)
def D16(hb:HB I):SP I 120 B65:=A8 C4F hb rfl ⟨C6B hb,C0E hb,C9h hb,trivial⟩ trivial func120 call120 (λls r h=>by
 unfold B65 at h;split at h;exact pG (B19 · _) h λnn=>by unfold B19;simp(disch:=exact krl)only[lc2 kF (D2I ..)];kernel_rfl
 cases h)
end Go.Aev
namespace Go.Aev
open Go.Proofs
variable {I:Inv}
def C7r(hb:HB I):SP I 52 S52:=A8 E52 hb rfl ⟨D16 hb,trivial⟩ trivial func52 call52 (λls r h=>by
 unfold S52 at h;split at h;exact pG (B0Y · _) h λnn=>by unfold B0Y;simp(disch:=exact krl)only[lc2 kF (D0h ..)];kernel_rfl
 cases h)
def B2D(hb:HB I):SP I 24 S24:=A8 E24 hb rfl ⟨C7r hb,D2W hb,D1S hb,D6g hb,trivial⟩ trivial func24 call24 (λls r h=>by
 unfold S24 at h;split at h;exact pG (ZQ · _) h λnn=>by unfold ZQ;simp(disch:=exact krl)only[lc1 kF (D2z ..)];kernel_rfl
 cases h)
def D3R(hb:HB I):SB I 62 S62:=H4 E62 hb rfl trivial ⟨hb.s138,trivial⟩ func62 call62 (λls cs r h=>by
 unfold S62 at h;split at h;exact fP (ps:=[0]) h;cases h)
def M7(hb:HB I):SB I 27 Kk:=H4 E27 hb rfl trivial ⟨D3R hb,trivial⟩ func27 call27 (λls cs r h=>by
 unfold Kk at h;split at h;exact fP h (D4d NN);cases h)
def C0I(hb:HB I):SB I 139 B3h:=H4 C8m hb rfl ⟨hb.s47,trivial⟩ ⟨M7 hb,trivial⟩ func139 call139 (λls cs r h=>by
 unfold B3h at h;split at h;exact fP (ps:=[0]) h;cases h)
def B9F(hb:HB I):SP I 64 S64:=A8 E64 hb rfl trivial trivial func64 call64 (λls r h=>by
 unfold S64 at h;split at h;exact pG (B47 · _) h λnn=>by unfold B47;simp(disch:=exact krl)only[lc1 kF (C9G ..)];kernel_rfl
 cases h)
def C42(hb:HB I):SP I 190 B3E:=A8 C2A hb rfl ⟨hb.s217,trivial⟩ trivial func190 call190 (λls r h=>by
 unfold B3E at h;split at h;exact pG (B3v · _) h λnn=>by unfold B3v;simp(disch:=exact krl)only[lc2 kF (D6G ..)];kernel_rfl
 cases h)
def C9X(hb:HB I):SP I 191 B4A:=A8 D63 hb rfl trivial trivial func191 call191 (λls r h=>by
 unfold B4A at h;split at h;exact pF h;cases h)
def D5U(hb:HB I):SP I 218 B8L:=A8 D2G hb rfl trivial trivial func218 call218 (λls r h=>by
 unfold B8L at h;split at h;exact pF h;cases h)
def C6Y(hb:HB I):SP I 192 B8p:=A8 C39 hb rfl ⟨D5U hb,trivial⟩ trivial func192 call192 (λls r h=>by
 unfold B8p at h;split at h;exact pG (B1x · _) h λnn=>by unfold B1x;simp(disch:=exact krl)only[lc1 kF (C9R ..)];kernel_rfl
 cases h)
end Go.Aev
namespace Go.Aev
open Go.Proofs
def B95:Aas Aab 28=J (.slice 44):=GM
structure Ow(w0 w:World)(m:Nat->Nat)(b:Nat)(us:Gw):Prop where
 bk:Bk w b us
 mz:m b=0
 hi:w0.heap.size<=b
section
variable {w0 w w':World}{m0 m m':Nat->Nat}{S:Nat->Prop}{b:Nat}{us vs:Gw}
def Ow.keep(h:Ow w0 w m b us)(k:KM w m w' m' S)(hS:¬S b):Ow w0 w' m' b us:=⟨k.bk h.bk hS,by rw[k.mark h.bk.lt hS];exact h.mz,h.hi⟩
def D4O(vs us:Gw)(h:vs.length=us.length):P3 vs 0 us=us:=by
 unfold P3;rw[JW,Hj,List.drop_eq_nil_of_le FK,GY]
def Ow.arr{n sz:Nat}(h:Ow w0 w m b us)(hl:us.length=n*sz):ArrN w sz (.slice (J ⟨b,0,O⟩) n n) n us:=by
 obtain⟨c,e,fz,k1,k2,k3,k4⟩:=h.bk;exact⟨hl,J ⟨b,0,O⟩,n,rfl,GU _,.inr ⟨b,c,e,fz,rfl,k1,FK,FK,k4⟩⟩
def Ow.store(h:Ow w0 w m b us)(hk:KM w0 m0 w m λ_=>False)(hl:us.length=vs.length)(bR:∀v∈vs,v.oneCell'=Z):
  (storeCells ⟨b,0,O⟩ vs).run Aab w=.ok () (C7 w b 0 vs)/\Ow w0 (C7 w b 0 vs) m b vs/\KM w m (C7 w b 0 vs) m (λk=>k=b)/\KM w0 m0 (C7 w b 0 vs) m λ_=>False:=by
 obtain⟨q1,q2,q3⟩:=h.bk.store (m:=m) Aab (off:=0) (vs:=vs) FK bR h.mz hk.zero;rw[D4O us vs hl]at q2;exact⟨q1,⟨q2,h.mz,h.hi⟩,q3,hk.trans q3 λd hd e=>by subst e;have:=h.hi;omega⟩
def A8L(hk:KM w0 m0 w m λ_=>False)(us:Gw)(t:Aan):Ow w0 (w.alloc (.cells us.toArray t)) m w.heap.size us/\KM w m (w.alloc (.cells us.toArray t)) m (λ_=>False)/\KM w0 m0 (w.alloc (.cells us.toArray t)) m λ_=>False:=
 have k:=Y1 w m (.cells us.toArray t) hk.zero
 ⟨⟨Sk,hk.zero _ (GU _),hk.size⟩,k,hk.trans k λ_ _ h=>h⟩
end
def C0m{w:World}{m:Nat->Nat}{t:Ty6}{x:A2 t}{us:Gw}(h:LsC U6 w m (U6.cells t x) us):∀u∈us,u.oneCell'=Z:=λu hu=>by
 obtain⟨j,hj,rfl⟩:=II hu;have bD:j<(U6.cells t x).length:=by rw[h.len];exact hj
 obtain⟨v,h1,h2⟩:=h.get j _ (GE bD);rw[GE hj]at h1;cases h1;exact(h2.one u6_ok (u6_ok.solid t x _ (IG bD))).1
def D1j{w:World}{m:Nat->Nat}{t:Ty6}{x:A2 t}{us:Gw}(h:LsC U6 w m (U6.cells t x) us):∀u∈us,u.oneCell'=Z/\u.cells= #[u]:=λu hu=>by
 obtain⟨j,hj,rfl⟩:=II hu;have bD:j<(U6.cells t x).length:=by rw[h.len];exact hj
 obtain⟨v,h1,h2⟩:=h.get j _ (GE bD);rw[GE hj]at h1;cases h1;exact h2.one u6_ok (u6_ok.solid t x _ (IG bD))
def C0O{w:World}{m:Nat->Nat}{t:Ty6}{x:A2 t}{v:Value}(h:CRep U6 w m (.agg t x) v):∃us:Gw,v=.agg us.toArray/\LsC U6 w m (U6.cells t x) us/\us.length=U6.size t:=by
 obtain⟨us,h1,h2⟩:=B8P h;exact⟨us,h1,h2,by rw[<-h2.len,u6_ok.len]⟩
section
variable {P:Aat}{ops:Array Oper}{Q:Exit->Act->World->Prop}{S:World->Prop}{a:Act}{w:World}{o o':Oper}
def D62{listed:Array Bool}{fuel i j:Nat}(hr:Aaj .any ops listed=[i,j])(hi:ops[i]?=J o)(hj:ops[j]?=J o')(hg:o.guard=O)(sY:o'.guard=O)
  (h:∀K:Act->World->Prop,(∀a' w',S w'->Aap P .any ops (H6 Q) S fuel (listed.setIfInBounds i Z) a' w'->K a' w')->o.wp P a w K (H6 Q))
  (h':∀K:Act->World->Prop,(∀a' w',S w'->Aap P .any ops (H6 Q) S fuel (listed.setIfInBounds j Z) a' w'->K a' w')->o'.wp P a w K (H6 Q)):Aap P .any ops (H6 Q) S (fuel+1) listed a w:=by
 refine wpAnyH_all hr GN λk hk=>?_;rcases HC.1 hk with rfl|hk
 unfold Go.wpOp;simp only[hi];rw[GJ (by simp[Aax,hg])];exact .inl (h _ λa' w' h1 h2=>⟨h1,h2⟩);rcases HW.1 hk with rfl;unfold Go.wpOp;simp only[hj];rw[GJ (by simp[Aax,sY])];exact .inl (h' _ λa' w' h1 h2=>⟨h1,h2⟩)
end
def B6K(w0:World)(m0:Nat->Nat)(r0:I6)(f0:T5)(Q:Exit->Act->World->Prop):Prop:=
 ∀a w m b1 b2 u1 u2,Tm a 34 [(4,.pointer (J ⟨b1,0,O⟩)),(5,.pointer (J ⟨b2,0,O⟩))]->Bk w b1 u1->Bk w b2 u2->LsC U6 w m (U6.cells .doc r0) u1->LsC U6 w m (U6.cells .fault f0) u2->KM w0 m0 w m (λ_=>False)->Q .ret a w
variable {I:Inv}{w0 w:World}{m0 m:Nat->Nat}{r0:I6}{f0:T5}{Q:Exit->Act->World->Prop}{a:Act}
def D3g:LsC U6 w m (U6.cells .doc (⟨[]⟩:I6)) [.slice O 0 0]:=⟨.nil _ _ _ _,trivial⟩
def C3O{k:Int}{p:A4}{b1 b2 ab:Nat}(hQ:B6K w0 m0 ⟨[]⟩ ⟨k,[p],[]⟩ Q)(hk:KM w0 m0 w m λ_=>False)(h1:Ow w0 w m b1 [.slice O 0 0])(h2:Ow w0 w m b2 [.int .i64 k,.slice (J ⟨ab,0,O⟩) 1 1,.slice O 0 0])(h3:Ow w0 w m ab (H7 p))
  (tm:Tm a 34 [(4,.pointer (J ⟨b1,0,O⟩)),(5,.pointer (J ⟨b2,0,O⟩))]):Q .ret a w:=by
 obtain⟨m',cE,oG⟩:=B2b (U:=U6) (m:=m) u6_ok (t:=.pos) (l:=[p]) (h3.arr (n:=1) rfl) rfl (λj lf hj=>by
  match j,hj with
  |0,hj=>cases hj;exact⟨_,rfl,.int _ _⟩
  |1,hj=>cases hj;exact⟨_,rfl,.int _ _⟩) (λb hb=>by rw[X7 GO]at hb;cases hb;exact h3.mz) hk.zero
 exact hQ _ _ _ _ _ _ _ tm h1.bk h2.bk D3g ⟨.int _ _,cE,.nil _ _ _ _,trivial⟩ (hk.trans oG λd hd e=>by rw[X7 GO]at e;cases e;have:=h3.hi;omega)
def D0b{T:Gu}{j:Nat}{k:Int}{t:A0}{b1 b2:Nat}{vt:Value}(hT:T[j]?=J t)(hQ:B6K w0 m0 ⟨[]⟩ ⟨k,[t.pos],[]⟩ Q)(hk:KM w0 m0 w m λ_=>False)(h1:Ow w0 w m b1 [.slice O 0 0])(h2:Ow w0 w m b2 [.int .i64 0,.slice O 0 0,.slice O 0 0])(aP:b1≠b2)(ht:CRep U6 w m (.sl .tok T O) vt)
  (tm:Tm a 34 [(4,.pointer (J ⟨b1,0,O⟩)),(5,.pointer (J ⟨b2,0,O⟩)),(6,vt),(8,.int .i64 (j:Int)),(9,.int .i64 k)]):(C0 Aar [1,1,1,1,0,1,0]).wp Aab Q a w:=by
 refine wsq rfl ?_;obtain⟨tb,nj,rH,nV,sp⟩:=Xn ht hT;have hj:j<T.length:=(HN.1 hT).1;refine B3V (S:=λw'=>∀(i:Nat) u,(P7 t)[i]?=J u->w'.cell? ⟨tb,nj+j*7+i,O⟩=J u) rfl 6 11 rfl rfl ?_;have kd:=Vi hk.zero;have hk:=hk.trans kd λ_ _ h=>h;have h1:=h1.keep kd (λh=>h);have h2:=h2.keep kd (λh=>h);have ht:=ht.mono u6_ok kd.ext;obtain⟨Fp,uZ,u7,nk,oJ⟩:=Xn ht hT;rw[nV]at nk;cases nk;generalize ({w with drawn:=w.drawn+1}:World)=w at hk h1 h2 ht oJ ⊢;clear kd sp;have HS:=oJ;have oC:∀{w' m'},CRep U6 w' m' (.sl .tok T O) vt->∀(i:Nat) u,(P7 t)[i]?=J u->w'.cell? ⟨tb,nj+j*7+i,O⟩=J u:=λh=>by
  obtain⟨Fp,uZ,u7,nk,oJ⟩:=Xn h hT;rw[nV]at nk;cases nk;exact oJ
 refine Dt tm 0 rfl (by exact HS) (λw hS=>Sh tm rfl rfl (cs:= #[.slice O 0 0]) GM) λa tm=>?_;refine Dt tm 1 rfl (by exact HS) (λw hS=>Z9 tm) λa tm=>?_;refine Dt tm 2 rfl (by exact HS) (λw hS=>Z9 tm) λa tm=>?_;refine Dt tm 3 rfl (by exact HS) (λw hS=>Z9 tm) λa tm=>?_;refine Dt tm 4 rfl (by exact HS) (λw hS=>Ly tm B1M Z3 rfl rfl nV rfl rfl hj) λa tm=>?_;refine Dt tm 5 rfl (by exact HS) (λw hS=>U7 tm B2o) λa tm=>?_;refine Dt tm 6 rfl (by exact HS) (λw hS=>Lz tm A8w Lh rfl rfl (us:=H7 t.pos) rfl (λi u hi=>by
  rw[If];exact hS (1+i) u (by match i,hi with|0,hi=>exact hi|1,hi=>exact hi))) λa tm=>?_
 have one1:∀v∈[Aao O 0 0],v.oneCell'=Z:=λv hv=>by simp only[HC,Hh,or_false]at hv;rcases hv with rfl;rfl
 refine D62 (i:=7) (j:=9) GM rfl rfl rfl rfl (λK hK=>?_) (λK hK=>?_);obtain⟨h3,k3,jh⟩:=A8L hk (H7 t.pos) 44;refine OQ tm B95 Lh rfl rfl rfl rfl rfl (us:=H7 t.pos) rfl rfl rfl GO GO λa tm=>hK _ _ (oC (ht.mono u6_ok k3.ext)) ?_;have e1:w.heap.size≠b1:=λe=>by have:=h1.bk.lt;omega
 have e2:w.heap.size≠b2:=λe=>by have:=h2.bk.lt;omega
 have h1:=h1.keep k3 (λh=>h);have h2:=h2.keep k3 (λh=>h);have ht:=ht.mono u6_ok k3.ext;generalize w.heap.size=ab at*;generalize (w.alloc (.cells (H7 t.pos).toArray 44))=w at*;refine Dt tm 8 rfl (by exact oC ht) (λw hS=>B7H tm rfl rfl rfl rfl (cs:= #[.int .i64 k,.slice (J ⟨ab,0,O⟩) 1 1,.slice O 0 0]) GM) λa tm=>?_;refine Sj (i:=9) GM rfl rfl λK hK=>?_;obtain⟨q1,h1,q3,hk⟩:=h1.store jh (vs:=[.slice O 0 0]) rfl one1;have ht:=ht.mono u6_ok q3.ext;refine OR tm B0s rfl rfl rfl rfl (us:=[.slice O 0 0]) rfl rfl q1 (hK _ _ (oC ht) ?_);have h2:=h2.keep q3 (λe=>aP e.symm);have h3:=h3.keep q3 e1;generalize (C7 w b1 0 [.slice O 0 0])=w at*;refine Sj (i:=10) GM rfl rfl λK hK=>?_;obtain⟨q1,h2,q3,hk⟩:=h2.store hk (vs:=[.int .i64 k,.slice (J ⟨ab,0,O⟩) 1 1,.slice O 0 0]) rfl (λv hv=>by simp only[HC,Hh,or_false]at hv;rcases hv with rfl|rfl|rfl<;>rfl);refine OR tm A9X rfl rfl rfl rfl (us:=[.int .i64 k,.slice (J ⟨ab,0,O⟩) 1 1,.slice O 0 0]) rfl rfl q1 (hK _ _ (oC (ht.mono u6_ok q3.ext)) ?_);refine Yg GM ?_ _;show(C0 _ _).wp _ _ _ _;exact Mq rfl (C3O hQ hk (h1.keep q3 aP) h2 (h3.keep q3 e2) (tm.sub ⟨rfl,rfl,trivial⟩))
 obtain⟨q1,gF,q3,hk⟩:=h1.store hk (vs:=[.slice O 0 0]) rfl one1;have ht:=ht.mono u6_ok q3.ext;refine OR tm B0s rfl rfl rfl rfl (us:=[.slice O 0 0]) rfl rfl q1 (hK _ _ (oC ht) ?_);have h2:=h2.keep q3 (λe=>aP e.symm);clear h1;generalize (C7 w b1 0 [.slice O 0 0])=w at*;refine Sj (i:=7) GM rfl rfl λK hK=>?_;obtain⟨h3,k3,jh⟩:=A8L hk (H7 t.pos) 44;refine OQ tm B95 Lh rfl rfl rfl rfl rfl (us:=H7 t.pos) rfl rfl rfl GO GO λa tm=>hK _ _ (oC (ht.mono u6_ok k3.ext)) ?_;have e1:w.heap.size≠b1:=λe=>by have:=gF.bk.lt;omega
 have e2:w.heap.size≠b2:=λe=>by have:=h2.bk.lt;omega
 have h1:=gF.keep k3 (λh=>h);have h2:=h2.keep k3 (λh=>h);have ht:=ht.mono u6_ok k3.ext;clear gF;generalize w.heap.size=ab at*;generalize (w.alloc (.cells (H7 t.pos).toArray 44))=w at*;refine Dt tm 8 rfl (by exact oC ht) (λw hS=>B7H tm rfl rfl rfl rfl (cs:= #[.int .i64 k,.slice (J ⟨ab,0,O⟩) 1 1,.slice O 0 0]) GM) λa tm=>?_;refine Sj (i:=10) GM rfl rfl λK hK=>?_;obtain⟨q1,h2,q3,hk⟩:=h2.store jh (vs:=[.int .i64 k,.slice (J ⟨ab,0,O⟩) 1 1,.slice O 0 0]) rfl (λv hv=>by simp only[HC,Hh,or_false]at hv;rcases hv with rfl|rfl|rfl<;>rfl);refine OR tm A9X rfl rfl rfl rfl (us:=[.int .i64 k,.slice (J ⟨ab,0,O⟩) 1 1,.slice O 0 0]) rfl rfl q1 (hK _ _ (oC (ht.mono u6_ok q3.ext)) ?_);refine Yg GM ?_ _;show(C0 _ _).wp _ _ _ _;exact Mq rfl (C3O hQ hk (h1.keep q3 aP) h2 (h3.keep q3 e2) (tm.sub ⟨rfl,rfl,trivial⟩))
def D5o(hb:HB I)(hI:I w0 m0)(hz:∀b,w0.heap.size<=b->m0 b=0){src:Gp}{depth:Int}{rJ:Value}(hs:CRep U6 w0 m0 (.sl .u8 src O) rJ)(hP:F8 src depth=J (.tup [.agg .doc r0,.agg .fault f0]))(tm:Tm a 34 [(0,rJ),(1,.int .i64 depth)])
  (hQ:B6K w0 m0 r0 f0 Q):(C0 Aar []).wp Aab Q a w0:=by
 unfold F8 at hP;cases ze:okR [.sl .tok (J 1)] (Km src)with
 |false=>rw[ze]at hP;cases hP
 |true=>
  rw[ze,GD]at hP;cases iN:W0 (T8 (gL (Km src) 0)).length with
 |false=>rw[iN]at hP;cases hP
 |true=>
  rw[iN,GD]at hP;split at hP
  rotate_left
  cases hP;rename_i d j k Fq;have ve:NY (T8 (gL (Km src) 0)) (Le depth)=J (.tup [.agg .tree d,.int .i64 (j:Int),.int .i64 k]):=by
   unfold NY;rw[iN,GD,Fq]
  generalize hT:T8 (gL (Km src) 0)=T at hP ve;have zf:S25 [.sl .tok T O,.int .i64 (Le depth)]=J (Z,.tup [.agg .tree d,.int .i64 (j:Int),.int .i64 k]):=by
   show J (okR _ (NY T (Le depth)),O9 _ (NY T (Le depth)))=_;rw[ve];rfl
  have dK:=KM.refl w0 m0 (λ_=>False) hz;refine wsq rfl ?_;obtain⟨h1,k1,eR⟩:=A8L dK [.slice O 0 0] 26;refine C5 0 2 rfl rfl ?_;refine Aae rfl λK hK=>Qa tm B0s rfl rfl rfl λa tm=>hK _ _ ?_;clear dK;generalize w0.heap.size=b1 at*;generalize (w0.alloc (.cells [Aao O 0 0].toArray 26))=w at*;obtain⟨h2,k2,hk⟩:=A8L eR [.int .i64 0,.slice O 0 0,.slice O 0 0] 31;refine Aae rfl λK hK=>Qa tm A9X rfl rfl rfl λa tm=>hK _ _ ?_;have aP:b1≠w.heap.size:=λe=>by have:=h1.bk.lt;omega
  have h1:=h1.keep k2 (λh=>h);generalize w.heap.size=b2 at*;generalize (w.alloc (.cells [Value.int .i64 0,.slice O 0 0,.slice O 0 0].toArray 31))=w at*;clear k1 k2 eR;refine Wn ?_;refine wsq rfl ?_;have ao:∀a,Tm a 34 [(0,rJ),(1,.int .i64 (Le depth)),(4,.pointer (J ⟨b1,0,O⟩)),(5,.pointer (J ⟨b2,0,O⟩))]->(C0 Aar [1,1]).wp Aab Q a w:=λa tm=>by
   refine wsq rfl ?_;refine C5 3 3 rfl rfl ?_;refine Pm tm λa tm=>?_;refine Aae rfl λK hK=>MA tm rfl rfl rfl (B2D hb).enter rfl (Vh tm rfl rfl) (Mr (B2D hb) (ls:=[.sl .u8 src O]) (Nz (r:=.one (.sl .tok T (J 1))) (by rw[<-hT];rfl) ze) (hb.mono _ _ _ _ hI hk.ext) hk.zero ⟨hs.mono u6_ok hk.ext,trivial⟩ rfl) ?_;rintro e w1 ⟨vt,m1,rfl,k1,e1⟩;have ht:CRep U6 w1 m1 (.sl .tok T O) vt:=CRep.own e1 O;clear e1;refine⟨_,rfl,λa tm=>hK _ _ ?_⟩;refine Pa tm λa tm=>?_;refine Wn ?_;have hk:=hk.trans k1 λ_ _ h=>h;have h1:=h1.keep k1 (λh=>h);have h2:=h2.keep k1 (λh=>h);clear k1 hs;have tm:=tm.keep [1,4,5,6];refine wsq rfl ?_;refine C5 4 11 rfl rfl ?_;refine Pm tm λa tm=>?_;refine Pm tm λa tm=>?_;refine Aae rfl λK hK=>MA tm rfl rfl rfl (B4f hb).enter rfl (B1t tm rfl rfl rfl) (Mr (B4f hb) (ls:=[.sl .tok T O,.int .i64 (Le depth)]) (r:=.tup [.agg .tree d,.int .i64 (j:Int),.int .i64 k]) (Nz zf rfl) (hb.mono _ _ _ _ hI hk.ext) hk.zero ⟨ht,.int _ _,trivial⟩ rfl) ?_;rintro e w2 ⟨v2,m2,rfl,k1,vs,rfl,e1⟩;have hk:=hk.trans k1 λ_ _ h=>h;have h1:=h1.keep k1 (λh=>h);have h2:=h2.keep k1 (λh=>h);have ht:=ht.mono u6_ok k1.ext;clear k1
   match vs,e1 with
   |[x,y,z],⟨e1,e2,e3,_⟩=>
    obtain rfl:=CRep.int_inv e2;obtain rfl:=CRep.int_inv e3;obtain⟨ud,rfl,hu,qR⟩:=C0O e1;clear e1 e2 e3;refine⟨_,rfl,λa tm=>hK _ _ ?_⟩;refine Pm tm λa tm=>?_;refine Pv tm (Ye tm (vs:=[.agg ud.toArray,.int .i64 (j:Int),.int .i64 k])) λa tm=>?_;refine Pv tm (Ye tm (vs:=[.agg ud.toArray,.int .i64 (j:Int),.int .i64 k])) λa tm=>?_;refine Pv tm (Ye tm (vs:=[.agg ud.toArray,.int .i64 (j:Int),.int .i64 k])) λa tm=>?_;refine Aae rfl λK hK=>Qa tm Ny rfl rfl rfl λa tm=>hK _ _ ?_;obtain⟨h3,k1,hk⟩:=A8L hk [.slice O 0 0,.slice O 0 0] 97;have n1:b1≠w2.heap.size:=λe=>by have:=h1.bk.lt;omega
    have n2:b2≠w2.heap.size:=λe=>by have:=h2.bk.lt;omega
    have h1:=h1.keep k1 (λh=>h);have h2:=h2.keep k1 (λh=>h);have ht:=ht.mono u6_ok k1.ext;have hu:=hu.mono u6_ok k1.ext;generalize w2.heap.size=b3 at*;generalize (w2.alloc (.cells [Aao O 0 0,.slice O 0 0].toArray 97))=w2 at*;obtain⟨q1,h3,k1,hk⟩:=h3.store hk (vs:=ud) (by rw[qR];rfl) (C0m (t:=.tree) hu);refine Ps tm Ny q1 ?_ (hl:=qR);have h1:=h1.keep k1 n1;have h2:=h2.keep k1 n2;have ht:=ht.mono u6_ok k1.ext;have hu:=hu.mono u6_ok k1.ext;clear q1 k1;refine Pa tm λa tm=>?_;refine Pa tm λa tm=>?_;refine Wn ?_;have tm:=tm.keep [4,5,6,7,8,9];refine wsq rfl ?_;refine wsq rfl ?_;refine C5 5 2 rfl rfl ?_;refine Pm tm λa tm=>?_;refine Pv tm (D4P tm) λa tm=>?_;refine Wn ?_;refine wcn tm rfl _ rfl ?_;unfold B1k at hP;cases py:k !=0 with
   |true=>
    rw[py,GD]at hP;rw[GJ rfl];cases hj:T[j]? with
    |none=>rw[hj]at hP;cases hP
    |some t=>
     rw[hj]at hP;cases hP;exact D0b hj hQ hk h1 h2 aP ht (tm.sub ⟨rfl,rfl,rfl,rfl,rfl,trivial⟩)
   |false=>
    rw[py]at hP;rw[GI GN];refine M2 rfl ?_;cases zg:okB [.agg .doc] kN (Od d.nodes d.toks)with
    |false=>rw[zg]at hP;cases hP
    |true=>
     rw[zg]at hP;cases hP;show(C0 _ _).wp _ _ _ _;refine wsq rfl ?_;refine C5 7 4 rfl rfl ?_;refine Aae rfl λK hK=>MA tm rfl rfl rfl (C3U hb).enter rfl (Vh tm rfl rfl) (D1p (C3U hb) (ls:=[]) (vs:=[]) (c:=U6.cells .tree d) (C9g (b:=okB [.agg .doc] kN (Od d.nodes d.toks)) (r:=([.agg .doc (YZ (gB (Od d.nodes d.toks) 0))],csR kN (Od d.nodes d.toks))) rfl zg) (hb.mono _ _ _ _ hI hk.ext) hk.zero trivial rfl h3.bk (D1j (t:=.tree) hu) (by rw[qR];decide) h3.mz hu rfl) ?_;rintro e w3 ⟨m3,rv,Gl,rfl,k1,_,_,_,_,_,e1⟩;have hk:=hk.trans k1 λd hd e=>by subst e;have:=h3.hi;omega
     have h1:=h1.keep k1 n1;have h2:=h2.keep k1 n2;clear k1
     match rv,e1 with
    |[x],⟨e1,_⟩=>
     obtain⟨ux,rfl,hx,sE⟩:=C0O e1;clear e1;refine⟨_,rfl,λa tm=>hK _ _ ?_⟩;refine Pv tm (Sh tm rfl rfl (cs:= #[.int .i64 0,.slice O 0 0,.slice O 0 0]) GM) λa tm=>?_;obtain⟨q1,h1,k1,hk⟩:=h1.store hk (vs:=ux) (by rw[sE];rfl) (C0m (t:=.doc) hx);refine Ps tm B0s q1 ?_ (hl:=sE);have h2:=h2.keep k1 (λe=>aP e.symm);have hx:=hx.mono u6_ok k1.ext;clear q1 k1;obtain⟨q1,h2,k1,hk⟩:=h2.store hk (vs:=[.int .i64 0,.slice O 0 0,.slice O 0 0]) rfl (λv hv=>by simp only[HC,Hh,or_false]at hv;rcases hv with rfl|rfl|rfl<;>rfl);refine Ps tm A9X q1 ?_;have h1:=h1.keep k1 aP;have hx:=hx.mono u6_ok k1.ext;refine Wn ?_;exact Mq rfl (hQ _ _ _ _ _ _ _ (tm.sub ⟨rfl,rfl,trivial⟩) h1.bk h2.bk hx ⟨.int _ _,.nil _ _ _ _,.nil _ _ _ _,trivial⟩ hk)
  refine wsq rfl ?_;refine C5 1 2 rfl rfl ?_;refine Pm tm λa tm=>?_;refine Pv tm (B2c tm) λa tm=>?_;refine Wn ?_;refine wcn tm rfl _ rfl ?_;unfold Le at ao;cases hd:decide (200<depth)with
 |true=>
  rw[hd]at ao;rw[GJ rfl];refine C5 2 1 rfl rfl ?_;refine Pa tm λa tm=>?_;exact Aag (ao _ (tm.sub ⟨rfl,rfl,rfl,rfl,trivial⟩))
 |false=>
  rw[hd]at ao;rw[GI GN];refine M2 rfl ?_;exact ao _ (tm.sub ⟨rfl,rfl,rfl,rfl,trivial⟩)
def C8X(hb:HB I):Sound Aab U6 I 8 (sG S8):=by
 refine⟨call8,λls r hr=>?_⟩;unfold sG S8 at hr;split at hr;rename_i src depth;obtain⟨h1,h2⟩:=ON hr;have hF:∃x f,F8 src depth=J (.tup [.agg .doc x,.agg .fault f]):=⟨_,_,C0y h1 rfl⟩;obtain⟨x,f,hF⟩:=hF;intro w0 g vs hI hz anq _ _
 match vs,anq with
 |[v1,v2],⟨e1,e2,_⟩=>
  obtain rfl:=CRep.int_inv e2.1;refine calls_of_wp func8 (show Tryz.f8.body=J (C0 Aar [])from GM) ?_;refine D5o hb hI hz e1.1 hF (C4j (vs:=[v1,.int .i64 depth]) (show 2<=34 from GO) λi v h=>?_) λa w m b1 b2 u1 u2 tm ob dM BJ rL hk=>?_
  unfold T2 at h
  match i,h with
  |0,h=>cases h;rfl
  |1,h=>cases h;rfl
  have oc:u1.length=1:=by rw[<-BJ.len];rfl
  have js:u2.length=3:=by rw[<-rL.len];rfl
  refine⟨tm.dfr,.tuple #[.agg u1.toArray,.agg u2.toArray],?_,_,{g with wm:=m},rfl,?_⟩;have h4:=tm.get 4 _ rfl;have h5:=tm.get 5 _ rfl;have pi:(loadVar 26 ⟨b1,0,O⟩).run Aab w=.ok (.agg u1.toArray) w:=Yf D2X B0s oc (λj u hj=>by rw[HL];exact ob.cell hj);have oA:(loadVar 31 ⟨b2,0,O⟩).run Aab w=.ok (.agg u2.toArray) w:=Yf C6v A9X js (λj u hj=>by rw[HL];exact dM.cell hj);exact VS Aab Aar a w [.cell 4 26,.cell 5 31] GM (vs:=[.agg u1.toArray,.agg u2.toArray]) (λf hf=>by
   simp[hf.tmp,hf.cell,h4,h5,asAddr,pi,oA])
  rw[<-h2,hF];exact B4S (ls:=[.agg .doc x,.agg .fault f]) (vs:=[.agg u1.toArray,.agg u2.toArray]) hk (λ_ h=>h.elim) ⟨Xm BJ,Xm rL,trivial⟩ rfl _ rfl
 cases hr
end Go.Aev
section
namespace Go.Aev
open Go.Proofs
def OA{P:Aat}{T f:Nat}{ie:TypeInfo}{me:Method}{v v1 v2:Value}{w:World}(hi:P.info? T=J ie)(hm:ie.methods= #[me])(hn:me.name= "pergola/printer.print")(hp:me.path= #[])(hf:me.func=J (f,V))
  (hu:(match P.underlying T with|J (.struct _)=>Z|_=>V)=Z)(hc:∀args w,(callFunc f args).run P w=.ok (.enter f args) w):
  (invoke (.fn (.method "pergola/printer.print") #[]) #[.iface T v,v1,v2]).run P w=.ok (.enter f #[v,v1,v2]) w:=by
 have hd:∃n,P.types.size+Aa7=n+1:=⟨P.types.size+Aa7 - 1,by unfold Aa7;omega⟩;obtain⟨n,iC⟩:=hd;split at hu;rename_i fs eT;simp[invoke,callMethod,iC,method,typeInfo,hi,hm,hn,hp,hf,follow,receiverAt,run_underlying eT,Place.get,hc];cases hu
end Go.Aev
namespace Go.Aev
open Go.Proofs
def OB{I:Inv}(hb:HB I){w:World}{m:Nat->Nat}(hI:I w m){x:PartT}{T f:Nat}{t:Ty6}{y:A2 t}{a2:Int}{cs:Gz}{rs:Gt}{ay:Gz}
  (hx:Kz .part x=[.ifc T t y])(af:∀v v1 v2 w,(invoke (.fn (.method "pergola/printer.print") #[]) #[.iface T v,v1,v2]).run Aab w=.ok (.enter f #[v,v1,v2]) w)
  (hc:T3 Aab U6 I f [.agg t y,.ptr 900000 0,.int .i64 a2] cs rs ay):
  SO Aab U6 ⟨w,m,λ_=>False,0,λ_=>undef⟩ "pergola/printer.print" [.one1 .part x,.ptr 900000 0,.int .i64 a2] cs rs ay:=by
 intro w1 g1 vs hl
 match vs,hl with
 |[v0,v1,v2],hl=>
  obtain⟨h0,h1,h2,_⟩:=hl;have il:=h0.1;cases il with
  |one1 _ _ lf _ cE fR=>
   have dw:lf=.ifc T t y:=by
    have:[lf]=[Leaf.ifc T t y]:=by rw[<-hx];exact cE.symm
    exact(List.cons.inj this).1
   subst dw;cases fR with
   |ifc _ _ _ v' dE=>
    refine⟨f,[.agg t y,.ptr 900000 0,.int .i64 a2],[v',v1,v2],af v' v1 v2 w1,⟨⟨dE,λ_ _ _ e=>(by cases e),λ_ _ e=>(by cases e)⟩,h1,h2,trivial⟩,λlf dw d hd=>?_,?_⟩;simp only[HC,Hh,or_false]at dw;rcases dw with rfl|rfl|rfl;cases hd;exact⟨.ptr 900000 0,GN,hd⟩;cases hd;intro w2 g2 kQ zh dC;exact hc w2 g2 kQ zh (hb.mono _ _ _ _ hI dC)
 |[],hl=>exact hl.elim
 |[_],hl=>exact hl.2.elim
 |[_,_],hl=>exact hl.2.2.elim
 |_::_::_::_::_,hl=>exact hl.2.2.2.elim
end Go.Aev
end
