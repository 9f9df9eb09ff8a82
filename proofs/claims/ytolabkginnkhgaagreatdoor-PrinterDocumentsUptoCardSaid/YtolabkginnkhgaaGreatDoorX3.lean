/- Proved here: lemmas that the claim's text uses. Conditions: those that each lemma states. -/
import Derived.Test.YtolabkginnkhgaaGreatDoorX2
set_option maxRecDepth 100000
set_option linter.unusedVariables false
set_option linter.unusedSimpArgs false
set_option linter.defProp false
open List renaming length→Ew,length_append→Fa,length_cons→Ff,length_nil→Fg,append_assoc→Fk,replicate→Ft,length_replicate→Fx,getElem_mem→Fy,getElem?_eq_getElem→Fz,drop_zero→Ga,drop_length→Gb,drop_eq_getElem_cons→Gc,map_cons→Hn,flatMap_cons→Ho,take_of_length_le→Hv,map→Hw,all_eq_true→Hx,mem_cons_self→Ie,length_pos_iff→If,length_map→Ig,all_append→Ih,take_succ_eq_append_getElem→Io,range→Ip,mem_cons_of_mem→Iq,map_append→Ir,flatten_cons→Is,flatMap_append→It,count_le_length→Iu,append_nil→Iv
open Go.IntKind renaming wrap→Ey
open Go.Proofs.Tryz renaming prog→Ez,f54→Fh,f34→Fl,f148→Fm,f147→Fo,f123→Fp,f45→Fq,f44→Fs,f216→Fw,f9→Gf,f77→Gg,f74→Gi,f71→Gj,f69→Gk,f67→Gl,f64→Gm,f63→Gn,f61→Gp,f59→Gq,f53→Gr,f49→Gt,f26→Gu,f213→Gv,f211→Gw,f209→Gx,f185→Gy,f182→Gz,f178→Ha,f174→Hb,f149→Hc,f146→He,f145→Hf,f142→Hg,f135→Hh,f133→Hi,f132→Hj,f125→Hk,f122→Hl,f10→Hm,f72→Hq,f68→Hr,f27→Hs,f24→Ht,f143→Hu,f163→Hz,f155→Ia
open Nat renaming beq→Fb,lt_succ_self→Fc,le_refl→Fu,zero_le→Ib,eq_of_beq_eq_true→Ic,le_trans→Im
open Go renaming FuncId→Fe,callFunc→Fi,TypeId→Ge
open UInt8 renaming toNat→Fj,ofNat→Hy
open Bool renaming and_eq_true→Fv
open Int renaming tdiv→Hp,tmod→Ii
open Go.Lib renaming repeatL→Ij,decodeGo→Iw
open Go.RowKit.Below renaming refl→Ik
open Prod.mk renaming inj→Il
open ByteArray renaming mk→Ix
open Option.some renaming injEq→Iy,inj→Iz
namespace Go.Aev.Bv
open Go.Proofs Go.Lib
def okC(c:Int):Bool:=M6 c&& !(c==13)
def B6J{cs:DS}(h:cs.all okC=true):cs.all A8i=true:=Hx.2 λx hx=>by
 have:=Hx.1 h x hx;unfold okC at this;simp only[Fv]at this;exact this.2
def B7G{cs:DS}(h:cs.all okC=true):cs.all D2=true:=Hx.2 λx hx=>by
 have:=Hx.1 h x hx;unfold okC at this;simp only[Fv]at this;exact C2U this.1
def B1W(s:DT):btF s=if s=[]then([34,34,34,34,34,34],true)else if(C3 s).2<s.length then([],false)else if !(C3 s).1.all okC then([],false)else if !U7 (B5 (C3 s).1)then([],false)else(B7 (btC (C3 s).1),true):=rfl
def C0M{s:DT}(aC:s≠[])(h:¬(C3 s).2<s.length):(C3 s).1≠[]:=λe=>by
 obtain⟨d1,d2,d3,d4⟩:=decF_enc _ s (Fu _);rw[e,A8Z,Hv Du]at d1;exact aC d1.symm
def B72{cs:DS}{p:Int->Bool}{i:Nat}(h:i<cs.length):(cs.take (i+1)).all p=((cs.take i).all p&&p cs[i]):=by
 rw[Io h,Ih];simp
def B1R{cs:DS}{p:Int->Bool}{i:Nat}(h:i<cs.length)(hp:p cs[i]=false):cs.all p=false:=by
 cases ha:cs.all p with
 |false=>rfl
 |true=>rw[B2T ha h]at hp;cases hp
def C3t{cs:DS}(hl:smL cs=true){pre:DS}(mS:pre.length<=4)(hv:cs.all okC=true)(Ch:pre.all D2=true)(n:Nat)(hn:cs.length<n):
  C8 (lbC K5 (A2 Ia [1,1,1,1,1,1,1,1,1,0,1,0,0]) 10019 n) n (A3J cs pre 0) (A7 2 (C1 (B2 K5 n (A2 Ia [1,1,1,1,1,1,1,1,1,1])) (B3 K5 Tryz.f155.results.toList)))=
   some (.tup [.str (B7 (pre++maskF cs++[10,34,34,34])),.bool true]):=by
 have av:=A0w hl;refine(I8 (λp:DS×Nat=>A3J cs p.1 p.2) (λp=>p.1.length<=4+2*p.2/\p.2<=cs.length/\p.1++maskF (cs.drop p.2)=pre++maskF cs) (λp=>cs.length - p.2) (λp=>(some (.tup [.str (B7 (pre++maskF cs++[10,34,34,34])),.bool true]):DU)) ?_ n (pre,0) ⟨Er,Eo,rfl⟩ Er);rintro⟨out,i⟩ ⟨h1,h2,h3⟩ K bw bX bf;dsimp only at h1 h2 h3 bf ⊢;rw[D33];by_cases h:i<cs.length
 ·have hd:=U4 h;have hw:Ey .i64 (Ey .i64 ((i:Int)+2)+1)=((i+3:Nat):Int):=by
   rw[Q5 (n:=(i:Int)+2) Du Du,Q5 Du Du];omega
  rw[Ei (Du:(i:Int)<(cs.length:Int)),Eg,A75 Du,D6 h,J3 Du,G4.2 Du,G4.2 Du,hw];dsimp only;rw[D6h (A9o hl)];cases hq:K3 (cs.drop i)with
  |true=>
   obtain⟨r,hr⟩:=A1R.1 hq;have fU:cs.drop (i+3)=r:=by
    have:=congrArg (List.drop 3) hr;simpa using this
   have qE:i+3<=cs.length:=by
    have:=congrArg Ew hr;rw[List.length_drop]at this;simp at this;omega
   refine bf (out++[92,34,34,34],i+3) ⟨Es,Er,?_⟩ Er;dsimp only;rw[fU, <-h3,hr,B6g];simp
  |false=>
   refine bf (out++[cs[i]],i+1) ⟨Es,Er,?_⟩ Er;dsimp only;rw[<-h3];rw[hd]at hq ⊢;rw[A98 hq];simp
 ·rw[List.drop_eq_nil_of_le Du,show maskF []=[]from rfl,Iv]at h3;rw[Ej (Du:¬(i:Int)<(cs.length:Int)),Eh,bw,D5c];have bL:(out++[10,34,34,34]).all D2=true:=by
   rw[h3,Ih,Ih,Ch,C3n Ep cs (B7G hv)];decide
  rw[G4.2 Du,V9.2 (by rw[Fa];simp only[Ff,Fg];omega),A8P bL,h3];rfl
def C4E{s:DT}(hs:smS s=true):smL (C3 s).1=true:=by
 have av:=A7s.1 hs;obtain⟨d1,d2,d3,d4⟩:=decF_enc _ s (Fu _);exact A8m.2 Du
def B6t{cs:DS}(hl:smL cs=true):M3 (B5 cs)=true/\1<=(B5 cs).length:=by
 have av:=A0w hl;have ht:=A82 cs;refine⟨C3g Du Du,?_⟩;have:=B7g cs [];have h0:0<(B5 cs).length:=If.2 this;omega
def C9j(s:DT)(hs:smS s=true)(n:Nat)(hn:s.length<n):A5 K5 n Ia [.str s]=some (.tup [.str (btF s).1,.bool (btF s).2]):=by
 have av:=A7s.1 hs;obtain⟨d1,d2,d3,d4⟩:=decF_enc _ s (Fu _);rw[B23,hs,B1W];by_cases aC:s=[]
 ·subst aC;rfl
 have mK:(s==[])=false:=by simp[aC]
 rw[mK,Ek aC];by_cases hd:(C3 s).2<s.length
 ·rw[Ei (Du:(((C3 s).2:Nat):Int)<(s.length:Int)),El hd];rfl
 ·rw[Ej (Du:¬(((C3 s).2:Nat):Int)<(s.length:Int)),Ek hd];show C8 _ n _ _=_;have jk:=C0M aC hd;have gz:=C4E hs;obtain⟨im,jV⟩:=B6t gz;generalize (C3 s).1=cs at d2 d4 jk gz im jV;refine(I8 (λi:Nat=>A7q cs cs (cs.length:Int) i) (λi=>i<=cs.length/\(cs.take i).all okC=true) (λi=>cs.length - i) (λi=>(some (.tup [.str (if !cs.all okC then([],false)else if !U7 (B5 cs)then([],false)else(B7 (btC cs),true)).1,.bool (if !cs.all okC then(([]:DT),false)else if !U7 (B5 cs)then([],false)else(B7 (btC cs),true)).2]):DU)) ?_ n 0 ⟨Ib _,rfl⟩ Du);intro i ⟨hi,b8⟩ K bw bX bf;rw[C8T];by_cases h:i<cs.length
  ·rw[Ei (Du:(i:Int)<(cs.length:Int)),Eg,D6 h,J3 Du];dsimp only;cases cF:M6 cs[i]with
   |false=>
    rw[B1R (p:=okC) h (by unfold okC;rw[cF];rfl)];exact(bX _).trans rfl
   |true=>
    by_cases iV:cs[i]=13
    ·rw[beqT iV,B1R (p:=okC) h (by unfold okC;rw[cF,beqT iV];rfl)];exact(bX _).trans rfl
    ·rw[beqF iV];exact bf (i+1) ⟨Du,by rw[B72 h,b8];unfold okC;rw[cF,beqF iV];rfl⟩ Du
  ·rw[Hv Du]at b8;rw[Ej (Du:¬(i:Int)<(cs.length:Int)),Eh,bw,C57,gz,im,Ei jV,b8];cases hf:U7 (B5 cs)with
   |false=>rfl
   |true=>
    have fM:0<cs.length:=If.2 jk;have ji:idx cs 0=some cs[0]:=D6 (i:=0) fM;have te:cs.headD 0=cs[0]:=by
     cases cs with
     |nil=>exact absurd rfl jk
     |cons=>rfl
    have nh:=C3t gz (pre:=[34,34,34]++[10]) Eo b8 Ep n Du;have lu:=C3t gz (pre:=[34,34,34]) Eo b8 Ep n Du;rw[ji];dsimp only;rw[show A3 (3+1) 4=true from rfl,nh,lu];have dc:B7 (btC cs)=if decide (1<(B5 cs).length)|| !K6 cs[0]then B7 ([34,34,34]++[10]++maskF cs++[10,34,34,34])else B7 ([34,34,34]++maskF cs++[10,34,34,34]):=by
     unfold btC;rw[te];split
     ·rfl
     ·rfl
    rw[dc];by_cases gw:1<(B5 cs).length
    ·rw[Ei (Du:((B5 cs).length:Int)>1),Ei gw];rfl
    ·rw[Ej (Du:¬((B5 cs).length:Int)>1),Ej gw];cases K6 cs[0]<;>rfl
def B8R{cs:DS}(hl:smL cs=true)(hv:cs.all okC=true){pre:DT}(mS:pre.length<=4)(n:Nat)(hn:cs.length+2<n):
  C8 (lbC M1 (A2 Hz [1,1,1,1,1,1,1,1,1,1,1,0,1,0,0]) 10021 n) n (A2u [34,34,34] (B5 cs) pre 0) (A7 2 (C1 (B2 M1 n (A2 Hz [1,1,1,1,1,1,1,1,1,1,1,1])) (B3 M1 Tryz.f163.results.toList)))=
   some (.tup [.str (pre++((B5 cs).flatMap λl=>B7 (maskF l)++[10])++[34,34,34]),.bool true]):=by
 have av:=A0w hl;obtain⟨im,jV⟩:=B6t hl;have ht:=A82 cs;have cv:∀l∈B5 cs,l.all okC=true:=λl hm=>B1H cs [] rfl hv l hm;have dv:∀(ls:Ef),(ls.flatMap λl=>B7 (maskF l)++[10]).length<=8*L4 ls+ls.length:=by
  intro ls
  induction ls with
  |nil=>simp
  |cons l r ih=>
   have h1:=A39 (maskF l);have h2:=A9Z l;rw[Ho,Fa,Fa,A3h,Ff];simp only[Ff,Fg];omega
 have cU:A2u [34,34,34] (B5 cs) pre 0=A2u [34,34,34] (B5 cs) (pre++((B5 cs).take 0).flatMap λl=>B7 (maskF l)++[10]) ((0:Nat):Int):=by rw[List.take_zero,List.flatMap_nil,Iv];rfl
 rw[cU];refine(I8 (λi:Nat=>A2u [34,34,34] (B5 cs) (pre++((B5 cs).take i).flatMap λl=>B7 (maskF l)++[10]) i) (λi=>i<=(B5 cs).length) (λi=>(B5 cs).length - i) (λi=>(some (.tup [.str (pre++((B5 cs).flatMap λl=>B7 (maskF l)++[10])++[34,34,34]),.bool true]):DU)) ?_ n 0 (Ib _) Du)
 ·intro i hi K bw bX bf;have hf:=dv ((B5 cs).take i);have yE:=B07 (List.take_sublist i (B5 cs));have fF:((B5 cs).take i).length<=i:=List.length_take_le _ _;rw[D3d];by_cases h:i<(B5 cs).length
  ·have hm:=B2l (Fy h);have fq:=A9Z (B5 cs)[i];have eW:=C3n (p:=D2) Ep _ (B7G (cv _ (Fy h)));have ej:=A39 (maskF (B5 cs)[i]);rw[Ei (Du:(i:Int)<((B5 cs).length:Int)),Eg,D6 h,J3 Du];dsimp only;have nL:decide ((pre++((B5 cs).take i).flatMap λl=>B7 (maskF l)++[10]).length+(B7 (maskF (B5 cs)[i])).length<=9223372036854775807)=true:=Ei (by rw[Fa];omega);have fS:decide (((pre++((B5 cs).take i).flatMap λl=>B7 (maskF l)++[10])++B7 (maskF (B5 cs)[i])).length+([10]:DX).length<=9223372036854775807)=true:=Ei (by rw[Fa,Fa];simp only[Ff,Fg];omega);rw[A8m.2 Du,V9.2 Du,A8P eW];dsimp only;rw[nL,fS];refine Eq.trans ?_ (bf (i+1) Du Du);rw[Io h,It];simp
  ·rw[Ej (Du:¬(i:Int)<((B5 cs).length:Int)),Eh,bw,D6I];rw[Hv Du]at hf ⊢;have nL:decide ((pre++(B5 cs).flatMap λl=>B7 (maskF l)++[10]).length+([34,34,34]:DT).length<=9223372036854775807)=true:=Ei (by rw[Fa];simp only[Ff,Fg];omega);rw[nL];rfl
def D2A{α:Type}(f:α->DS)(ls:List α):B7 (ls.flatMap f)=ls.flatMap λl=>B7 (f l):=by
 induction ls with
 |nil=>rfl
 |cons l r ih=>rw[Ho,Ho,A22,ih]
def C3M{cs:DS}(h:cs.all A8i=true)(pre:DS):B7 (pre++maskF cs++[10,34,34,34])=B7 pre++((B5 cs).flatMap λl=>B7 (maskF l)++[10])++[34,34,34]:=by
 have e:pre++maskF cs++[10,34,34,34]=pre++(maskF cs++[10])++[34,34,34]:=Eo
 rw[e,A22,A22,D6f h,D2A];have h1:B7 [34,34,34]=[34,34,34]:=Eu
 have h2:(λl=>B7 (maskF l++[10]))=λl=>B7 (maskF l)++[10]:=by
  funext l
  rw[A22];rfl
 rw[h1,h2]
def C70(s:DT)(hs:smS s=true)(n:Nat)(hn:s.length+2<n):A5 M1 n Hz [.str s]=some (.tup [.str (btF s).1,.bool (btF s).2]):=by
 have av:=A7s.1 hs;obtain⟨d1,d2,d3,d4⟩:=decF_enc _ s (Fu _);rw[B3B,G4.2 Du,B9M,B71,A8m.2 (by rw[Ig];omega),B1W];by_cases hd:(C3 s).2<s.length
 ·have aC:s≠[]:=λe=>by subst e;simp at hd
  rw[X4 (Du:(((C3 s).2:Nat):Int)≠(s.length:Int)),Ek aC,El hd];rfl
 ·rw[A0z (Du:(((C3 s).2:Nat):Int)=(s.length:Int)),Ek hd];show C8 _ n _ _=_;by_cases aC:s=[]
  ·subst aC;rw[El rfl];show C8 _ n (A9h [] [] 0) _=_;obtain⟨m,rfl⟩:∃m,n=m+1:=⟨n - 1,Du⟩;rw[B5U,C4T];rw[show decide ((0:Int)<(([]:DS).length:Int))=false from rfl,Eh];exact(C0q (m+1) [] [] 0 false).trans rfl
  rw[Ek aC];have jk:=C0M aC hd;have gz:=C4E hs;obtain⟨im,jV⟩:=B6t gz;generalize (C3 s).1=cs at d2 d4 jk gz im jV;refine(I8 (λi:Nat=>A9h s cs i) (λi=>i<=cs.length/\(cs.take i).all okC=true) (λi=>cs.length - i) (λi=>(some (.tup [.str (if !cs.all okC then([],false)else if !U7 (B5 cs)then([],false)else(B7 (btC cs),true)).1,.bool (if !cs.all okC then(([]:DT),false)else if !U7 (B5 cs)then([],false)else(B7 (btC cs),true)).2]):DU)) ?_ n 0 ⟨Ib _,rfl⟩ Du);intro i ⟨hi,b8⟩ K bw bX bf;rw[C4T];by_cases h:i<cs.length
  ·rw[Ei (Du:(i:Int)<(cs.length:Int)),Eg,D6 h,J3 Du];dsimp only;cases cF:M6 cs[i]with
   |false=>
    rw[B1R (p:=okC) h (by unfold okC;rw[cF];rfl)];exact(bX _).trans rfl
   |true=>
    by_cases iV:cs[i]=13
    ·rw[beqT iV,B1R (p:=okC) h (by unfold okC;rw[cF,beqT iV];rfl)];exact(bX _).trans rfl
    ·rw[beqF iV];exact bf (i+1) ⟨Du,by rw[B72 h,b8];unfold okC;rw[cF,beqF iV];rfl⟩ Du
  ·rw[Hv Du]at b8;have mK:(s==[])=false:=by simp[aC]
   rw[Ej (Du:¬(i:Int)<(cs.length:Int)),Eh,bw,C0q,gz,im,Ei jV,b8,mK];cases hf:U7 (B5 cs)with
   |false=>rfl
   |true=>
    have fM:0<cs.length:=If.2 jk;have te:cs.headD 0=cs[0]:=by
     cases cs with
     |nil=>exact absurd rfl jk
     |cons=>rfl
    have nh:=B8R gz b8 (pre:=[34,34,34]++[10]) Eo n Du;have lu:=B8R gz b8 (pre:=[34,34,34]) Eo n Du;have wP:B7 ([34,34,34]++[10])=[34,34,34]++[10]:=Eu
    have e3:B7 [34,34,34]=[34,34,34]:=Eu
    have fY:=C3M (B6J b8) ([34,34,34]++[10]);have h3:=C3M (B6J b8) [34,34,34];rw[wP]at fY;rw[e3]at h3;have dc:B7 (btC cs)=if decide (1<(B5 cs).length)|| !K6 cs[0]then B7 ([34,34,34]++[10]++maskF cs++[10,34,34,34])else B7 ([34,34,34]++maskF cs++[10,34,34,34]):=by
     unfold btC;rw[te];split
     ·rfl
     ·rfl
    rw[dc,fY,h3];by_cases gw:1<(B5 cs).length
    ·rw[Ei (Du:((B5 cs).length:Int)>1),Ei gw];exact nh
    ·have a8:B5 cs=[cs]:=by
      have hj:=C1C (B6J b8)
      match dp:B5 cs,jV,gw with
      |[x],_,_=>
       rw[dp]at hj;simp[J0]at hj;rw[hj]
      |x::y::r,_,h2=>simp at h2
     have ji:idx (B5 cs) 0=some cs:=by rw[a8];rfl
     have cw:idx cs 0=some cs[0]:=D6 (i:=0) fM;rw[Ej (Du:¬((B5 cs).length:Int)>1),Ej gw,ji];dsimp only;rw[cw];dsimp only;cases K6 cs[0]with
     |true=>exact lu
     |false=>exact nh
end Go.Aev.Bv
namespace Go.Aev.Bv
open Go.Proofs Go.RowKit
def IB:Inv:=λw wm=>Lib.Utf8Tabs 1 2 w/\(256<=wm 1/\32<=wm 2)
def IB_mono:∀w m w' m',IB w m->Ext w m w' m'->IB w' m':=by
 intro w m w' m' ⟨⟨h1,h2⟩,h3,h4⟩ hx;have l0:=hx.le 1;have l1:=hx.le 2;refine⟨⟨λc hc=>?_,λi hi=>⟨?_,?_⟩⟩,Du,Du⟩
 ·rw[hx.cell 1 c Du];exact h1 c hc
 ·rw[hx.cell 2 _ Du];exact(h2 i hi).1
 ·rw[hx.cell 2 _ Du];exact(h2 i hi).2
def opt(S:DV->Option (Bool×E6)):DV->DU:=λls=>match S ls with
 |some (true,e)=>some e
 |_=>none
def B91{S:DV->Option (Bool×E6)}{ls:DV}{r:E6}(h:opt S ls=some r):∃e,S ls=some (true,e)/\e=r:=by
 unfold opt at h;split at h
 ·rename_i e he;exact⟨e,he,by simpa using h⟩
 ·cases h
def D3{f:Fe}{S:DV->Option (Bool×E6)}(h:Sound Ez U6 IB f (opt S)){ls:DV}{r:E6}(hr:S ls=some (true,r)):
  (∀args w,(Fi f args).run Ez w=.ok (.enter f args) w)/\A1U Ez U6 IB f ls r:=
 ⟨h.enter,h.ok ls r (by unfold opt;rw[hr])⟩
def and1{a b:Bool}(h:(a&&b)=true):a=true:=(Fv _ _ ▸ h).1
def and2{a b:Bool}(h:(a&&b)=true):b=true:=(Fv _ _ ▸ h).2
def dec1{p:Prop} [Decidable p] (h:decide p=true):p:=Em h
def D6B(l:DS)(i:Int)(h:(D0 l&&decide (0<=i)&&decide (i<(l.length:Int)))=true)(n:Nat):A5 E52 n Tryz.f218 [.sl .i32 l none,.int .i64 i]=some (.one (.bool (O2 (l.drop i.toNat)))):=by
 have h1:=dec1 (and2 h);have h2:=dec1 (and2 (and1 h));have:=D0p l (and1 (and1 h)) i.toNat Du n;rw[show((i.toNat:Nat):Int)=i from Du]at this;exact this
def sound_ext{P:Program}{f:Fe}{S:DV->DU}{I:Inv}(fm:∀args w,(Fi f args).run P w=.ok (.enter f args) w)
  (h:∀ls r,S ls=some r->P0 ls=false/\r.isIter=false/\(∀d,r.has d=false)/\∀(w:World)(g:Gh)(vs:Ea),I w g.wm->LsRep U6 w g ls vs->
   ∃v,(∀(w':World)(g':Gh),ERep U6 w' g' r v)/\Calls P f vs.toArray w λe w'=>e=.returned v/\Below w.heap.size w w'):Sound P U6 I f S:=by
 refine⟨fm,λls r hS w g vs hI hz ax _ _=>?_⟩;obtain⟨h1,h2,h3,h4⟩:=h ls r hS;obtain⟨v,hv,hc⟩:=h4 w g vs hI ax;refine hc.mono λe w' ⟨he,hb⟩=>⟨v,g,he,?_⟩;rw[h1];refine{os:=hb.os,tape:=hb.tape,output:=hb.output,size:=hb.size,frame:=λb bH _=>⟨hb.block b bH,rfl⟩,ext:=⟨λb c e0 fz h0=>⟨c,fz,by rw[hb.block b (Array.getElem?_eq_some_iff.1 h0).1];exact h0⟩,λb off ho=>?_,λ_=>Fu _⟩,zero:=λb bH=>hz b (Im hb.size bH),rep:=hv _ _,nit:=h2,tip:=λd hd=>?_,disj:=λd e b hd=>?_,mine:=λd b hd=>?_}
 ·have iq:off<g.wm b:=ho;have aH:b<w.heap.size:=by
   rcases Nat.lt_or_ge b w.heap.size with h5|h5
   ·exact h5
   ·have:=hz b h5;omega
  simp only[World.cell?,hb.block b aH]
 ·rw[h3]at hd;cases hd
 ·rw[h3]at hd;cases hd
 ·rw[h3]at hd;cases hd
def C8Q{w:World}{g:Gh}{s:DT}{vs:Ea}(h:LsRep U6 w g [.str s] vs):vs=[.string ⟨s.toArray⟩]:=by
 match vs,h with
 |[v],h=>rw[CRep.str_inv h.1.1]
def rep_str2{w:World}{g:Gh}{s t:DT}{vs:Ea}(h:LsRep U6 w g [.str s,.str t] vs):vs=[.string ⟨s.toArray⟩,.string ⟨t.toArray⟩]:=by
 match vs,h with
 |[v,u],h=>rw[CRep.str_inv h.1.1,CRep.str_inv h.2.1.1]
def rep_strint{w:World}{g:Gh}{s:DT}{k:IntKind}{n:Int}{vs:Ea}(h:LsRep U6 w g [.str s,.int k n] vs):vs=[.string ⟨s.toArray⟩,.int k n]:=by
 match vs,h with
 |[v,x],h=>rw[CRep.str_inv h.1.1,CRep.int_inv h.2.1.1]
def szB(s:DT):(Ix s.toArray).size=s.length:=by simp[ByteArray.size]
def D3N(l:DS)(i:Int)(h:(D0 l&&decide (0<=i)&&decide (i<(l.length:Int)))=true)(n:Nat):A5 E54 n Tryz.f239 [.sl .i32 l none,.int .i64 i]=some (.one (.bool (M4 (l.drop i.toNat)))):=by
 have h1:=dec1 (and2 h);have h2:=dec1 (and2 (and1 h));have:=D3Q l (and1 (and1 h)) i.toNat Du n;rw[show((i.toNat:Nat):Int)=i from Du]at this;exact this
def C9D(l:DS)(i:Int)(h:(D0 l&&decide (0<=i)&&decide (i<(l.length:Int)))=true)(n:Nat):A5 E34 n Tryz.f235 [.sl .i32 l none,.int .i64 i]=some (.tup [.int .i32 (J6 (l.drop i.toNat)).1,.int .i64 (J6 (l.drop i.toNat)).2]):=by
 have h1:=dec1 (and2 h);have h2:=dec1 (and2 (and1 h));have:=C62 l (and1 (and1 h)) i.toNat Du n;rw[show((i.toNat:Nat):Int)=i from Du]at this;exact this
def C6f(l:DS)(i:Int)(h:(D0 l&&decide (0<=i)&&decide (i<=(l.length:Int)+12))=true)(n:Nat)(hn:4<n):A5 E48 n Tryz.f243 [.sl .i32 l none,.int .i64 i]=some (.one (.int .i32 (K1 (l.drop i.toNat)))):=by
 have h1:=dec1 (and2 h);have h2:=dec1 (and2 (and1 h));have:=C9P l (and1 (and1 h)) i.toNat Du n hn;rw[show((i.toNat:Nat):Int)=i from Du]at this;exact this
def pin{α:Type}{a b:Bool}{x y:α}(h:some (a,x)=some (b,y)):a=b/\x=y:=by cases h;exact⟨rfl,rfl⟩
def s6(E:Env Ty6 A4)(hE:E=mk6 E.T E.cons E.drop E.nt){f:Fe}{fn:Func}{S:DV->Option (Bool×E6)}(hf:Tryz.prog.funcs[f]?=some fn)(hn:E.nt=fn.ntmps)(he:∀args w,(Fi f args).run Ez w=.ok (.enter f args) w)
  (hT:∀g ls r,E.T g ls=some (true,r)->(∀args w,(Fi g args).run Ez w=.ok (.enter g args) w)/\A1U Ez U6 IB g ls r)(hS:∀ls r,S ls=some (true,r)->∃n,A5 E n fn ls=some r):Sound Ez U6 IB f (opt S):=by
 have hI:EnvI Ez (mk6 E.T E.cons E.drop E.nt) IB:=⟨u6_ok,A3R,A3K,hT,λf ls cs rs ay h=>by(change none=some (rs,ay)at h;cases h),λw m hI nm ls cs rs ay h=>(by(cases h)),λf ls cs rs h=>by(change none=some rs at h;cases h),IB_mono,A6W,λ_ _ _ h=>(by cases h),A7h⟩;exact B0a hI hf hn he λls r h=>by
  obtain⟨e,h1,rfl⟩:=B91 h;rw[<-hE];exact hS ls e h1
def B3D:Sound Ez U6 IB 194 (opt S41):=by
 refine s6 E41 rfl Tryz.func194 rfl Tryz.call194 (λg ls r h=>?_) (λls r h=>?_)
 ·cases h
 ·unfold S41 at h;split at h
  ·rename_i a0;obtain⟨hg,rfl⟩:=pin h;exact⟨0,D1W a0 _⟩
  ·cases h
def A6V:Sound Ez U6 IB 200 (opt S56):=by
 refine s6 E56 rfl Tryz.func200 rfl Tryz.call200 (λg ls r h=>?_) (λls r h=>?_)
 ·cases h
 ·unfold S56 at h;split at h
  ·rename_i a0;obtain⟨hg,rfl⟩:=pin h;exact⟨0,C7o a0 _⟩
  ·cases h
def B5t:Sound Ez U6 IB 237 (opt S28):=by
 refine s6 E28 rfl Tryz.func237 rfl Tryz.call237 (λg ls r h=>?_) (λls r h=>?_)
 ·change T28 g ls=some (true,r)at h;unfold T28 at h;split at h
  ·exact D3 B3D h
  ·cases h
 ·unfold S28 at h;split at h
  ·rename_i a0;obtain⟨hg,rfl⟩:=pin h;exact⟨Ew a0+1,C8D a0 hg _ (Fc _)⟩
  ·cases h
def B5E:Sound Ez U6 IB 225 (opt S42):=by
 refine s6 E42 rfl Tryz.func225 rfl Tryz.call225 (λg ls r h=>?_) (λls r h=>?_)
 ·change T42 g ls=some (true,r)at h;unfold T42 at h;split at h
  ·exact D3 A6V h
  ·cases h
 ·unfold S42 at h;split at h
  ·rename_i a0;obtain⟨hg,rfl⟩:=pin h;exact⟨Ew a0+1,D6K a0 hg _ (Fc _)⟩
  ·cases h
def Z1:Sound Ez U6 IB 219 (opt S27):=by
 refine s6 E27 rfl Tryz.func219 rfl Tryz.call219 (λg ls r h=>?_) (λls r h=>?_)
 ·change T27 g ls=some (true,r)at h;unfold T27 at h;split at h
  ·exact D3 B5t h
  ·cases h
 ·unfold S27 at h;split at h
  ·rename_i a0;obtain⟨hg,rfl⟩:=pin h;exact⟨0,D0U a0 hg _⟩
  ·cases h
def A5w:Sound Ez U6 IB 224 (opt S30):=by
 refine s6 E30 rfl Tryz.func224 rfl Tryz.call224 (λg ls r h=>?_) (λls r h=>?_)
 ·change T30 g ls=some (true,r)at h;unfold T30 at h;split at h
  ·exact D3 B5E h
  ·cases h
 ·unfold S30 at h;split at h
  ·rename_i a0;obtain⟨hg,rfl⟩:=pin h;exact⟨0,D1T a0 hg _⟩
  ·cases h
def B3N:Sound Ez U6 IB 240 (opt S29):=by
 refine s6 E29 rfl Tryz.func240 rfl Tryz.call240 (λg ls r h=>?_) (λls r h=>?_)
 ·change T29 g ls=some (true,r)at h;unfold T29 at h;split at h
  ·exact D3 B5E h
  ·cases h
 ·unfold S29 at h;split at h
  ·rename_i a0;obtain⟨hg,rfl⟩:=pin h;exact⟨Ew a0+1,D1g a0 hg _ (Fc _)⟩
  ·cases h
def D1Y:Sound Ez U6 IB 234 (opt S16):=by
 refine s6 E16 rfl Tryz.func234 rfl Tryz.call234 (λg ls r h=>?_) (λls r h=>?_)
 ·change T16 g ls=some (true,r)at h;unfold T16 at h;split at h
  ·exact D3 A5w h
  ·exact D3 B3N h
  ·cases h
 ·unfold S16 at h;split at h
  ·rename_i a0;obtain⟨hg,rfl⟩:=pin h;exact⟨Ew a0+1,C6k a0 hg _ (Fc _)⟩
  ·cases h
def A0h:Sound Ez U6 IB 245 (opt S60):=by
 refine s6 E60 rfl Tryz.func245 rfl Tryz.call245 (λg ls r h=>?_) (λls r h=>?_)
 ·cases h
 ·unfold S60 at h;split at h
  ·rename_i a0;obtain⟨hg,rfl⟩:=pin h;exact⟨16+1,D6l a0 _ (Fc _)⟩
  ·cases h
def B40:Sound Ez U6 IB 244 (opt S49):=by
 refine s6 E49 rfl Tryz.func244 rfl Tryz.call244 (λg ls r h=>?_) (λls r h=>?_)
 ·cases h
 ·unfold S49 at h;split at h
  ·rename_i a0 a1;obtain⟨hg,rfl⟩:=pin h;exact⟨0,C9X a0 a1 _⟩
  ·cases h
def A0f:Sound Ez U6 IB 191 (opt S32):=by
 refine s6 E32 rfl Tryz.func191 rfl Tryz.call191 (λg ls r h=>?_) (λls r h=>?_)
 ·cases h
 ·unfold S32 at h;split at h
  ·rename_i a0;obtain⟨hg,rfl⟩:=pin h;exact⟨0,D5N a0 _⟩
  ·cases h
def A3y:Sound Ez U6 IB 175 (opt S61):=by
 refine s6 E61 rfl Tryz.func175 rfl Tryz.call175 (λg ls r h=>?_) (λls r h=>?_)
 ·cases h
 ·unfold S61 at h;split at h
  ·rename_i a0;obtain⟨hg,rfl⟩:=pin h;exact⟨0,D66 a0 _⟩
  ·cases h
def B3c:Sound Ez U6 IB 174 (opt S62):=by
 refine s6 E62 rfl Tryz.func174 rfl Tryz.call174 (λg ls r h=>?_) (λls r h=>?_)
 ·cases h
 ·unfold S62 at h;split at h
  ·rename_i a0 a1;obtain⟨hg,rfl⟩:=pin h;exact⟨Ew a1+1,C7R a0 a1 hg _ (Fc _)⟩
  ·cases h
def A83:Sound Ez U6 IB 121 (opt S53):=by
 refine s6 E53 rfl Tryz.func121 rfl Tryz.call121 (λg ls r h=>?_) (λls r h=>?_)
 ·change T53 g ls=some (true,r)at h;unfold T53 at h;split at h
  ·exact D3 B3c h
  ·exact D3 A3y h
  ·cases h
 ·unfold S53 at h;split at h
  ·rename_i a0;obtain⟨hg,rfl⟩:=pin h;exact⟨0,D5e a0 _⟩
  ·cases h
def A8w:Sound Ez U6 IB 220 (opt S44):=by
 refine s6 E44 rfl Tryz.func220 rfl Tryz.call220 (λg ls r h=>?_) (λls r h=>?_)
 ·cases h
 ·unfold S44 at h;split at h
  ·rename_i a0;obtain⟨hg,rfl⟩:=pin h;exact⟨0,D6b a0 _⟩
  ·cases h
def B6n:Sound Ez U6 IB 238 (opt S59):=by
 refine s6 E59 rfl Tryz.func238 rfl Tryz.call238 (λg ls r h=>?_) (λls r h=>?_)
 ·cases h
 ·unfold S59 at h;split at h
  ·rename_i a0 a1;obtain⟨hg,rfl⟩:=pin h;exact⟨0,D52 a0 a1 (and1 (and1 hg)) (and2 (and1 hg)) (dec1 (and2 hg)) _⟩
  ·cases h
def B0u:Sound Ez U6 IB 221 (opt S45):=by
 refine s6 E45 rfl Tryz.func221 rfl Tryz.call221 (λg ls r h=>?_) (λls r h=>?_)
 ·change T45 g ls=some (true,r)at h;unfold T45 at h;split at h
  ·exact D3 B6n h
  ·cases h
 ·unfold S45 at h;split at h
  ·rename_i a0 a1;obtain⟨hg,rfl⟩:=pin h;exact⟨0,C9O a0 a1 (and1 hg) (and2 hg) _⟩
  ·cases h
def C4U:Sound Ez U6 IB 172 (opt S50):=by
 refine s6 E50 rfl Tryz.func172 rfl Tryz.call172 (λg ls r h=>?_) (λls r h=>?_)
 ·change T50 g ls=some (true,r)at h;unfold T50 at h;split at h
  ·exact D3 A3y h
  ·cases h
 ·unfold S50 at h;split at h
  ·rename_i a0;obtain⟨hg,rfl⟩:=pin h;exact⟨0,C7L a0 _⟩
  ·cases h
def B14:Sound Ez U6 IB 196 (opt S33):=by
 refine s6 E33 rfl Tryz.func196 rfl Tryz.call196 (λg ls r h=>?_) (λls r h=>?_)
 ·change T33 g ls=some (true,r)at h;unfold T33 at h;split at h
  ·exact D3 A8w h
  ·exact D3 B0u h
  ·cases h
 ·unfold S33 at h;split at h
  ·rename_i a0;obtain⟨hg,rfl⟩:=pin h;exact⟨Ew a0+1,C5A a0 hg _ (Fc _)⟩
  ·cases h
def A96:Sound Ez U6 IB 125 (opt S35):=by
 refine s6 E35 rfl Tryz.func125 rfl Tryz.call125 (λg ls r h=>?_) (λls r h=>?_)
 ·change T35 g ls=some (true,r)at h;unfold T35 at h;split at h
  ·exact D3 C4U h
  ·cases h
 ·unfold S35 at h;split at h
  ·rename_i a0;obtain⟨hg,rfl⟩:=pin h;exact⟨Ew a0+1,D4r a0 hg _ (Fc _)⟩
  ·cases h
def D7f:Sound Ez U6 IB 241 (opt S46):=by
 refine s6 E46 rfl Tryz.func241 rfl Tryz.call241 (λg ls r h=>?_) (λls r h=>?_)
 ·change T46 g ls=some (true,r)at h;unfold T46 at h;split at h
  ·exact D3 A83 h
  ·cases h
 ·unfold S46 at h;split at h
  ·rename_i a0;obtain⟨hg,rfl⟩:=pin h;exact⟨0,D3Y a0 _⟩
  ·cases h
def C8W:Sound Ez U6 IB 242 (opt S47):=by
 refine s6 E47 rfl Tryz.func242 rfl Tryz.call242 (λg ls r h=>?_) (λls r h=>?_)
 ·cases h
 ·unfold S47 at h;split at h
  ·rename_i a0;obtain⟨hg,rfl⟩:=pin h;exact⟨8+1,C7g a0 _ (Fc _)⟩
  ·cases h
def C8K:Sound Ez U6 IB 243 (opt S48):=by
 refine s6 E48 rfl Tryz.func243 rfl Tryz.call243 (λg ls r h=>?_) (λls r h=>?_)
 ·change T48 g ls=some (true,r)at h;unfold T48 at h;split at h
  ·exact D3 A0h h
  ·cases h
 ·unfold S48 at h;split at h
  ·rename_i a0 a1;obtain⟨hg,rfl⟩:=pin h;exact⟨4+1,C6f a0 a1 hg _ (Fc _)⟩
  ·cases h
def B6A:Sound Ez U6 IB 235 (opt S34):=by
 refine s6 E34 rfl Tryz.func235 rfl Tryz.call235 (λg ls r h=>?_) (λls r h=>?_)
 ·change T34 g ls=some (true,r)at h;unfold T34 at h;split at h
  ·exact D3 D7f h
  ·exact D3 C8W h
  ·exact D3 C8K h
  ·exact D3 B40 h
  ·cases h
 ·unfold S34 at h;split at h
  ·rename_i a0 a1;obtain⟨hg,rfl⟩:=pin h;exact⟨0,C9D a0 a1 hg _⟩
  ·cases h
def snd21:Sound Ez U6 IB 214 (opt S21):=by
 refine s6 E21 rfl Tryz.func214 rfl Tryz.call214 (λg ls r h=>?_) (λls r h=>?_)
 ·change T21 g ls=some (true,r)at h;unfold T21 at h;split at h
  ·exact D3 A96 h
  ·exact D3 B6A h
  ·cases h
 ·unfold S21 at h;split at h
  ·rename_i a0;obtain⟨hg,rfl⟩:=pin h;exact⟨Ew a0+1,D2t a0 hg _ (Fc _)⟩
  ·cases h
def D7l:Sound Ez U6 IB 195 (opt S51):=by
 refine s6 E51 rfl Tryz.func195 rfl Tryz.call195 (λg ls r h=>?_) (λls r h=>?_)
 ·cases h
 ·unfold S51 at h;split at h
  ·rename_i a0;obtain⟨hg,rfl⟩:=pin h;exact⟨0,C8Y a0 hg _⟩
  ·cases h
def D1o:Sound Ez U6 IB 218 (opt S52):=by
 refine s6 E52 rfl Tryz.func218 rfl Tryz.call218 (λg ls r h=>?_) (λls r h=>?_)
 ·cases h
 ·unfold S52 at h;split at h
  ·rename_i a0 a1;obtain⟨hg,rfl⟩:=pin h;exact⟨0,D6B a0 a1 hg _⟩
  ·cases h
def B0c:Sound Ez U6 IB 239 (opt S54):=by
 refine s6 E54 rfl Tryz.func239 rfl Tryz.call239 (λg ls r h=>?_) (λls r h=>?_)
 ·cases h
 ·unfold S54 at h;split at h
  ·rename_i a0 a1;obtain⟨hg,rfl⟩:=pin h;exact⟨0,D3N a0 a1 hg _⟩
  ·cases h
def C41:Sound Ez U6 IB 192 (opt S37):=by
 refine s6 E37 rfl Tryz.func192 rfl Tryz.call192 (λg ls r h=>?_) (λls r h=>?_)
 ·change T37 g ls=some (true,r)at h;unfold T37 at h;split at h
  ·exact D3 D1o h
  ·cases h
 ·unfold S37 at h;split at h
  ·rename_i a0;obtain⟨hg,rfl⟩:=pin h;exact⟨Ew a0+1,D3B a0 hg _ (Fc _)⟩
  ·cases h
def C5j:Sound Ez U6 IB 232 (opt S38):=by
 refine s6 E38 rfl Tryz.func232 rfl Tryz.call232 (λg ls r h=>?_) (λls r h=>?_)
 ·change T38 g ls=some (true,r)at h;unfold T38 at h;split at h
  ·exact D3 A83 h
  ·exact D3 B0c h
  ·cases h
 ·unfold S38 at h;split at h
  ·rename_i a0;obtain⟨hg,rfl⟩:=pin h;exact⟨Ew a0+1,D0L a0 hg _ (Fc _)⟩
  ·cases h
def B38:Sound Ez U6 IB 122 (opt S55):=by
 refine s6 E55 rfl Tryz.func122 rfl Tryz.call122 (λg ls r h=>?_) (λls r h=>?_)
 ·cases h
 ·unfold S55 at h;split at h
  ·rename_i a0;obtain⟨hg,rfl⟩:=pin h;exact⟨Ew a0+1,D6w a0 hg _ (Fc _)⟩
  ·cases h
def C5e:Sound Ez U6 IB 198 (opt S39):=by
 refine s6 E39 rfl Tryz.func198 rfl Tryz.call198 (λg ls r h=>?_) (λls r h=>?_)
 ·change T39 g ls=some (true,r)at h;unfold T39 at h;split at h
  ·exact D3 B38 h
  ·cases h
 ·unfold S39 at h;split at h
  ·rename_i a0;obtain⟨hg,rfl⟩:=pin h;exact⟨Ew a0+2+1,C76 a0 hg _ (Fc _)⟩
  ·cases h
def D0y:Sound Ez U6 IB 233 (opt S40):=by
 refine s6 E40 rfl Tryz.func233 rfl Tryz.call233 (λg ls r h=>?_) (λls r h=>?_)
 ·change T40 g ls=some (true,r)at h;unfold T40 at h;split at h
  ·exact D3 B0c h
  ·cases h
 ·unfold S40 at h;split at h
  ·rename_i a0;obtain⟨hg,rfl⟩:=pin h;exact⟨Ew a0+1,C6H a0 hg _ (Fc _)⟩
  ·cases h
def snd23:Sound Ez U6 IB 212 (opt S23):=by
 refine s6 E23 rfl Tryz.func212 rfl Tryz.call212 (λg ls r h=>?_) (λls r h=>?_)
 ·change T23 g ls=some (true,r)at h;unfold T23 at h;split at h
  ·exact D3 A96 h
  ·exact D3 C5e h
  ·exact D3 C5j h
  ·exact D3 D0y h
  ·exact D3 D1Y h
  ·cases h
 ·unfold S23 at h;split at h
  ·rename_i a0;obtain⟨hg,rfl⟩:=pin h;exact⟨Ew a0+2+1,D3s a0 hg _ (Fc _)⟩
  ·cases h
def D5m:Sound Ez U6 IB 217 (opt B6L):=by
 refine sound_ext Tryz.call217 λls r h=>?_;obtain⟨e,h1,rfl⟩:=B91 h;unfold B6L at h1;split at h1
 ·rename_i a0;simp only[Iy,Prod.mk.injEq]at h1;obtain⟨hg,rfl⟩:=h1;refine⟨rfl,rfl,λd=>rfl,λw g vs hI hr=>?_⟩;rw[C8Q hr];exact⟨_,λw' g'=>⟨[.int .i32 (Iw ⟨a0.toArray⟩).1,.int .i64 (Iw ⟨a0.toArray⟩).2],rfl,LRep.int _ _,LRep.int _ _,trivial⟩,Tryz.utf8_DecodeRuneInString ⟨a0.toArray⟩ w hI.1⟩
 ·cases h1
def C0j:Sound Ez U6 IB 190 (opt A9J):=by
 refine s6 A3w rfl Tryz.func190 rfl Tryz.call190 (λg ls r h=>?_) (λls r h=>?_)
 ·change B6W g ls=some (true,r)at h;unfold B6W at h;split at h
  ·exact D3 D5m h
  ·cases h
 ·unfold A9J at h;split at h
  ·rename_i a0;obtain⟨hg,rfl⟩:=pin h;exact⟨Ew a0+1,C6E a0 hg _ (Fc _)⟩
  ·cases h
def C7n:Sound Ez U6 IB 173 (opt B6C):=by
 refine s6 A2V rfl Tryz.func173 rfl Tryz.call173 (λg ls r h=>?_) (λls r h=>?_)
 ·cases h
 ·unfold B6C at h;split at h
  ·rename_i a0 a1;obtain⟨hg,rfl⟩:=pin h;exact⟨Ew a0+1,D7F a0 a1 (and1 hg) (and2 hg) _ (Fc _)⟩
  ·cases h
def C6Y:Sound Ez U6 IB 171 (opt B5x):=by
 refine s6 A25 rfl Tryz.func171 rfl Tryz.call171 (λg ls r h=>?_) (λls r h=>?_)
 ·cases h
 ·unfold B5x at h;split at h
  ·rename_i a0;obtain⟨hg,rfl⟩:=pin h;exact⟨4+1,D0x a0 (and1 (and1 hg)) (dec1 (and2 (and1 hg))) (dec1 (and2 hg)) _ (Fc _)⟩
  ·cases h
def D1r:Sound Ez U6 IB 120 (opt B4J):=by
 refine s6 A1F rfl Tryz.func120 rfl Tryz.call120 (λg ls r h=>?_) (λls r h=>?_)
 ·change B7i g ls=some (true,r)at h;unfold B7i at h;split at h
  ·exact D3 C6Y h
  ·exact D3 C4U h
  ·exact D3 C7n h
  ·cases h
 ·unfold B4J at h;split at h
  ·rename_i a0;obtain⟨hg,rfl⟩:=pin h;exact⟨5+1,D4x a0 (and1 (and1 hg)) (dec1 (and2 (and1 hg))) (and2 hg) _ (Fc _)⟩
  ·cases h
def snd223:Sound Ez U6 IB 52 (opt S223):=by
 refine s6 A1L rfl Tryz.func52 rfl Tryz.call52 (λg ls r h=>?_) (λls r h=>?_)
 ·change B24 g ls=some (true,r)at h;unfold B24 at h;split at h
  ·exact D3 D1r h
  ·cases h
 ·unfold S223 at h;split at h
  ·rename_i a0;obtain⟨hg,rfl⟩:=pin h;exact⟨Ew a0+1,D0g a0 (and1 hg) (and2 hg) _ (Fc _)⟩
  ·cases h
def C52:Sound Ez U6 IB 222 (opt B6l):=by
 refine s6 B5D rfl Tryz.func222 rfl Tryz.call222 (λg ls r h=>?_) (λls r h=>?_)
 ·cases h
 ·unfold B6l at h;split at h
  ·rename_i a0;obtain⟨hg,rfl⟩:=pin h;exact⟨0,D1D a0 _⟩
  ·cases h
def C9R:Sound Ez U6 IB 227 (opt B4u):=by
 refine s6 B3d rfl Tryz.func227 rfl Tryz.call227 (λg ls r h=>?_) (λls r h=>?_)
 ·cases h
 ·unfold B4u at h;split at h
  ·rename_i a0;obtain⟨hg,rfl⟩:=pin h;exact⟨0,C6W a0 _⟩
  ·cases h
def C6y:Sound Ez U6 IB 223 (opt B3i):=by
 refine s6 A2L rfl Tryz.func223 rfl Tryz.call223 (λg ls r h=>?_) (λls r h=>?_)
 ·cases h
 ·unfold B3i at h;split at h
  ·rename_i a0 a1;obtain⟨hg,rfl⟩:=pin h;exact⟨5+1,D5g a0 a1 (and1 (and1 hg)) (dec1 (and2 (and1 hg))) (dec1 (and2 hg)) _ (Fc _)⟩
  ·cases h
def D04:Sound Ez U6 IB 197 (opt B5h):=by
 refine s6 B54 rfl Tryz.func197 rfl Tryz.call197 (λg ls r h=>?_) (λls r h=>?_)
 ·change B5k g ls=some (true,r)at h;unfold B5k at h;split at h
  ·exact D3 C52 h
  ·exact D3 C6y h
  ·cases h
 ·unfold B5h at h;split at h
  ·rename_i a0 a1;obtain⟨hg,rfl⟩:=pin h;exact⟨0,C5y a0 a1 (and1 hg) (and2 hg) _⟩
  ·cases h
def D3k:Sound Ez U6 IB 226 (opt B4t):=by
 refine s6 A26 rfl Tryz.func226 rfl Tryz.call226 (λg ls r h=>?_) (λls r h=>?_)
 ·cases h
 ·unfold B4t at h;split at h
  ·rename_i a0;obtain⟨hg,rfl⟩:=pin h;exact⟨5+1,D7Z a0 (dec1 (and1 hg)) (dec1 (and2 hg)) _ (Fc _)⟩
  ·cases h
def D7R:Sound Ez U6 IB 202 (opt B2Y):=by
 refine s6 A3s rfl Tryz.func202 rfl Tryz.call202 (λg ls r h=>?_) (λls r h=>?_)
 ·change B4q g ls=some (true,r)at h;unfold B4q at h;split at h
  ·exact D3 A96 h
  ·exact D3 D3k h
  ·exact D3 C9R h
  ·cases h
 ·unfold B2Y at h;split at h
  ·rename_i a0;obtain⟨hg,rfl⟩:=pin h;exact⟨7+1,C8G a0 hg _ (Fc _)⟩
  ·cases h
def snd207:Sound Ez U6 IB 156 (opt S207):=by
 refine s6 A2q rfl Tryz.func156 rfl Tryz.call156 (λg ls r h=>?_) (λls r h=>?_)
 ·change B47 g ls=some (true,r)at h;unfold B47 at h;split at h
  ·exact D3 C0j h
  ·exact D3 B14 h
  ·exact D3 D04 h
  ·cases h
 ·unfold S207 at h;split at h
  ·rename_i a0;obtain⟨hg,rfl⟩:=pin h;exact⟨Ew a0+1,D3R a0 hg _ (Fc _)⟩
  ·cases h
def snd208:Sound Ez U6 IB 164 (opt S208):=by
 refine s6 A08 rfl Tryz.func164 rfl Tryz.call164 (λg ls r h=>?_) (λls r h=>?_)
 ·change B5F g ls=some (true,r)at h;unfold B5F at h;split at h
  ·exact D3 snd223 h
  ·exact D3 D7R h
  ·cases h
 ·unfold S208 at h;split at h
  ·rename_i a0;obtain⟨hg,rfl⟩:=pin h;exact⟨Ew a0+1,D3r a0 hg _ (Fc _)⟩
  ·cases h
def D4p:Sound Ez U6 IB 193 (opt B6a):=by
 refine s6 A23 rfl Tryz.func193 rfl Tryz.call193 (λg ls r h=>?_) (λls r h=>?_)
 ·change B5S g ls=some (true,r)at h;unfold B5S at h;split at h
  ·exact D3 B3D h
  ·exact D3 Z1 h
  ·cases h
 ·unfold B6a at h;split at h
  ·rename_i a0;obtain⟨hg,rfl⟩:=pin h;exact⟨Ew a0+1,D7t a0 (and1 hg) (dec1 (and2 hg)) _ (Fc _)⟩
  ·cases h
def D5H:Sound Ez U6 IB 199 (opt B3J):=by
 refine s6 A2K rfl Tryz.func199 rfl Tryz.call199 (λg ls r h=>?_) (λls r h=>?_)
 ·change B6f g ls=some (true,r)at h;unfold B6f at h;split at h
  ·exact D3 A5w h
  ·exact D3 B5E h
  ·cases h
 ·unfold B3J at h;split at h
  ·rename_i a0;obtain⟨hg,rfl⟩:=pin h;exact⟨Ew a0+1,C53 a0 (and1 hg) (dec1 (and2 hg)) _ (Fc _)⟩
  ·cases h
def D5G:Sound Ez U6 IB 201 (opt B33):=by
 refine s6 A2T rfl Tryz.func201 rfl Tryz.call201 (λg ls r h=>?_) (λls r h=>?_)
 ·cases h
 ·unfold B33 at h;split at h
  ·rename_i a0;obtain⟨hg,rfl⟩:=pin h;exact⟨Ew a0+1,C79 a0 hg _ (Fc _)⟩
  ·cases h
def snd209:Sound Ez U6 IB 155 (opt S209):=by
 refine s6 K5 rfl Tryz.func155 rfl Tryz.call155 (λg ls r h=>?_) (λls r h=>?_)
 ·change B68 g ls=some (true,r)at h;unfold B68 at h;split at h
  ·exact D3 C0j h
  ·exact D3 A0f h
  ·exact D3 C41 h
  ·exact D3 D4p h
  ·exact D3 B3D h
  ·exact D3 D7l h
  ·exact D3 B14 h
  ·cases h
 ·unfold S209 at h;split at h
  ·rename_i a0;obtain⟨hg,rfl⟩:=pin h;exact⟨Ew a0+1,C9j a0 hg _ (Fc _)⟩
  ·cases h
def snd210:Sound Ez U6 IB 163 (opt S210):=by
 refine s6 M1 rfl Tryz.func163 rfl Tryz.call163 (λg ls r h=>?_) (λls r h=>?_)
 ·change B3k g ls=some (true,r)at h;unfold B3k at h;split at h
  ·exact D3 snd223 h
  ·exact D3 A83 h
  ·exact D3 A96 h
  ·exact D3 C5e h
  ·exact D3 D5H h
  ·exact D3 A6V h
  ·exact D3 D5G h
  ·cases h
 ·unfold S210 at h;split at h
  ·rename_i a0;obtain⟨hg,rfl⟩:=pin h;exact⟨Ew a0+2+1,C70 a0 hg _ (Fc _)⟩
  ·cases h
end Go.Aev.Bv
namespace Go.Aev
open Go.Proofs
def Sound.sub{P:Program}{I:Inv}{f:Fe}{S S':DV->DU}(h:Sound P U6 I f S')(hs:∀ls r,S ls=some r->S' ls=some r):Sound P U6 I f S:=⟨h.enter,λls r hr=>h.ok ls r (hs ls r hr)⟩
def A5S{S:DV->Option (Bool×E6)}{ls:DV}{r:E6}(h:S ls=some (true,r)):Bv.opt S ls=some r:=by unfold Bv.opt;rw[h]
def h52:Sound Ez U6 Bv.IB 52 (sG S52):=Bv.snd223.sub λls r hr=>by
 unfold sG S52 at hr;split at hr
 ·rename_i a0;have h:=D9 (X:=F52 a0) rfl rfl hr;unfold F52 at h;cases hd:isB a0&&smL a0 with
  |false=>rw[hd]at h;cases h
  |true=>rw[hd]at h;cases h;exact A5S (S:=Bv.S223) (by show some (_,_)=_;rw[hd])
 ·cases hr
def C5B:Sound Ez U6 Bv.IB 155 (sG A9u):=Bv.snd209.sub λls r hr=>by
 unfold sG A9u at hr;split at hr
 ·rename_i a0;have h:=D9 (X:=A4e a0) rfl rfl hr;unfold A4e at h;cases hd:smS a0 with
  |false=>rw[hd]at h;cases h
  |true=>rw[hd]at h;cases h;exact A5S (S:=Bv.S209) (by show some (_,_)=_;rw[hd])
 ·cases hr
def D3M:Sound Ez U6 Bv.IB 156 (sG B0p):=Bv.snd207.sub λls r hr=>by
 unfold sG B0p at hr;split at hr
 ·rename_i a0;have h:=D9 (X:=A3N a0) rfl rfl hr;unfold A3N at h;cases hd:smS a0 with
  |false=>rw[hd]at h;cases h
  |true=>rw[hd]at h;cases h;exact A5S (S:=Bv.S207) (by show some (_,_)=_;rw[hd])
 ·cases hr
def C5W:Sound Ez U6 Bv.IB 163 (sG B0q):=Bv.snd210.sub λls r hr=>by
 unfold sG B0q at hr;split at hr
 ·rename_i a0;have h:=D9 (X:=A3a a0) rfl rfl hr;unfold A3a at h;cases hd:smS a0 with
  |false=>rw[hd]at h;cases h
  |true=>rw[hd]at h;cases h;exact A5S (S:=Bv.S210) (by show some (_,_)=_;rw[hd])
 ·cases hr
def D2e:Sound Ez U6 Bv.IB 164 (sG A9t):=Bv.snd208.sub λls r hr=>by
 unfold sG A9t at hr;split at hr
 ·rename_i a0;have h:=D9 (X:=A1Z a0) rfl rfl hr;unfold A1Z at h;cases hd:smS a0 with
  |false=>rw[hd]at h;cases h
  |true=>rw[hd]at h;cases h;exact A5S (S:=Bv.S208) (by show some (_,_)=_;rw[hd])
 ·cases hr
def C6Z:Sound Ez U6 Bv.IB 212 (sG B0k):=Bv.snd23.sub λls r hr=>by
 unfold sG B0k at hr;split at hr
 ·rename_i a0;have h:=D9 (X:=A2E a0) rfl rfl hr;unfold A2E at h;cases hd:smL a0 with
  |false=>rw[hd]at h;cases h
  |true=>rw[hd]at h;cases h;exact A5S (S:=Bv.S23) (by show some (_,_)=_;rw[hd])
 ·cases hr
def C7r:Sound Ez U6 Bv.IB 214 (sG B1E):=Bv.snd21.sub λls r hr=>by
 unfold sG B1E at hr;split at hr
 ·rename_i a0;have h:=D9 (X:=A2z a0) rfl rfl hr;unfold A2z at h;cases hd:D0 a0 with
  |false=>rw[hd]at h;cases h
  |true=>rw[hd]at h;cases h;exact A5S (S:=Bv.S21) (by show some (_,_)=_;rw[hd])
 ·cases hr
def h47:Sound Ez U6 Bv.IB 47 (sG S47):=by
 refine Bv.sound_ext Tryz.call47 λls r h=>?_;unfold sG S47 at h;split at h
 ·rename_i a0 a1;have h:=D9 (X:=F47 a0 a1) rfl rfl h;unfold F47 at h;cases hd:decide (a0.length<=2)&&decide (0<=a1)&&decide (a1<=1000)with
  |false=>rw[hd]at h;cases h
  |true=>
   rw[hd]at h;cases h;have c1:=Bv.dec1 (Bv.and1 (Bv.and1 hd));have c2:=Bv.dec1 (Bv.and2 (Bv.and1 hd));have c3:=Bv.dec1 (Bv.and2 hd);refine⟨rfl,rfl,λd=>rfl,λw g vs _ hr=>?_⟩;rw[Bv.rep_strint hr];have az:(Ix a0.toArray).size*a1.toNat<=140737488355328:=by
    rw[Bv.szB];have:a0.length*a1.toNat<=2*1000:=Nat.mul_le_mul c1 Du;omega
   have:=Tryz.strings_Repeat ⟨a0.toArray⟩ a1.toNat w Du az;rw[show((a1.toNat:Nat):Int)=a1 from Du]at this;exact⟨_,λw' g'=>LRep.str _,this⟩
 ·cases h
def h48:Sound Ez U6 Bv.IB 48 (sG S48):=by
 refine Bv.sound_ext Tryz.call48 λls r h=>?_;unfold sG S48 at h;split at h
 ·rename_i a0 a1;have h:=D9 (X:=F48 a0 a1) rfl rfl h;unfold F48 at h;cases hd:smS a0&&(a1==[93])with
  |false=>rw[hd]at h;cases h
  |true=>
   rw[hd]at h;cases h;have c2:a1=[93]:=by simpa using Bv.and2 hd
   subst c2;refine⟨rfl,rfl,λd=>rfl,λw g vs _ hr=>?_⟩;rw[Bv.rep_str2 hr];exact⟨_,λw' g'=>LRep.int _ _,(Tryz.strings_Count_one ⟨a0.toArray⟩ 93 w).mono λe w' ⟨he,hw⟩=>⟨he,hw ▸ Ik _ _⟩⟩
 ·cases h
def h65:Sound Ez U6 Bv.IB 65 (sG S65):=by
 refine Bv.sound_ext Tryz.call65 λls r h=>?_;unfold sG S65 at h;split at h
 ·rename_i a0 a1;have h:=D9 (X:=F65 a0 a1) rfl rfl h;unfold F65 at h;cases h;refine⟨rfl,rfl,λd=>rfl,λw g vs _ hr=>?_⟩;rw[Bv.rep_str2 hr];exact⟨_,λw' g'=>LRep.str _,(Tryz.strings_TrimPrefix ⟨a0.toArray⟩ ⟨a1.toArray⟩ w).mono λe w' ⟨he,hw⟩=>⟨he,hw ▸ Ik _ _⟩⟩
 ·cases h
def hbI:HB Bv.IB:=⟨Bv.IB_mono,B3N,D5L,h47,h48,h65,C5B,D3M,C5W,D2e,C6Z,C7r,h52⟩
@[reducible] def gd{R:Type}(c:Bool)(x:Option R):Option R:=bif c then x else none
abbrev B6:=DV×Ec
abbrev DW:=Option B6
@[reducible] def kC:List (List KD):=[[.sl .tok none,.int .i64,.int .i64,.int .i64,.int .i64]]
@[reducible] def kP:List (List KD):=[[.ptr 900000 B4,.sl .u8 (some 92000001)]]
@[reducible] def kO:List (List KD):=[[.sl .u8 (some 92000000)]]
def H2(l:DS):Ec:=[[.ptr 900000 B4,.sl .u8 l (some 92000001)]]
def J7(l:DS):Ec:=[[.sl .u8 l (some 92000000)]]
@[reducible] def gP(r:Option (DV×Ec)):DS:=A6 (gC r 0 1)
@[reducible] def bq(d o:Nat):Bool:=Fb d 900000&&Fb o 0
@[reducible] def pq(d o:Nat):Bool:=Fb d 900000&&Fb o B4
@[reducible] def pR(ks:List KD)(F:DU):Option (Bool×E6):=some (okR ks F,N3 ks F)
@[reducible] def pB(ks:List KD)(eo:List (List KD))(F:Option (DV×Ec)):Option (Bool×DV×Ec):=some (okB ks eo F,rsR ks F,csR eo F)
abbrev S1T:=DV->Option (Bool×E6)
abbrev S2T:=DV->Ec->Option (Bool×DV×Ec)
def lkT:List (Fe×S1T)->T6
 |[],_,_=>none
 |(g,S)::r,f,ls=>bif Fb f g then S ls else lkT r f ls
def lkB:List (Fe×S2T)->TB6
 |[],_,_,_=>none
 |(g,S)::r,f,ls,cs=>bif Fb f g then S ls cs else lkB r f ls cs
def lkD:List (Nat×DX)->Nat->DX
 |[],_=>[]
 |(g,l)::r,n=>bif Fb n g then l else lkD r n
def noD:Nat->DX:=λ_=>[]
def lkN:List (Nat×Nat)->Nat->Nat
 |[],n=>100+n
 |(a,b)::r,n=>bif Fb n a then b else lkN r n
def bpG(TB:List (Fe×S2T))(f:Fe):Option DX:=bif TB.any (λp=>Fb p.1 f)then(bif Fb f 85||Fb f 154 then some [0,1]else bif Fb f 216 then some [0,3]else some [0])else none
def mkE(T:List (Fe×S1T))(TB:List (Fe×S2T))(dr:Nat->DX)(nt:Nat)(mb:DX)(np:Nat)(oz:DX)(bn:List (Nat×Nat)):Env Ty6 A4:=
 {U:=U6,tb:=tb6,T:=lkT T,cons:=λ_=>none,drop:=dr,nt:=nt,zr:=zr6,mb:=λd=>mem d mb,np:=np,oz:=λd=>mem d oz,bn:=lkN bn,bp:=bpG TB,TBg:=lkB TB}
section
variable {R:Type}
def LP(E:Env Ty6 A4)(nn:Nat)(f:Func)(p:DX)(hid n:Nat)(s:S6)(K:Ex->S6->Option R):Option R:=C8 (lbN nn E (A2 f p) hid) n s K
def sk(E:Env Ty6 A4)(nn:Nat)(f:Func)(p:DX)(K:Ex->S6->Option R):Ex->S6->Option R:=C1 (B2 E nn (A2 f p)) K
end
@[reducible] def eI(k:Nat)(x:Int):Nat×E6:=(k,.one (.int .i64 x))
@[reducible] def eB(k:Nat)(x:Bool):Nat×E6:=(k,.one (.bool x))
@[reducible] def eP(k d:Nat):Nat×E6:=(k,.one (.ptr d 0))
@[reducible] def eL(k:Nat)(t:Ty6)(x:List (A4 t)):Nat×E6:=(k,.one (.sl t x none))
@[reducible] def eS(k:Nat)(x:DT):Nat×E6:=(k,.one (.str x))
def C3E(e:Nat×E6):List (Nat×E6)->List (Nat×E6)
 |[]=>[e]
 |x::r=>bif Nat.blt e.1 x.1 then e::x::r else x::C3E e r
def E7(e:Nat×E6)(s:S6):S6:=⟨C3E e s.fr,s.live⟩
@[reducible] def pg(f:List (Nat×E6))(x:DS):S6:=⟨eP 0 900000::f++[(1900000,.bx 900000 [.ptr 900000 B4,.sl .u8 x (some 92000001)])],[900000,900000,92000001]⟩
@[reducible] def ou(f:List (Nat×E6))(x:DS):S6:=⟨eP 0 900000::f++[(1900000,.bx 900000 [.sl .u8 x (some 92000000)])],[900000,92000000]⟩
section
variable {I:Inv}
def A1C(I:Inv):List (Fe×S1T)->Prop
 |[]=>True
 |p::r=>Sound Ez U6 I p.1 (sG p.2)/\A1C I r
def U5(I:Inv):List (Fe×S2T)->Prop
 |[]=>True
 |p::r=>D7 Ez U6 I p.1 (sGB p.2)/\U5 I r
def A6B{f:Fe}{ls:DV}{r:E6}:∀{T:List (Fe×S1T)},A1C I T->lkT T f ls=some (true,r)->(∀args w,(Fi f args).run Ez w=.ok (.enter f args) w)/\A1U Ez U6 I f ls r
 |[],_,h=>by cases h
 |(g,S)::T,hT,h=>by
  obtain⟨h1,h2⟩:=hT;unfold lkT at h;cases hb:Fb f g with
  |true=>rw[hb]at h;cases Ic hb;exact D4W h1 h
  |false=>rw[hb]at h;exact A6B h2 h
def A6v{f:Fe}{ls:DV}{cs:Ec}{rs:DV}{ay:Ec}:∀{T:List (Fe×S2T)},U5 I T->L3 (lkB T f ls cs)=some (rs,ay)->(∀args w,(Fi f args).run Ez w=.ok (.enter f args) w)/\X2 Ez U6 I f ls cs rs ay
 |[],_,h=>by cases h
 |(g,S)::T,hT,h=>by
  obtain⟨h1,h2⟩:=hT;unfold lkB at h;cases hb:Fb f g with
  |true=>rw[hb]at h;cases Ic hb;exact D4A h1 h
  |false=>rw[hb]at h;exact A6v h2 h
variable {T:List (Fe×S1T)}{TB:List (Fe×S2T)}{dr:Nat->DX}{nt:Nat}{mb:DX}{np:Nat}{oz:DX}{bn:List (Nat×Nat)}{f:Fe}{fn:Func}
def B3I(hb:HB I)(hT:A1C I T)(hB:U5 I TB):EnvI Ez (mkE T TB dr nt mb np oz bn) I:=
 ⟨u6_ok,A3R,A3K,λ_ _ _ h=>A6B hT h,λ_ _ _ _ _ h=>A6v hB h,λ_ _ _ _ _ _ _ _ h=>(by cases h),λf ls cs rs h=>(by cases h),hb.mono,A6W,λ_ _ _ h=>(by cases h),A7h⟩
def G0(E:Env Ty6 A4)(hb:HB I)(hE:E=mkE T TB dr nt mb np oz bn)(hT:A1C I T)(hB:U5 I TB)(hf:Tryz.prog.funcs[f]?=some fn)(df:nt=fn.ntmps)(he:∀args w,(Fi f args).run Ez w=.ok (.enter f args) w)
  {S:DV->DU}(hS:∀ls r,S ls=some r->A5 E NN fn ls=some r):Sound Ez U6 I f S:=
 by subst hE;exact B0a (B3I hb hT hB) hf df he λls r h=>⟨NN,hS ls r h⟩
def M2(E:Env Ty6 A4)(hb:HB I)(hE:E=mkE T TB dr nt mb np oz bn)(hT:A1C I T)(hB:U5 I TB)(hf:Tryz.prog.funcs[f]?=some fn)(df:nt=fn.ntmps)(he:∀args w,(Fi f args).run Ez w=.ok (.enter f args) w){ps:DX}
  {S:DV->Ec->Option (DV×Ec)}(hS:∀ls cs r,S ls cs=some r->C5 E NN fn ps ls cs=some r):D7 Ez U6 I f S:=
 by subst hE;exact A7K (B3I hb hT hB) hf df he λls cs r h=>⟨NN,hS ls cs r h⟩
def C64{ti:String->DV->Ec->Option (Bool×DV×Ec)}{bi:String->DX}(E:Env Ty6 A4)(hb:HB I)(hE:E={mkE T TB dr nt mb np oz bn with TIg:=ti,bi:=bi})(hT:A1C I T)(hB:U5 I TB)
  (hi:∀(w:World)(m:Nat->Nat),I w m->∀(nm:String)(ls:DV)(cs:Ec)(rs:DV)(ay:Ec),L3 (ti nm ls cs)=some (rs,ay)->A5k Ez U6 ⟨w,m,λ_=>False,0,λ_=>undef⟩ nm ls cs rs ay)
  (hf:Tryz.prog.funcs[f]?=some fn) (df:nt=fn.ntmps) (he:∀args w,(Fi f args).run Ez w=.ok (.enter f args) w) {ps:DX}
  {S:DV->Ec->Option (DV×Ec)} (hS:∀ls cs r,S ls cs=some r->C5 E NN fn ps ls cs=some r):D7 Ez U6 I f S:=by
 subst hE;have hI:EnvI Ez {mkE T TB dr nt mb np oz bn with TIg:=ti,bi:=bi} I:=⟨u6_ok,A3R,A3K,λ_ _ _ h=>A6B hT h,λ_ _ _ _ _ h=>A6v hB h,hi,λf ls cs rs h=>(by cases h),hb.mono,A6W,λ_ _ _ h=>(by cases h),A7h⟩;exact A7K hI hf df he λls cs r h=>⟨NN,hS ls cs r h⟩
def A8y(E:Env Ty6 A4)(hb:HB I)(hE:E=mkE T TB dr nt mb np oz bn)(hT:A1C I T)(hB:U5 I TB)(hf:Tryz.prog.funcs[f]?=some fn)(df:nt=fn.ntmps)(he:∀args w,(Fi f args).run Ez w=.ok (.enter f args) w)
  {S:DV->DU}(hS:∀ls r,S ls=some r->∃r0,A5 E NN fn ls=some r0/\r=A1d r0/\(∀d ls,r0≠ .bx d ls)/\∀ls,r0≠ .st ls):Sound Ez U6 I f S:=
 by subst hE;exact Sound.close (S0:=A5 (mkE T TB dr nt mb np oz bn) NN fn) (B0a (B3I hb hT hB) hf df he λls r h=>⟨NN,h⟩) hS
end
def fP{E:Env Ty6 A4}{nn:Nat}{fn:Func}{ps:DX}{xs:DV}{b:DS}{ks:List KD}{F:DW}{d o p q n:Nat}{r:B6}(he:C5 E nn fn ps (.ptr 900000 0::xs) [[.ptr 900000 B4,.sl .u8 b (some 92000001)]]=F)(hx:V3 ks=true)(h:L3 (bif bq d o&&pq p q&&(Fb n 92000001)then pB ks kP F else none)=some r):
  C5 E nn fn ps (.ptr d o::xs) [[.ptr p q,.sl .u8 b (some n)]]=some r:=by
 obtain⟨hc,h⟩:=T3 h;simp only[Fv,A0W]at hc;obtain⟨⟨⟨rfl,rfl⟩,⟨rfl,rfl⟩⟩,rfl⟩:=hc;exact A8c he hx rfl h
def fO{E:Env Ty6 A4}{nn:Nat}{fn:Func}{ps:DX}{xs:DV}{b:DS}{ks:List KD}{F:DW}{d o n:Nat}{r:B6}(he:C5 E nn fn ps (.ptr 900000 0::xs) [[.sl .u8 b (some 92000000)]]=F)(hx:V3 ks=true)(h:L3 (bif bq d o&&(Fb n 92000000)then pB ks kO F else none)=some r):
  C5 E nn fn ps (.ptr d o::xs) [[.sl .u8 b (some n)]]=some r:=by
 obtain⟨hc,h⟩:=T3 h;simp only[Fv,A0W]at hc;obtain⟨⟨rfl,rfl⟩,rfl⟩:=hc;exact A8c he hx rfl h
def fN{E:Env Ty6 A4}{nn:Nat}{fn:Func}{ps:DX}{xs:DV}{c:Ec}{ks:List KD}{eo:List (List KD)}{F:DW}{d o:Nat}{r:B6}(he:C5 E nn fn ps (.ptr 900000 0::xs) c=F)(hx:V3 ks=true)(h:L3 (bif bq d o then pB ks eo F else none)=some r)(hy:A5h eo=true:=by rfl):
  C5 E nn fn ps (.ptr d o::xs) c=some r:=by
 obtain⟨hc,h⟩:=T3 h;simp only[Fv,A0W]at hc;obtain⟨rfl,rfl⟩:=hc;exact A8c he hx hy h
@[reducible] def kN:List (List KD):=[[.sl .node none,.sl .tok none]]
@[reducible] def bxN(N:DY)(T:DZ):Ec:=[[.sl .node N none,.sl .tok T none]]
def mkR(T:List (Fe×S1T))(TB TR:List (Fe×S2T))(dr:Nat->DX)(nt:Nat)(mb:DX)(np:Nat)(oz:DX)(bn:List (Nat×Nat)):Env Ty6 A4:=
 {mkE T (TB++TR) dr nt mb np oz bn with ro:=λf=>TR.any λp=>Fb p.1 f,TRg:=λf ls cs=>B7k (lkB TR f ls cs)}
def RoP(p:Ec->Prop)(o:Option (DV×Ec)):Prop:=∀r,o=some r->p r.2
abbrev RoK(cs:Ec)(o:Option (DV×Ec)):Prop:=RoP (· =cs) o
section
variable {p:Ec->Prop}{cs:Ec}{x y:Option (DV×Ec)}
def H8:RoP p none:=λ_ h=>by cases h
def P2(l:DV):RoK cs (some (l,cs)):=λ_ h=>by cases h;rfl
def B4L(l:DV)(h:p cs):RoP p (some (l,cs)):=λ_ e=>by cases e;exact h
def M9{c:Bool}(h1:RoP p x)(h2:RoP p y):RoP p (bif c then x else y):=by cases c<;>assumption
def N7{c:Bool}(h1:RoP p x):RoP p (gd c x):=M9 h1 H8
def D3E{F:Option (DV×Ec)}{ks:List KD}{eo:List (List KD)}(h:∀r,F=some r->RoP p x):RoP p (gd (okB ks eo F) x):=by
 cases F with
 |none=>exact H8
 |some r=>exact N7 (h r rfl)
def A0p{F:Option (DV×Ec)}{ks:List KD}{eo:List (List KD)}(hx:V3 ks=true)(hy:A5h eo=true)(h:RoK cs F){rs:DV}{ay:Ec}(e:some (okB ks eo F,rsR ks F,csR eo F)=some (true,rs,ay)):ay=cs:=by
 obtain⟨h1,h2⟩:=Il (Iz e);have h3:=h _ (C2j h1 hx hy);rw[<-(Il h2).2];exact h3
end
def tbD(t:Ge):TK Ty6:=match t with
 |76=>.struct .dfn0 [(0,1),(1,1),(2,1),(3,1),(4,1),(5,1),(6,1),(7,2)]
 |t=>tb6 t
def zrD(t:Ge):Option DV:=match t with
 |76=>some [.int .i64 0,.str [],.str [],.bool false,.nils,.sl .dir [] none,.sl .sel [] none,.int .i64 0,.int .i64 0]
 |t=>zr6 t
def ftD(t:Ge):Option Ty6:=match t with
 |76=>some .dfn
 |_=>none
def C9m(t:Ge):Q6 Ez U6 t (tbD t):=by
 unfold tbD;split
 ·exact B2f En En
 ·exact A3R _
def D39(t:Ge)(zs:DV)(h:zrD t=some zs):A1v Ez U6 t zs:=by
 unfold zrD at h;split at h
 ·cases h;exact B2n En
 ·exact A3K _ _ h
section
variable {I:Inv}
def A8W:List (Fe×S2T)->Prop
 |[]=>True
 |p::r=>(∀ls cs rs ay,p.2 ls cs=some (true,rs,ay)->ay=cs)/\A8W r
def B3u{B:List (Fe×S2T)}:∀{A:List (Fe×S2T)},U5 I A->U5 I B->U5 I (A++B)
 |[],_,h=>h
 |_::_,h1,h2=>⟨h1.1,B3u h1.2 h2⟩
def B3F{f:Fe}{ls:DV}{cs:Ec}{rs:DV}:∀{T:List (Fe×S2T)},U5 I T->A8W T->L3 (B7k (lkB T f ls cs))=some rs->(∀args w,(Fi f args).run Ez w=.ok (.enter f args) w)/\X2 Ez U6 I f ls cs rs cs
 |[],_,_,h=>by cases h
 |(g,S)::T,hT,hR,h=>by
  obtain⟨h1,h2⟩:=hT;unfold lkB at h;cases hb:Fb f g with
  |true=>rw[hb]at h;cases Ic hb;exact D0o h1 hR.1 h
  |false=>rw[hb]at h;exact B3F h2 hR.2 h
variable {T:List (Fe×S1T)}{TB TR:List (Fe×S2T)}{dr:Nat->DX}{nt:Nat}{mb:DX}{np:Nat}{oz:DX}{bn:List (Nat×Nat)}{f:Fe}{fn:Func}
def C9B(hb:HB I)(hT:A1C I T)(hB:U5 I TB)(hC:U5 I TR)(hR:A8W TR):EnvI Ez (mkR T TB TR dr nt mb np oz bn) I:=
 ⟨u6_ok,A3R,A3K,λ_ _ _ h=>A6B hT h,λ_ _ _ _ _ h=>A6v (B3u hB hC) h,λ_ _ _ _ _ _ _ _ h=>(by cases h),λf ls cs rs h=>B3F hC hR h,hb.mono,A6W,λ_ _ _ h=>(by cases h),A7h⟩
def A1b(E:Env Ty6 A4)(hb:HB I)(hE:E=mkR T TB TR dr nt mb np oz bn)(hT:A1C I T)(hB:U5 I TB)(hC:U5 I TR)(hR:A8W TR)(hf:Tryz.prog.funcs[f]?=some fn)(df:nt=fn.ntmps)(he:∀args w,(Fi f args).run Ez w=.ok (.enter f args) w){ps:DX}
  {S:DV->Ec->Option (DV×Ec)}(hS:∀ls cs r,S ls cs=some r->C5 E NN fn ps ls cs=some r):D7 Ez U6 I f S:=
 by subst hE;exact A7K (C9B hb hT hB hC hR) hf df he λls cs r h=>⟨NN,hS ls cs r h⟩
def D54(E:Env Ty6 A4)(hb:HB I)(hE:E={mkR T TB TR dr nt mb np oz bn with tb:=tbD,zr:=zrD,rw:=true,fty:=ftD})(hT:A1C I T)(hB:U5 I TB)(hC:U5 I TR)(hR:A8W TR)(hf:Tryz.prog.funcs[f]?=some fn)(df:nt=fn.ntmps)(he:∀args w,(Fi f args).run Ez w=.ok (.enter f args) w){ps:DX}
  {S:DV->Ec->Option (DV×Ec)} (hS:∀ls cs r,S ls cs=some r->C5 E NN fn ps ls cs=some r):D7 Ez U6 I f S:=by
 subst hE;have hI:EnvI Ez {mkR T TB TR dr nt mb np oz bn with tb:=tbD,zr:=zrD,rw:=true,fty:=ftD} I:=
  ⟨u6_ok,C9m,D39,λ_ _ _ h=>A6B hT h,λ_ _ _ _ _ h=>A6v (B3u hB hC) h,λ_ _ _ _ _ _ _ _ h=>(by cases h),λf ls cs rs h=>B3F hC hR h,hb.mono,A6W,λ_ _ _ h=>(by cases h),A7h⟩
 exact A7K hI hf df he λls cs r h=>⟨NN,hS ls cs r h⟩
end
def E56:Env Ty6 A4:=mkE [] [] noD 23 [] 0 [] []
def F56(a0:DT):DU:=let j1:Bool->DU:=λz2=>some (.one (.bool false));let j3:Bool->DU:=λz4=>bif z4 then(some (.one (.bool true)))else(j1 z4);let z5:=a0==[110,97,109,101];bif z5 then(j3 z5)else(let z6:=a0==[98,117,116,79,110];bif z6 then(j3 z6)else(let z7:=a0==[111,110];bif z7 then(j3 z7)else(let z8:=a0==[108,105,116];bif z8 then(j3 z8)else(let z9:=a0==[101,110,100];bif z9 then(j3 z9)else(let dJ:=a0==[110,111,110,101];bif dJ then(j3 dJ)else(bif(a0==[123])then(j3 (a0==[123]))else(bif(a0==[125])then(j3 (a0==[125]))else(bif(a0==[40])then(j3 (a0==[40]))else(bif(a0==[41])then(j3 (a0==[41]))else(bif(a0==[91])then(j3 (a0==[91]))else(bif(a0==[93])then(j3 (a0==[93]))else(bif(a0==[36])then(j3 (a0==[36]))else(bif(a0==[58])then(j3 (a0==[58]))else(bif(a0==[61])then(j3 (a0==[61]))else(bif(a0==[33])then(j3 (a0==[33]))else(bif(a0==[64])then(j3 (a0==[64]))else(let cW:=(a0==[46,46,46]);bif cW then(some (.one (.bool true)))else(some (.one (.bool false))))))))))))))))))))
def B7p{a0:DT}:A5 E56 NN Tryz.f56 [.str a0]=F56 a0:=En
def S56:S1T
 |[.str a0]=>pR [.bool] (F56 a0)
 |_=>none
def C1Q:Env Ty6 A4:=mkE [] [] noD 14 [] 0 [] []
def A00(a0:A0)(a1:DT):DU:=bif(a0.kind==3)==true then(some (.one (.bool (a0.text==a1))))else(some (.one (.bool false)))
def C9u{a0:A0}{a1:DT}:A5 C1Q NN Tryz.f129 [.agg .tok a0,.str a1]=A00 a0 a1:=En
def A79:S1T
 |[.agg .tok a0,.str a1]=>pR [.bool] (A00 a0 a1)
 |_=>none
def B8d:Env Ty6 A4:=mkE [] [] noD 14 [] 0 [] []
def Z2(a0:A0)(a1:DT):DU:=bif(a0.kind==2)==true then(some (.one (.bool (a0.text==a1))))else(some (.one (.bool false)))
def D55{a0:A0}{a1:DT}:A5 B8d NN Tryz.f131 [.agg .tok a0,.str a1]=Z2 a0 a1:=En
def A6D:S1T
 |[.agg .tok a0,.str a1]=>pR [.bool] (Z2 a0 a1)
 |_=>none
def C1E:Env Ty6 A4:=mkE [(131,A6D)] [] noD 14 [] 0 [] []
def T9(a0:A0)(a1:DT)(a2 a3:Eb):DU:=gd (okR [.bool] (Z2 a0 a1)) (bif(lB (gL (Z2 a0 a1) 0))then(some (.one (.sl .str a2 none)))else(some (.one (.sl .str a3 none))))
def C9t{a0:A0}{a1:DT}{a2 a3:Eb}:A5 C1E NN Tryz.f183 [.agg .tok a0,.str a1,.sl .str a2 none,.sl .str a3 none]=T9 a0 a1 a2 a3:=En
def A8G:S1T
 |[.agg .tok a0,.str a1,.sl .str a2 none,.sl .str a3 none]=>pR [.sl .str none] (T9 a0 a1 a2 a3)
 |_=>none
def B79:Env Ty6 A4:=mkE [(129,A79),(131,A6D),(183,A8G)] [] noD 74 [] 0 [] []
def X5(a0:DT)(a1:A0):DU:=bif(a0==[68,111,99,117,109,101,110,116])then(some (.tup [.sl .str [[68,101,102],[68,101,102,115],[101,110,100]] (some 1),.bool true]))else(bif(a0==[68,101,102,115])then(bif(a1.kind==0)then(some (.tup [.sl .str [] (some 1),.bool true]))else(some (.tup [.sl .str [[68,101,102],[68,101,102,115]] (some 1),.bool true])))else(bif(a0==[68,101,102])then(let j1:DU:=some (.tup [.sl .str [[110,111,110,101]] (some 1),.bool true]);let r8:=Z2 a1 [123];gd (okR [.bool] r8) (bif(lB (gL r8 0))then(some (.tup [.sl .str [[83,101,116]] (some 1),.bool true]))else(let r7:=A00 a1 [113,117,101,114,121];gd (okR [.bool] r7) (bif(lB (gL r7 0))==false then(let r5:=A00 a1 [109,117,116,97,116,105,111,110];gd (okR [.bool] r5) (bif(lB (gL r5 0))==false then(let r3:=A00 a1 [115,117,98,115,99,114,105,112,116,105,111,110];gd (okR [.bool] r3) (bif(lB (gL r3 0))then(some (.tup [.sl .str [[110,97,109,101],[79,112,116,78,97,109,101],[79,112,116,86,97,114,115],[68,105,114,115],[83,101,116]] (some 1),.bool true]))else(let r2:=A00 a1 [102,114,97,103,109,101,110,116];gd (okR [.bool] r2) (bif(lB (gL r2 0))then(some (.tup [.sl .str [[110,97,109,101],[98,117,116,79,110],[111,110],[110,97,109,101],[68,105,114,115],[83,101,116]] (some 1),.bool true]))else j1))))else(bif true then(some (.tup [.sl .str [[110,97,109,101],[79,112,116,78,97,109,101],[79,112,116,86,97,114,115],[68,105,114,115],[83,101,116]] (some 1),.bool true]))else(let r4:=A00 a1 [102,114,97,103,109,101,110,116];gd (okR [.bool] r4) (bif(lB (gL r4 0))then(some (.tup [.sl .str [[110,97,109,101],[98,117,116,79,110],[111,110],[110,97,109,101],[68,105,114,115],[83,101,116]] (some 1),.bool true]))else j1)))))else(bif true then(some (.tup [.sl .str [[110,97,109,101],[79,112,116,78,97,109,101],[79,112,116,86,97,114,115],[68,105,114,115],[83,101,116]] (some 1),.bool true]))else(let r6:=A00 a1 [102,114,97,103,109,101,110,116];gd (okR [.bool] r6) (bif(lB (gL r6 0))then(some (.tup [.sl .str [[110,97,109,101],[98,117,116,79,110],[111,110],[110,97,109,101],[68,105,114,115],[83,101,116]] (some 1),.bool true]))else j1)))))))else(bif(a0==[79,112,116,78,97,109,101])then(bif(a1.kind==3)then(some (.tup [.sl .str [[110,97,109,101]] (some 1),.bool true]))else(some (.tup [.sl .str [] (some 1),.bool true])))else(bif(a0==[79,112,116,86,97,114,115])then(let r9:=T9 a1 [40] [[40],[86,97,114],[86,97,114,115],[41]] [];gd (okR [.sl .str none] r9) (some (.tup [.sl .str (I2 (gL r9 0)) none,.bool true])))else(bif(a0==[86,97,114,115])then(let cD:=T9 a1 [36] [[86,97,114],[86,97,114,115]] [];gd (okR [.sl .str none] cD) (some (.tup [.sl .str (I2 (gL cD 0)) none,.bool true])))else(bif(a0==[86,97,114])then(some (.tup [.sl .str [[36],[110,97,109,101],[58],[84,121,112,101],[79,112,116,68,101,102,97,117,108,116],[67,68,105,114,115]] (some 1),.bool true]))else(bif(a0==[79,112,116,68,101,102,97,117,108,116])then(let gi:=T9 a1 [61] [[61],[67,86,97,108,117,101]] [];gd (okR [.sl .str none] gi) (some (.tup [.sl .str (I2 (gL gi 0)) none,.bool true])))else(bif(a0==[84,121,112,101])then(let dM:=T9 a1 [91] [[91],[84,121,112,101],[93],[66,97,110,103]] [[110,97,109,101],[66,97,110,103]];gd (okR [.sl .str none] dM) (some (.tup [.sl .str (I2 (gL dM 0)) none,.bool true])))else(bif(a0==[66,97,110,103])then(let dO:=T9 a1 [33] [[33]] [];gd (okR [.sl .str none] dO) (some (.tup [.sl .str (I2 (gL dO 0)) none,.bool true])))else(some (.tup [.sl .str [] (some 1),.bool false])))))))))))
def D7K{a0:DT}{a1:A0}:A5 B79 NN Tryz.f126 [.str a0,.agg .tok a1]=X5 a0 a1:=En
def B48:S1T
 |[.str a0,.agg .tok a1]=>pR [.slc .str,.bool] (X5 a0 a1)
 |_=>none
def C3P:Env Ty6 A4:=mkE [(129,A79),(183,A8G)] [] noD 43 [] 0 [] []
def A0X(a0:DT)(a1:A0):DU:=bif(a0==[83,101,116])then(some (.tup [.sl .str [[123],[83,101,108],[83,101,108,115],[125]] (some 1),.bool true]))else(bif(a0==[83,101,108,115])then(let r1:=T9 a1 [125] [] [[83,101,108],[83,101,108,115]];gd (okR [.sl .str none] r1) (some (.tup [.sl .str (I2 (gL r1 0)) none,.bool true])))else(bif(a0==[83,101,108])then(let r2:=T9 a1 [46,46,46] [[46,46,46],[82,101,115,116]] [[110,97,109,101],[65,108,105,97,115],[65,114,103,115],[68,105,114,115],[79,112,116,83,101,116]];gd (okR [.sl .str none] r2) (some (.tup [.sl .str (I2 (gL r2 0)) none,.bool true])))else(bif(a0==[65,108,105,97,115])then(let r3:=T9 a1 [58] [[58],[110,97,109,101]] [];gd (okR [.sl .str none] r3) (some (.tup [.sl .str (I2 (gL r3 0)) none,.bool true])))else(bif(a0==[79,112,116,83,101,116])then(let r4:=T9 a1 [123] [[83,101,116]] [];gd (okR [.sl .str none] r4) (some (.tup [.sl .str (I2 (gL r4 0)) none,.bool true])))else(bif(a0==[82,101,115,116])then(let r5:=A00 a1 [111,110];gd (okR [.bool] r5) (bif(lB (gL r5 0))then(some (.tup [.sl .str [[111,110],[110,97,109,101],[68,105,114,115],[83,101,116]] (some 1),.bool true]))else(bif(a1.kind==3)then(some (.tup [.sl .str [[98,117,116,79,110],[68,105,114,115]] (some 1),.bool true]))else(some (.tup [.sl .str [[68,105,114,115],[83,101,116]] (some 1),.bool true])))))else(some (.tup [.sl .str [] (some 1),.bool false])))))))
def D5d{a0:DT}{a1:A0}:A5 C3P NN Tryz.f127 [.str a0,.agg .tok a1]=A0X a0 a1:=En
def B6U:S1T
 |[.str a0,.agg .tok a1]=>pR [.slc .str,.bool] (A0X a0 a1)
 |_=>none
def C4P:Env Ty6 A4:=mkE [(131,A6D),(183,A8G)] [] noD 92 [] 0 [] []
def Y1(a0 a1:DT)(a2:A0):DU:=bif(a0==[68,105,114,115])then(gd (decide (Ew a1+Ew [65,114,103,115]<=9223372036854775807)) (gd (decide (Ew a1+Ew [68,105,114,115]<=9223372036854775807)) (let r1:=T9 a2 [64] [[64],[110,97,109,101],a1++[65,114,103,115],a1++[68,105,114,115]] [];gd (okR [.sl .str none] r1) (some (.one (.sl .str (I2 (gL r1 0)) none))))))else(bif(a0==[65,114,103,115])then(gd (decide (Ew a1+Ew [65,114,103]<=9223372036854775807)) (gd (decide (Ew a1+Ew [77,111,114,101]<=9223372036854775807)) (let r2:=T9 a2 [40] [[40],a1++[65,114,103],a1++[77,111,114,101],[41]] [];gd (okR [.sl .str none] r2) (some (.one (.sl .str (I2 (gL r2 0)) none))))))else(bif(a0==[77,111,114,101])then(gd (decide (Ew a1+Ew [65,114,103]<=9223372036854775807)) (gd (decide (Ew a1+Ew [77,111,114,101]<=9223372036854775807)) (let r3:=T9 a2 [41] [] [a1++[65,114,103],a1++[77,111,114,101]];gd (okR [.sl .str none] r3) (some (.one (.sl .str (I2 (gL r3 0)) none))))))else(bif(a0==[65,114,103])then(gd (decide (Ew a1+Ew [86,97,108,117,101]<=9223372036854775807)) (some (.one (.sl .str [[110,97,109,101],[58],a1++[86,97,108,117,101]] (some 1)))))else(bif(a0==[86,97,108,117,101])then(let j4:DU:=some (.one (.sl .str [[108,105,116]] (some 1)));let r9:=Z2 a2 [36];gd (okR [.bool] r9) (bif(lB (gL r9 0))==true then(bif(a1==[])then(some (.one (.sl .str [[36],[110,97,109,101]] (some 1))))else(let r6:=Z2 a2 [91];gd (okR [.bool] r6) (bif(lB (gL r6 0))then(gd (decide (Ew a1+Ew [73,116,101,109,115]<=9223372036854775807)) (some (.one (.sl .str [[91],a1++[73,116,101,109,115],[93]] (some 1)))))else(let r5:=Z2 a2 [123];gd (okR [.bool] r5) (bif(lB (gL r5 0))then(gd (decide (Ew a1+Ew [70,105,101,108,100,115]<=9223372036854775807)) (some (.one (.sl .str [[123],a1++[70,105,101,108,100,115],[125]] (some 1)))))else(bif(a2.kind==3)then(some (.one (.sl .str [[110,97,109,101]] (some 1))))else j4))))))else(bif false then(some (.one (.sl .str [[36],[110,97,109,101]] (some 1))))else(let r8:=Z2 a2 [91];gd (okR [.bool] r8) (bif(lB (gL r8 0))then(gd (decide (Ew a1+Ew [73,116,101,109,115]<=9223372036854775807)) (some (.one (.sl .str [[91],a1++[73,116,101,109,115],[93]] (some 1)))))else(let r7:=Z2 a2 [123];gd (okR [.bool] r7) (bif(lB (gL r7 0))then(gd (decide (Ew a1+Ew [70,105,101,108,100,115]<=9223372036854775807)) (some (.one (.sl .str [[123],a1++[70,105,101,108,100,115],[125]] (some 1)))))else(bif(a2.kind==3)then(some (.one (.sl .str [[110,97,109,101]] (some 1))))else j4))))))))else(bif(a0==[73,116,101,109,115])then(gd (decide (Ew a1+Ew [86,97,108,117,101]<=9223372036854775807)) (gd (decide (Ew a1+Ew [73,116,101,109,115]<=9223372036854775807)) (let cD:=T9 a2 [93] [] [a1++[86,97,108,117,101],a1++[73,116,101,109,115]];gd (okR [.sl .str none] cD) (some (.one (.sl .str (I2 (gL cD 0)) none))))))else(bif(a0==[70,105,101,108,100,115])then(gd (decide (Ew a1+Ew [70,105,101,108,100]<=9223372036854775807)) (gd (decide (Ew a1+Ew [70,105,101,108,100,115]<=9223372036854775807)) (let gi:=T9 a2 [125] [] [a1++[70,105,101,108,100],a1++[70,105,101,108,100,115]];gd (okR [.sl .str none] gi) (some (.one (.sl .str (I2 (gL gi 0)) none))))))else(bif(a0==[70,105,101,108,100])then(gd (decide (Ew a1+Ew [86,97,108,117,101]<=9223372036854775807)) (some (.one (.sl .str [[110,97,109,101],[58],a1++[86,97,108,117,101]] (some 1)))))else(some (.one (.sl .str [[110,111,110,101]] (some 1)))))))))))
def D0G{a0 a1:DT}{a2:A0}:A5 C4P NN Tryz.f128 [.str a0,.str a1,.agg .tok a2]=Y1 a0 a1 a2:=En
def B7H:S1T
 |[.str a0,.str a1,.agg .tok a2]=>pR [.slc .str] (Y1 a0 a1 a2)
 |_=>none
def E57:Env Ty6 A4:=mkE [(126,B48),(127,B6U),(128,B7H)] [] noD 33 [] 0 [] []
def F57(a0:DT)(a1:A0):DU:=gd (okR [.slc .str,.bool] (X5 a0 a1)) (let z1:=(I2 (gL (X5 a0 a1) 0));bif(lB (gL (X5 a0 a1) 1))then(some (.one (.sl .str z1 none)))else(gd (okR [.slc .str,.bool] (A0X a0 a1)) (let z2:=(I2 (gL (A0X a0 a1) 0));bif(lB (gL (A0X a0 a1) 1))then(some (.one (.sl .str z2 none)))else(match idx a0 0 with|none=>none|some y3=>(bif((Fj y3:Int)==67)then(match sub a0 1 (Ew a0:Int)with|none=>none|some y4=>(let r5:=Y1 y4 [67] a1;gd (okR [.slc .str] r5) (some (.one (.sl .str (I2 (gL r5 0)) none)))))else(let r6:=Y1 a0 [] a1;gd (okR [.slc .str] r6) (some (.one (.sl .str (I2 (gL r6 0)) none)))))))))
def C7C{a0:DT}{a1:A0}:A5 E57 NN Tryz.f57 [.str a0,.agg .tok a1]=F57 a0 a1:=En
def S57:S1T
 |[.str a0,.agg .tok a1]=>pR [.sl .str none] (F57 a0 a1)
 |_=>none
def B9d:Env Ty6 A4:=mkE [] [] noD 21 [] 0 [] []
def A3i(a0:A0):DU:=bif(a0.kind==4)==false then(bif(a0.kind==5)==false then(bif(a0.kind==6)==false then(some (.one (.bool (a0.kind==7))))else(some (.one (.bool true))))else(some (.one (.bool true))))else(some (.one (.bool true)))
def C6C{a0:A0}:A5 B9d NN Tryz.f130 [.agg .tok a0]=A3i a0:=En
def B3x:S1T
 |[.agg .tok a0]=>pR [.bool] (A3i a0)
 |_=>none
def E58:Env Ty6 A4:=mkE [(129,A79),(130,B3x),(131,A6D)] [] noD 39 [] 0 [] []
def F58(a0:DT)(a1:A0):DU:=bif(a0==[110,97,109,101])then(some (.one (.bool (a1.kind==3))))else(bif(a0==[98,117,116,79,110])then(bif(a1.kind==3)==true then(some (.one (.bool (!(a1.text==[111,110])))))else(some (.one (.bool false))))else(bif(a0==[111,110])then(let r1:=A00 a1 [111,110];gd (okR [.bool] r1) (some (.one (.bool (lB (gL r1 0))))))else(bif(a0==[108,105,116])then(gd (okR [.bool] (A3i a1)) (some (.one (.bool (lB (gL (A3i a1) 0))))))else(bif(a0==[101,110,100])then(some (.one (.bool (a1.kind==0))))else(bif(a0==[110,111,110,101])then(some (.one (.bool false)))else(gd (okR [.bool] (Z2 a1 a0)) (some (.one (.bool (lB (gL (Z2 a1 a0) 0)))))))))))
def D7w{a0:DT}{a1:A0}:A5 E58 NN Tryz.f58 [.str a0,.agg .tok a1]=F58 a0 a1:=En
def S58:S1T
 |[.str a0,.agg .tok a1]=>pR [.bool] (F58 a0 a1)
 |_=>none
def E73:Env Ty6 A4:=mkE [] [] noD 11 [] 0 [] []
def F73(a0:DT):DU:=match idx a0 0 with|none=>none|some y1=>(bif(decide ((Fj y1:Int)>=65))==true then(match idx a0 0 with|none=>none|some y2=>(some (.one (.bool (decide ((Fj y2:Int)<=90))))))else(some (.one (.bool false))))
def D7X{a0:DT}:A5 E73 NN Tryz.f73 [.str a0]=F73 a0:=En
def S73:S1T
 |[.str a0]=>pR [.bool] (F73 a0)
 |_=>none
def A5Q:Env Ty6 A4:=mkE [] [] (lkD [(0,[4]),(2,[6,7,8]),(3,[10,11,18]),(4,[9,12,13,14,15,16,17]),(5,[0,1,5,18,19,20,21,22,23]),(6,[0,1,5,9])]) 24 [] 0 [] []
def B5g(a0:List B9)(a1:DT)(x5:Int):S6:=⟨[eL 0 .rule a0,eS 1 a1,eI 5 x5],[]⟩
def D1v(a0:List B9)(a1:DT)(x5:Int)(x9:Bool):S6:=E7 (eB 9 x9) (B5g a0 a1 x5)
def D7J(a0:List B9)(a1:DT)(x4:List Eb):S6:=⟨[eL 4 .strs x4],[]⟩
def D43{R:Type}(nn:Nat)(a0:List B9)(a1:DT)(x5:Int)(k1:(List Eb)->Option R)(k2:Int->Option R)(k3:Int->Bool->Option R):Option R:=let z1:=decide (x5<(Ew a0:Int));bif z1 then(match idx a0 x5 with|none=>none|some y2=>(bif(y2.name==a1)then(match idx a0 x5 with|none=>none|some y3=>(k1 y3.choices))else(k2 (Ey .i64 (x5+1)))))else(k3 x5 z1)
def B1t{R:Type}(nn:Nat)(a0:List B9)(a1:DT):Nat->Int->((List Eb)->Option R)->(Int->Bool->Option R)->Option R
 |0,_,_,_=>none
 |n+1,x5,k1,k3=>D43 nn a0 a1 x5 k1 (λx5=>B1t nn a0 a1 n x5 k1 k3) k3
def C0W{R:Type}(nn:Nat)(a0:List B9)(a1:DT):∀(n:Nat)(x5:Int)(K:Ex->S6->Option R),LP A5Q nn He [1,0,1,0,0] 10002 n (B5g a0 a1 x5) K=B1t nn a0 a1 n x5 (λx4=>K .ret (D7J a0 a1 x4)) (λx5 x9=>K (.exit 0) (D1v a0 a1 x5 x9))
 |0,_,_=>rfl
 |n+1,x5,K=>by
  rw[B1t];simp only[<-C0W nn a0 a1 n _ K];kernel_rfl
def C4F(nn:Nat)(a0:List B9)(a1:DT):DU:=B1t nn a0 a1 nn 0 (λz1=>some (.one (.sl .strs z1 none))) (λz2 z3=>some (.one (.sl .strs [] (some 1))))
def A0G(a0:List B9)(a1:DT):DU:=C4F NN a0 a1
def C5C(nn:Nat){a0:List B9}{a1:DT}:A5 A5Q nn He [.sl .rule a0 none,.str a1]=C4F nn a0 a1:=by
 have h:A5 A5Q nn He [.sl .rule a0 none,.str a1]=LP A5Q nn He [1,0,1,0,0] 10002 nn (B5g a0 a1 0) (A7 0 (sk A5Q nn He [1,1] (B3 A5Q Tryz.f146.results.toList))):=En
 rw[h];simp only[C0W];show _=_;kernel_rfl
def A85:S1T
 |[.sl .rule a0 none,.str a1]=>pR [.slc .strs] (A0G a0 a1)
 |_=>none
def E77:Env Ty6 A4:=mkE [] [] (lkD [(0,[2]),(4,[6,7,8]),(5,[10,11,21]),(6,[9,12,13,14,15,16,17,18,19,20]),(7,[21,22,23]),(8,[4,24,25,26,27,28,29,30,31]),(9,[24,32,33]),(10,[0,3,4,5,9,34])]) 35 [] 0 [] []
def B6v(a0:DT)(x3:Eb)(x4 x5:Int):S6:=⟨[eS 0 a0,(3,.one (.sl .str x3 (some 103))),eI 4 x4,eI 5 x5],[103]⟩
def D7o(a0:DT)(x3:Eb)(x4 x5:Int)(x9:Bool):S6:=E7 (eB 9 x9) (B6v a0 x3 x4 x5)
def D7C{R:Type}(nn:Nat)(a0:DT)(x3:Eb)(x4 x5:Int)(k1:(Eb)->Int->Int->Option R)(k2:(Eb)->Int->Int->Bool->Option R):Option R:=let z1:=decide (x5<=(Ew a0:Int));bif z1 then(let j2:(Eb)->Int->Int->Bool->Option R:=λz3 z4 z5 z6=>k1 z3 z4 (Ey .i64 (z5+1));let j7:(Eb)->Int->Int->Option R:=λz8 z9 dJ=>k1 z8 z9 (Ey .i64 (dJ+1));let zt:(Eb)->Int->Int->Bool->Option R:=λer ee eh fv=>let jK:=decide (eh>ee);bif jK then(match sub a0 ee eh with|none=>none|some qD=>(gd (A3 (Ew er+1) 16) (j7 (er++[qD]) (Ey .i64 (eh+1)) eh)))else(j7 er (Ey .i64 (eh+1)) eh);bif(decide (x5<(Ew a0:Int)))==true then(match idx a0 x5 with|none=>none|some py=>(let iX:=(Fj py:Int) !=32;bif iX then(j2 x3 x4 x5 iX)else(zt x3 x4 x5 iX)))else(bif false then(j2 x3 x4 x5 false)else(zt x3 x4 x5 false)))else(k2 x3 x4 x5 z1)
def B0K{R:Type}(nn:Nat)(a0:DT):Nat->(Eb)->Int->Int->((Eb)->Int->Int->Bool->Option R)->Option R
 |0,_,_,_,_=>none
 |n+1,x3,x4,x5,k2=>D7C nn a0 x3 x4 x5 (λx3 x4 x5=>B0K nn a0 n x3 x4 x5 k2) k2
def B8i{R:Type}(nn:Nat)(a0:DT):∀(n:Nat)(x3:Eb)(x4 x5:Int)(K:Ex->S6->Option R),LP E77 nn Gg [1,1,1,0,1,0,0] 10004 n (B6v a0 x3 x4 x5) K=B0K nn a0 n x3 x4 x5 (λx3 x4 x5 x9=>K (.exit 0) (D7o a0 x3 x4 x5 x9))
 |0,_,_,_,_=>rfl
 |n+1,x3,x4,x5,K=>by
  rw[B0K];simp only[<-B8i nn a0 n _ _ _ K];kernel_rfl
def C3W(nn:Nat)(a0:DT):DU:=B0K nn a0 nn [] 0 0 (λz1 z2 z3 z4=>some (.one (.sl .str z1 (some 1))))
def F77(a0:DT):DU:=C3W NN a0
def D7S(nn:Nat){a0:DT}:A5 E77 nn Gg [.str a0]=C3W nn a0:=by
 have h:A5 E77 nn Gg [.str a0]=LP E77 nn Gg [1,1,1,0,1,0,0] 10004 nn (B6v a0 [] 0 0) (A7 0 (sk E77 nn Gg [1,1,1,1] (B3 E77 Tryz.f77.results.toList))):=En
 rw[h];simp only[B8i];show _=_;kernel_rfl
def S77:S1T
 |[.str a0]=>pR [.sl .str (some 1)] (F77 a0)
 |_=>none
def A5o:Env Ty6 A4:=mkE [(77,S77)] [] (lkD [(0,[4]),(1,[1,7,8]),(3,[9,10,11]),(4,[13,14,20]),(5,[12,15,16,17,18,19]),(6,[0,5,6,20]),(7,[0,5,6,12])]) 21 [] 0 [] []
def B7t(a0 a1:DT)(x5:Eb)(x6:Int):S6:=⟨[eS 0 a0,(5,.one (.sl .str x5 (some 1008))),eI 6 x6],[1008]⟩
def D0r(a0 a1:DT)(x5:Eb)(x6:Int)(b9:Bool):S6:=E7 (eB 12 b9) (B7t a0 a1 x5 x6)
def D1n(a0 a1:DT):S6:=⟨[eB 4 true],[]⟩
def C9a{R:Type}(nn:Nat)(a0 a1:DT)(x5:Eb)(x6:Int)(k1:Option R)(k2:(Eb)->Int->Option R)(k3:(Eb)->Int->Bool->Option R):Option R:=let z1:=decide (x6<(Ew x5:Int));bif z1 then(match idx x5 x6 with|none=>none|some y2=>(bif(y2==a0)then k1 else(k2 x5 (Ey .i64 (x6+1)))))else(k3 x5 x6 z1)
def B1f{R:Type}(nn:Nat)(a0 a1:DT):Nat->(Eb)->Int->(Option R)->((Eb)->Int->Bool->Option R)->Option R
 |0,_,_,_,_=>none
 |n+1,x5,x6,k1,k3=>C9a nn a0 a1 x5 x6 k1 (λx5 x6=>B1f nn a0 a1 n x5 x6 k1 k3) k3
def B9k{R:Type}(nn:Nat)(a0 a1:DT):∀(n:Nat)(x5:Eb)(x6:Int)(K:Ex->S6->Option R),LP A5o nn Hc [1,1,0,1,0,0] 10003 n (B7t a0 a1 x5 x6) K=B1f nn a0 a1 n x5 x6 (K .ret (D1n a0 a1)) (λx5 x6 b9=>K (.exit 0) (D0r a0 a1 x5 x6 b9))
 |0,_,_,_=>rfl
 |n+1,x5,x6,K=>by
  rw[B1f];simp only[<-B9k nn a0 a1 n _ _ K];kernel_rfl
def C0E(nn:Nat)(a0 a1:DT):DU:=gd (okR [.sl .str (some 1)] (F77 a1)) (B1f nn a0 a1 nn (I2 (gL (F77 a1) 0)) 0 (some (.one (.bool true))) (λz1 z2 z3=>some (.one (.bool false))))
def B2s(a0 a1:DT):DU:=C0E NN a0 a1
def C8c(nn:Nat){a0 a1:DT}:A5 A5o nn Hc [.str a0,.str a1]=C0E nn a0 a1:=by
 have h:A5 A5o nn Hc [.str a0,.str a1]=gd (okR [.sl .str (some 1)] (F77 a1)) (LP A5o nn Hc [1,1,0,1,0,0] 10003 nn (B7t a0 a1 (I2 (gL (F77 a1) 0)) 0) (A7 0 (sk A5o nn Hc [1,1,1] (B3 A5o Tryz.f149.results.toList)))):=En
 rw[h];simp only[B9k];show _=_;kernel_rfl
def B5J:S1T
 |[.str a0,.str a1]=>pR [.bool] (B2s a0 a1)
 |_=>none
def E75:Env Ty6 A4:=mkE [(149,B5J)] [] noD 83 [] 0 [] []
def F75(a0:DT)(a1:A0):DU:=bif(a0==[46,110,97,109,101])then(some (.one (.bool (a1.kind==3))))else(bif(a0==[46,99,97,115,101])then(bif(a1.kind==3)==true then(let r1:=B2s a1.text [116,114,117,101,32,102,97,108,115,101,32,110,117,108,108];gd (okR [.bool] r1) (some (.one (.bool (!(lB (gL r1 0)))))))else(some (.one (.bool false))))else(bif(a0==[46,114,111,111,116])then(bif(a1.kind==3)==true then(let r2:=B2s a1.text [113,117,101,114,121,32,109,117,116,97,116,105,111,110,32,115,117,98,115,99,114,105,112,116,105,111,110];gd (okR [.bool] r2) (some (.one (.bool (lB (gL r2 0))))))else(some (.one (.bool false))))else(bif(a0==[46,112,108,97,99,101])then(bif(a1.kind==3)==true then(let r3:=B2s a1.text [81,85,69,82,89,32,77,85,84,65,84,73,79,78,32,83,85,66,83,67,82,73,80,84,73,79,78,32,70,73,69,76,68,32,70,82,65,71,77,69,78,84,95,68,69,70,73,78,73,84,73,79,78,32,70,82,65,71,77,69,78,84,95,83,80,82,69,65,68,32,73,78,76,73,78,69,95,70,82,65,71,77,69,78,84,32,86,65,82,73,65,66,76,69,95,68,69,70,73,78,73,84,73,79,78,32,83,67,72,69,77,65,32,83,67,65,76,65,82,32,79,66,74,69,67,84,32,70,73,69,76,68,95,68,69,70,73,78,73,84,73,79,78,32,65,82,71,85,77,69,78,84,95,68,69,70,73,78,73,84,73,79,78,32,73,78,84,69,82,70,65,67,69,32,85,78,73,79,78,32,69,78,85,77,32,69,78,85,77,95,86,65,76,85,69,32,73,78,80,85,84,95,79,66,74,69,67,84,32,73,78,80,85,84,95,70,73,69,76,68,95,68,69,70,73,78,73,84,73,79,78];gd (okR [.bool] r3) (some (.one (.bool (lB (gL r3 0))))))else(some (.one (.bool false))))else(bif(a0==[46,115,116,114])then(bif(a1.kind==6)==false then(some (.one (.bool (a1.kind==7))))else(some (.one (.bool true))))else(bif(a0==[46,110,117,109])then(bif(a1.kind==4)==false then(some (.one (.bool (a1.kind==5))))else(some (.one (.bool true))))else(bif(a0==[46,101,110,100])then(some (.one (.bool (a1.kind==0))))else(match idx a0 0 with|none=>none|some y4=>(bif((Fj y4:Int)==39)then(bif(a1.kind==3)==true then(match sub a0 1 (Ew a0:Int)with|none=>none|some y5=>(some (.one (.bool (a1.text==y5)))))else(some (.one (.bool false))))else(bif(a1.kind==2)==true then(some (.one (.bool (a1.text==a0))))else(some (.one (.bool false))))))))))))
def C7J{a0:DT}{a1:A0}:A5 E75 NN Tryz.f75 [.str a0,.agg .tok a1]=F75 a0 a1:=En
def S75:S1T
 |[.str a0,.agg .tok a1]=>pR [.bool] (F75 a0 a1)
 |_=>none
def A92(g:(List B9)->(DT)->DU):S1T
 |[.sl .rule a0 none,.str a1]=>pR [.bool] (g a0 a1)
 |_=>none
def Z7(bO:(List B9)->(DT)->DU):Env Ty6 A4:=mkE [(73,S73),(146,A85),(148,A92 bO)] [] (lkD [(0,[4]),(1,[9,10]),(2,[0,1,11]),(3,[1,11,12,13,14]),(5,[15,16,17]),(6,[19,20,42]),(7,[18]),(9,[21,22,23,24,25,26]),(10,[28,29]),(11,[27,30,31,32,33,34,35,36,37,38,39,40,41]),(12,[7,8,27]),(13,[0,5,6,42]),(14,[0,5,6,18])]) 43 [] 0 [] []
def A9l(a0:List B9)(a1:DT)(x5:List Eb)(x6:Int):S6:=⟨[eL 0 .rule a0,eL 5 .strs x5,eI 6 x6],[]⟩
def C3U(a0:List B9)(a1:DT)(x5:List Eb)(x6:Int)(wQ:Bool):S6:=E7 (eB 18 wQ) (A9l a0 a1 x5 x6)
def B3Z(a0:List B9)(a1:DT)(x5:List Eb)(x6:Int)(x7:Bool)(x8:Int):S6:=E7 (eI 8 x8) (E7 (eB 7 x7) (A9l a0 a1 x5 x6))
def C5N(a0:List B9)(a1:DT)(x5:List Eb)(x6:Int)(x7:Bool)(x8:Int)(nf:Bool):S6:=E7 (eB 27 nf) (B3Z a0 a1 x5 x6 x7 x8)
def C91(a0:List B9)(a1:DT):S6:=⟨[eB 4 true],[]⟩
def C99{R:Type}(nn:Nat)(bO:(List B9)->(DT)->DU)(a0:List B9)(a1:DT)(x5:List Eb)(x6:Int)(x7:Bool)(x8:Int)(k1:(List Eb)->Int->Bool->Int->Option R)(k2:(List Eb)->Int->Bool->Int->Bool->Option R):Option R:=match idx x5 x6 with|none=>none|some y1=>(let z2:=decide (x8<(Ew y1:Int));bif z2 then(let j3:(List Eb)->Int->Bool->Int->Option R:=λz4 z5 z6 z7=>k1 z4 z5 z6 (Ey .i64 (z7+1));bif x7==true then(match idx x5 x6 with|none=>none|some y8=>(match idx y8 x8 with|none=>none|some y9=>(gd (okR [.bool] (bO a0 y9)) (j3 x5 x6 (lB (gL (bO a0 y9) 0)) x8))))else(j3 x5 x6 false x8))else(k2 x5 x6 x7 x8 z2))
def B1C{R:Type}(nn:Nat)(bO:(List B9)->(DT)->DU)(a0:List B9)(a1:DT):Nat->(List Eb)->Int->Bool->Int->((List Eb)->Int->Bool->Int->Bool->Option R)->Option R
 |0,_,_,_,_,_=>none
 |n+1,x5,x6,x7,x8,k2=>C99 nn bO a0 a1 x5 x6 x7 x8 (λx5 x6 x7 x8=>B1C nn bO a0 a1 n x5 x6 x7 x8 k2) k2
def C0A{R:Type}(nn:Nat)(bO:(List B9)->(DT)->DU)(a0:List B9)(a1:DT):∀(n:Nat)(x5:List Eb)(x6:Int)(x7:Bool)(x8:Int)(K:Ex->S6->Option R),LP (Z7 bO) nn Fm [1,1,1,0,1,0,0,1,0,0,1,0,1,0,0] 10009 n (B3Z a0 a1 x5 x6 x7 x8) K=B1C nn bO a0 a1 n x5 x6 x7 x8 (λx5 x6 x7 x8 nf=>K (.exit 2) (C5N a0 a1 x5 x6 x7 x8 nf))
 |0,_,_,_,_,_=>rfl
 |n+1,x5,x6,x7,x8,K=>by
  rw[B1C];simp only[<-C0A nn bO a0 a1 n _ _ _ _ K];kernel_rfl
def D47{R:Type}(nn:Nat)(bO:(List B9)->(DT)->DU)(a0:List B9)(a1:DT)(x5:List Eb)(x6:Int)(k1:Option R)(k2:(List Eb)->Int->Option R)(k3:(List Eb)->Int->Bool->Option R):Option R:=let z1:=decide (x6<(Ew x5:Int));bif z1 then(B1C nn bO a0 a1 nn x5 x6 true 0 (λz2 z3 z4 z5 z6=>bif z4 then k1 else(k2 z2 (Ey .i64 (z3+1)))))else(k3 x5 x6 z1)
def B1j{R:Type}(nn:Nat)(bO:(List B9)->(DT)->DU)(a0:List B9)(a1:DT):Nat->(List Eb)->Int->(Option R)->((List Eb)->Int->Bool->Option R)->Option R
 |0,_,_,_,_=>none
 |n+1,x5,x6,k1,k3=>D47 nn bO a0 a1 x5 x6 k1 (λx5 x6=>B1j nn bO a0 a1 n x5 x6 k1 k3) k3
def B9N{R:Type}(nn:Nat)(bO:(List B9)->(DT)->DU)(a0:List B9)(a1:DT):∀(n:Nat)(x5:List Eb)(x6:Int)(K:Ex->S6->Option R),LP (Z7 bO) nn Fm [1,1,1,0,1,0,0] 10005 n (A9l a0 a1 x5 x6) K=B1j nn bO a0 a1 n x5 x6 (K .ret (C91 a0 a1)) (λx5 x6 wQ=>K (.exit 0) (C3U a0 a1 x5 x6 wQ))
 |0,_,_,_=>rfl
 |n+1,x5,x6,K=>by
  rw[B1j];simp only[<-B9N nn bO a0 a1 n _ _ K];have h:LP (Z7 bO) nn Fm [1,1,1,0,1,0,0] 10005 (n+1) (A9l a0 a1 x5 x6) K=let z1:=decide (x6<(Ew x5:Int));bif z1 then(LP (Z7 bO) nn Fm [1,1,1,0,1,0,0,1,0,0,1,0,1,0,0] 10009 nn (B3Z a0 a1 x5 x6 true 0) (A7 2 (sk (Z7 bO) nn Fm [1,1,1,0,1,0,0,1,0,0,1,1] (A7 1 (sk (Z7 bO) nn Fm [1,1,1,0,1,0,0,1,1] (A3c ((Z7 bO).drop 10005) (A3b (lbN nn (Z7 bO) (A2 Fm [1,1,1,0,1,0,0]) 10005) n K)))))))else(K (.exit 0) (C3U a0 a1 x5 x6 z1)):=En
  rw[h];simp only[C0A];show _=_;kernel_rfl
def C3H(nn:Nat)(bO:(List B9)->(DT)->DU)(a0:List B9)(a1:DT):DU:=gd (okR [.bool] (F73 a1)) (let z1:= !(lB (gL (F73 a1) 0));bif z1 then(some (.one (.bool false)))else(gd (okR [.slc .strs] (A0G a0 a1)) (B1j nn bO a0 a1 nn (A6F (gL (A0G a0 a1) 0)) 0 (some (.one (.bool true))) (λz2 z3 z4=>some (.one (.bool false))))))
def C6e(bO:(List B9)->(DT)->DU)(a0:List B9)(a1:DT):DU:=C3H NN bO a0 a1
def D1z(nn:Nat)(bO:(List B9)->(DT)->DU){a0:List B9}{a1:DT}:A5 (Z7 bO) nn Fm [.sl .rule a0 none,.str a1]=C3H nn bO a0 a1:=by
 have h:A5 (Z7 bO) nn Fm [.sl .rule a0 none,.str a1]=gd (okR [.bool] (F73 a1)) (let z1:= !(lB (gL (F73 a1) 0));bif z1 then(some (.one (.bool false)))else(gd (okR [.slc .strs] (A0G a0 a1)) (LP (Z7 bO) nn Fm [1,1,1,0,1,0,0] 10005 nn (A9l a0 a1 (A6F (gL (A0G a0 a1) 0)) 0) (A7 0 (sk (Z7 bO) nn Fm [1,1,1,1] (B3 (Z7 bO) Tryz.f148.results.toList)))))):=En
 rw[h];simp only[B9N];show _=_;kernel_rfl
def A8x:Nat->(List B9)->(DT)->DU
 |0,_,_=>none
 |d+1,a0,a1=>C6e (A8x d) a0 a1
def B1x(a0:List B9)(a1:DT):DU:=A8x DD a0 a1
def B6T:S1T
 |[.sl .rule a0 none,.str a1]=>pR [.bool] (B1x a0 a1)
 |_=>none
def B01(g:(List B9)->(Eb)->A0->DU):S1T
 |[.sl .rule a0 none,.sl .str a1 none,.agg .tok a2]=>pR [.bool] (g a0 a1 a2)
 |_=>none
def A0n(bQ:(List B9)->(Eb)->A0->DU):Env Ty6 A4:=mkE [(73,S73),(75,S75),(146,A85),(147,B01 bQ),(148,B6T)] [] (lkD [(0,[2,6]),(2,[10,11,12]),(3,[14,15,53]),(4,[13,16,17,18,19,20]),(5,[0,1,5,7,21,22,23,24,25,26,27,1000105]),(6,[21,28,29,30,31,32,33]),(8,[34,35,36]),(9,[38,39,46]),(10,[37,40,41,42,43,44,45]),(11,[0,1,5,7,8,9,46,1000105]),(12,[8,9,37,47,48,49,50,51,52]),(13,[0,1,5,7,53,1000105]),(14,[0,1,5,7,13,1000105])]) 54 [] 0 [] []
def A7W(a0:List B9)(a1:Eb)(a2:A0)(x7:Int):S6:=⟨[eL 0 .rule a0,eL 1 .str a1,(5,.one (.elem .tok a2 0)),eI 7 x7],[]⟩
def B9Y(a0:List B9)(a1:Eb)(a2:A0)(x7:Int)(bN:Bool):S6:=E7 (eB 13 bN) (A7W a0 a1 a2 x7)
def C4S(a0:List B9)(a1:Eb)(a2:A0)(x6:Bool):S6:=⟨[eB 6 x6],[]⟩
def B6c(a0:List B9)(a1:Eb)(a2:A0)(x7:Int)(x8:List Eb)(x9:Int):S6:=E7 (eI 9 x9) (E7 (eL 8 .strs x8) (A7W a0 a1 a2 x7))
def D3g(a0:List B9)(a1:Eb)(a2:A0)(x7:Int)(x8:List Eb)(x9:Int)(wR:Bool):S6:=E7 (eB 37 wR) (B6c a0 a1 a2 x7 x8 x9)
def D6V(a0:List B9)(a1:Eb)(a2:A0):S6:=⟨[eB 6 true],[]⟩
def D1y{R:Type}(nn:Nat)(bQ:(List B9)->(Eb)->A0->DU)(a0:List B9)(a1:Eb)(a2:A0)(x7:Int)(x8:List Eb)(x9:Int)(k1:Option R)(k2:Int->(List Eb)->Int->Option R)(k3:Int->(List Eb)->Int->Bool->Option R):Option R:=let z1:=decide (x9<(Ew x8:Int));bif z1 then(match idx x8 x9 with|none=>none|some y2=>(let r4:=bQ a0 y2 a2;gd (okR [.bool] r4) (let z3:=(lB (gL r4 0));bif z3 then k1 else(k2 x7 x8 (Ey .i64 (x9+1))))))else(k3 x7 x8 x9 z1)
def B2r{R:Type}(nn:Nat)(bQ:(List B9)->(Eb)->A0->DU)(a0:List B9)(a1:Eb)(a2:A0):Nat->Int->(List Eb)->Int->(Option R)->(Int->(List Eb)->Int->Bool->Option R)->Option R
 |0,_,_,_,_,_=>none
 |n+1,x7,x8,x9,k1,k3=>D1y nn bQ a0 a1 a2 x7 x8 x9 k1 (λx7 x8 x9=>B2r nn bQ a0 a1 a2 n x7 x8 x9 k1 k3) k3
def C1d{R:Type}(nn:Nat)(bQ:(List B9)->(Eb)->A0->DU)(a0:List B9)(a1:Eb)(a2:A0):∀(n:Nat)(x7:Int)(x8:List Eb)(x9:Int)(K:Ex->S6->Option R),LP (A0n bQ) nn Fo [1,0,1,0,0,1,0,0,1,1,0,1,0,0] 10008 n (B6c a0 a1 a2 x7 x8 x9) K=B2r nn bQ a0 a1 a2 n x7 x8 x9 (K .ret (D6V a0 a1 a2)) (λx7 x8 x9 wR=>K (.exit 2) (D3g a0 a1 a2 x7 x8 x9 wR))
 |0,_,_,_,_=>rfl
 |n+1,x7,x8,x9,K=>by
  rw[B2r];simp only[<-C1d nn bQ a0 a1 a2 n _ _ _ K];kernel_rfl
def D2E{R:Type}(nn:Nat)(bQ:(List B9)->(Eb)->A0->DU)(a0:List B9)(a1:Eb)(a2:A0)(x7:Int)(k1:Bool->Option R)(k2:Int->Option R)(k3:Int->Bool->Option R):Option R:=let z1:=decide (x7<(Ew a1:Int));bif z1 then(match idx a1 x7 with|none=>none|some y2=>(gd (okR [.bool] (F73 y2)) (let z3:= !(lB (gL (F73 y2) 0));bif z3 then(match idx a1 x7 with|none=>none|some y4=>(gd (okR [.bool] (F75 y4 a2)) (k1 (lB (gL (F75 y4 a2) 0)))))else(match idx a1 x7 with|none=>none|some y5=>(gd (okR [.slc .strs] (A0G a0 y5)) (B2r nn bQ a0 a1 a2 nn x7 (A6F (gL (A0G a0 y5) 0)) 0 (k1 true) (λz6 z7 z8 z9=>match idx a1 z6 with|none=>none|some gf=>(let dM:=B1x a0 gf;gd (okR [.bool] dM) (let cW:= !(lB (gL dM 0));bif cW then(k1 false)else(k2 (Ey .i64 (z6+1))))))))))))else(k3 x7 z1)
def A97{R:Type}(nn:Nat)(bQ:(List B9)->(Eb)->A0->DU)(a0:List B9)(a1:Eb)(a2:A0):Nat->Int->(Bool->Option R)->(Int->Bool->Option R)->Option R
 |0,_,_,_=>none
 |n+1,x7,k1,k3=>D2E nn bQ a0 a1 a2 x7 k1 (λx7=>A97 nn bQ a0 a1 a2 n x7 k1 k3) k3
def C2C{R:Type}(nn:Nat)(bQ:(List B9)->(Eb)->A0->DU)(a0:List B9)(a1:Eb)(a2:A0):∀(n:Nat)(x7:Int)(K:Ex->S6->Option R),LP (A0n bQ) nn Fo [1,0,1,0,0] 10002 n (A7W a0 a1 a2 x7) K=A97 nn bQ a0 a1 a2 n x7 (λx6=>K .ret (C4S a0 a1 a2 x6)) (λx7 bN=>K (.exit 0) (B9Y a0 a1 a2 x7 bN))
 |0,_,_=>rfl
 |n+1,x7,K=>by
  rw[A97];simp only[<-C2C nn bQ a0 a1 a2 n _ K];have h:LP (A0n bQ) nn Fo [1,0,1,0,0] 10002 (n+1) (A7W a0 a1 a2 x7) K=let z1:=decide (x7<(Ew a1:Int));bif z1 then(match idx a1 x7 with|none=>none|some y2=>(gd (okR [.bool] (F73 y2)) (let z3:= !(lB (gL (F73 y2) 0));bif z3 then(match idx a1 x7 with|none=>none|some y4=>(gd (okR [.bool] (F75 y4 a2)) (K .ret (C4S a0 a1 a2 (lB (gL (F75 y4 a2) 0))))))else(match idx a1 x7 with|none=>none|some y5=>(gd (okR [.slc .strs] (A0G a0 y5)) (LP (A0n bQ) nn Fo [1,0,1,0,0,1,0,0,1,1,0,1,0,0] 10008 nn (B6c a0 a1 a2 x7 (A6F (gL (A0G a0 y5) 0)) 0) (A7 2 (sk (A0n bQ) nn Fo [1,0,1,0,0,1,0,0,1,1,1] (A7 1 (sk (A0n bQ) nn Fo [1,0,1,0,0,1,1] (A3c ((A0n bQ).drop 10002) (A3b (lbN nn (A0n bQ) (A2 Fo [1,0,1,0,0]) 10002) n K))))))))))))else(K (.exit 0) (B9Y a0 a1 a2 x7 z1)):=En
  rw[h];simp only[C1d];show _=_;kernel_rfl
def C4z(nn:Nat)(bQ:(List B9)->(Eb)->A0->DU)(a0:List B9)(a1:Eb)(a2:A0):DU:=A97 nn bQ a0 a1 a2 nn 0 (λz1=>some (.one (.bool z1))) (λz2 z3=>some (.one (.bool false)))
def D5t(bQ:(List B9)->(Eb)->A0->DU)(a0:List B9)(a1:Eb)(a2:A0):DU:=C4z NN bQ a0 a1 a2
def D3y(nn:Nat)(bQ:(List B9)->(Eb)->A0->DU){a0:List B9}{a1:Eb}{a2:A0}:A5 (A0n bQ) nn Fo [.sl .rule a0 none,.sl .str a1 none,.agg .tok a2]=C4z nn bQ a0 a1 a2:=by
 have h:A5 (A0n bQ) nn Fo [.sl .rule a0 none,.sl .str a1 none,.agg .tok a2]=LP (A0n bQ) nn Fo [1,0,1,0,0] 10002 nn (A7W a0 a1 a2 0) (A7 0 (sk (A0n bQ) nn Fo [1,1] (B3 (A0n bQ) Tryz.f147.results.toList))):=En
 rw[h];simp only[C2C];show _=_;kernel_rfl
def A9d:Nat->(List B9)->(Eb)->A0->DU
 |0,_,_,_=>none
 |d+1,a0,a1,a2=>D5t (A9d d) a0 a1 a2
def C0u(a0:List B9)(a1:Eb)(a2:A0):DU:=A9d DD a0 a1 a2
def B7R:S1T
 |[.sl .rule a0 none,.sl .str a1 none,.agg .tok a2]=>pR [.bool] (C0u a0 a1 a2)
 |_=>none
def E74:Env Ty6 A4:=mkE [(146,A85),(147,B7R),(148,B6T)] [] (lkD [(0,[2,6,7]),(1,[10,11,12]),(3,[13,14,15]),(4,[17,18,25]),(5,[16,19,20,21,22,23,24]),(6,[0,1,5,8,9,25,26,27,28,29,1000105]),(7,[0,1,5,8,9,16,30,31,32,1000105])]) 33 [] 0 [] []
def B7I(a0:List B9)(a1:DT)(a2:A0)(x8:List Eb)(x9:Int):S6:=⟨[eL 0 .rule a0,eS 1 a1,(5,.one (.elem .tok a2 0)),eL 8 .strs x8,eI 9 x9],[]⟩
def C7f(a0:List B9)(a1:DT)(a2:A0)(x8:List Eb)(x9:Int)(fw:Bool):S6:=E7 (eB 16 fw) (B7I a0 a1 a2 x8 x9)
def D0P(a0:List B9)(a1:DT)(a2:A0)(x6:Eb):S6:=⟨[eL 6 .str x6,eB 7 true],[]⟩
def C5I{R:Type}(nn:Nat)(a0:List B9)(a1:DT)(a2:A0)(x8:List Eb)(x9:Int)(k1:(Eb)->Option R)(k2:(List Eb)->Int->Option R)(k3:(List Eb)->Int->Bool->Option R):Option R:=let z1:=decide (x9<(Ew x8:Int));bif z1 then(match idx x8 x9 with|none=>none|some y2=>(let r5:=C0u a0 y2 a2;gd (okR [.bool] r5) (let z3:=(lB (gL r5 0));bif z3 then(match idx x8 x9 with|none=>none|some y4=>(k1 y4))else(k2 x8 (Ey .i64 (x9+1))))))else(k3 x8 x9 z1)
def B2m{R:Type}(nn:Nat)(a0:List B9)(a1:DT)(a2:A0):Nat->(List Eb)->Int->((Eb)->Option R)->((List Eb)->Int->Bool->Option R)->Option R
 |0,_,_,_,_=>none
 |n+1,x8,x9,k1,k3=>C5I nn a0 a1 a2 x8 x9 k1 (λx8 x9=>B2m nn a0 a1 a2 n x8 x9 k1 k3) k3
def C43{R:Type}(nn:Nat)(a0:List B9)(a1:DT)(a2:A0):∀(n:Nat)(x8:List Eb)(x9:Int)(K:Ex->S6->Option R),LP E74 nn Gi [1,1,0,1,0,0] 10003 n (B7I a0 a1 a2 x8 x9) K=B2m nn a0 a1 a2 n x8 x9 (λx6=>K .ret (D0P a0 a1 a2 x6)) (λx8 x9 fw=>K (.exit 0) (C7f a0 a1 a2 x8 x9 fw))
 |0,_,_,_=>rfl
 |n+1,x8,x9,K=>by
  rw[B2m];simp only[<-C43 nn a0 a1 a2 n _ _ K];kernel_rfl
def C0i(nn:Nat)(a0:List B9)(a1:DT)(a2:A0):DU:=gd (okR [.slc .strs] (A0G a0 a1)) (B2m nn a0 a1 a2 nn (A6F (gL (A0G a0 a1) 0)) 0 (λz1=>some (.tup [.sl .str z1 none,.bool true])) (λz2 z3 z4=>gd (okR [.bool] (B1x a0 a1)) (some (.tup [.sl .str [] (some 1),.bool (lB (gL (B1x a0 a1) 0))]))))
def F74(a0:List B9)(a1:DT)(a2:A0):DU:=C0i NN a0 a1 a2
def D2a(nn:Nat){a0:List B9}{a1:DT}{a2:A0}:A5 E74 nn Gi [.sl .rule a0 none,.str a1,.agg .tok a2]=C0i nn a0 a1 a2:=by
 have h:A5 E74 nn Gi [.sl .rule a0 none,.str a1,.agg .tok a2]=gd (okR [.slc .strs] (A0G a0 a1)) (LP E74 nn Gi [1,1,0,1,0,0] 10003 nn (B7I a0 a1 a2 (A6F (gL (A0G a0 a1) 0)) 0) (A7 0 (sk E74 nn Gi [1,1,1] (B3 E74 Tryz.f74.results.toList)))):=En
 rw[h];simp only[C43];show _=_;kernel_rfl
def S74:S1T
 |[.sl .rule a0 none,.str a1,.agg .tok a2]=>pR [.slc .str,.bool] (F74 a0 a1 a2)
 |_=>none
def E76:Env Ty6 A4:=mkE [] [] noD 12 [] 0 [] []
def F76(a0:DT):DU:=let j1:Bool->DU:=λz2=>some (.one (.int .i64 0));let j3:Bool->DU:=λz4=>some (.one (.int .i64 0));let j5:Bool->DU:=λz6=>bif z6 then(some (.one (.int .i64 1)))else(let j7:Bool->DU:=λz8=>bif z8 then(some (.one (.int .i64 (-1))))else(j1 z8);bif(a0==[41])then(j7 (a0==[41]))else(bif(a0==[93])then(j7 (a0==[93]))else(bif(a0==[125])then(some (.one (.int .i64 (-1))))else(j3 (a0==[125])))));bif(a0==[40])then(j5 (a0==[40]))else(bif(a0==[91])then(j5 (a0==[91]))else(j5 (a0==[123])))
def D6Z{a0:DT}:A5 E76 NN Tryz.f76 [.str a0]=F76 a0:=En
def S76:S1T
 |[.str a0]=>pR [.int .i64] (F76 a0)
 |_=>none
def E34:Env Ty6 A4:=mkE [(77,S77)] [] (lkD [(0,[2,1000106]),(1,[1000106]),(2,[1000106]),(3,[9,10,11,1000106]),(4,[13,14,1000106]),(5,[12,15,16,17,18,19,1000106]),(6,[20,21,22,23]),(9,[24,25,26]),(10,[28,29,45]),(11,[27,30,31,32,33]),(12,[7,34,35,36,37,38,39,40]),(14,[34,41,42,43,44]),(15,[45,46,47,48,49,50,51,52]),(16,[5,7,8,27,53,54,55,56,57,58]),(17,[6,59,60,61,62,1000106]),(18,[0,3,4,12,63,1000106]),(10003,[1000106])]) 64 [6,23] 0 [] [(23,106)]
def A9B(a0:Eb)(x3:List B9)(x4:Int):S6:=⟨[eL 0 .str a0,(3,.one (.sl .rule x3 (some 103))),eI 4 x4],[103]⟩
def C4K(a0:Eb)(x3:List B9)(x4:Int)(b9:Bool):S6:=E7 (eB 12 b9) (A9B a0 x3 x4)
def B7K(a0:Eb)(x3:List B9)(x4:Int)(x5 x7:Eb)(x8:Int)(ag:DT)(aj:List Eb):S6:=⟨[eL 0 .str a0,(3,.one (.sl .rule x3 (some 103))),eI 4 x4,(5,.one (.sl .str x5 (some 1019))),eP 6 106,(7,.one (.sl .str x7 (some 107))),eI 8 x8,(1000106,.bx 106 [.str ag,.sl .strs aj (some 2010601)])],[103,106,107,1019,2010601]⟩
def D42(a0:Eb)(x3:List B9)(x4:Int)(x5 x7:Eb)(x8:Int)(nf:Bool)(ag:DT)(aj:List Eb):S6:=E7 (eB 27 nf) (B7K a0 x3 x4 x5 x7 x8 ag aj)
def D6v{R:Type}(nn:Nat)(a0:Eb)(x3:List B9)(x4:Int)(x5 x7:Eb)(x8:Int)(ag:DT)(aj:List Eb)(k1:(List B9)->Int->(Eb)->(Eb)->Int->(DT)->(List Eb)->Option R)(k2:(List B9)->Int->(Eb)->(Eb)->Int->Bool->(DT)->(List Eb)->Option R):Option R:=let z1:=decide (x8<(Ew x5:Int));bif z1 then(let j2:(List B9)->Int->(Eb)->(Eb)->Int->(DT)->(List Eb)->Option R:=λz3 z4 z5 z6 z7 z8 z9=>k1 z3 z4 z5 z6 (Ey .i64 (z7+1)) z8 z9;match idx x5 x8 with|none=>none|some gf=>(bif(gf==[47])then(gd (A3 (Ew aj+1) 24) (j2 x3 x4 x5 [] x8 ag (aj++[x7])))else(match idx x5 x8 with|none=>none|some hJ=>(bif(!(hJ==[45]))then(match idx x5 x8 with|none=>none|some jJ=>(gd (A3 (Ew x7+1) 16) (j2 x3 x4 x5 (x7++[jJ]) x8 ag aj)))else(k1 x3 x4 x5 x7 (Ey .i64 (x8+1)) ag aj)))))else(k2 x3 x4 x5 x7 x8 z1 ag aj)
def B1G{R:Type}(nn:Nat)(a0:Eb):Nat->(List B9)->Int->(Eb)->(Eb)->Int->(DT)->(List Eb)->((List B9)->Int->(Eb)->(Eb)->Int->Bool->(DT)->(List Eb)->Option R)->Option R
 |0,_,_,_,_,_,_,_,_=>none
 |n+1,x3,x4,x5,x7,x8,ag,aj,k2=>D6v nn a0 x3 x4 x5 x7 x8 ag aj (λx3 x4 x5 x7 x8 ag aj=>B1G nn a0 n x3 x4 x5 x7 x8 ag aj k2) k2
def B7V{R:Type}(nn:Nat)(a0:Eb):∀(n:Nat)(x3:List B9)(x4:Int)(x5 x7:Eb)(x8:Int)(ag:DT)(aj:List Eb)(K:Ex->S6->Option R),LP E34 nn Fl [1,1,0,1,0,0,1,0,0,1,1,1,0,1,0,0] 10009 n (B7K a0 x3 x4 x5 x7 x8 ag aj) K=B1G nn a0 n x3 x4 x5 x7 x8 ag aj (λx3 x4 x5 x7 x8 nf ag aj=>K (.exit 2) (D42 a0 x3 x4 x5 x7 x8 nf ag aj))
 |0,_,_,_,_,_,_,_,_=>rfl
 |n+1,x3,x4,x5,x7,x8,ag,aj,K=>by
  rw[B1G];simp only[<-B7V nn a0 n _ _ _ _ _ _ _ K];kernel_rfl
def D3o{R:Type}(nn:Nat)(a0:Eb)(x3:List B9)(x4:Int)(k1:(List B9)->Int->Option R)(k2:(List B9)->Int->Bool->Option R):Option R:=let z1:=decide (x4<(Ew a0:Int));bif z1 then(match idx a0 x4 with|none=>none|some y2=>(gd (okR [.sl .str (some 1)] (F77 y2)) (let z3:=(I2 (gL (F77 y2) 0));match idx z3 0 with|none=>none|some y4=>(B1G nn a0 nn x3 x4 z3 [] 2 y4 [] (λz5 z6 z7 z8 z9 dJ cW er=>gd (A3 (Ew er+1) 24) (gd (A3 (Ew z5+1) 40) (k1 (z5++[(⟨cW,(er++[z8])⟩:B9)]) (Ey .i64 (z6+1)))))))))else(k2 x3 x4 z1)
def B0N{R:Type}(nn:Nat)(a0:Eb):Nat->(List B9)->Int->((List B9)->Int->Bool->Option R)->Option R
 |0,_,_,_=>none
 |n+1,x3,x4,k2=>D3o nn a0 x3 x4 (λx3 x4=>B0N nn a0 n x3 x4 k2) k2
def B85{R:Type}(nn:Nat)(a0:Eb):∀(n:Nat)(x3:List B9)(x4:Int)(K:Ex->S6->Option R),LP E34 nn Fl [1,1,0,1,0,0] 10003 n (A9B a0 x3 x4) K=B0N nn a0 n x3 x4 (λx3 x4 b9=>K (.exit 0) (C4K a0 x3 x4 b9))
 |0,_,_,_=>rfl
 |n+1,x3,x4,K=>by
  rw[B0N];simp only[<-B85 nn a0 n _ _ K];have h:LP E34 nn Fl [1,1,0,1,0,0] 10003 (n+1) (A9B a0 x3 x4) K=let z1:=decide (x4<(Ew a0:Int));bif z1 then(match idx a0 x4 with|none=>none|some y2=>(gd (okR [.sl .str (some 1)] (F77 y2)) (let z3:=(I2 (gL (F77 y2) 0));match idx z3 0 with|none=>none|some y4=>(LP E34 nn Fl [1,1,0,1,0,0,1,0,0,1,1,1,0,1,0,0] 10009 nn (B7K a0 x3 x4 z3 [] 2 y4 []) (A7 2 (sk E34 nn Fl [1,1,0,1,0,0,1,0,0,1,1,1,1] (A7 1 (sk E34 nn Fl [1,1,0,1,0,0,1,1] (A3c (E34.drop 10003) (A3b (lbN nn E34 (A2 Fl [1,1,0,1,0,0]) 10003) n K))))))))))else(K (.exit 0) (C4K a0 x3 x4 z1)):=En
  rw[h];simp only[B7V];show _=_;kernel_rfl
def C2m(nn:Nat)(a0:Eb):DU:=B0N nn a0 nn [] 0 (λz1 z2 z3=>some (.one (.sl .rule z1 (some 1))))
def F34(a0:Eb):DU:=C2m NN a0
def B5s(nn:Nat){a0:Eb}:A5 E34 nn Fl [.sl .str a0 none]=C2m nn a0:=by
 have h:A5 E34 nn Fl [.sl .str a0 none]=LP E34 nn Fl [1,1,0,1,0,0] 10003 nn (A9B a0 [] 0) (A7 0 (sk E34 nn Fl [1,1,1] (B3 E34 Tryz.f34.results.toList))):=En
 rw[h];simp only[B85];show _=_;kernel_rfl
def S34:S1T
 |[.sl .str a0 none]=>pR [.sl .rule (some 1)] (F34 a0)
 |_=>none
def E60:Env Ty6 A4:=mkE [] [] noD 18 [] 1 [] []
def F60(a1 a2:Int)(ac:DY)(aa:DZ):DW:=match idx ac a1 with|none=>none|some y1=>(match idx y1.kids a2 with|none=>none|some y2=>(some ([.int .i64 y2],(bxN ac aa))))
def B4P{a1 a2:Int}{ac:DY}{aa:DZ}:C5 E60 NN Tryz.f60 [0] [.ptr 900000 0,.int .i64 a1,.int .i64 a2] (bxN ac aa)=F60 a1 a2 ac aa:=En
def S60:S2T
 |[.ptr d0 o0,.int .i64 a1,.int .i64 a2],[[.sl .node ac none,.sl .tok aa none]]=>bif bq d0 o0 then pB [.int .i64] kN (F60 a1 a2 ac aa)else none
 |_,_=>none
def D45{a1 a2:Int}{ac:DY}{aa:DZ}:RoK (bxN ac aa) (F60 a1 a2 ac aa):=by
 unfold F60
 try dsimp only
 repeat' first|exact H8|exact P2 _|apply N7|apply M9|split
def A0M:∀ls cs rs ay,S60 ls cs=some (true,rs,ay)->ay=cs:=λls cs rs ay h=>by
 unfold S60 at h;split at h
 ·obtain⟨_,h⟩:=A8 h;exact A0p rfl rfl D45 h
 ·cases h
def C3s:Env Ty6 A4:=mkE [] [] noD 15 [] 1 [] []
def N4(a1:Int)(ac:DY)(aa:DZ):DW:=match idx ac a1 with|none=>none|some y1=>(some ([.bool ((Ew y1.kids:Int)==0)],(bxN ac aa)))
def D44{a1:Int}{ac:DY}{aa:DZ}:C5 C3s NN Tryz.f136 [0] [.ptr 900000 0,.int .i64 a1] (bxN ac aa)=N4 a1 ac aa:=En
def A1m:S2T
 |[.ptr d0 o0,.int .i64 a1],[[.sl .node ac none,.sl .tok aa none]]=>bif bq d0 o0 then pB [.bool] kN (N4 a1 ac aa)else none
 |_,_=>none
def D5D{a1:Int}{ac:DY}{aa:DZ}:RoK (bxN ac aa) (N4 a1 ac aa):=by
 unfold N4
 try dsimp only
 repeat' first|exact H8|exact P2 _|apply N7|apply M9|split
def A5c:∀ls cs rs ay,A1m ls cs=some (true,rs,ay)->ay=cs:=λls cs rs ay h=>by
 unfold A1m at h;split at h
 ·obtain⟨_,h⟩:=A8 h;exact A0p rfl rfl D5D h
 ·cases h
def E61:Env Ty6 A4:=mkR [] [] [(60,S60),(136,A1m)] (lkD [(0,[4]),(2,[6,7,8]),(3,[9,10,11,12,13,14,15]),(4,[16,17,18]),(5,[1,5,9,19])]) 20 [] 1 [] []
def B3O(a1:Int)(ac:DY)(aa:DZ)(x1:Int)(x5:DS):S6:=⟨[eP 0 900000,eI 1 x1,(5,.one (.sl .i64 x5 (some 105))),(1900000,.bx 900000 [.sl .node ac none,.sl .tok aa none])],[105,900000]⟩
def D2L(a1:Int)(ac:DY)(aa:DZ)(x1:Int)(x5:DS)(x9:Bool):S6:=E7 (eB 9 x9) (B3O a1 ac aa x1 x5)
def B00{R:Type}(nn:Nat)(a1:Int)(ac:DY)(aa:DZ)(x1:Int)(x5:DS)(k1:Int->(DS)->Option R)(k2:Int->(DS)->Bool->Option R):Option R:=let r4:=N4 x1 ac aa;gd (okB [.bool] kN r4) (let z1:= !(lB (gB r4 0));bif z1 then(let r3:=F60 x1 0 ac aa;gd (okB [.int .i64] kN r3) (gd (A3 (Ew x5+1) 8) (let r2:=F60 x1 1 ac aa;gd (okB [.int .i64] kN r2) (k1 (lI (gB r2 0)) (x5++[(lI (gB r3 0))])))))else(k2 x1 x5 z1))
def A3v{R:Type}(nn:Nat)(a1:Int)(ac:DY)(aa:DZ):Nat->Int->(DS)->(Int->(DS)->Bool->Option R)->Option R
 |0,_,_,_=>none
 |n+1,x1,x5,k2=>B00 nn a1 ac aa x1 x5 (λx1 x5=>A3v nn a1 ac aa n x1 x5 k2) k2
def B86{R:Type}(nn:Nat)(a1:Int)(ac:DY)(aa:DZ):∀(n:Nat)(x1:Int)(x5:DS)(K:Ex->S6->Option R),LP E61 nn Gp [1,1,0,0,0] 10002 n (B3O a1 ac aa x1 x5) K=A3v nn a1 ac aa n x1 x5 (λx1 x5 x9=>K (.exit 0) (D2L a1 ac aa x1 x5 x9))
 |0,_,_,_=>rfl
 |n+1,x1,x5,K=>by
  rw[A3v];simp only[<-B86 nn a1 ac aa n _ _ K];kernel_rfl
def B5P(nn:Nat)(a1:Int)(ac:DY)(aa:DZ):DW:=A3v nn a1 ac aa nn a1 [] (λz1 z2 z3=>some ([.sl .i64 z2 (some 1)],(bxN ac aa)))
def F61(a1:Int)(ac:DY)(aa:DZ):DW:=B5P NN a1 ac aa
def B6k(nn:Nat){a1:Int}{ac:DY}{aa:DZ}:C5 E61 nn Gp [0] [.ptr 900000 0,.int .i64 a1] (bxN ac aa)=B5P nn a1 ac aa:=by
 have h:C5 E61 nn Gp [0] [.ptr 900000 0,.int .i64 a1] (bxN ac aa)=LP E61 nn Gp [1,1,0,0,0] 10002 nn (B3O a1 ac aa a1 []) (A7 0 (sk E61 nn Gp [1,1,1] (L9 E61 Tryz.f61.results.toList [0] (bxN ac aa)))):=En
 rw[h];simp only[B86];show _=_;kernel_rfl
def S61:S2T
 |[.ptr d0 o0,.int .i64 a1],[[.sl .node ac none,.sl .tok aa none]]=>bif bq d0 o0 then pB [.sl .i64 (some 1)] kN (F61 a1 ac aa)else none
 |_,_=>none
def C2Z{nn:Nat}{a1:Int}{ac:DY}{aa:DZ}{p:Ec->Prop}{k0:Int->(DS)->Bool->DW}(dU:∀y0 y1 y2,RoP p (k0 y0 y1 y2)):∀(n:Nat)(x0:Int)(x1:(DS)),RoP p (A3v nn a1 ac aa n x0 x1 k0)
 |0,_,_=>H8
 |n+1,_,_=>by
  unfold A3v B00
  try dsimp only
  repeat' first|exact H8|exact P2 _|exact dU _ _ _|exact C2Z dU n _ _|apply N7|apply M9|split
def D7D{a1:Int}{ac:DY}{aa:DZ}:RoK (bxN ac aa) (F61 a1 ac aa):=by
 unfold F61 B5P
 try dsimp only
 repeat' first|exact H8|exact P2 _|(apply C2Z<;>intros)|apply N7|apply M9|split
def A72:∀ls cs rs ay,S61 ls cs=some (true,rs,ay)->ay=cs:=λls cs rs ay h=>by
 unfold S61 at h;split at h
 ·obtain⟨_,h⟩:=A8 h;exact A0p rfl rfl D7D h
 ·cases h
def C1M:Env Ty6 A4:=mkE [] [] noD 19 [4] 1 [] []
def M0(a1:Int)(ac:DY)(aa:DZ):DW:=match idx ac a1 with|none=>none|some y1=>(match idx aa y1.tok with|none=>none|some y2=>(some ([.agg .tok (⟨y2.kind,(⟨y2.pos.line,y2.pos.col⟩:B1),y2.from_,y2.to_,y2.text,y2.value⟩:A0)],(bxN ac aa))))
def D6H{a1:Int}{ac:DY}{aa:DZ}:C5 C1M NN Tryz.f134 [0] [.ptr 900000 0,.int .i64 a1] (bxN ac aa)=M0 a1 ac aa:=En
def A1a:S2T
 |[.ptr d0 o0,.int .i64 a1],[[.sl .node ac none,.sl .tok aa none]]=>bif bq d0 o0 then pB [.agg .tok] kN (M0 a1 ac aa)else none
 |_,_=>none
def D6p{a1:Int}{ac:DY}{aa:DZ}:RoK (bxN ac aa) (M0 a1 ac aa):=by
 unfold M0
 try dsimp only
 repeat' first|exact H8|exact P2 _|apply N7|apply M9|split
def A3S:∀ls cs rs ay,A1a ls cs=some (true,rs,ay)->ay=cs:=λls cs rs ay h=>by
 unfold A1a at h;split at h
 ·obtain⟨_,h⟩:=A8 h;exact A0p rfl rfl D6p h
 ·cases h
def A5b:Env Ty6 A4:=mkR [(56,S56)] [] [(60,S60),(134,A1a)] (lkD [(1,[5,6,7,8,9,10,11,12,13]),(2,[14,15,16,17]),(3,[1,14,18,19,20])]) 21 [4] 1 [] []
def B3M(a1:Int)(ac:DY)(aa:DZ)(x1:Int):S6:=⟨[eP 0 900000,eI 1 x1,eP 4 104,(1000104,.bx 104 [.int .i64 0,.int .i64 0,.int .i64 0,.int .i64 0,.int .i64 0,.str [],.str []]),(1900000,.bx 900000 [.sl .node ac none,.sl .tok aa none])],[104,900000]⟩
def D0E(a1:Int)(ac:DY)(aa:DZ)(x1:Int)(cr:Bool):S6:=E7 (eB 14 cr) (B3M a1 ac aa x1)
def A91{R:Type}(nn:Nat)(a1:Int)(ac:DY)(aa:DZ)(x1:Int)(k1:Int->Option R)(k2:Int->Bool->Option R):Option R:=match idx ac x1 with|none=>none|some y1=>(gd (okR [.bool] (F56 y1.sym)) (let z2:= !(lB (gL (F56 y1.sym) 0));bif z2 then(let r3:=F60 x1 0 ac aa;gd (okB [.int .i64] kN r3) (k1 (lI (gB r3 0))))else(k2 x1 z2)))
def A21{R:Type}(nn:Nat)(a1:Int)(ac:DY)(aa:DZ):Nat->Int->(Int->Bool->Option R)->Option R
 |0,_,_=>none
 |n+1,x1,k2=>A91 nn a1 ac aa x1 (λx1=>A21 nn a1 ac aa n x1 k2) k2
def C4i{R:Type}(nn:Nat)(a1:Int)(ac:DY)(aa:DZ):∀(n:Nat)(x1:Int)(K:Ex->S6->Option R),LP A5b nn Hj [1,0,0,0] 10001 n (B3M a1 ac aa x1) K=A21 nn a1 ac aa n x1 (λx1 cr=>K (.exit 0) (D0E a1 ac aa x1 cr))
 |0,_,_=>rfl
 |n+1,x1,K=>by
  rw[A21];simp only[<-C4i nn a1 ac aa n _ K];kernel_rfl
def B49(nn:Nat)(a1:Int)(ac:DY)(aa:DZ):DW:=A21 nn a1 ac aa nn a1 (λz1 z2=>let r3:=M0 z1 ac aa;gd (okB [.agg .tok] kN r3) (some ([.agg .tok (⟨((J4 (gB r3 0)).kind),(⟨(((J4 (gB r3 0)).pos).line),(((J4 (gB r3 0)).pos).col)⟩:B1),((J4 (gB r3 0)).from_),((J4 (gB r3 0)).to_),((J4 (gB r3 0)).text),((J4 (gB r3 0)).value)⟩:A0)],(bxN ac aa))))
def A2i(a1:Int)(ac:DY)(aa:DZ):DW:=B49 NN a1 ac aa
def C9K(nn:Nat){a1:Int}{ac:DY}{aa:DZ}:C5 A5b nn Hj [0] [.ptr 900000 0,.int .i64 a1] (bxN ac aa)=B49 nn a1 ac aa:=by
 have h:C5 A5b nn Hj [0] [.ptr 900000 0,.int .i64 a1] (bxN ac aa)=LP A5b nn Hj [1,0,0,0] 10001 nn (B3M a1 ac aa a1) (A7 0 (sk A5b nn Hj [1,1] (L9 A5b Tryz.f132.results.toList [0] (bxN ac aa)))):=En
 rw[h];simp only[C4i];show _=_;kernel_rfl
def A5x:S2T
 |[.ptr d0 o0,.int .i64 a1],[[.sl .node ac none,.sl .tok aa none]]=>bif bq d0 o0 then pB [.agg .tok] kN (A2i a1 ac aa)else none
 |_,_=>none
def B82{nn:Nat}{a1:Int}{ac:DY}{aa:DZ}{p:Ec->Prop}{k0:Int->Bool->DW}(dU:∀y0 y1,RoP p (k0 y0 y1)):∀(n:Nat)(x0:Int),RoP p (A21 nn a1 ac aa n x0 k0)
 |0,_=>H8
 |n+1,_=>by
  unfold A21 A91
  try dsimp only
  repeat' first|exact H8|exact P2 _|exact dU _ _|exact B82 dU n _|apply N7|apply M9|split
def D7E{a1:Int}{ac:DY}{aa:DZ}:RoK (bxN ac aa) (A2i a1 ac aa):=by
 unfold A2i B49
 try dsimp only
 repeat' first|exact H8|exact P2 _|(apply B82<;>intros)|apply N7|apply M9|split
def B3n:∀ls cs rs ay,A5x ls cs=some (true,rs,ay)->ay=cs:=λls cs rs ay h=>by
 unfold A5x at h;split at h
 ·obtain⟨_,h⟩:=A8 h;exact A0p rfl rfl D7E h
 ·cases h
def A6O(g:Int->(DY)->(DZ)->DW):S2T
 |[.ptr d0 o0,.int .i64 a1],[[.sl .node ac none,.sl .tok aa none]]=>bif bq d0 o0 then pB [.agg .lit] kN (g a1 ac aa)else none
 |_,_=>none
def B1I(g:Int->A0->(DY)->(DZ)->Int->(DT)->Bool->(List LitT)->(List LfT)->Int->Int->DW):S2T
 |[.ptr d0 o0,.int .i64 a1,.agg .tok a2,.ptr d1 o1],[[.sl .node ac none,.sl .tok aa none],[.int .i64 ba,.str bg,.bool aS,.sl .lit aT (some wS),.sl .lf aU (some wT),.int .i64 aV,.int .i64 aW]]=>bif bq d0 o0&&(Fb d1 900001&&Fb o1 0)&&(Fb wS 92000103)&&(Fb wT 92000104)then pB [] [[.sl .node none,.sl .tok none],[.int .i64,.str,.bool,.sl .lit (some 92000103),.sl .lf (some 92000104),.int .i64,.int .i64]] (g a1 a2 ac aa ba bg aS aT aU aV aW)else none
 |_,_=>none
def C0z(g187:Int->(DY)->(DZ)->DW)(aX:Int->A0->(DY)->(DZ)->Int->(DT)->Bool->(List LitT)->(List LfT)->Int->Int->DW):Env Ty6 A4:=mkR [] [(216,B1I aX)] [(132,A5x)] noD 54 [4,6,14] 1 [4] [(14,106)]
def Z5(g187:Int->(DY)->(DZ)->DW)(aX:Int->A0->(DY)->(DZ)->Int->(DT)->Bool->(List LitT)->(List LfT)->Int->Int->DW)(a1:Int)(ac:DY)(aa:DZ):DW:=let zu:=A2i a1 ac aa;gd (okB [.agg .tok] kN zu) (let z1:=(J4 (gB zu 0));let j2:Int->(DT)->Bool->(List LitT)->(List LfT)->Int->Int->(DY)->(DZ)->DW:=λz3 z4 z5 z6 z7 z8 z9 dJ cW=>some ([.agg .lit (LitT.mk z3 z4 z5 z6 z7 (⟨z8,z9⟩:B1))],[[.sl .node dJ none,.sl .tok cW none]]);let un:A0->(DT)->Int->Int->DW:=λee eh fv jK=>some ([.agg .lit (LitT.mk 0 eh false [] [] (⟨fv,jK⟩:B1))],(bxN ac aa));bif(z1.kind==4)then(j2 2 z1.text false [] [] z1.pos.line z1.pos.col ac aa)else(bif(z1.kind==5)then(j2 3 z1.text false [] [] z1.pos.line z1.pos.col ac aa)else(let ni:A0->Int->Bool->(DT)->Int->Int->DW:=λfI iX z20 z21 iY iF=>bif z20 then(j2 4 fI.value (fI.kind==7) [] [] iY iF ac aa)else(bif(iX==3)then(let zv:(DT)->Bool->(DT)->Int->Int->DW:=λqF mB uo wU wV=>bif mB then(j2 5 uo false [] [] wU wV ac aa)else(bif(qF==[110,117,108,108])then(j2 6 [] false [] [] wU wV ac aa)else(j2 7 uo false [] [] wU wV ac aa));let zw:=fI.text==[116,114,117,101];bif zw then(zv fI.text zw z21 iY iF)else(zv fI.text (fI.text==[102,97,108,115,101]) z21 iY iF))else(bif(iX==2)then(let ki:=aX a1 fI ac aa 0 z21 false [] [] iY iF;gd (okB [] [[.sl .node none,.sl .tok none],[.int .i64,.str,.bool,.sl .lit (some 92000103),.sl .lf (some 92000104),.int .i64,.int .i64]] ki) (j2 (lI (gC ki 1 0)) (lS (gC ki 1 1)) (lB (gC ki 1 2)) (D0d (gC ki 1 3)) (D17 (gC ki 1 4)) (lI (gC ki 1 5)) (lI (gC ki 1 6)) (B8S (gC ki 0 0)) (A2v (gC ki 0 1))))else(un fI z21 iY iF)));bif(z1.kind==6)then(ni z1 z1.kind (z1.kind==6) z1.text z1.pos.line z1.pos.col)else(ni z1 z1.kind (z1.kind==7) z1.text z1.pos.line z1.pos.col))))
def D7y(g187:Int->(DY)->(DZ)->DW)(aX:Int->A0->(DY)->(DZ)->Int->(DT)->Bool->(List LitT)->(List LfT)->Int->Int->DW){a1:Int}{ac:DY}{aa:DZ}:C5 (C0z g187 aX) NN Tryz.f187 [0] [.ptr 900000 0,.int .i64 a1] (bxN ac aa)=Z5 g187 aX a1 ac aa:=En
def D7x{g187:Int->(DY)->(DZ)->DW}{aX:Int->A0->(DY)->(DZ)->Int->(DT)->Bool->(List LitT)->(List LfT)->Int->Int->DW}{a1:Int}{ac:DY}{aa:DZ}(hg:∀a t N T k x b tf fs l c,RoP (λcs=>cs.head? =some [.sl .node N none,.sl .tok T none]) (aX a t N T k x b tf fs l c)):RoK (bxN ac aa) (Z5 g187 aX a1 ac aa):=by
 unfold Z5
 try dsimp only
 have bE:∀(F:Option (DV×Ec))(X:Option (DV×Ec)->DV)(ks:List KD)(eo:List (List KD)),RoP (λcs=>cs.head? =some [.sl .node ac none,.sl .tok aa none]) F->RoK (bxN ac aa) (gd (okB ks eo F) (some (X F,[[.sl .node (B8S (gC F 0 0)) none,.sl .tok (A2v (gC F 0 1)) none]]))):=λF X ks eo hF=>by
  apply D3E;intro r hr;have h:=hF r hr;obtain⟨l,cs⟩:=r;subst hr
  match cs,h with
  |row::aw,h=>cases h;exact P2 _
 repeat' first|exact H8|exact P2 _|exact bE _ (λ_=>_) _ _ (hg _ _ _ _ _ _ _ _ _ _ _)|apply N7|apply M9|split
def A3p(g187:Int->(DY)->(DZ)->DW)(aX:Int->A0->(DY)->(DZ)->Int->(DT)->Bool->(List LitT)->(List LfT)->Int->Int->DW):Env Ty6 A4:=mkR [] [] [(60,S60),(61,S61),(134,A1a),(187,A6O g187)] (lkD [(0,[2,1000108,1000111,1000114,1000115]),(1,[16,17,18,1000108,1000111,1000114,1000115]),(2,[6,19,1000106,1000108,1000111,1000114,1000115]),(3,[22,1000106,1000108,1000111,1000114,1000115]),(4,[1,20,21,23,24,25,26,27,1000106,1000111,1000114,1000115]),(5,[28,29,30,1000106,1000111,1000114,1000115]),(6,[8,31,32,33,34,35,1000106,1000108,1000111,1000114,1000115]),(7,[21,37,1000106,1000108,1000111,1000114,1000115]),(8,[20,36,38,39,40,1000106,1000108,1000111,1000114,1000115]),(9,[1,41,42,43,44,45,1000106,1000108,1000111,1000114,1000115]),(10,[1000106,1000108,1000111,1000114,1000115]),(11,[46,47,48,1000106,1000108,1000111,1000114,1000115]),(12,[50,51,1000106,1000108,1000111,1000114,1000115]),(13,[49,52,53,54,55,56,57,1000106,1000108,1000114,1000115]),(14,[11,58,59,60,61,62,63,64,65,66,67,68,1000106,1000108,1000111,1000114,1000115]),(15,[20,36,70,1000106,1000108,1000111,1000114,1000115]),(16,[69,71,72,73,1000106,1000108,1000111,1000114,1000115]),(17,[1,74,75,76,77,78,1000106,1000108,1000111,1000114,1000115]),(18,[1000106,1000108,1000111,1000114,1000115]),(19,[79,80,81,1000106,1000108,1000111,1000114,1000115]),(20,[83,84,1000106,1000108,1000111,1000114,1000115]),(21,[82,85,86,87,88,89,90,91,92,1000106,1000108,1000111,1000115]),(22,[93,94,95,96,97,98,99,100,1000106,1000108,1000111]),(23,[14,15,101,102,103,104,105,106,107,108,109,110,111,112,113,114,115,116,1000106,1000108,1000111,1000114,1000115]),(10011,[1000106,1000108,1000111,1000114,1000115]),(10019,[1000106,1000108,1000111,1000114,1000115])]) 117 [] 4 [] []
def B5o(a1:Int)(a2:A0)(ac:DY)(aa:DZ)(ba:Int)(bg:DT)(aS:Bool)(aT:List LitT)(aU:List LfT)(aV aW:Int)(x9:DS)(aP:Int)(aE:List LitT):S6:=⟨[eP 0 900000,eP 3 900001,eL 9 .i64 x9,eI 10 aP,(1900000,.bx 900000 [.sl .node ac none,.sl .tok aa none]),(1900001,.bx 900001 [.int .i64 8,.str [],.bool aS,.sl .lit aE (some 92000103),.sl .lf aU (some 92000104),.int .i64 aV,.int .i64 aW])],[900000,900001,92000103,92000104]⟩
def D4c(a1:Int)(a2:A0)(ac:DY)(aa:DZ)(ba:Int)(bg:DT)(aS:Bool)(aT:List LitT)(aU:List LfT)(aV aW:Int)(x9:DS)(aP:Int)(fJ:Bool)(aE:List LitT):S6:=E7 (eB 49 fJ) (B5o a1 a2 ac aa ba bg aS aT aU aV aW x9 aP aE)
def B60(a1:Int)(a2:A0)(ac:DY)(aa:DZ)(ba:Int)(bg:DT)(aS:Bool)(aT:List LitT)(aU:List LfT)(aV aW:Int)(b9:DS)(bN:Int)(aF:List LfT):S6:=⟨[eP 0 900000,eP 3 900001,eL 12 .i64 b9,eI 13 bN,(1900000,.bx 900000 [.sl .node ac none,.sl .tok aa none]),(1900001,.bx 900001 [.int .i64 9,.str [],.bool aS,.sl .lit aT (some 92000103),.sl .lf aF (some 92000104),.int .i64 aV,.int .i64 aW])],[900000,900001,92000103,92000104]⟩
def D3u(a1:Int)(a2:A0)(ac:DY)(aa:DZ)(ba:Int)(bg:DT)(aS:Bool)(aT:List LitT)(aU:List LfT)(aV aW:Int)(b9:DS)(bN:Int)(wW:Bool)(aF:List LfT):S6:=E7 (eB 82 wW) (B60 a1 a2 ac aa ba bg aS aT aU aV aW b9 bN aF)
def A9s{R:Type}(nn:Nat)(g187:Int->(DY)->(DZ)->DW)(aX:Int->A0->(DY)->(DZ)->Int->(DT)->Bool->(List LitT)->(List LfT)->Int->Int->DW)(a1:Int)(a2:A0)(ac:DY)(aa:DZ)(ba:Int)(bg:DT)(aS:Bool)(aT:List LitT)(aU:List LfT)(aV aW:Int)(x9:DS)(aP:Int)(aE:List LitT)(k1:(DS)->Int->(List LitT)->Option R)(k2:(DS)->Int->Bool->(List LitT)->Option R):Option R:=let z1:=decide (aP<(Ew x9:Int));bif z1 then(match idx x9 aP with|none=>none|some y2=>(let r3:=g187 y2 ac aa;gd (okB [.agg .lit] kN r3) (gd (decide ((Ew aE:Int)=(Ew aE:Int))&&A3 (Ew aE+1) 96) (k1 x9 (Ey .i64 (aP+1)) (aE++[(V7 (gB r3 0))])))))else(k2 x9 aP z1 aE)
def A1o{R:Type}(nn:Nat)(g187:Int->(DY)->(DZ)->DW)(aX:Int->A0->(DY)->(DZ)->Int->(DT)->Bool->(List LitT)->(List LfT)->Int->Int->DW)(a1:Int)(a2:A0)(ac:DY)(aa:DZ)(ba:Int)(bg:DT)(aS:Bool)(aT:List LitT)(aU:List LfT)(aV aW:Int):Nat->(DS)->Int->(List LitT)->((DS)->Int->Bool->(List LitT)->Option R)->Option R
 |0,_,_,_,_=>none
 |n+1,x9,aP,aE,k2=>A9s nn g187 aX a1 a2 ac aa ba bg aS aT aU aV aW x9 aP aE (λx9 aP aE=>A1o nn g187 aX a1 a2 ac aa ba bg aS aT aU aV aW n x9 aP aE k2) k2
def B7S{R:Type}(nn:Nat)(g187:Int->(DY)->(DZ)->DW)(aX:Int->A0->(DY)->(DZ)->Int->(DT)->Bool->(List LitT)->(List LfT)->Int->Int->DW)(a1:Int)(a2:A0)(ac:DY)(aa:DZ)(ba:Int)(bg:DT)(aS:Bool)(aT:List LitT)(aU:List LfT)(aV aW:Int):∀(n:Nat)(x9:DS)(aP:Int)(aE:List LitT)(K:Ex->S6->Option R),LP (A3p g187 aX) nn Fw [1,1,1,0,1,1,1,0,1,1,1,0,0] 10011 n (B5o a1 a2 ac aa ba bg aS aT aU aV aW x9 aP aE) K=A1o nn g187 aX a1 a2 ac aa ba bg aS aT aU aV aW n x9 aP aE (λx9 aP fJ aE=>K (.exit 1) (D4c a1 a2 ac aa ba bg aS aT aU aV aW x9 aP fJ aE))
 |0,_,_,_,_=>rfl
 |n+1,x9,aP,aE,K=>by
  rw[A1o];simp only[<-B7S nn g187 aX a1 a2 ac aa ba bg aS aT aU aV aW n _ _ _ K];kernel_rfl
def B04{R:Type}(nn:Nat)(g187:Int->(DY)->(DZ)->DW)(aX:Int->A0->(DY)->(DZ)->Int->(DT)->Bool->(List LitT)->(List LfT)->Int->Int->DW)(a1:Int)(a2:A0)(ac:DY)(aa:DZ)(ba:Int)(bg:DT)(aS:Bool)(aT:List LitT)(aU:List LfT)(aV aW:Int)(b9:DS)(bN:Int)(aF:List LfT)(k1:(DS)->Int->(List LfT)->Option R)(k2:(DS)->Int->Bool->(List LfT)->Option R):Option R:=let z1:=decide (bN<(Ew b9:Int));bif z1 then(match idx b9 bN with|none=>none|some y2=>(let r9:=F60 y2 0 ac aa;gd (okB [.int .i64] kN r9) (let r8:=M0 (lI (gB r9 0)) ac aa;gd (okB [.agg .tok] kN r8) (let z3:=(J4 (gB r8 0));match idx b9 bN with|none=>none|some y4=>(let r7:=F60 y4 2 ac aa;gd (okB [.int .i64] kN r7) (let r6:=g187 (lI (gB r7 0)) ac aa;gd (okB [.agg .lit] kN r6) (let z5:=(V7 (gB r6 0));gd (decide ((Ew aF:Int)=(Ew aF:Int))&&A3 (Ew aF+1) 128) (k1 b9 (Ey .i64 (bN+1)) (aF++[(⟨z3.text,(LitT.mk z5.kind z5.text z5.block z5.items z5.fields z5.pos),z3.pos⟩:LfT)])))))))))else(k2 b9 bN z1 aF)
def A1y{R:Type}(nn:Nat)(g187:Int->(DY)->(DZ)->DW)(aX:Int->A0->(DY)->(DZ)->Int->(DT)->Bool->(List LitT)->(List LfT)->Int->Int->DW)(a1:Int)(a2:A0)(ac:DY)(aa:DZ)(ba:Int)(bg:DT)(aS:Bool)(aT:List LitT)(aU:List LfT)(aV aW:Int):Nat->(DS)->Int->(List LfT)->((DS)->Int->Bool->(List LfT)->Option R)->Option R
 |0,_,_,_,_=>none
 |n+1,b9,bN,aF,k2=>B04 nn g187 aX a1 a2 ac aa ba bg aS aT aU aV aW b9 bN aF (λb9 bN aF=>A1y nn g187 aX a1 a2 ac aa ba bg aS aT aU aV aW n b9 bN aF k2) k2
def C1r{R:Type}(nn:Nat)(g187:Int->(DY)->(DZ)->DW)(aX:Int->A0->(DY)->(DZ)->Int->(DT)->Bool->(List LitT)->(List LfT)->Int->Int->DW)(a1:Int)(a2:A0)(ac:DY)(aa:DZ)(ba:Int)(bg:DT)(aS:Bool)(aT:List LitT)(aU:List LfT)(aV aW:Int):∀(n:Nat)(b9:DS)(bN:Int)(aF:List LfT)(K:Ex->S6->Option R),LP (A3p g187 aX) nn Fw [1,1,1,0,1,1,1,1,1,0,1,1,1,0,0] 10019 n (B60 a1 a2 ac aa ba bg aS aT aU aV aW b9 bN aF) K=A1y nn g187 aX a1 a2 ac aa ba bg aS aT aU aV aW n b9 bN aF (λb9 bN wW aF=>K (.exit 3) (D3u a1 a2 ac aa ba bg aS aT aU aV aW b9 bN wW aF))
 |0,_,_,_,_=>rfl
 |n+1,b9,bN,aF,K=>by
  rw[A1y];simp only[<-C1r nn g187 aX a1 a2 ac aa ba bg aS aT aU aV aW n _ _ _ K];kernel_rfl
def A64(nn:Nat)(g187:Int->(DY)->(DZ)->DW)(aX:Int->A0->(DY)->(DZ)->Int->(DT)->Bool->(List LitT)->(List LfT)->Int->Int->DW)(a1:Int)(a2:A0)(ac:DY)(aa:DZ)(ba:Int)(bg:DT)(aS:Bool)(aT:List LitT)(aU:List LfT)(aV aW:Int):DW:=bif(a2.text==[36])then(let r2:=F60 a1 1 ac aa;gd (okB [.int .i64] kN r2) (let r1:=M0 (lI (gB r2 0)) ac aa;gd (okB [.agg .tok] kN r1) (some ([],[[.sl .node ac none,.sl .tok aa none],[.int .i64 1,.str ((J4 (gB r1 0)).text),.bool aS,.sl .lit aT (some 92000103),.sl .lf aU (some 92000104),.int .i64 aV,.int .i64 aW]]))))else(bif(a2.text==[91])then(let r8:=F60 a1 1 ac aa;gd (okB [.int .i64] kN r8) (let r7:=F61 (lI (gB r8 0)) ac aa;gd (okB [.sl .i64 (some 1)] kN r7) (A1o nn g187 aX a1 a2 ac aa ba bg aS aT aU aV aW nn (Y6 (gB r7 0)) 0 aT (λz3 z4 z5 z6=>some ([],[[.sl .node ac none,.sl .tok aa none],[.int .i64 8,.str [],.bool aS,.sl .lit z6 (some 92000103),.sl .lf aU (some 92000104),.int .i64 aV,.int .i64 aW]])))))else(let z9:=a2.text==[123];bif z9 then(let dn:=F60 a1 1 ac aa;gd (okB [.int .i64] kN dn) (let ew:=F61 (lI (gB dn 0)) ac aa;gd (okB [.sl .i64 (some 1)] kN ew) (A1y nn g187 aX a1 a2 ac aa ba bg aS aT aU aV aW nn (Y6 (gB ew 0)) 0 aU (λdJ cW er ee=>some ([],[[.sl .node ac none,.sl .tok aa none],[.int .i64 9,.str [],.bool aS,.sl .lit aT (some 92000103),.sl .lf ee (some 92000104),.int .i64 aV,.int .i64 aW]])))))else(some ([],[[.sl .node ac none,.sl .tok aa none],[.int .i64 ba,.str [],.bool aS,.sl .lit aT (some 92000103),.sl .lf aU (some 92000104),.int .i64 aV,.int .i64 aW]]))))
def A2D(g187:Int->(DY)->(DZ)->DW)(aX:Int->A0->(DY)->(DZ)->Int->(DT)->Bool->(List LitT)->(List LfT)->Int->Int->DW)(a1:Int)(a2:A0)(ac:DY)(aa:DZ)(ba:Int)(bg:DT)(aS:Bool)(aT:List LitT)(aU:List LfT)(aV aW:Int):DW:=A64 NN g187 aX a1 a2 ac aa ba bg aS aT aU aV aW
def D24(nn:Nat)(g187:Int->(DY)->(DZ)->DW)(aX:Int->A0->(DY)->(DZ)->Int->(DT)->Bool->(List LitT)->(List LfT)->Int->Int->DW){a1:Int}{a2:A0}{ac:DY}{aa:DZ}{ba:Int}{bg:DT}{aS:Bool}{aT:List LitT}{aU:List LfT}{aV aW:Int}:C5 (A3p g187 aX) nn Fw [0,3] [.ptr 900000 0,.int .i64 a1,.agg .tok a2,.ptr 900001 0] [[.sl .node ac none,.sl .tok aa none],[.int .i64 ba,.str bg,.bool aS,.sl .lit aT (some 92000103),.sl .lf aU (some 92000104),.int .i64 aV,.int .i64 aW]]=A64 nn g187 aX a1 a2 ac aa ba bg aS aT aU aV aW:=by
 have h:C5 (A3p g187 aX) nn Fw [0,3] [.ptr 900000 0,.int .i64 a1,.agg .tok a2,.ptr 900001 0] [[.sl .node ac none,.sl .tok aa none],[.int .i64 ba,.str bg,.bool aS,.sl .lit aT (some 92000103),.sl .lf aU (some 92000104),.int .i64 aV,.int .i64 aW]]=bif(a2.text==[36])then(let r2:=F60 a1 1 ac aa;gd (okB [.int .i64] kN r2) (let r1:=M0 (lI (gB r2 0)) ac aa;gd (okB [.agg .tok] kN r1) (some ([],[[.sl .node ac none,.sl .tok aa none],[.int .i64 1,.str ((J4 (gB r1 0)).text),.bool aS,.sl .lit aT (some 92000103),.sl .lf aU (some 92000104),.int .i64 aV,.int .i64 aW]]))))else(bif(a2.text==[91])then(let r8:=F60 a1 1 ac aa;gd (okB [.int .i64] kN r8) (let r7:=F61 (lI (gB r8 0)) ac aa;gd (okB [.sl .i64 (some 1)] kN r7) (LP (A3p g187 aX) nn Fw [1,1,1,0,1,1,1,0,1,1,1,0,0] 10011 nn (B5o a1 a2 ac aa ba bg aS aT aU aV aW (Y6 (gB r7 0)) 0 aT) (A7 1 (A7 0 (L9 (A3p g187 aX) Tryz.f216.results.toList [0,3] [[.sl .node ac none,.sl .tok aa none],[.int .i64 ba,.str bg,.bool aS,.sl .lit aT (some 92000103),.sl .lf aU (some 92000104),.int .i64 aV,.int .i64 aW]]))))))else(let z9:=a2.text==[123];bif z9 then(let dn:=F60 a1 1 ac aa;gd (okB [.int .i64] kN dn) (let ew:=F61 (lI (gB dn 0)) ac aa;gd (okB [.sl .i64 (some 1)] kN ew) (LP (A3p g187 aX) nn Fw [1,1,1,0,1,1,1,1,1,0,1,1,1,0,0] 10019 nn (B60 a1 a2 ac aa ba bg aS aT aU aV aW (Y6 (gB ew 0)) 0 aU) (A7 3 (A7 0 (L9 (A3p g187 aX) Tryz.f216.results.toList [0,3] [[.sl .node ac none,.sl .tok aa none],[.int .i64 ba,.str bg,.bool aS,.sl .lit aT (some 92000103),.sl .lf aU (some 92000104),.int .i64 aV,.int .i64 aW]]))))))else(some ([],[[.sl .node ac none,.sl .tok aa none],[.int .i64 ba,.str [],.bool aS,.sl .lit aT (some 92000103),.sl .lf aU (some 92000104),.int .i64 aV,.int .i64 aW]])))):=En
 rw[h];simp only[B7S,C1r];show _=_;kernel_rfl
def B3Q{nn:Nat}{g187:Int->(DY)->(DZ)->DW}{aX:Int->A0->(DY)->(DZ)->Int->(DT)->Bool->(List LitT)->(List LfT)->Int->Int->DW}{a1:Int}{a2:A0}{ac:DY}{aa:DZ}{ba:Int}{bg:DT}{aS:Bool}{aT:List LitT}{aU:List LfT}{aV aW:Int}{p:Ec->Prop}{k0:(DS)->Int->Bool->(List LitT)->DW}(dU:∀y0 y1 y2 y3,RoP p (k0 y0 y1 y2 y3)):∀(n:Nat)(x0:(DS))(x1:Int)(x2:(List LitT)),RoP p (A1o nn g187 aX a1 a2 ac aa ba bg aS aT aU aV aW n x0 x1 x2 k0)
 |0,_,_,_=>H8
 |n+1,_,_,_=>by
  unfold A1o A9s
  try dsimp only
  repeat' first|exact H8|exact B4L _ rfl|exact dU _ _ _ _|exact B3Q dU n _ _ _|apply N7|apply M9|split
def C1g{nn:Nat}{g187:Int->(DY)->(DZ)->DW}{aX:Int->A0->(DY)->(DZ)->Int->(DT)->Bool->(List LitT)->(List LfT)->Int->Int->DW}{a1:Int}{a2:A0}{ac:DY}{aa:DZ}{ba:Int}{bg:DT}{aS:Bool}{aT:List LitT}{aU:List LfT}{aV aW:Int}{p:Ec->Prop}{k0:(DS)->Int->Bool->(List LfT)->DW}(dU:∀y0 y1 y2 y3,RoP p (k0 y0 y1 y2 y3)):∀(n:Nat)(x0:(DS))(x1:Int)(x2:(List LfT)),RoP p (A1y nn g187 aX a1 a2 ac aa ba bg aS aT aU aV aW n x0 x1 x2 k0)
 |0,_,_,_=>H8
 |n+1,_,_,_=>by
  unfold A1y B04
  try dsimp only
  repeat' first|exact H8|exact B4L _ rfl|exact dU _ _ _ _|exact C1g dU n _ _ _|(apply B3Q<;>intros)|apply N7|apply M9|split
def D6o{g187:Int->(DY)->(DZ)->DW}{aX:Int->A0->(DY)->(DZ)->Int->(DT)->Bool->(List LitT)->(List LfT)->Int->Int->DW}{a1:Int}{a2:A0}{ac:DY}{aa:DZ}{ba:Int}{bg:DT}{aS:Bool}{aT:List LitT}{aU:List LfT}{aV aW:Int}:RoP (λcs=>cs.head? =some [.sl .node ac none,.sl .tok aa none]) (A2D g187 aX a1 a2 ac aa ba bg aS aT aU aV aW):=by
 unfold A2D A64
 try dsimp only
 repeat' first|exact H8|exact B4L _ rfl|(apply B3Q<;>intros)|(apply C1g<;>intros)|apply N7|apply M9|split
def I1:Nat->(Int->(DY)->(DZ)->DW)×(Int->A0->(DY)->(DZ)->Int->(DT)->Bool->(List LitT)->(List LfT)->Int->Int->DW)
 |0=>(λ_ _ _=>none,λ_ _ _ _ _ _ _ _ _ _ _=>none)
 |d+1=>(Z5 (I1 d).1 (I1 d).2,A2D (I1 d).1 (I1 d).2)
def B0i(a1:Int)(ac:DY)(aa:DZ):DW:=(I1 DD).1 a1 ac aa
def B1M:S2T
 |[.ptr d0 o0,.int .i64 a1],[[.sl .node ac none,.sl .tok aa none]]=>bif bq d0 o0 then pB [.agg .lit] kN (B0i a1 ac aa)else none
 |_,_=>none
def D5s:∀(d:Nat)(a1:Int)(ac:DY)(aa:DZ),RoK (bxN ac aa) ((I1 d).1 a1 ac aa)
 |0,_,_,_=>H8
 |d+1,_,_,_=>D7x (g187:=(I1 d).1) λa t N T k x b tf fs l c=>match d with
  |0=>H8
  |d+1=>D6o
def C4O(d:Nat):∀ls cs rs ay,A6O ((I1 d).1) ls cs=some (true,rs,ay)->ay=cs:=λls cs rs ay h=>by
 unfold A6O at h;split at h
 ·obtain⟨_,h⟩:=A8 h;exact A0p rfl rfl (D5s d _ _ _) h
 ·cases h
def C4k:∀ls cs rs ay,B1M ls cs=some (true,rs,ay)->ay=cs:=C4O DD
def B7P:Env Ty6 A4:=mkR [] [] [(60,S60),(134,A1a),(187,B1M)] noD 21 [4] 1 [4] []
def A1E(a1:Int)(ac:DY)(aa:DZ):DW:=let r5:=F60 a1 0 ac aa;gd (okB [.int .i64] kN r5) (let r4:=M0 (lI (gB r5 0)) ac aa;gd (okB [.agg .tok] kN r4) (let z1:=(J4 (gB r4 0));let r3:=F60 a1 2 ac aa;gd (okB [.int .i64] kN r3) (let r2:=B0i (lI (gB r3 0)) ac aa;gd (okB [.agg .lit] kN r2) (some ([.agg .arg (⟨z1.text,(LitT.mk ((V7 (gB r2 0)).kind) ((V7 (gB r2 0)).text) ((V7 (gB r2 0)).block) ((V7 (gB r2 0)).items) ((V7 (gB r2 0)).fields) (⟨(((V7 (gB r2 0)).pos).line),(((V7 (gB r2 0)).pos).col)⟩:B1)),(⟨z1.pos.line,z1.pos.col⟩:B1)⟩:D1)],(bxN ac aa))))))
def C8v{a1:Int}{ac:DY}{aa:DZ}:C5 B7P NN Tryz.f215 [0] [.ptr 900000 0,.int .i64 a1] (bxN ac aa)=A1E a1 ac aa:=En
def A8p:S2T
 |[.ptr d0 o0,.int .i64 a1],[[.sl .node ac none,.sl .tok aa none]]=>bif bq d0 o0 then pB [.agg .arg] kN (A1E a1 ac aa)else none
 |_,_=>none
def C9L{a1:Int}{ac:DY}{aa:DZ}:RoK (bxN ac aa) (A1E a1 ac aa):=by
 unfold A1E
 try dsimp only
 repeat' first|exact H8|exact P2 _|apply N7|apply M9|split
def C6r:∀ls cs rs ay,A8p ls cs=some (true,rs,ay)->ay=cs:=λls cs rs ay h=>by
 unfold A8p at h;split at h
 ·obtain⟨_,h⟩:=A8 h;exact A0p rfl rfl C9L h
 ·cases h
def A5J:Env Ty6 A4:=mkR [] [] [(60,S60),(61,S61),(136,A1m),(215,A8p)] (lkD [(0,[4,1000106]),(1,[1000106]),(2,[9,10,1000106]),(3,[1,5,11,1000106]),(4,[11,12,13,14,15,16]),(5,[17,18,19,20]),(6,[1,21,22,23,24,25]),(8,[26,27,28]),(9,[30,31]),(10,[29,32,33,34,35,36,37]),(11,[38,39,40,41]),(12,[5,6,7,8,29,42,1000106])]) 43 [6] 1 [] []
def B2O(a1:Int)(ac:DY)(aa:DZ)(x5:List D1)(x7:DS)(x8:Int)(ag:DT)(aj:Int)(ak:DT)(am:Bool)(anq:List LitT)(ao:List LfT)(ap aq au aM:Int):S6:=⟨[eP 0 900000,(5,.one (.sl .arg x5 (some 105))),eP 6 106,eL 7 .i64 x7,eI 8 x8,(1000106,.bx 106 [.str ag,.int .i64 aj,.str ak,.bool am,.sl .lit anq none,.sl .lf ao none,.int .i64 ap,.int .i64 aq,.int .i64 au,.int .i64 aM]),(1900000,.bx 900000 [.sl .node ac none,.sl .tok aa none])],[105,106,900000]⟩
def D71(a1:Int)(ac:DY)(aa:DZ)(x5:List D1)(x7:DS)(x8:Int)(sZ:Bool)(ag:DT)(aj:Int)(ak:DT)(am:Bool)(anq:List LitT)(ao:List LfT)(ap aq au aM:Int):S6:=E7 (eB 29 sZ) (B2O a1 ac aa x5 x7 x8 ag aj ak am anq ao ap aq au aM)
def B0H{R:Type}(nn:Nat)(a1:Int)(ac:DY)(aa:DZ)(x5:List D1)(x7:DS)(x8:Int)(ag:DT)(aj:Int)(ak:DT)(am:Bool)(anq:List LitT)(ao:List LfT)(ap aq au aM:Int)(k1:(List D1)->(DS)->Int->(DT)->Int->(DT)->Bool->(List LitT)->(List LfT)->Int->Int->Int->Int->Option R)(k2:(List D1)->(DS)->Int->Bool->(DT)->Int->(DT)->Bool->(List LitT)->(List LfT)->Int->Int->Int->Int->Option R):Option R:=let z1:=decide (x8<(Ew x7:Int));bif z1 then(match idx x7 x8 with|none=>none|some y2=>(let dO:=A1E y2 ac aa;gd (okB [.agg .arg] kN dO) (let z3:=(K8 (gB dO 0)).name;let z4:=((K8 (gB dO 0)).value).kind;let z5:=((K8 (gB dO 0)).value).text;let z6:=((K8 (gB dO 0)).value).block;let z7:=((K8 (gB dO 0)).value).items;let z8:=((K8 (gB dO 0)).value).fields;let z9:=(((K8 (gB dO 0)).value).pos).line;let dJ:=(((K8 (gB dO 0)).value).pos).col;let cW:=((K8 (gB dO 0)).pos).line;let er:=((K8 (gB dO 0)).pos).col;gd (A3 (Ew x5+1) 128) (k1 (x5++[(⟨z3,(LitT.mk z4 z5 z6 z7 z8 (⟨z9,dJ⟩:B1)),(⟨cW,er⟩:B1)⟩:D1)]) x7 (Ey .i64 (x8+1)) z3 z4 z5 z6 z7 z8 z9 dJ cW er))))else(k2 x5 x7 x8 z1 ag aj ak am anq ao ap aq au aM)
def A2w{R:Type}(nn:Nat)(a1:Int)(ac:DY)(aa:DZ):Nat->(List D1)->(DS)->Int->(DT)->Int->(DT)->Bool->(List LitT)->(List LfT)->Int->Int->Int->Int->((List D1)->(DS)->Int->Bool->(DT)->Int->(DT)->Bool->(List LitT)->(List LfT)->Int->Int->Int->Int->Option R)->Option R
 |0,_,_,_,_,_,_,_,_,_,_,_,_,_,_=>none
 |n+1,x5,x7,x8,ag,aj,ak,am,anq,ao,ap,aq,au,aM,k2=>B0H nn a1 ac aa x5 x7 x8 ag aj ak am anq ao ap aq au aM (λx5 x7 x8 ag aj ak am anq ao ap aq au aM=>A2w nn a1 ac aa n x5 x7 x8 ag aj ak am anq ao ap aq au aM k2) k2
def C2J{R:Type}(nn:Nat)(a1:Int)(ac:DY)(aa:DZ):∀(n:Nat)(x5:List D1)(x7:DS)(x8:Int)(ag:DT)(aj:Int)(ak:DT)(am:Bool)(anq:List LitT)(ao:List LfT)(ap aq au aM:Int)(K:Ex->S6->Option R),LP A5J nn Gy [1,1,1,1,1,1,0,1,0,0] 10008 n (B2O a1 ac aa x5 x7 x8 ag aj ak am anq ao ap aq au aM) K=A2w nn a1 ac aa n x5 x7 x8 ag aj ak am anq ao ap aq au aM (λx5 x7 x8 sZ ag aj ak am anq ao ap aq au aM=>K (.exit 0) (D71 a1 ac aa x5 x7 x8 sZ ag aj ak am anq ao ap aq au aM))
 |0,_,_,_,_,_,_,_,_,_,_,_,_,_,_=>rfl
 |n+1,x5,x7,x8,ag,aj,ak,am,anq,ao,ap,aq,au,aM,K=>by
  rw[A2w];simp only[<-C2J nn a1 ac aa n _ _ _ _ _ _ _ _ _ _ _ _ _ K];kernel_rfl
def A8J(nn:Nat)(a1:Int)(ac:DY)(aa:DZ):DW:=let ol:=N4 a1 ac aa;gd (okB [.bool] kN ol) (let z1:=(lB (gB ol 0));bif z1 then(some ([.sl .arg [] (some 1)],(bxN ac aa)))else(let om:=F60 a1 1 ac aa;gd (okB [.int .i64] kN om) (let ez:=A1E (lI (gB om 0)) ac aa;gd (okB [.agg .arg] kN ez) (let z2:=(K8 (gB ez 0)).name;let z3:=((K8 (gB ez 0)).value).kind;let z4:=((K8 (gB ez 0)).value).text;let z5:=((K8 (gB ez 0)).value).block;let z6:=((K8 (gB ez 0)).value).items;let z7:=((K8 (gB ez 0)).value).fields;let z8:=(((K8 (gB ez 0)).value).pos).line;let z9:=(((K8 (gB ez 0)).value).pos).col;let dJ:=((K8 (gB ez 0)).pos).line;let cW:=((K8 (gB ez 0)).pos).col;gd (A3 (0+1) 128) (let oo:=F60 a1 2 ac aa;gd (okB [.int .i64] kN oo) (let gj:=F61 (lI (gB oo 0)) ac aa;gd (okB [.sl .i64 (some 1)] kN gj) (A2w nn a1 ac aa nn ([]++[(⟨z2,(LitT.mk z3 z4 z5 z6 z7 (⟨z8,z9⟩:B1)),(⟨dJ,cW⟩:B1)⟩:D1)]) (Y6 (gB gj 0)) 0 z2 z3 z4 z5 z6 z7 z8 z9 dJ cW (λer ee eh fv jK nj fI iX z20 z21 iY iF oq qF=>some ([.sl .arg er (some 1)],(bxN ac aa))))))))))
def A31(a1:Int)(ac:DY)(aa:DZ):DW:=A8J NN a1 ac aa
def D4S(nn:Nat){a1:Int}{ac:DY}{aa:DZ}:C5 A5J nn Gy [0] [.ptr 900000 0,.int .i64 a1] (bxN ac aa)=A8J nn a1 ac aa:=by
 have h:C5 A5J nn Gy [0] [.ptr 900000 0,.int .i64 a1] (bxN ac aa)=let ol:=N4 a1 ac aa;gd (okB [.bool] kN ol) (let z1:=(lB (gB ol 0));bif z1 then(some ([.sl .arg [] (some 1)],(bxN ac aa)))else(let om:=F60 a1 1 ac aa;gd (okB [.int .i64] kN om) (let ez:=A1E (lI (gB om 0)) ac aa;gd (okB [.agg .arg] kN ez) (let z2:=(K8 (gB ez 0)).name;let z3:=((K8 (gB ez 0)).value).kind;let z4:=((K8 (gB ez 0)).value).text;let z5:=((K8 (gB ez 0)).value).block;let z6:=((K8 (gB ez 0)).value).items;let z7:=((K8 (gB ez 0)).value).fields;let z8:=(((K8 (gB ez 0)).value).pos).line;let z9:=(((K8 (gB ez 0)).value).pos).col;let dJ:=((K8 (gB ez 0)).pos).line;let cW:=((K8 (gB ez 0)).pos).col;gd (A3 (0+1) 128) (let oo:=F60 a1 2 ac aa;gd (okB [.int .i64] kN oo) (let gj:=F61 (lI (gB oo 0)) ac aa;gd (okB [.sl .i64 (some 1)] kN gj) (LP A5J nn Gy [1,1,1,1,1,1,0,1,0,0] 10008 nn (B2O a1 ac aa ([]++[(⟨z2,(LitT.mk z3 z4 z5 z6 z7 (⟨z8,z9⟩:B1)),(⟨dJ,cW⟩:B1)⟩:D1)]) (Y6 (gB gj 0)) 0 z2 z3 z4 z5 z6 z7 z8 z9 dJ cW) (A7 0 (sk A5J nn Gy [1,1,1,1,1,1,1] (L9 A5J Tryz.f185.results.toList [0] (bxN ac aa))))))))))):=En
 rw[h];simp only[C2J];show _=_;kernel_rfl
def A7v:S2T
 |[.ptr d0 o0,.int .i64 a1],[[.sl .node ac none,.sl .tok aa none]]=>bif bq d0 o0 then pB [.sl .arg (some 1)] kN (A31 a1 ac aa)else none
 |_,_=>none
def C2S{nn:Nat}{a1:Int}{ac:DY}{aa:DZ}{p:Ec->Prop}{k0:(List D1)->(DS)->Int->Bool->(DT)->Int->(DT)->Bool->(List LitT)->(List LfT)->Int->Int->Int->Int->DW}(dU:∀y0 y1 y2 y3 y4 y5 y6 y7 y8 y9 gf hJ jJ og,RoP p (k0 y0 y1 y2 y3 y4 y5 y6 y7 y8 y9 gf hJ jJ og)):∀(n:Nat)(x0:(List D1))(x1:(DS))(x2:Int)(x3:(DT))(x4:Int)(x5:(DT))(x6:Bool)(x7:(List LitT))(x8:(List LfT))(x9:Int)(aP:Int)(cg:Int)(b9:Int),RoP p (A2w nn a1 ac aa n x0 x1 x2 x3 x4 x5 x6 x7 x8 x9 aP cg b9 k0)
 |0,_,_,_,_,_,_,_,_,_,_,_,_,_=>H8
 |n+1,_,_,_,_,_,_,_,_,_,_,_,_,_=>by
  unfold A2w B0H
  try dsimp only
  repeat' first|exact H8|exact P2 _|exact dU _ _ _ _ _ _ _ _ _ _ _ _ _ _|exact C2S dU n _ _ _ _ _ _ _ _ _ _ _ _ _|apply N7|apply M9|split
def D0h{a1:Int}{ac:DY}{aa:DZ}:RoK (bxN ac aa) (A31 a1 ac aa):=by
 unfold A31 A8J
 try dsimp only
 repeat' first|exact H8|exact P2 _|(apply C2S<;>intros)|apply N7|apply M9|split
def C4c:∀ls cs rs ay,A7v ls cs=some (true,rs,ay)->ay=cs:=λls cs rs ay h=>by
 unfold A7v at h;split at h
 ·obtain⟨_,h⟩:=A8 h;exact A0p rfl rfl D0h h
 ·cases h
def A4I:Env Ty6 A4:=mkR [] [] [(60,S60),(134,A1a),(136,A1m),(185,A7v)] (lkD [(0,[4,1000106,1000107]),(1,[1000106,1000107]),(2,[8,9,10,1000106,1000107]),(3,[11,12,13,14,15,16,1000107]),(4,[17,18,19,20,21]),(5,[6,7,22,23,24,25,26,27,28,29,30,31,32,33,34,1000106,1000107]),(6,[35,36,37,1000106,1000107]),(7,[1,5,11,38,1000106,1000107]),(10002,[1000106,1000107])]) 39 [] 1 [] []
def B6F(a1:Int)(ac:DY)(aa:DZ)(x1:Int)(x5:List C7):S6:=⟨[eP 0 900000,eI 1 x1,(5,.one (.sl .dir x5 (some 105))),(1900000,.bx 900000 [.sl .node ac none,.sl .tok aa none])],[105,900000]⟩
def D3C(a1:Int)(ac:DY)(aa:DZ)(x1:Int)(x5:List C7)(cg:Bool):S6:=E7 (eB 11 cg) (B6F a1 ac aa x1 x5)
def A9L{R:Type}(nn:Nat)(a1:Int)(ac:DY)(aa:DZ)(x1:Int)(x5:List C7)(k1:Int->(List C7)->Option R)(k2:Int->(List C7)->Bool->Option R):Option R:=let r9:=N4 x1 ac aa;gd (okB [.bool] kN r9) (let z1:= !(lB (gB r9 0));bif z1 then(let r8:=F60 x1 0 ac aa;gd (okB [.int .i64] kN r8) (let r7:=M0 (lI (gB r8 0)) ac aa;gd (okB [.agg .tok] kN r7) (let r6:=F60 x1 1 ac aa;gd (okB [.int .i64] kN r6) (let r5:=M0 (lI (gB r6 0)) ac aa;gd (okB [.agg .tok] kN r5) (let r4:=F60 x1 2 ac aa;gd (okB [.int .i64] kN r4) (let r3:=A31 (lI (gB r4 0)) ac aa;gd (okB [.sl .arg (some 1)] kN r3) (gd (A3 (Ew x5+1) 56) (let r2:=F60 x1 3 ac aa;gd (okB [.int .i64] kN r2) (k1 (lI (gB r2 0)) (x5++[(⟨(J4 (gB r5 0)).text,(B4O (gB r3 0)),(J4 (gB r7 0)).pos⟩:C7)]))))))))))else(k2 x1 x5 z1))
def A2Q{R:Type}(nn:Nat)(a1:Int)(ac:DY)(aa:DZ):Nat->Int->(List C7)->(Int->(List C7)->Bool->Option R)->Option R
 |0,_,_,_=>none
 |n+1,x1,x5,k2=>A9L nn a1 ac aa x1 x5 (λx1 x5=>A2Q nn a1 ac aa n x1 x5 k2) k2
def C2Q{R:Type}(nn:Nat)(a1:Int)(ac:DY)(aa:DZ):∀(n:Nat)(x1:Int)(x5:List C7)(K:Ex->S6->Option R),LP A4I nn Hh [1,1,0,0,0] 10002 n (B6F a1 ac aa x1 x5) K=A2Q nn a1 ac aa n x1 x5 (λx1 x5 cg=>K (.exit 0) (D3C a1 ac aa x1 x5 cg))
 |0,_,_,_=>rfl
 |n+1,x1,x5,K=>by
  rw[A2Q];simp only[<-C2Q nn a1 ac aa n _ _ K];kernel_rfl
def B5O(nn:Nat)(a1:Int)(ac:DY)(aa:DZ):DW:=A2Q nn a1 ac aa nn a1 [] (λz1 z2 z3=>some ([.sl .dir z2 (some 1)],(bxN ac aa)))
def A0C(a1:Int)(ac:DY)(aa:DZ):DW:=B5O NN a1 ac aa
def C83(nn:Nat){a1:Int}{ac:DY}{aa:DZ}:C5 A4I nn Hh [0] [.ptr 900000 0,.int .i64 a1] (bxN ac aa)=B5O nn a1 ac aa:=by
 have h:C5 A4I nn Hh [0] [.ptr 900000 0,.int .i64 a1] (bxN ac aa)=LP A4I nn Hh [1,1,0,0,0] 10002 nn (B6F a1 ac aa a1 []) (A7 0 (sk A4I nn Hh [1,1,1] (L9 A4I Tryz.f135.results.toList [0] (bxN ac aa)))):=En
 rw[h];simp only[C2Q];show _=_;kernel_rfl
def A4D:S2T
 |[.ptr d0 o0,.int .i64 a1],[[.sl .node ac none,.sl .tok aa none]]=>bif bq d0 o0 then pB [.sl .dir (some 1)] kN (A0C a1 ac aa)else none
 |_,_=>none
def C37{nn:Nat}{a1:Int}{ac:DY}{aa:DZ}{p:Ec->Prop}{k0:Int->(List C7)->Bool->DW}(dU:∀y0 y1 y2,RoP p (k0 y0 y1 y2)):∀(n:Nat)(x0:Int)(x1:(List C7)),RoP p (A2Q nn a1 ac aa n x0 x1 k0)
 |0,_,_=>H8
 |n+1,_,_=>by
  unfold A2Q A9L
  try dsimp only
  repeat' first|exact H8|exact P2 _|exact dU _ _ _|exact C37 dU n _ _|apply N7|apply M9|split
def D21{a1:Int}{ac:DY}{aa:DZ}:RoK (bxN ac aa) (A0C a1 ac aa):=by
 unfold A0C B5O
 try dsimp only
 repeat' first|exact H8|exact P2 _|(apply C37<;>intros)|apply N7|apply M9|split
def B4s:∀ls cs rs ay,A4D ls cs=some (true,rs,ay)->ay=cs:=λls cs rs ay h=>by
 unfold A4D at h;split at h
 ·obtain⟨_,h⟩:=A8 h;exact A0p rfl rfl D21 h
 ·cases h
end Go.Aev
namespace Go.Aev
def A5g{n:Int}(h1: -9223372036854775808<=n)(h2:n<9223372036854775808):Ey .i64 n=n:=by
 exact Go.IntWalk.i64_in n ⟨h1,Du⟩
def sw{α:Type}(f:α->Nat):List α->Nat
 |[]=>0
 |x::r=>f x+sw f r
def C0s{α:Type}(f:α->Nat):∀(a b:List α),sw f (a++b)=sw f a+sw f b
 |[],b=>by simp[sw]
 |x::a,b=>by simp[sw,C0s f a b];omega
def B6Z{α:Type}(f:α->Nat):∀(l:List α),(∀x∈l,1<=f x)->l.length<=sw f l
 |[],_=>by simp[sw]
 |x::l,h=>by
  have:=B6Z f l (λy hy=>h y (Iq _ hy));have:=h x Ie;simp[sw];omega
def A8v{α:Type}(f:α->Nat):∀(l:List α)(x:α),x∈l->f x<=sw f l
 |[],_,h=>by cases h
 |y::l,x,h=>by
  rcases List.mem_cons.1 h with rfl|h
  ·simp[sw]
  ·have:=A8v f l x h;simp[sw];omega
def A0S:DT:=[97,98,99,100,101,102,103,104,105,106,107,108,109,110,111,112,113,114,115,116,117,118,119,120,121,122,65,66,67,68,69,70,71,72,73,74,75,76,77,78,79,80,81,82,83,84,85,86,87,88,89,90,95]
def A0J:DT:=[48,49,50,51,52,53,54,55,56,57]
def clI(c:Int):Int:=bif inF c A0S then 3 else bif inF c A0J||c==45 then 4 else 2
def cls:DT->Int
 |[]=>0
 |x::_=>clI x.toNat
def D7c(t:A0):Prop:=t.kind<6->cls t.text=0\/(2<=t.kind/\cls t.text=bif t.kind==5 then 4 else t.kind)
def A7x(t:A0):Prop:=t.text.length<=8400000/\t.value.length<=8400000/\(t.kind=7->(btF t.value).2=true)/\(D7c t/\0<=t.kind/\t.kind<=7)
structure TW(ts:DZ):Prop where
 ne:0<ts.length
 len:ts.length<=1100000
 ok:∀t∈ts,A7x t
 lst:∀i t,ts[i]?=some t->2<=t.kind->i+1<ts.length
def N8:Nat->LitT->Prop
 |0,_=>False
 |d+1,v=>1<=v.kind/\v.kind<=9/\v.text.length<=8400000/\(v.kind=4->v.block=true->(btF v.text).2=true)/\(∀x∈v.items,N8 d x)/\∀f∈v.fields,f.name.length<=8400000/\N8 d f.value
def wt:Nat->LitT->Nat
 |0,_=>0
 |d+1,v=>1+sw (wt d) v.items+sw (λ(f:LfT)=>1+wt d f.value) v.fields
def C23{d:Nat}(h:0<d)(v:LitT):1<=wt d v:=by
 cases d with
 |zero=>omega
 |succ d=>simp only[wt];omega
def W(d:Nat)(v:LitT):Nat:=1+sw (wt d) v.items+sw (λ(f:LfT)=>1+wt d f.value) v.fields
def C6c{d:Nat}(hd:0<d)(v:LitT):v.items.length<=W d v:=by
 have:=B6Z (wt d) v.items (λx _=>C23 hd x);unfold W;omega
def C8f{d:Nat}(v:LitT):v.fields.length<=W d v:=by
 have:=B6Z (λ(f:LfT)=>1+wt d f.value) v.fields (λx _=>Du);unfold W;omega
end Go.Aev
namespace Go.Aev
open Go.Proofs
def A6I(g:Int->(DY)->(DZ)->DW):S2T
 |[.ptr d0 o0,.int .i64 a1],[[.sl .node ac none,.sl .tok aa none]]=>bif bq d0 o0 then pB [.sl .sel (some 1)] kN (g a1 ac aa)else none
 |_,_=>none
def A6S(g:Int->(DY)->(DZ)->DW):S2T
 |[.ptr d0 o0,.int .i64 a1],[[.sl .node ac none,.sl .tok aa none]]=>bif bq d0 o0 then pB [.agg .sel] kN (g a1 ac aa)else none
 |_,_=>none
def A4U(g133:Int->(DY)->(DZ)->DW)(g184:Int->(DY)->(DZ)->DW):Env Ty6 A4:=mkR [] [] [(60,S60),(61,S61),(184,A6S g184)] (lkD [(0,[4,1000106]),(1,[1000106]),(2,[9,10,11,12,13]),(3,[14,15,16,17]),(4,[1,18,19,20,21,22]),(6,[23,24,25]),(7,[27,28]),(8,[26,29,30,31,32,33,34]),(9,[35,36,37,38]),(10,[5,6,7,8,26,39,1000106])]) 40 [6] 1 [] []
def B58(a1:Int)(ac:DY)(aa:DZ)(x5:Ee)(x7:DS)(x8 ag:Int)(aj ak am:DT)(anq:List D1)(ao:List C7)(ap:Ee)(aq au:Int):S6:=⟨[eP 0 900000,(5,.one (.sl .sel x5 (some 105))),eP 6 106,eL 7 .i64 x7,eI 8 x8,(1000106,.bx 106 [.int .i64 ag,.str aj,.str ak,.str am,.sl .arg anq none,.sl .dir ao none,.sl .sel ap none,.int .i64 aq,.int .i64 au]),(1900000,.bx 900000 [.sl .node ac none,.sl .tok aa none])],[105,106,900000]⟩
def C5T(a1:Int)(ac:DY)(aa:DZ)(x5:Ee)(x7:DS)(x8:Int)(ig:Bool)(ag:Int)(aj ak am:DT)(anq:List D1)(ao:List C7)(ap:Ee)(aq au:Int):S6:=E7 (eB 26 ig) (B58 a1 ac aa x5 x7 x8 ag aj ak am anq ao ap aq au)
def B2i{R:Type}(nn:Nat)(g133:Int->(DY)->(DZ)->DW)(g184:Int->(DY)->(DZ)->DW)(a1:Int)(ac:DY)(aa:DZ)(x5:Ee)(x7:DS)(x8 ag:Int)(aj ak am:DT)(anq:List D1)(ao:List C7)(ap:Ee)(aq au:Int)(k1:(Ee)->(DS)->Int->Int->(DT)->(DT)->(DT)->(List D1)->(List C7)->(Ee)->Int->Int->Option R)(k2:(Ee)->(DS)->Int->Bool->Int->(DT)->(DT)->(DT)->(List D1)->(List C7)->(Ee)->Int->Int->Option R):Option R:=let z1:=decide (x8<(Ew x7:Int));bif z1 then(match idx x7 x8 with|none=>none|some y2=>(let dM:=g184 y2 ac aa;gd (okB [.agg .sel] kN dM) (let z3:=(L7 (gB dM 0)).kind;let z4:=(L7 (gB dM 0)).alias_;let z5:=(L7 (gB dM 0)).name;let z6:=(L7 (gB dM 0)).on_;let z7:=(L7 (gB dM 0)).args;let z8:=(L7 (gB dM 0)).dirs;let z9:=(L7 (gB dM 0)).sels;let dJ:=((L7 (gB dM 0)).pos).line;let cW:=((L7 (gB dM 0)).pos).col;gd (A3 (Ew x5+1) 144) (k1 (x5++[(SelT.mk z3 z4 z5 z6 z7 z8 z9 (⟨dJ,cW⟩:B1))]) x7 (Ey .i64 (x8+1)) z3 z4 z5 z6 z7 z8 z9 dJ cW))))else(k2 x5 x7 x8 z1 ag aj ak am anq ao ap aq au)
def A3n{R:Type}(nn:Nat)(g133:Int->(DY)->(DZ)->DW)(g184:Int->(DY)->(DZ)->DW)(a1:Int)(ac:DY)(aa:DZ):Nat->(Ee)->(DS)->Int->Int->(DT)->(DT)->(DT)->(List D1)->(List C7)->(Ee)->Int->Int->((Ee)->(DS)->Int->Bool->Int->(DT)->(DT)->(DT)->(List D1)->(List C7)->(Ee)->Int->Int->Option R)->Option R
 |0,_,_,_,_,_,_,_,_,_,_,_,_,_=>none
 |n+1,x5,x7,x8,ag,aj,ak,am,anq,ao,ap,aq,au,k2=>B2i nn g133 g184 a1 ac aa x5 x7 x8 ag aj ak am anq ao ap aq au (λx5 x7 x8 ag aj ak am anq ao ap aq au=>A3n nn g133 g184 a1 ac aa n x5 x7 x8 ag aj ak am anq ao ap aq au k2) k2
def B9D{R:Type}(nn:Nat)(g133:Int->(DY)->(DZ)->DW)(g184:Int->(DY)->(DZ)->DW)(a1:Int)(ac:DY)(aa:DZ):∀(n:Nat)(x5:Ee)(x7:DS)(x8 ag:Int)(aj ak am:DT)(anq:List D1)(ao:List C7)(ap:Ee)(aq au:Int)(K:Ex->S6->Option R),LP (A4U g133 g184) nn Hi [1,1,1,1,1,0,1,0,0] 10006 n (B58 a1 ac aa x5 x7 x8 ag aj ak am anq ao ap aq au) K=A3n nn g133 g184 a1 ac aa n x5 x7 x8 ag aj ak am anq ao ap aq au (λx5 x7 x8 ig ag aj ak am anq ao ap aq au=>K (.exit 0) (C5T a1 ac aa x5 x7 x8 ig ag aj ak am anq ao ap aq au))
 |0,_,_,_,_,_,_,_,_,_,_,_,_,_=>rfl
 |n+1,x5,x7,x8,ag,aj,ak,am,anq,ao,ap,aq,au,K=>by
  rw[A3n];simp only[<-B9D nn g133 g184 a1 ac aa n _ _ _ _ _ _ _ _ _ _ _ _ K];kernel_rfl
def B0t(nn:Nat)(g133:Int->(DY)->(DZ)->DW)(g184:Int->(DY)->(DZ)->DW)(a1:Int)(ac:DY)(aa:DZ):DW:=let gj:=F60 a1 1 ac aa;gd (okB [.int .i64] kN gj) (let et:=g184 (lI (gB gj 0)) ac aa;gd (okB [.agg .sel] kN et) (let z1:=(L7 (gB et 0)).kind;let z2:=(L7 (gB et 0)).alias_;let z3:=(L7 (gB et 0)).name;let z4:=(L7 (gB et 0)).on_;let z5:=(L7 (gB et 0)).args;let z6:=(L7 (gB et 0)).dirs;let z7:=(L7 (gB et 0)).sels;let z8:=((L7 (gB et 0)).pos).line;let z9:=((L7 (gB et 0)).pos).col;gd (A3 (0+1) 144) (let lU:=F60 a1 2 ac aa;gd (okB [.int .i64] kN lU) (let jL:=F61 (lI (gB lU 0)) ac aa;gd (okB [.sl .i64 (some 1)] kN jL) (A3n nn g133 g184 a1 ac aa nn ([]++[(SelT.mk z1 z2 z3 z4 z5 z6 z7 (⟨z8,z9⟩:B1))]) (Y6 (gB jL 0)) 0 z1 z2 z3 z4 z5 z6 z7 z8 z9 (λdJ cW er ee eh fv jK nj fI iX z20 z21 iY=>some ([.sl .sel dJ (some 1)],(bxN ac aa))))))))
def A8q(g133:Int->(DY)->(DZ)->DW)(g184:Int->(DY)->(DZ)->DW)(a1:Int)(ac:DY)(aa:DZ):DW:=B0t NN g133 g184 a1 ac aa
def D2u(nn:Nat)(g133:Int->(DY)->(DZ)->DW)(g184:Int->(DY)->(DZ)->DW){a1:Int}{ac:DY}{aa:DZ}:C5 (A4U g133 g184) nn Hi [0] [.ptr 900000 0,.int .i64 a1] (bxN ac aa)=B0t nn g133 g184 a1 ac aa:=by
 have h:C5 (A4U g133 g184) nn Hi [0] [.ptr 900000 0,.int .i64 a1] (bxN ac aa)=let gj:=F60 a1 1 ac aa;gd (okB [.int .i64] kN gj) (let et:=g184 (lI (gB gj 0)) ac aa;gd (okB [.agg .sel] kN et) (let z1:=(L7 (gB et 0)).kind;let z2:=(L7 (gB et 0)).alias_;let z3:=(L7 (gB et 0)).name;let z4:=(L7 (gB et 0)).on_;let z5:=(L7 (gB et 0)).args;let z6:=(L7 (gB et 0)).dirs;let z7:=(L7 (gB et 0)).sels;let z8:=((L7 (gB et 0)).pos).line;let z9:=((L7 (gB et 0)).pos).col;gd (A3 (0+1) 144) (let lU:=F60 a1 2 ac aa;gd (okB [.int .i64] kN lU) (let jL:=F61 (lI (gB lU 0)) ac aa;gd (okB [.sl .i64 (some 1)] kN jL) (LP (A4U g133 g184) nn Hi [1,1,1,1,1,0,1,0,0] 10006 nn (B58 a1 ac aa ([]++[(SelT.mk z1 z2 z3 z4 z5 z6 z7 (⟨z8,z9⟩:B1))]) (Y6 (gB jL 0)) 0 z1 z2 z3 z4 z5 z6 z7 z8 z9) (A7 0 (sk (A4U g133 g184) nn Hi [1,1,1,1,1,1] (L9 (A4U g133 g184) Tryz.f133.results.toList [0] (bxN ac aa))))))))):=En
 rw[h];simp only[B9D];show _=_;kernel_rfl
def B9z{nn:Nat}{g133:Int->(DY)->(DZ)->DW}{g184:Int->(DY)->(DZ)->DW}{a1:Int}{ac:DY}{aa:DZ}{p:Ec->Prop}{k0:(Ee)->(DS)->Int->Bool->Int->(DT)->(DT)->(DT)->(List D1)->(List C7)->(Ee)->Int->Int->DW}(dU:∀y0 y1 y2 y3 y4 y5 y6 y7 y8 y9 gf hJ jJ,RoP p (k0 y0 y1 y2 y3 y4 y5 y6 y7 y8 y9 gf hJ jJ)):∀(n:Nat)(x0:(Ee))(x1:(DS))(x2:Int)(x3:Int)(x4:(DT))(x5:(DT))(x6:(DT))(x7:(List D1))(x8:(List C7))(x9:(Ee))(aP:Int)(cg:Int),RoP p (A3n nn g133 g184 a1 ac aa n x0 x1 x2 x3 x4 x5 x6 x7 x8 x9 aP cg k0)
 |0,_,_,_,_,_,_,_,_,_,_,_,_=>H8
 |n+1,_,_,_,_,_,_,_,_,_,_,_,_=>by
  unfold A3n B2i
  try dsimp only
  repeat' first|exact H8|exact P2 _|exact dU _ _ _ _ _ _ _ _ _ _ _ _ _|exact B9z dU n _ _ _ _ _ _ _ _ _ _ _ _|apply N7|apply M9|split
def D1H{g133:Int->(DY)->(DZ)->DW}{g184:Int->(DY)->(DZ)->DW}{a1:Int}{ac:DY}{aa:DZ}:RoK (bxN ac aa) (A8q g133 g184 a1 ac aa):=by
 unfold A8q B0t
 try dsimp only
 repeat' first|exact H8|exact P2 _|(apply B9z<;>intros)|apply N7|apply M9|split
def C4D(g133:Int->(DY)->(DZ)->DW)(g184:Int->(DY)->(DZ)->DW):Env Ty6 A4:=mkR [] [] [(60,S60),(132,A5x),(133,A6I g133),(134,A1a),(135,A4D),(136,A1m),(185,A7v)] noD 149 [4,10] 1 [4] []
def A2d(g133:Int->(DY)->(DZ)->DW)(g184:Int->(DY)->(DZ)->DW)(a1:Int)(ac:DY)(aa:DZ):DW:=let zx:=A2i a1 ac aa;gd (okB [.agg .tok] kN zx) (let z1:=(J4 (gB zx 0));match idx ac a1 with|none=>none|some y2=>(bif((Ew y2.kids:Int)==2)then(let tg:=F60 a1 1 ac aa;gd (okB [.int .i64] kN tg) (match idx ac (lI (gB tg 0))with|none=>none|some y3=>(bif((Ew y3.kids:Int)==4)then(match idx y3.kids 1 with|none=>none|some y4=>(let r9:=M0 y4 ac aa;gd (okB [.agg .tok] kN r9) (match idx y3.kids 2 with|none=>none|some y5=>(let r8:=A0C y5 ac aa;gd (okB [.sl .dir (some 1)] kN r8) (match idx y3.kids 3 with|none=>none|some y6=>(let r7:=g133 y6 ac aa;gd (okB [.sl .sel (some 1)] kN r7) (some ([.agg .sel (SelT.mk 3 [] [] ((J4 (gB r9 0)).text) [] (A14 (gB r8 0)) (A1X (gB r7 0)) (⟨z1.pos.line,z1.pos.col⟩:B1))],(bxN ac aa)))))))))else(match idx y3.kids 0 with|none=>none|some gf=>(match idx ac gf with|none=>none|some hJ=>(bif(hJ.sym==[98,117,116,79,110])then(match idx y3.kids 0 with|none=>none|some jJ=>(let dn:=M0 jJ ac aa;gd (okB [.agg .tok] kN dn) (match idx y3.kids 1 with|none=>none|some og=>(let ew:=A0C og ac aa;gd (okB [.sl .dir (some 1)] kN ew) (some ([.agg .sel (SelT.mk 2 [] ((J4 (gB dn 0)).text) [] [] (A14 (gB ew 0)) [] (⟨z1.pos.line,z1.pos.col⟩:B1))],(bxN ac aa)))))))else(match idx y3.kids 0 with|none=>none|some qC=>(let jM:=A0C qC ac aa;gd (okB [.sl .dir (some 1)] kN jM) (match idx y3.kids 1 with|none=>none|some qD=>(let lV:=g133 qD ac aa;gd (okB [.sl .sel (some 1)] kN lV) (some ([.agg .sel (SelT.mk 3 [] [] [] [] (A14 (gB jM 0)) (A1X (gB lV 0)) (⟨z1.pos.line,z1.pos.col⟩:B1))],(bxN ac aa)))))))))))))else(let zy:=F60 a1 2 ac aa;gd (okB [.int .i64] kN zy) (let zA:=A31 (lI (gB zy 0)) ac aa;gd (okB [.sl .arg (some 1)] kN zA) (let zB:=F60 a1 3 ac aa;gd (okB [.int .i64] kN zB) (let zC:=A0C (lI (gB zB 0)) ac aa;gd (okB [.sl .dir (some 1)] kN zC) (let z21:=(B4O (gB zA 0));let iY:=(A14 (gB zC 0));let zD:=F60 a1 1 ac aa;gd (okB [.int .i64] kN zD) (let iF:=(lI (gB zD 0));let zE:=N4 iF ac aa;gd (okB [.bool] kN zE) (bif(!(lB (gB zE 0)))then(let ki:=F60 iF 1 ac aa;gd (okB [.int .i64] kN ki) (let ol:=M0 (lI (gB ki 0)) ac aa;gd (okB [.agg .tok] kN ol) (let oq:=((J4 (gB ol 0)).text);let om:=F60 a1 4 ac aa;gd (okB [.int .i64] kN om) (let qF:=(lI (gB om 0));let ez:=N4 qF ac aa;gd (okB [.bool] kN ez) (bif(!(lB (gB ez 0)))then(let oo:=F60 qF 0 ac aa;gd (okB [.int .i64] kN oo) (let gj:=g133 (lI (gB oo 0)) ac aa;gd (okB [.sl .sel (some 1)] kN gj) (some ([.agg .sel (SelT.mk 1 z1.text oq [] z21 iY (A1X (gB gj 0)) (⟨z1.pos.line,z1.pos.col⟩:B1))],(bxN ac aa)))))else(some ([.agg .sel (SelT.mk 1 z1.text oq [] z21 iY [] (⟨z1.pos.line,z1.pos.col⟩:B1))],(bxN ac aa))))))))else(let zF:=F60 a1 4 ac aa;gd (okB [.int .i64] kN zF) (let zG:=(lI (gB zF 0));let zH:=N4 zG ac aa;gd (okB [.bool] kN zH) (bif(!(lB (gB zH 0)))then(let zI:=F60 zG 0 ac aa;gd (okB [.int .i64] kN zI) (let zJ:=g133 (lI (gB zI 0)) ac aa;gd (okB [.sl .sel (some 1)] kN zJ) (some ([.agg .sel (SelT.mk 1 [] z1.text [] z21 iY (A1X (gB zJ 0)) (⟨z1.pos.line,z1.pos.col⟩:B1))],(bxN ac aa)))))else(some ([.agg .sel (SelT.mk 1 [] z1.text [] z21 iY [] (⟨z1.pos.line,z1.pos.col⟩:B1))],(bxN ac aa)))))))))))))))
def D1t(g133:Int->(DY)->(DZ)->DW)(g184:Int->(DY)->(DZ)->DW){a1:Int}{ac:DY}{aa:DZ}:C5 (C4D g133 g184) NN Tryz.f184 [0] [.ptr 900000 0,.int .i64 a1] (bxN ac aa)=A2d g133 g184 a1 ac aa:=En
def C9H{g133:Int->(DY)->(DZ)->DW}{g184:Int->(DY)->(DZ)->DW}{a1:Int}{ac:DY}{aa:DZ}:RoK (bxN ac aa) (A2d g133 g184 a1 ac aa):=by
 unfold A2d
 try dsimp only
 repeat' first|exact H8|exact P2 _|apply N7|apply M9|split
def H9:Nat->(Int->(DY)->(DZ)->DW)×(Int->(DY)->(DZ)->DW)
 |0=>(λ_ _ _=>none,λ_ _ _=>none)
 |d+1=>(A8q (H9 d).1 (H9 d).2,A2d (H9 d).1 (H9 d).2)
def A6p(a1:Int)(ac:DY)(aa:DZ):DW:=(H9 DD).1 a1 ac aa
def B4b:S2T
 |[.ptr d0 o0,.int .i64 a1],[[.sl .node ac none,.sl .tok aa none]]=>bif bq d0 o0 then pB [.sl .sel (some 1)] kN (A6p a1 ac aa)else none
 |_,_=>none
def C9C:∀(d:Nat)(a1:Int)(ac:DY)(aa:DZ),RoK (bxN ac aa) ((H9 d).1 a1 ac aa)
 |0,_,_,_=>H8
 |d+1,_,_,_=>D1H (g133:=(H9 d).1) (g184:=(H9 d).2)
def B8L(d:Nat):∀ls cs rs ay,A6I ((H9 d).1) ls cs=some (true,rs,ay)->ay=cs:=λls cs rs ay h=>by
 unfold A6I at h;split at h
 ·obtain⟨_,h⟩:=A8 h;exact A0p rfl rfl (C9C d _ _ _) h
 ·cases h
def D0s:∀ls cs rs ay,B4b ls cs=some (true,rs,ay)->ay=cs:=B8L DD
def D3h:∀(d:Nat)(a1:Int)(ac:DY)(aa:DZ),RoK (bxN ac aa) ((H9 d).2 a1 ac aa)
 |0,_,_,_=>H8
 |d+1,_,_,_=>C9H (g133:=(H9 d).1) (g184:=(H9 d).2)
def D4K(d:Nat):∀ls cs rs ay,A6S ((H9 d).2) ls cs=some (true,rs,ay)->ay=cs:=λls cs rs ay h=>by
 unfold A6S at h;split at h
 ·obtain⟨_,h⟩:=A8 h;exact A0p rfl rfl (D3h d _ _ _) h
 ·cases h
def A7w(g:Int->(DY)->(DZ)->DW):S2T
 |[.ptr d0 o0,.int .i64 a1],[[.sl .node ac none,.sl .tok aa none]]=>bif bq d0 o0 then pB [.agg .tref] kN (g a1 ac aa)else none
 |_,_=>none
def C2y(g186:Int->(DY)->(DZ)->DW):Env Ty6 A4:=mkR [] [] [(60,S60),(134,A1a),(136,A1m),(186,A7w g186)] noD 57 [4,5] 1 [] []
def A8s(g186:Int->(DY)->(DZ)->DW)(a1:Int)(ac:DY)(aa:DZ):DW:=match idx ac a1 with|none=>none|some y1=>(let lW:=F60 a1 (Ey .i64 ((Ew y1.kids:Int) - 1)) ac aa;gd (okB [.int .i64] kN lW) (let z2:=(lI (gB lW 0));let j3:Int->(DT)->(DT)->DW:=λz4 z5 z6=>let j7:(DT)->(DT)->DW:=λz8 z9=>some ([.agg .tref (⟨z8,z9⟩:I6)],(bxN ac aa));let cD:=N4 z4 ac aa;gd (okB [.bool] kN cD) (bif(!(lB (gB cD 0)))then(gd (decide (Ew z6+Ew [33]<=9223372036854775807)) (j7 z5 (z6++[33])))else(j7 z5 z6));match idx ac a1 with|none=>none|some hJ=>(bif((Ew hJ.kids:Int)==4)then(let ew:=F60 a1 1 ac aa;gd (okB [.int .i64] kN ew) (let dO:=g186 (lI (gB ew 0)) ac aa;gd (okB [.agg .tref] kN dO) (let er:=(A8N (gB dO 0)).wrap;gd (decide (Ew er+Ew [93]<=9223372036854775807)) (j3 z2 ((A8N (gB dO 0)).name) (er++[93])))))else(let gk:=F60 a1 0 ac aa;gd (okB [.int .i64] kN gk) (let dn:=M0 (lI (gB gk 0)) ac aa;gd (okB [.agg .tok] kN dn) (j3 z2 ((J4 (gB dn 0)).text) []))))))
def D0n(g186:Int->(DY)->(DZ)->DW){a1:Int}{ac:DY}{aa:DZ}:C5 (C2y g186) NN Tryz.f186 [0] [.ptr 900000 0,.int .i64 a1] (bxN ac aa)=A8s g186 a1 ac aa:=En
def D3O{g186:Int->(DY)->(DZ)->DW}{a1:Int}{ac:DY}{aa:DZ}:RoK (bxN ac aa) (A8s g186 a1 ac aa):=by
 unfold A8s
 try dsimp only
 repeat' first|exact H8|exact P2 _|apply N7|apply M9|split
def A2n:Nat->Int->(DY)->(DZ)->DW
 |0,_,_,_=>none
 |d+1,a1,ac,aa=>A8s (A2n d) a1 ac aa
def B4A(a1:Int)(ac:DY)(aa:DZ):DW:=A2n DD a1 ac aa
def B6s:S2T
 |[.ptr d0 o0,.int .i64 a1],[[.sl .node ac none,.sl .tok aa none]]=>bif bq d0 o0 then pB [.agg .tref] kN (B4A a1 ac aa)else none
 |_,_=>none
def C6J:∀(d:Nat)(a1:Int)(ac:DY)(aa:DZ),RoK (bxN ac aa) ((A2n d) a1 ac aa)
 |0,_,_,_=>H8
 |d+1,_,_,_=>D3O (g186:=(A2n d))
def C3S(d:Nat):∀ls cs rs ay,A7w ((A2n d)) ls cs=some (true,rs,ay)->ay=cs:=λls cs rs ay h=>by
 unfold A7w at h;split at h
 ·obtain⟨_,h⟩:=A8 h;exact A0p rfl rfl (C6J d _ _ _) h
 ·cases h
def C7v:∀ls cs rs ay,B6s ls cs=some (true,rs,ay)->ay=cs:=C3S DD
def B9s:Env Ty6 A4:=mkR [] [] [(60,S60),(134,A1a),(135,A4D),(136,A1m),(186,B6s),(187,B1M)] noD 49 [4,7] 1 [4] []
def A1h(a1:Int)(ac:DY)(aa:DZ):DW:=let lV:=F60 a1 0 ac aa;gd (okB [.int .i64] kN lV) (let lW:=M0 (lI (gB lV 0)) ac aa;gd (okB [.agg .tok] kN lW) (let z1:=(J4 (gB lW 0));let gk:=F60 a1 1 ac aa;gd (okB [.int .i64] kN gk) (let dn:=M0 (lI (gB gk 0)) ac aa;gd (okB [.agg .tok] kN dn) (let z2:=(J4 (gB dn 0));let ew:=F60 a1 3 ac aa;gd (okB [.int .i64] kN ew) (let dO:=B4A (lI (gB ew 0)) ac aa;gd (okB [.agg .tref] kN dO) (let dM:=F60 a1 5 ac aa;gd (okB [.int .i64] kN dM) (let gi:=A0C (lI (gB dM 0)) ac aa;gd (okB [.sl .dir (some 1)] kN gi) (let z3:=(A8N (gB dO 0)).name;let z4:=(A8N (gB dO 0)).wrap;let z5:=(A14 (gB gi 0));let cD:=F60 a1 4 ac aa;gd (okB [.int .i64] kN cD) (let z6:=(lI (gB cD 0));let r9:=N4 z6 ac aa;gd (okB [.bool] kN r9) (bif(!(lB (gB r9 0)))then(let r8:=F60 z6 1 ac aa;gd (okB [.int .i64] kN r8) (let r7:=B0i (lI (gB r8 0)) ac aa;gd (okB [.agg .lit] kN r7) (some ([.agg .vd (⟨z2.text,(⟨z3,z4⟩:I6),true,(LitT.mk ((V7 (gB r7 0)).kind) ((V7 (gB r7 0)).text) ((V7 (gB r7 0)).block) ((V7 (gB r7 0)).items) ((V7 (gB r7 0)).fields) (⟨(((V7 (gB r7 0)).pos).line),(((V7 (gB r7 0)).pos).col)⟩:B1)),z5,(⟨z1.pos.line,z1.pos.col⟩:B1)⟩:VdT)],(bxN ac aa)))))else(some ([.agg .vd (⟨z2.text,(⟨z3,z4⟩:I6),false,(LitT.mk 0 [] false [] [] (⟨0,0⟩:B1)),z5,(⟨z1.pos.line,z1.pos.col⟩:B1)⟩:VdT)],(bxN ac aa)))))))))))))
def D6T{a1:Int}{ac:DY}{aa:DZ}:C5 B9s NN Tryz.f137 [0] [.ptr 900000 0,.int .i64 a1] (bxN ac aa)=A1h a1 ac aa:=En
def A8T:S2T
 |[.ptr d0 o0,.int .i64 a1],[[.sl .node ac none,.sl .tok aa none]]=>bif bq d0 o0 then pB [.agg .vd] kN (A1h a1 ac aa)else none
 |_,_=>none
def C55{a1:Int}{ac:DY}{aa:DZ}:RoK (bxN ac aa) (A1h a1 ac aa):=by
 unfold A1h
 try dsimp only
 repeat' first|exact H8|exact P2 _|apply N7|apply M9|split
def C7T:∀ls cs rs ay,A8T ls cs=some (true,rs,ay)->ay=cs:=λls cs rs ay h=>by
 unfold A8T at h;split at h
 ·obtain⟨_,h⟩:=A8 h;exact A0p rfl rfl C55 h
 ·cases h
def E59:Env Ty6 A4:={mkR [] [] [(60,S60),(61,S61),(132,A5x),(133,B4b),(134,A1a),(135,A4D),(136,A1m),(137,A8T)] (lkD [(0,[1000105,1000106,1000107,1000108,1000110,1000112]),(1,[15,16,17,1000106,1000107,1000108,1000110,1000112]),(2,[18,19,20,21,22,23,24,25,26,1000106,1000107,1000108,1000110,1000112]),(3,[1,5,27,28,29,30,31,32,33,34,35,1000105,1000106,1000107,1000108,1000110,1000112]),(4,[27,36,37,1000106,1000107,1000108,1000110,1000112]),(5,[38,39,40,41,42,43,1000107,1000108,1000110,1000112]),(6,[44,45,46,47,48,1000108,1000110,1000112]),(7,[1,5,6,7,49,50,51,52,53,54,55,56,57,58,59,60,61,62,63,64,65,1000105,1000106,1000107,1000108,1000110,1000112]),(8,[38,66,67,68,69,70,71,72,73,74,75,76,77,78,1000106,1000107,1000110,1000112]),(9,[5,79,1000105,1000106,1000107,1000110,1000112]),(10,[82,1000105,1000106,1000107,1000110,1000112]),(11,[80,81,83,1000105,1000106,1000107,1000110,1000112]),(12,[80,81,85,1000105,1000106,1000107,1000110,1000112]),(13,[84,86,1000105,1000106,1000107,1000110,1000112]),(14,[84,87,88,89,1000105,1000106,1000107,1000110,1000112]),(15,[90,91,92,1000105,1000106,1000107,1000110,1000112]),(16,[9,93,94,95,96,97,98,1000105,1000106,1000107,1000112]),(17,[10,99,100,101,1000105,1000106,1000107,1000110,1000112]),(18,[1,9,93,102,103,104,1000105,1000106,1000107,1000110,1000112]),(19,[105,106,107,1000105,1000106,1000107,1000110,1000112]),(20,[108,109,110,111,112,113,1000105,1000106,1000107,1000110]),(21,[114,115,116,117,118,119,1000105,1000106,1000107,1000110]),(22,[11,120,121,122,123,124,1000105,1000106,1000107,1000110]),(23,[1000105,1000106,1000107,1000110]),(24,[125,126,127,1000105,1000106,1000107,1000110]),(25,[129,130,1000105,1000106,1000107,1000110]),(26,[128,131,132,133,134,135,136,1000105,1000106,1000107,1000110]),(27,[137,138,139,140,141,142,1000105,1000106,1000107,1000110]),(28,[8,11,12,13,14,108,128,143,1000105,1000106,1000107,1000108,1000110,1000112]),(10024,[1000105,1000106,1000107,1000110])]) 144 [4,8,12,143] 1 [4] []with tb:=tbD,zr:=zrD,rw:=true,fty:=ftD}
def vBx(v:VdT):DV:=[.str v.name,.str v.type_.name,.str v.type_.wrap,.bool v.hasDefault,.int .i64 v.dflt.kind,.str v.dflt.text,.bool v.dflt.block,.sl .lit v.dflt.items none,.sl .lf v.dflt.fields none,.int .i64 v.dflt.pos.line,.int .i64 v.dflt.pos.col,.sl .dir v.dirs none,.int .i64 v.pos.line,.int .i64 v.pos.col]
def vE(v:VdT):VdT:=⟨v.name,v.type_,v.hasDefault,.mk v.dflt.kind v.dflt.text v.dflt.block v.dflt.items v.dflt.fields v.dflt.pos,v.dirs,v.pos⟩
def C17(N:DY)(T:DZ)(k:Int)(nm:DT)(vs:List VdT)(ds:List C7)(ss:Ee)(p:B1)(v:VdT):List (Nat×E6):=[(1000104,.bx 104 [.int .i64 0,.str [],.str [],.bool false,.nils,.sl .dir [] (some 2010405),.sl .sel [] (some 2010406),.int .i64 0,.int .i64 0]),(1000108,.bx 108 [.int .i64 k,.str nm,.str [],.bool false,.sl .vd vs (some 218),.sl .dir ds none,.sl .sel ss none,.int .i64 p.line,.int .i64 p.col]),(1000112,.bx 112 (vBx v)),(1900000,.bx 900000 [.sl .node N none,.sl .tok T none])]
def C0V(N:DY)(T:DZ)(L:DS)(x:Int)(k:Int)(nm:DT)(vs:List VdT)(ds:List C7)(ss:Ee)(p:B1)(v:VdT):S6:=⟨(0,.one (.ptr 900000 0))::(4,.one (.ptr 104 0))::(8,.one (.ptr 108 0))::(12,.one (.ptr 112 0))::(13,.one (.sl .i64 L none))::(14,.one (.int .i64 x))::C17 N T k nm vs ds ss p v,[104,108,112,218,900000,2010405,2010406]⟩
def C5l(N:DY)(T:DZ)(L:DS)(x:Int)(k:Int)(nm:DT)(vs:List VdT)(ds:List C7)(ss:Ee)(p:B1)(v:VdT):S6:=⟨(0,.one (.ptr 900000 0))::(4,.one (.ptr 104 0))::(8,.one (.ptr 108 0))::(12,.one (.ptr 112 0))::(13,.one (.sl .i64 L none))::(14,.one (.int .i64 x))::(128,.one (.bool (decide (x<(L.length:Int)))))::C17 N T k nm vs ds ss p v,[104,108,112,218,900000,2010405,2010406]⟩
def L59{R:Type}(N:DY)(T:DZ)(L:DS)(k:Int->List VdT->VdT->Option R):Nat->Int->List VdT->VdT->Option R
 |0,_,_,_=>none
 |n+1,x,vs,v=>bif decide (x<(L.length:Int))then(match idx L x with|none=>none|some y=>(let r:=A1h y N T;gd (okB [.agg .vd] kN r) (let w:=B4C (gB r 0);gd (A3 (vs.length+1) 192) (L59 N T L k n (Ey .i64 (x+1)) (vs++[vE w]) w))))else k x vs v
def C3y{R:Type}(nn:Nat)(N:DY)(T:DZ)(L:DS)(k:Int)(nm:DT)(ds:List C7)(ss:Ee)(p:B1)(K:Ex->S6->Option R):∀(n:Nat)(x:Int)(vs:List VdT)(v:VdT),LP E59 nn Gq [1,1,1,1,1,1,1,1,1,0,1,0,1,1,1,1,0,0] 10024 n (C0V N T L x k nm vs ds ss p v) K=L59 N T L (λx vs v=>K (.exit 1) (C5l N T L x k nm vs ds ss p v)) n x vs v
 |0,_,_,_=>rfl
 |n+1,x,vs,v=>by
  rw[L59];simp only[<-C3y nn N T L k nm ds ss p K n];kernel_rfl
section
variable (lp:DS->Int->DT->List C7->Ee->B1->VdT->DW)(n:Int)(N:DY)(T:DZ)
def V59(k:Int)(nm:DT)(ds:List C7)(ss:Ee)(p:B1):DW:=
 let a:=F60 n 2 N T;gd (okB [.int .i64] kN a) (let m:=lI (gB a 0);let b:=N4 m N T;gd (okB [.bool] kN b) (bif !(lB (gB b 0))then(let c:=F60 m 1 N T;gd (okB [.int .i64] kN c) (let d:=A1h (lI (gB c 0)) N T;gd (okB [.agg .vd] kN d) (gd (A3 (0+1) 192) (let e:=F60 m 2 N T;gd (okB [.int .i64] kN e) (let f:=F61 (lI (gB e 0)) N T;gd (okB [.sl .i64 (some 1)] kN f) (lp (Y6 (gB f 0)) k nm ds ss p (B4C (gB d 0))))))))else some ([.agg .dfn ⟨k,nm,[],false,[],ds,ss,p⟩],bxN N T)))
def O59(ds:List C7)(ss:Ee)(p:B1)(k:Int):DW:=
 let a:=F60 n 1 N T;gd (okB [.int .i64] kN a) (let m:=lI (gB a 0);let b:=N4 m N T;gd (okB [.bool] kN b) (bif !(lB (gB b 0))then(let c:=F60 m 0 N T;gd (okB [.int .i64] kN c) (let d:=M0 (lI (gB c 0)) N T;gd (okB [.agg .tok] kN d) (V59 lp n N T k (J4 (gB d 0)).text ds ss p)))else V59 lp n N T k [] ds ss p))
def G59:DW:=
 let r:=A2i n N T;gd (okB [.agg .tok] kN r) (let t:=J4 (gB r 0);match idx N n with|none=>none|some y=>(bif(y.kids.length:Int)==1 then(let a:=F60 n 0 N T;gd (okB [.int .i64] kN a) (let b:=A6p (lI (gB a 0)) N T;gd (okB [.sl .sel (some 1)] kN b) (some ([.agg .dfn ⟨1,[],[],true,[],[],A1X (gB b 0),t.pos⟩],bxN N T))))
  else bif t.text==[102,114,97,103,109,101,110,116]then(let a:=F60 n 1 N T;gd (okB [.int .i64] kN a) (let b:=M0 (lI (gB a 0)) N T;gd (okB [.agg .tok] kN b) (let c:=F60 n 3 N T;gd (okB [.int .i64] kN c) (let d:=M0 (lI (gB c 0)) N T;gd (okB [.agg .tok] kN d) (let e:=F60 n 4 N T;gd (okB [.int .i64] kN e) (let f:=A0C (lI (gB e 0)) N T;gd (okB [.sl .dir (some 1)] kN f) (let g:=F60 n 5 N T;gd (okB [.int .i64] kN g) (let h:=A6p (lI (gB g 0)) N T;gd (okB [.sl .sel (some 1)] kN h) (some ([.agg .dfn ⟨4,(J4 (gB b 0)).text,(J4 (gB d 0)).text,false,[],A14 (gB f 0),A1X (gB h 0),t.pos⟩],bxN N T))))))))))
  else(let a:=F60 n 3 N T;gd (okB [.int .i64] kN a) (let b:=A0C (lI (gB a 0)) N T;gd (okB [.sl .dir (some 1)] kN b) (let c:=F60 n 4 N T;gd (okB [.int .i64] kN c) (let d:=A6p (lI (gB c 0)) N T;gd (okB [.sl .sel (some 1)] kN d)
   (bif t.text==[109,117,116,97,116,105,111,110]then O59 lp n N T (A14 (gB b 0)) (A1X (gB d 0)) t.pos 2 else bif t.text==[115,117,98,115,99,114,105,112,116,105,111,110]then O59 lp n N T (A14 (gB b 0)) (A1X (gB d 0)) t.pos 3 else O59 lp n N T (A14 (gB b 0)) (A1X (gB d 0)) t.pos 1)))))))
end
def A2R(nn:Nat)(n:Int)(N:DY)(T:DZ):DW:=G59 (λL k nm ds ss p v=>L59 N T L (λ_ vs _=>some ([.agg .dfn ⟨k,nm,[],false,vs,ds,ss,p⟩],bxN N T)) nn 0 ([]++[vE v]) v) n N T
def F59(a1:Int)(ac:DY)(aa:DZ):DW:=A2R NN a1 ac aa
def B46(nn:Nat){a1:Int}{ac:DY}{aa:DZ}:C5 E59 nn Gq [0] [.ptr 900000 0,.int .i64 a1] (bxN ac aa)=A2R nn a1 ac aa:=by
 have h:C5 E59 nn Gq [0] [.ptr 900000 0,.int .i64 a1] (bxN ac aa)=G59 (λL k nm ds ss p v=>LP E59 nn Gq [1,1,1,1,1,1,1,1,1,0,1,0,1,1,1,1,0,0] 10024 nn (C0V ac aa L 0 k nm ([]++[vE v]) ds ss p v) (A7 1 (sk E59 nn Gq [1,1,1,1,1,1,1,1,1,1] (L9 E59 Tryz.f59.results.toList [0] (bxN ac aa))))) a1 ac aa:=En
 rw[h];simp only[C3y];show _=_;kernel_rfl
def S59:S2T
 |[.ptr d0 o0,.int .i64 a1],[[.sl .node ac none,.sl .tok aa none]]=>bif bq d0 o0 then pB [.agg .dfn] kN (F59 a1 ac aa)else none
 |_,_=>none
def C1a{N:DY}{T:DZ}{L:DS}{k:Int->List VdT->VdT->DW}(hk:∀x vs v,RoK (bxN N T) (k x vs v)):∀(n:Nat)(x:Int)(vs:List VdT)(v:VdT),RoK (bxN N T) (L59 N T L k n x vs v)
 |0,_,_,_=>H8
 |n+1,_,_,_=>by
  unfold L59
  repeat' first|exact H8|exact hk _ _ _|exact C1a hk n _ _ _|apply N7|apply M9|split
def C9s{a1:Int}{ac:DY}{aa:DZ}:RoK (bxN ac aa) (F59 a1 ac aa):=by
 have hO:∀ds ss p k,RoK (bxN ac aa) (O59 (λL k nm ds ss p v=>L59 ac aa L (λ_ vs _=>some ([.agg .dfn ⟨k,nm,[],false,vs,ds,ss,p⟩],bxN ac aa)) NN 0 ([]++[vE v]) v) a1 ac aa ds ss p k):=λds ss p k=>by
  unfold O59 V59;dsimp only
  repeat' first|exact H8|exact P2 _|exact C1a (λ_ _ _=>P2 _) _ _ _ _|apply N7|apply M9|split
 unfold F59 A2R G59;dsimp only
 repeat' first|exact H8|exact P2 _|exact hO _ _ _ _|apply N7|apply M9|split
def D6n:∀ls cs rs ay,S59 ls cs=some (true,rs,ay)->ay=cs:=λls cs rs ay h=>by
 unfold S59 at h;split at h
 ·obtain⟨_,h⟩:=A8 h;exact A0p rfl rfl C9s h
 ·cases h
def E26:Env Ty6 A4:=mkR [] [] [(59,S59),(60,S60),(61,S61)] (lkD [(0,[1000103,1000104]),(1,[1000104]),(2,[7,8,9,10]),(3,[11,12,13,14,15,16]),(4,[17,18,19,20]),(6,[21,22,23]),(7,[25,26]),(8,[24,27,28,29,30,31,32]),(9,[33,34,35,36,37,38]),(10,[3,4,5,6,24,39,1000103,1000104])]) 40 [2,3,4] 1 [2,3] []
def B5j(ac:DY)(aa:DZ)(x5:DS)(x6:Int)(aI:List D8)(aJ:D8):S6:=⟨[eP 0 900000,eP 2 102,eP 3 103,eP 4 104,eL 5 .i64 x5,eI 6 x6,(1000102,.bx 102 [.sl .dfn [] (some 2010200)]),(1000103,.bx 103 [.sl .dfn aI (some 2010300)]),(1000104,.bx 104 [.int .i64 aJ.kind,.str aJ.name,.str aJ.on_,.bool aJ.short,.sl .vd aJ.vars none,.sl .dir aJ.dirs none,.sl .sel aJ.sels none,.int .i64 aJ.pos.line,.int .i64 aJ.pos.col]),(1900000,.bx 900000 [.sl .node ac none,.sl .tok aa none])],[102,103,104,900000,2010200,2010300]⟩
def D3n(ac:DY)(aa:DZ)(x5:DS)(x6:Int)(iW:Bool)(aI:List D8)(aJ:D8):S6:=E7 (eB 24 iW) (B5j ac aa x5 x6 aI aJ)
def B6b{R:Type}(nn:Nat)(ac:DY)(aa:DZ)(x5:DS)(x6:Int)(aI:List D8)(aJ:D8)(k1:(DS)->Int->(List D8)->D8->Option R)(k2:(DS)->Int->Bool->(List D8)->D8->Option R):Option R:=let z1:=decide (x6<(Ew x5:Int));bif z1 then(match idx x5 x6 with|none=>none|some y2=>(let r4:=F59 y2 ac aa;gd (okB [.agg .dfn] kN r4) (let z3:=(⟨(N6 (gB r4 0)).kind,(N6 (gB r4 0)).name,(N6 (gB r4 0)).on_,(N6 (gB r4 0)).short,(N6 (gB r4 0)).vars,(N6 (gB r4 0)).dirs,(N6 (gB r4 0)).sels,((N6 (gB r4 0)).pos)⟩:D8);gd (A3 (Ew aI+1) 136) (k1 x5 (Ey .i64 (x6+1)) (aI++[z3]) z3))))else(k2 x5 x6 z1 aI aJ)
def A5T{R:Type}(nn:Nat)(ac:DY)(aa:DZ):Nat->(DS)->Int->(List D8)->D8->((DS)->Int->Bool->(List D8)->D8->Option R)->Option R
 |0,_,_,_,_,_=>none
 |n+1,x5,x6,aI,aJ,k2=>B6b nn ac aa x5 x6 aI aJ (λx5 x6 aI aJ=>A5T nn ac aa n x5 x6 aI aJ k2) k2
def B9h{R:Type}(nn:Nat)(ac:DY)(aa:DZ):∀(n:Nat)(x5:DS)(x6:Int)(aI:List D8)(aJ:D8)(K:Ex->S6->Option R),LP E26 nn Gu [1,1,1,1,1,0,1,0,0] 10006 n (B5j ac aa x5 x6 aI aJ) K=A5T nn ac aa n x5 x6 aI aJ (λx5 x6 iW aI aJ=>K (.exit 0) (D3n ac aa x5 x6 iW aI aJ))
 |0,_,_,_,_,_=>rfl
 |n+1,x5,x6,aI,aJ,K=>by
  rw[A5T];simp only[<-B9h nn ac aa n _ _ _ _ K];kernel_rfl
def B36(nn:Nat)(ac:DY)(aa:DZ):DW:=let cD:=F60 0 0 ac aa;gd (okB [.int .i64] kN cD) (let r9:=F59 (lI (gB cD 0)) ac aa;gd (okB [.agg .dfn] kN r9) (let z1:=(⟨(N6 (gB r9 0)).kind,(N6 (gB r9 0)).name,(N6 (gB r9 0)).on_,(N6 (gB r9 0)).short,(N6 (gB r9 0)).vars,(N6 (gB r9 0)).dirs,(N6 (gB r9 0)).sels,((N6 (gB r9 0)).pos)⟩:D8);gd (A3 (0+1) 136) (let r8:=F60 0 1 ac aa;gd (okB [.int .i64] kN r8) (let r7:=F61 (lI (gB r8 0)) ac aa;gd (okB [.sl .i64 (some 1)] kN r7) (A5T nn ac aa nn (Y6 (gB r7 0)) 0 ([]++[z1]) z1 (λz2 z3 z4 z5 z6=>some ([.agg .doc (⟨z5⟩:J1)],(bxN ac aa))))))))
def F26(ac:DY)(aa:DZ):DW:=B36 NN ac aa
def D4R(nn:Nat){ac:DY}{aa:DZ}:C5 E26 nn Gu [0] [.ptr 900000 0] (bxN ac aa)=B36 nn ac aa:=by
 have h:C5 E26 nn Gu [0] [.ptr 900000 0] (bxN ac aa)=let cD:=F60 0 0 ac aa;gd (okB [.int .i64] kN cD) (let r9:=F59 (lI (gB cD 0)) ac aa;gd (okB [.agg .dfn] kN r9) (let z1:=(⟨(N6 (gB r9 0)).kind,(N6 (gB r9 0)).name,(N6 (gB r9 0)).on_,(N6 (gB r9 0)).short,(N6 (gB r9 0)).vars,(N6 (gB r9 0)).dirs,(N6 (gB r9 0)).sels,((N6 (gB r9 0)).pos)⟩:D8);gd (A3 (0+1) 136) (let r8:=F60 0 1 ac aa;gd (okB [.int .i64] kN r8) (let r7:=F61 (lI (gB r8 0)) ac aa;gd (okB [.sl .i64 (some 1)] kN r7) (LP E26 nn Gu [1,1,1,1,1,0,1,0,0] 10006 nn (B5j ac aa (Y6 (gB r7 0)) 0 ([]++[z1]) z1) (A7 0 (sk E26 nn Gu [1,1,1,1,1,1] (L9 E26 Tryz.f26.results.toList [0] (bxN ac aa))))))))):=En
 rw[h];simp only[B9h];show _=_;kernel_rfl
def S26:S2T
 |[.ptr d0 o0],[[.sl .node ac none,.sl .tok aa none]]=>bif bq d0 o0 then pB [.agg .doc] kN (F26 ac aa)else none
 |_,_=>none
def A5C:Env Ty6 A4:=mkE [] [] (lkD [(0,[4]),(2,[6,7,8]),(3,[10,11,17]),(4,[9,12,13,14,15,16]),(5,[0,1,5,17]),(6,[0,1,5,9])]) 18 [] 0 [] []
def B6M(a0:Int)(a1:DT)(x5:Int):S6:=⟨[(0,.one (.int .i32 a0)),eS 1 a1,eI 5 x5],[]⟩
def C81(a0:Int)(a1:DT)(x5:Int)(x9:Bool):S6:=E7 (eB 9 x9) (B6M a0 a1 x5)
def D5h(a0:Int)(a1:DT):S6:=⟨[eB 4 true],[]⟩
def A90{R:Type}(nn:Nat)(a0:Int)(a1:DT)(x5:Int)(k1:Option R)(k2:Int->Option R)(k3:Int->Bool->Option R):Option R:=let z1:=decide (x5<(Ew a1:Int));bif z1 then(match idx a1 x5 with|none=>none|some y2=>(let z3:=(Ey .i32 (Fj y2:Int))==a0;bif z3 then k1 else(k2 (Ey .i64 (x5+1)))))else(k3 x5 z1)
def A56{R:Type}(nn:Nat)(a0:Int)(a1:DT):Nat->Int->(Option R)->(Int->Bool->Option R)->Option R
 |0,_,_,_=>none
 |n+1,x5,k1,k3=>A90 nn a0 a1 x5 k1 (λx5=>A56 nn a0 a1 n x5 k1 k3) k3
def C24{R:Type}(nn:Nat)(a0:Int)(a1:DT):∀(n:Nat)(x5:Int)(K:Ex->S6->Option R),LP A5C nn Hb [1,0,1,0,0] 10002 n (B6M a0 a1 x5) K=A56 nn a0 a1 n x5 (K .ret (D5h a0 a1)) (λx5 x9=>K (.exit 0) (C81 a0 a1 x5 x9))
 |0,_,_=>rfl
 |n+1,x5,K=>by
  rw[A56];simp only[<-C24 nn a0 a1 n _ K];kernel_rfl
def A9m(nn:Nat)(a0:Int)(a1:DT):DU:=A56 nn a0 a1 nn 0 (some (.one (.bool true))) (λz1 z2=>some (.one (.bool false)))
def Y4(a0:Int)(a1:DT):DU:=A9m NN a0 a1
def D2S(nn:Nat){a0:Int}{a1:DT}:A5 A5C nn Hb [.int .i32 a0,.str a1]=A9m nn a0 a1:=by
 have h:A5 A5C nn Hb [.int .i32 a0,.str a1]=LP A5C nn Hb [1,0,1,0,0] 10002 nn (B6M a0 a1 0) (A7 0 (sk A5C nn Hb [1,1] (B3 A5C Tryz.f174.results.toList))):=En
 rw[h];simp only[C24];show _=_;kernel_rfl
def A4T:S1T
 |[.int .i32 a0,.str a1]=>pR [.bool] (Y4 a0 a1)
 |_=>none
def C07:Env Ty6 A4:=mkE [] [] noD 15 [] 0 [] []
def A01(a0:Int):DU:=let j1:DU:=bif(decide (a0>=0))==true then(some (.one (.bool (decide (a0<=1114111)))))else(some (.one (.bool false)));bif(decide (a0>=55296))==true then(bif(decide (a0<=57343))then(some (.one (.bool false)))else j1)else(bif false then(some (.one (.bool false)))else j1)
def C8n{a0:Int}:A5 C07 NN Tryz.f175 [.int .i32 a0]=A01 a0:=En
def B0W:S1T
 |[.int .i32 a0]=>pR [.bool] (A01 a0)
 |_=>none
def C3k:Env Ty6 A4:=mkE [(174,A4T),(175,B0W)] [] noD 13 [] 0 [] []
def A4y(a0:Int):DU:=bif(decide (a0<32))then(let r1:=Y4 a0 [9,10,13];gd (okR [.bool] r1) (some (.one (.bool (lB (gL r1 0))))))else(bif(decide (a0<65536))==true then(gd (okR [.bool] (A01 a0)) (some (.one (.bool (lB (gL (A01 a0) 0))))))else(some (.one (.bool false))))
def C8X{a0:Int}:A5 C3k NN Tryz.f121 [.int .i32 a0]=A4y a0:=En
def B7N:S1T
 |[.int .i32 a0]=>pR [.bool] (A4y a0)
 |_=>none
def E53:Env Ty6 A4:=mkE [(121,B7N)] [] (lkD [(0,[4]),(3,[7,8,9]),(4,[11,12]),(5,[10,13,14,15,16]),(6,[17,18,19,20,21,22,23,24]),(7,[17,25,26,27]),(8,[0,1,6,10,28]),(9,[29,30,31,32]),(10,[5,29,33,34,35])]) 36 [] 0 [] []
def B37(a0:DS)(a1:Bool)(x5:DS)(x6:Int):S6:=⟨[eL 0 .i32 a0,eB 1 a1,(5,.one (.sl .i32 x5 (some 105))),eI 6 x6],[105]⟩
def D2W(a0:DS)(a1:Bool)(x5:DS)(x6:Int)(aP:Bool):S6:=E7 (eB 10 aP) (B37 a0 a1 x5 x6)
def B1h{R:Type}(nn:Nat)(a0:DS)(a1:Bool)(x5:DS)(x6:Int)(k1:(DS)->Int->Option R)(k2:(DS)->Int->Bool->Option R):Option R:=let z1:=decide (x6<(Ew a0:Int));bif z1 then(let j2:(DS)->Int->Option R:=λz3 z4=>k1 z3 (Ey .i64 (z4+1));match idx a0 x6 with|none=>none|some y5=>(gd (okR [.bool] (A4y y5)) (bif(lB (gL (A4y y5) 0))then(match idx a0 x6 with|none=>none|some y6=>(gd (A3 (Ew x5+1) 4) (j2 (x5++[y6]) x6)))else(gd (A3 (Ew x5+1) 4) (j2 (x5++[-1]) x6)))))else(k2 x5 x6 z1)
def A6h{R:Type}(nn:Nat)(a0:DS)(a1:Bool):Nat->(DS)->Int->((DS)->Int->Bool->Option R)->Option R
 |0,_,_,_=>none
 |n+1,x5,x6,k2=>B1h nn a0 a1 x5 x6 (λx5 x6=>A6h nn a0 a1 n x5 x6 k2) k2
def B9m{R:Type}(nn:Nat)(a0:DS)(a1:Bool):∀(n:Nat)(x5:DS)(x6:Int)(K:Ex->S6->Option R),LP E53 nn Gr [1,1,0,1,0,0] 10003 n (B37 a0 a1 x5 x6) K=A6h nn a0 a1 n x5 x6 (λx5 x6 aP=>K (.exit 0) (D2W a0 a1 x5 x6 aP))
 |0,_,_,_=>rfl
 |n+1,x5,x6,K=>by
  rw[A6h];simp only[<-B9m nn a0 a1 n _ _ K];kernel_rfl
def A8K(nn:Nat)(a0:DS)(a1:Bool):DU:=A6h nn a0 a1 nn [] 0 (λz1 z2 z3=>bif(!a1)then(gd (A3 (Ew z1+1) 4) (gd (A3 (Ew (z1++[-1])+1) 4) (some (.one (.sl .i32 ((z1++[-1])++[-2]) (some 1))))))else(gd (A3 (Ew z1+1) 4) (some (.one (.sl .i32 (z1++[-2]) (some 1))))))
def F53(a0:DS)(a1:Bool):DU:=A8K NN a0 a1
def B5Q(nn:Nat){a0:DS}{a1:Bool}:A5 E53 nn Gr [.sl .i32 a0 none,.bool a1]=A8K nn a0 a1:=by
 have h:A5 E53 nn Gr [.sl .i32 a0 none,.bool a1]=LP E53 nn Gr [1,1,0,1,0,0] 10003 nn (B37 a0 a1 [] 0) (A7 0 (sk E53 nn Gr [1,1,1] (B3 E53 Tryz.f53.results.toList))):=En
 rw[h];simp only[B9m];show _=_;kernel_rfl
def S53:S1T
 |[.sl .i32 a0 none,.bool a1]=>pR [.sl .i32 (some 1)] (F53 a0 a1)
 |_=>none
def A5D:Env Ty6 A4:=mkE [] [] (lkD [(0,[2]),(1,[5]),(3,[6,7,8]),(4,[10,11,23,43]),(5,[9,12,13,14,15,16,17,18,19,20,21,22]),(6,[23,24,25,26,27,28,29,30,31,32,33,34,35,36,37,38,39,40,41,42]),(7,[43,44,45,46,47,48]),(8,[0,3,4,9,49])]) 50 [] 0 [] []
def B3X(a0:DS)(x3:DS)(x4:Int):S6:=⟨[eL 0 .i32 a0,(3,.one (.sl .i64 x3 (some 105))),eI 4 x4],[105]⟩
def D2i(a0:DS)(x3:DS)(x4:Int)(x9:Bool):S6:=E7 (eB 9 x9) (B3X a0 x3 x4)
def A84{R:Type}(nn:Nat)(a0:DS)(x3:DS)(x4:Int)(k1:(DS)->Int->Option R)(k2:(DS)->Int->Bool->Option R):Option R:=let z1:=decide (x4<(Ew a0:Int));bif z1 then(let j2:(DS)->Int->Bool->Option R:=λz3 z4 z5=>k1 z3 (Ey .i64 (z4+1));let j6:(DS)->Int->Bool->Option R:=λz7 z8 z9=>k1 z7 (Ey .i64 (z8+1));let Ci:(DS)->Int->Option R:=λcW er=>k1 cW (Ey .i64 (er+1));let zK:(DS)->Int->Bool->Option R:=λeh fv jK=>let ni:(DS)->Int->Bool->Option R:=λfI iX z20=>gd (A3 (Ew fI+1) 8) (Ci (fI++[Ey .i64 (iX+1)]) iX);match idx a0 fv with|none=>none|some Cj=>(bif(Cj==13)==true then(bif(decide ((Ey .i64 (fv+1))<(Ew a0:Int)))==true then(match idx a0 (Ey .i64 (fv+1))with|none=>none|some wX=>(bif(wX==10)then(j6 eh fv (wX==10))else(ni eh fv (wX==10))))else(bif false then(j6 eh fv false)else(ni eh fv false)))else(bif false then(j6 eh fv false)else(ni eh fv false)));match idx a0 x4 with|none=>none|some Ck=>(bif(Ck !=13)==true then(match idx a0 x4 with|none=>none|some wY=>(bif(wY !=10)then(j2 x3 x4 (wY !=10))else(zK x3 x4 (wY !=10))))else(bif false then(j2 x3 x4 false)else(zK x3 x4 false))))else(k2 x3 x4 z1)
def A3P{R:Type}(nn:Nat)(a0:DS):Nat->(DS)->Int->((DS)->Int->Bool->Option R)->Option R
 |0,_,_,_=>none
 |n+1,x3,x4,k2=>A84 nn a0 x3 x4 (λx3 x4=>A3P nn a0 n x3 x4 k2) k2
def C3u{R:Type}(nn:Nat)(a0:DS):∀(n:Nat)(x3:DS)(x4:Int)(K:Ex->S6->Option R),LP A5D nn Hl [1,1,0,1,0,0] 10003 n (B3X a0 x3 x4) K=A3P nn a0 n x3 x4 (λx3 x4 x9=>K (.exit 0) (D2i a0 x3 x4 x9))
 |0,_,_,_=>rfl
 |n+1,x3,x4,K=>by
  rw[A3P];simp only[<-C3u nn a0 n _ _ K];kernel_rfl
def A6m(nn:Nat)(a0:DS):DU:=A3P nn a0 nn [0] 0 (λz1 z2 z3=>some (.one (.sl .i64 z1 (some 1))))
def A1e(a0:DS):DU:=A6m NN a0
def C6b(nn:Nat){a0:DS}:A5 A5D nn Hl [.sl .i32 a0 none]=A6m nn a0:=by
 have h:A5 A5D nn Hl [.sl .i32 a0 none]=LP A5D nn Hl [1,1,0,1,0,0] 10003 nn (B3X a0 [0] 0) (A7 0 (sk A5D nn Hl [1,1,1] (B3 A5D Tryz.f122.results.toList))):=En
 rw[h];simp only[C3u];show _=_;kernel_rfl
def B3t:S1T
 |[.sl .i32 a0 none]=>pR [.sl .i64 (some 1)] (A1e a0)
 |_=>none
def E54:Env Ty6 A4:=mkE [(122,B3t)] [] (lkD [(0,[2]),(2,[8,9]),(4,[10,11,12]),(5,[6,7,14,15,35]),(6,[13,16,17,18]),(7,[19,20,21,22]),(8,[23,24,25,26,27,28]),(9,[23,29,30,31,32]),(10,[33,34]),(11,[36,37]),(12,[35,38,39,40,41,42,43,44,45,46,47,48,49,50]),(13,[0,3,4,5,13,51])]) 52 [] 0 [] []
def A66(a0:DS)(x3:List B1)(x4:DS)(x5:Int):S6:=⟨[eL 0 .i32 a0,(3,.one (.sl .pos x3 (some 103))),(4,.one (.sl .i64 x4 (some 1009))),eI 5 x5],[103,1009]⟩
def C0w(a0:DS)(x3:List B1)(x4:DS)(x5:Int)(bN:Bool):S6:=E7 (eB 13 bN) (A66 a0 x3 x4 x5)
def B09(a0:DS)(x3:List B1)(x4:DS)(x5 x6 x7:Int):S6:=E7 (eI 7 x7) (E7 (eI 6 x6) (A66 a0 x3 x4 x5))
def D5Z(a0:DS)(x3:List B1)(x4:DS)(x5 x6 x7:Int)(wZ:Bool):S6:=E7 (eB 35 wZ) (B09 a0 x3 x4 x5 x6 x7)
def A5z{R:Type}(nn:Nat)(a0:DS)(x3:List B1)(x4:DS)(x5 x6 x7:Int)(k1:(List B1)->(DS)->Int->Int->Int->Option R)(k2:(List B1)->(DS)->Int->Int->Int->Bool->Option R):Option R:=let z1:=decide (x7<x6);bif z1 then(match idx x4 x5 with|none=>none|some y2=>(gd (A3 (Ew x3+1) 16) (k1 (x3++[(⟨Ey .i64 (x5+1),Ey .i64 ((Ey .i64 (x7 - y2))+1)⟩:B1)]) x4 x5 x6 (Ey .i64 (x7+1)))))else(k2 x3 x4 x5 x6 x7 z1)
def A5O{R:Type}(nn:Nat)(a0:DS):Nat->(List B1)->(DS)->Int->Int->Int->((List B1)->(DS)->Int->Int->Int->Bool->Option R)->Option R
 |0,_,_,_,_,_,_=>none
 |n+1,x3,x4,x5,x6,x7,k2=>A5z nn a0 x3 x4 x5 x6 x7 (λx3 x4 x5 x6 x7=>A5O nn a0 n x3 x4 x5 x6 x7 k2) k2
def C2P{R:Type}(nn:Nat)(a0:DS):∀(n:Nat)(x3:List B1)(x4:DS)(x5 x6 x7:Int)(K:Ex->S6->Option R),LP E54 nn Fh [1,1,1,0,1,0,0,1,0,0,1,1,1,0,0] 10010 n (B09 a0 x3 x4 x5 x6 x7) K=A5O nn a0 n x3 x4 x5 x6 x7 (λx3 x4 x5 x6 x7 wZ=>K (.exit 2) (D5Z a0 x3 x4 x5 x6 x7 wZ))
 |0,_,_,_,_,_,_=>rfl
 |n+1,x3,x4,x5,x6,x7,K=>by
  rw[A5O];simp only[<-C2P nn a0 n _ _ _ _ _ K];kernel_rfl
def A45{R:Type}(nn:Nat)(a0:DS)(x3:List B1)(x4:DS)(x5:Int)(k1:(List B1)->(DS)->Int->Option R)(k2:(List B1)->(DS)->Int->Bool->Option R):Option R:=let z1:=decide (x5<(Ew x4:Int));bif z1 then(let j2:(List B1)->(DS)->Int->Int->Int->Bool->Option R:=λz3 z4 z5 z6 z7 z8=>k1 z3 z4 (Ey .i64 (z5+1));let z9:=decide ((Ey .i64 (x5+1))<(Ew x4:Int));bif z9 then(match idx x4 (Ey .i64 (x5+1))with|none=>none|some gf=>(match idx x4 x5 with|none=>none|some hJ=>(A5O nn a0 nn x3 x4 x5 gf hJ (λer ee eh fv jK nj=>j2 er ee eh fv jK nj))))else(match idx x4 x5 with|none=>none|some py=>(A5O nn a0 nn x3 x4 x5 (Ey .i64 ((Ew a0:Int)+1)) py (λiX z20 z21 iY iF oq=>j2 iX z20 z21 iY iF oq))))else(k2 x3 x4 x5 z1)
def A7C{R:Type}(nn:Nat)(a0:DS):Nat->(List B1)->(DS)->Int->((List B1)->(DS)->Int->Bool->Option R)->Option R
 |0,_,_,_,_=>none
 |n+1,x3,x4,x5,k2=>A45 nn a0 x3 x4 x5 (λx3 x4 x5=>A7C nn a0 n x3 x4 x5 k2) k2
def C2O{R:Type}(nn:Nat)(a0:DS):∀(n:Nat)(x3:List B1)(x4:DS)(x5:Int)(K:Ex->S6->Option R),LP E54 nn Fh [1,1,1,0,1,0,0] 10004 n (A66 a0 x3 x4 x5) K=A7C nn a0 n x3 x4 x5 (λx3 x4 x5 bN=>K (.exit 0) (C0w a0 x3 x4 x5 bN))
 |0,_,_,_,_=>rfl
 |n+1,x3,x4,x5,K=>by
  rw[A7C];simp only[<-C2O nn a0 n _ _ _ K];have h:LP E54 nn Fh [1,1,1,0,1,0,0] 10004 (n+1) (A66 a0 x3 x4 x5) K=let z1:=decide (x5<(Ew x4:Int));bif z1 then(let j2:(List B1)->(DS)->Int->Int->Int->Bool->Option R:=λz3 z4 z5 z6 z7 z8=>LP E54 nn Fh [1,1,1,0,1,0,0] 10004 n (A66 a0 z3 z4 (Ey .i64 (z5+1))) K;let z9:=decide ((Ey .i64 (x5+1))<(Ew x4:Int));bif z9 then(match idx x4 (Ey .i64 (x5+1))with|none=>none|some gf=>(match idx x4 x5 with|none=>none|some hJ=>(LP E54 nn Fh [1,1,1,0,1,0,0,1,0,0,1,1,1,0,0] 10010 nn (B09 a0 x3 x4 x5 gf hJ) (A7 2 (A7 1 (sk E54 nn Fh [1,1,1,0,1,0,0,1,1] (A3c (E54.drop 10004) (A3b (lbN nn E54 (A2 Fh [1,1,1,0,1,0,0]) 10004) n K))))))))else(match idx x4 x5 with|none=>none|some py=>(LP E54 nn Fh [1,1,1,0,1,0,0,1,0,0,1,1,1,0,0] 10010 nn (B09 a0 x3 x4 x5 (Ey .i64 ((Ew a0:Int)+1)) py) (A7 2 (A7 1 (sk E54 nn Fh [1,1,1,0,1,0,0,1,1] (A3c (E54.drop 10004) (A3b (lbN nn E54 (A2 Fh [1,1,1,0,1,0,0]) 10004) n K))))))))else(K (.exit 0) (C0w a0 x3 x4 x5 z1)):=En
  rw[h];simp only[C2P];show _=_;kernel_rfl
def A3B(nn:Nat)(a0:DS):DU:=gd (okR [.sl .i64 (some 1)] (A1e a0)) (A7C nn a0 nn [] (Y6 (gL (A1e a0) 0)) 0 (λz1 z2 z3 z4=>some (.one (.sl .pos z1 (some 1)))))
def F54(a0:DS):DU:=A3B NN a0
def B6Q(nn:Nat){a0:DS}:A5 E54 nn Fh [.sl .i32 a0 none]=A3B nn a0:=by
 have h:A5 E54 nn Fh [.sl .i32 a0 none]=gd (okR [.sl .i64 (some 1)] (A1e a0)) (LP E54 nn Fh [1,1,1,0,1,0,0] 10004 nn (A66 a0 [] (Y6 (gL (A1e a0) 0)) 0) (A7 0 (sk E54 nn Fh [1,1,1,1] (B3 E54 Tryz.f54.results.toList)))):=En
 rw[h];simp only[C2O];show _=_;kernel_rfl
def S54:S1T
 |[.sl .i32 a0 none]=>pR [.sl .pos (some 1)] (F54 a0)
 |_=>none
def C0O:Env Ty6 A4:=mkE [(174,A4T)] [] noD 9 [] 0 [] []
def A32(a0:Int):DU:=bif(a0==65279)==false then(let r1:=Y4 a0 [9,10,13,32,44];gd (okR [.bool] r1) (some (.one (.bool (lB (gL r1 0))))))else(some (.one (.bool true)))
def D4i{a0:Int}:A5 C0O NN Tryz.f176 [.int .i32 a0]=A32 a0:=En
def B64:S1T
 |[.int .i32 a0]=>pR [.bool] (A32 a0)
 |_=>none
def E123:Env Ty6 A4:=mkE [(176,B64)] [] (lkD [(0,[4]),(1,[5,6,7,8]),(2,[9,10,11]),(3,[9,12,13,14,15]),(4,[0,1,16,17]),(5,[18,19,20,21,22,23,24,25,26,27,28,29,30,31,32,33,34,35]),(6,[36,37,38]),(10001,[36]),(10005,[16])]) 39 [] 0 [] []
def A5f(a0:DS)(a1:Int)(x1:Int):S6:=⟨[eL 0 .i32 a0,eI 1 x1],[]⟩
def C3G(a0:DS)(a1:Int)(x4:Int):S6:=⟨[eI 4 x4],[]⟩
def C8y(a0:DS)(a1:Int)(x1:Int)(upq:Bool):S6:=E7 (eB 36 upq) (A5f a0 a1 x1)
def A9M{R:Type}(nn:Nat)(a0:DS)(a1:Int)(x1:Int)(k1:Int->Option R)(k2:Int->Bool->Option R):Option R:=let j1:Int->Bool->Option R:=λz2 z3=>k1 (Ey .i64 (z2+1));match idx a0 x1 with|none=>none|some y4=>(bif(decide (y4>=0))==true then(match idx a0 x1 with|none=>none|some y5=>(bif(y5 !=10)==true then(match idx a0 x1 with|none=>none|some y6=>(bif(y6 !=13)then(j1 x1 (y6 !=13))else(k2 x1 (y6 !=13))))else(bif false then(j1 x1 false)else(k2 x1 false))))else(bif false then(j1 x1 false)else(k2 x1 false)))
def A6u{R:Type}(nn:Nat)(a0:DS)(a1:Int):Nat->Int->(Int->Bool->Option R)->Option R
 |0,_,_=>none
 |n+1,x1,k2=>A9M nn a0 a1 x1 (λx1=>A6u nn a0 a1 n x1 k2) k2
def C1w{R:Type}(nn:Nat)(a0:DS)(a1:Int):∀(n:Nat)(x1:Int)(K:Ex->S6->Option R),LP E123 nn Fp [1,0,0,0,1,1,0,0] 10005 n (A5f a0 a1 x1) K=A6u nn a0 a1 n x1 (λx1 upq=>K (.exit 2) (C8y a0 a1 x1 upq))
 |0,_,_=>rfl
 |n+1,x1,K=>by
  rw[A6u];simp only[<-C1w nn a0 a1 n _ K];kernel_rfl
def B1c{R:Type}(nn:Nat)(a0:DS)(a1:Int)(x1:Int)(k1:Int->Option R)(k2:Int->Option R)(k3:Int->Bool->Option R):Option R:=match idx a0 x1 with|none=>none|some y1=>(gd (okR [.bool] (A32 y1)) (let z2:=(lB (gL (A32 y1) 0));bif z2 then(k1 (Ey .i64 (x1+1)))else(match idx a0 x1 with|none=>none|some y3=>(bif(y3 !=35)then(k2 x1)else(A6u nn a0 a1 nn x1 (λz4 z5=>k3 z4 z5))))))
def A4t{R:Type}(nn:Nat)(a0:DS)(a1:Int):Nat->Int->(Int->Option R)->Option R
 |0,_,_=>none
 |n+1,x1,k2=>B1c nn a0 a1 x1 (λx1=>A4t nn a0 a1 n x1 k2) k2 (λx1 upq=>A4t nn a0 a1 n x1 k2)
def B89{R:Type}(nn:Nat)(a0:DS)(a1:Int):∀(n:Nat)(x1:Int)(K:Ex->S6->Option R),LP E123 nn Fp [1,0,0] 10001 n (A5f a0 a1 x1) K=A4t nn a0 a1 n x1 (λx4=>K .ret (C3G a0 a1 x4))
 |0,_,_=>rfl
 |n+1,x1,K=>by
  rw[A4t];simp only[<-B89 nn a0 a1 n _ K];have h:LP E123 nn Fp [1,0,0] 10001 (n+1) (A5f a0 a1 x1) K=match idx a0 x1 with|none=>none|some y1=>(gd (okR [.bool] (A32 y1)) (let z2:=(lB (gL (A32 y1) 0));bif z2 then(LP E123 nn Fp [1,0,0] 10001 n (A5f a0 a1 (Ey .i64 (x1+1))) K)else(match idx a0 x1 with|none=>none|some y3=>(bif(y3 !=35)then(K .ret (C3G a0 a1 x1))else(LP E123 nn Fp [1,0,0,0,1,1,0,0] 10005 nn (A5f a0 a1 x1) (A7 2 (A7 1 (A3c (E123.drop 10001) (A3b (lbN nn E123 (A2 Fp [1,0,0]) 10001) n K))))))))):=En
  rw[h];simp only[C1w];show _=_;kernel_rfl
def A89(nn:Nat)(a0:DS)(a1:Int):DU:=A4t nn a0 a1 nn a1 (λz1=>some (.one (.int .i64 z1)))
def A3M(a0:DS)(a1:Int):DU:=A89 NN a0 a1
def D6G(nn:Nat){a0:DS}{a1:Int}:A5 E123 nn Fp [.sl .i32 a0 none,.int .i64 a1]=A89 nn a0 a1:=by
 have h:A5 E123 nn Fp [.sl .i32 a0 none,.int .i64 a1]=LP E123 nn Fp [1,0,0] 10001 nn (A5f a0 a1 a1) (A7 0 (B3 E123 Tryz.f123.results.toList)):=En
 rw[h];simp only[B89];show _=_;kernel_rfl
def B6R:S1T
 |[.sl .i32 a0 none,.int .i64 a1]=>pR [.int .i64] (A3M a0 a1)
 |_=>none
def C3T:Env Ty6 A4:=mkE [(174,A4T)] [] noD 5 [] 0 [] []
def A7p(a0:Int):DU:=let r1:=Y4 a0 [97,98,99,100,101,102,103,104,105,106,107,108,109,110,111,112,113,114,115,116,117,118,119,120,121,122,65,66,67,68,69,70,71,72,73,74,75,76,77,78,79,80,81,82,83,84,85,86,87,88,89,90,95];gd (okR [.bool] r1) (some (.one (.bool (lB (gL r1 0)))))
def C9x{a0:Int}:A5 C3T NN Tryz.f177 [.int .i32 a0]=A7p a0:=En
def B2Z:S1T
 |[.int .i32 a0]=>pR [.bool] (A7p a0)
 |_=>none
def A08:Env Ty6 A4:=mkE [(174,A4T)] [] noD 9 [] 0 [] []
def A4h(a0:Int):DU:=let r2:=Y4 a0 [97,98,99,100,101,102,103,104,105,106,107,108,109,110,111,112,113,114,115,116,117,118,119,120,121,122,65,66,67,68,69,70,71,72,73,74,75,76,77,78,79,80,81,82,83,84,85,86,87,88,89,90,95];gd (okR [.bool] r2) (bif(lB (gL r2 0))==false then(let r1:=Y4 a0 [48,49,50,51,52,53,54,55,56,57];gd (okR [.bool] r1) (some (.one (.bool (lB (gL r1 0))))))else(some (.one (.bool true))))
def B5r{a0:Int}:A5 A08 NN Tryz.f208 [.int .i32 a0]=A4h a0:=En
def S208:S1T
 |[.int .i32 a0]=>pR [.bool] (A4h a0)
 |_=>none
def A5H:Env Ty6 A4:=mkE [(208,S208)] [] (lkD [(0,[4]),(1,[5,6,7,8]),(2,[9,10,11]),(3,[0,1,9,12])]) 13 [] 0 [] []
def B6K(a0:DS)(a1:Int)(x1:Int):S6:=⟨[eL 0 .i32 a0,eI 1 x1],[]⟩
def D5x(a0:DS)(a1:Int)(x1:Int)(x9:Bool):S6:=E7 (eB 9 x9) (B6K a0 a1 x1)
def B2w{R:Type}(nn:Nat)(a0:DS)(a1:Int)(x1:Int)(k1:Int->Option R)(k2:Int->Bool->Option R):Option R:=match idx a0 x1 with|none=>none|some y1=>(gd (okR [.bool] (A4h y1)) (let z2:=(lB (gL (A4h y1) 0));bif z2 then(k1 (Ey .i64 (x1+1)))else(k2 x1 z2)))
def A6d{R:Type}(nn:Nat)(a0:DS)(a1:Int):Nat->Int->(Int->Bool->Option R)->Option R
 |0,_,_=>none
 |n+1,x1,k2=>B2w nn a0 a1 x1 (λx1=>A6d nn a0 a1 n x1 k2) k2
def C1D{R:Type}(nn:Nat)(a0:DS)(a1:Int):∀(n:Nat)(x1:Int)(K:Ex->S6->Option R),LP A5H nn Ha [1,0,0,0] 10001 n (B6K a0 a1 x1) K=A6d nn a0 a1 n x1 (λx1 x9=>K (.exit 0) (D5x a0 a1 x1 x9))
 |0,_,_=>rfl
 |n+1,x1,K=>by
  rw[A6d];simp only[<-C1D nn a0 a1 n _ K];kernel_rfl
def B0C(nn:Nat)(a0:DS)(a1:Int):DU:=A6d nn a0 a1 nn a1 (λz1 z2=>some (.one (.int .i64 z1)))
def A44(a0:DS)(a1:Int):DU:=B0C NN a0 a1
def C7A(nn:Nat){a0:DS}{a1:Int}:A5 A5H nn Ha [.sl .i32 a0 none,.int .i64 a1]=B0C nn a0 a1:=by
 have h:A5 A5H nn Ha [.sl .i32 a0 none,.int .i64 a1]=LP A5H nn Ha [1,0,0,0] 10001 nn (B6K a0 a1 a1) (A7 0 (sk A5H nn Ha [1,1] (B3 A5H Tryz.f178.results.toList))):=En
 rw[h];simp only[C1D];show _=_;kernel_rfl
def B4Q:S1T
 |[.sl .i32 a0 none,.int .i64 a1]=>pR [.int .i64] (A44 a0 a1)
 |_=>none
def C02:Env Ty6 A4:=mkE [(174,A4T)] [] noD 5 [] 0 [] []
def A7r(a0:Int):DU:=let r1:=Y4 a0 [48,49,50,51,52,53,54,55,56,57];gd (okR [.bool] r1) (some (.one (.bool (lB (gL r1 0)))))
def D1M{a0:Int}:A5 C02 NN Tryz.f179 [.int .i32 a0]=A7r a0:=En
def B5K:S1T
 |[.int .i32 a0]=>pR [.bool] (A7r a0)
 |_=>none
def C4o:Env Ty6 A4:=mkE [] [] noD 72 [] 0 [] []
def A2B(a0 a1:Int):DU:=bif(decide (a1>=48))==true then(let z1:=decide (a1<=57);let j2:DU:=some (.one (.int .i64 (-1)));let j3:Bool->Bool->DU:=λz4 z5=>some (.one (.int .i64 (-1)));let j6:Bool->Bool->DU:=λz7 z8=>some (.one (.int .i64 (-1)));let j9:Bool->Bool->DU:=λdJ cW=>bif cW then(bif(a1==45)==true then(bif(a0==0)then(some (.one (.int .i64 1)))else(bif(a1==48)then(some (.one (.int .i64 2)))else(bif dJ then(some (.one (.int .i64 3)))else j2)))else(bif false then(some (.one (.int .i64 1)))else(bif(a1==48)then(some (.one (.int .i64 2)))else(bif dJ then(some (.one (.int .i64 3)))else j2))))else(let un:Bool->Bool->DU:=λee eh=>bif eh then(bif ee==true then(bif(a0==3)then(some (.one (.int .i64 3)))else(bif(a1==46)then(some (.one (.int .i64 4)))else(bif(a1==101)==false then(bif(a1==69)then(some (.one (.int .i64 6)))else j2)else(bif true then(some (.one (.int .i64 6)))else j2))))else(bif false then(some (.one (.int .i64 3)))else(bif(a1==46)then(some (.one (.int .i64 4)))else(bif(a1==101)==false then(bif(a1==69)then(some (.one (.int .i64 6)))else j2)else(bif true then(some (.one (.int .i64 6)))else j2)))))else(bif(a0==4)then(bif ee then(some (.one (.int .i64 5)))else j2)else(bif(a0==5)then(bif ee then(some (.one (.int .i64 5)))else(bif(a1==101)==false then(bif(a1==69)then(some (.one (.int .i64 6)))else j2)else(bif true then(some (.one (.int .i64 6)))else j2)))else(bif(a0==6)then(bif ee then(some (.one (.int .i64 8)))else(bif(a1==43)==false then(bif(a1==45)then(some (.one (.int .i64 7)))else j2)else(bif true then(some (.one (.int .i64 7)))else j2)))else(bif(a0==7)then(bif(a0==7)then(bif ee then(some (.one (.int .i64 8)))else j2)else(j3 ee (a0==7)))else(bif(a0==8)then(bif ee then(some (.one (.int .i64 8)))else j2)else(j6 ee (a0==8)))))));bif(a0==2)then(un dJ (a0==2))else(un dJ (a0==3)));bif(a0==0)then(j9 z1 (a0==0))else(j9 z1 (a0==1)))else(let kj:DU:=some (.one (.int .i64 (-1)));let uq:Bool->Bool->DU:=λnj fI=>some (.one (.int .i64 (-1)));let Cl:Bool->Bool->DU:=λz20 z21=>some (.one (.int .i64 (-1)));let zL:Bool->Bool->DU:=λiF oq=>bif oq then(bif(a1==45)==true then(bif(a0==0)then(some (.one (.int .i64 1)))else(bif(a1==48)then(some (.one (.int .i64 2)))else(bif iF then(some (.one (.int .i64 3)))else kj)))else(bif false then(some (.one (.int .i64 1)))else(bif(a1==48)then(some (.one (.int .i64 2)))else(bif iF then(some (.one (.int .i64 3)))else kj))))else(let zM:Bool->Bool->DU:=λmB uo=>bif uo then(bif mB==true then(bif(a0==3)then(some (.one (.int .i64 3)))else(bif(a1==46)then(some (.one (.int .i64 4)))else(bif(a1==101)==false then(bif(a1==69)then(some (.one (.int .i64 6)))else kj)else(bif true then(some (.one (.int .i64 6)))else kj))))else(bif false then(some (.one (.int .i64 3)))else(bif(a1==46)then(some (.one (.int .i64 4)))else(bif(a1==101)==false then(bif(a1==69)then(some (.one (.int .i64 6)))else kj)else(bif true then(some (.one (.int .i64 6)))else kj)))))else(bif(a0==4)then(bif mB then(some (.one (.int .i64 5)))else kj)else(bif(a0==5)then(bif mB then(some (.one (.int .i64 5)))else(bif(a1==101)==false then(bif(a1==69)then(some (.one (.int .i64 6)))else kj)else(bif true then(some (.one (.int .i64 6)))else kj)))else(bif(a0==6)then(bif mB then(some (.one (.int .i64 8)))else(bif(a1==43)==false then(bif(a1==45)then(some (.one (.int .i64 7)))else kj)else(bif true then(some (.one (.int .i64 7)))else kj)))else(bif(a0==7)then(bif(a0==7)then(bif mB then(some (.one (.int .i64 8)))else kj)else(uq mB (a0==7)))else(bif(a0==8)then(bif mB then(some (.one (.int .i64 8)))else kj)else(Cl mB (a0==8)))))));bif(a0==2)then(zM iF (a0==2))else(zM iF (a0==3)));bif(a0==0)then(zL false (a0==0))else(zL false (a0==1)))
def C8q{a0 a1:Int}:A5 C4o NN Tryz.f230 [.int .i64 a0,.int .i32 a1]=A2B a0 a1:=En
def B3P:S1T
 |[.int .i64 a0,.int .i32 a1]=>pR [.int .i64] (A2B a0 a1)
 |_=>none
def C5b:Env Ty6 A4:=mkE [] [] noD 10 [] 0 [] []
def A5K(a0:Int):DU:=let j1:Bool->DU:=λz2=>some (.one (.int .i64 0));let j3:Bool->DU:=λz4=>some (.one (.int .i64 0));let j5:Bool->DU:=λz6=>bif z6 then(some (.one (.int .i64 1)))else(bif(a0==5)then(bif(a0==5)then(some (.one (.int .i64 2)))else(j1 (a0==5)))else(bif(a0==8)then(some (.one (.int .i64 2)))else(j3 (a0==8))));bif(a0==2)then(j5 (a0==2))else(j5 (a0==3))
def C5t{a0:Int}:A5 C5b NN Tryz.f231 [.int .i64 a0]=A5K a0:=En
def B43:S1T
 |[.int .i64 a0]=>pR [.int .i64] (A5K a0)
 |_=>none
def K5:Env Ty6 A4:=mkE [(230,B3P),(231,B43)] [] (lkD [(0,[4,5,6]),(1,[12,13,14,15,16,17,18]),(2,[0,1,19]),(3,[19,20]),(4,[1,21]),(5,[22,23,24]),(6,[11,26,27,42]),(7,[25,28,29,30,31,32,33]),(8,[34]),(9,[0,7,8,9,10,35,36,37,38]),(10,[35,39,40]),(11,[41]),(12,[11,42,43,44,45]),(13,[0,7,8,9,10,25,46,47,48,49])]) 50 [] 0 [] []
def D2K(a0:DS)(a1:Int)(x4 x5 x6:Int):S6:=⟨[eI 4 x4,eI 5 x5,eI 6 x6],[]⟩
def B5e(a0:DS)(a1:Int)(x7 x8 x9 aP:Int):S6:=⟨[eL 0 .i32 a0,eI 7 x7,eI 8 x8,eI 9 x9,eI 10 aP],[]⟩
def A7q(a0:DS)(a1:Int)(x7 x8 x9 aP:Int)(jh:Bool):S6:=E7 (eB 25 jh) (B5e a0 a1 x7 x8 x9 aP)
def B7M{R:Type}(nn:Nat)(a0:DS)(a1:Int)(x7 x8 x9 aP:Int)(k1:Int->Int->Int->Option R)(k2:Int->Int->Int->Int->Option R)(k3:Int->Int->Int->Int->Bool->Option R):Option R:=let z1:=decide (aP<(Ew a0:Int));bif z1 then(match idx a0 aP with|none=>none|some y2=>(gd (okR [.int .i64] (A2B x9 y2)) (let z3:=(lI (gL (A2B x9 y2) 0));let z4:=decide (z3<0);bif z4 then(k1 x7 aP x8)else(gd (okR [.int .i64] (A5K z3)) (let z5:=(lI (gL (A5K z3) 0));bif(z5 !=0)then(k2 (Ey .i64 (aP+1)) z5 z3 (Ey .i64 (aP+1)))else(k2 x7 x8 z3 (Ey .i64 (aP+1))))))))else(k3 x7 x8 x9 aP z1)
def A63{R:Type}(nn:Nat)(a0:DS)(a1:Int):Nat->Int->Int->Int->Int->(Int->Int->Int->Option R)->(Int->Int->Int->Int->Bool->Option R)->Option R
 |0,_,_,_,_,_,_=>none
 |n+1,x7,x8,x9,aP,k1,k3=>B7M nn a0 a1 x7 x8 x9 aP k1 (λx7 x8 x9 aP=>A63 nn a0 a1 n x7 x8 x9 aP k1 k3) k3
def C18{R:Type}(nn:Nat)(a0:DS)(a1:Int):∀(n:Nat)(x7 x8 x9 aP:Int)(K:Ex->S6->Option R),LP K5 nn Gx [1,1,1,0,1,0,0] 10005 n (B5e a0 a1 x7 x8 x9 aP) K=A63 nn a0 a1 n x7 x8 x9 aP (λx4 x5 x6=>K .ret (D2K a0 a1 x4 x5 x6)) (λx7 x8 x9 aP jh=>K (.exit 0) (A7q a0 a1 x7 x8 x9 aP jh))
 |0,_,_,_,_,_=>rfl
 |n+1,x7,x8,x9,aP,K=>by
  rw[A63];simp only[<-C18 nn a0 a1 n _ _ _ _ K];kernel_rfl
def B1e(nn:Nat)(a0:DS)(a1:Int):DU:=let j1:Bool->DU:=λz2=>A63 nn a0 a1 nn a1 0 0 a1 (λz3 z4 z5=>some (.tup [.int .i64 z3,.int .i64 z4,.int .i64 z5])) (λz6 z7 z8 z9 dJ=>some (.tup [.int .i64 z6,.int .i64 (Ew a0:Int),.int .i64 z7]));bif(decide (a1<0))==false then(let cW:=decide (a1>(Ew a0:Int));bif cW then(some (.tup [.int .i64 0,.int .i64 0,.int .i64 0]))else(j1 cW))else(bif true then(some (.tup [.int .i64 0,.int .i64 0,.int .i64 0]))else(j1 true))
def A4o(a0:DS)(a1:Int):DU:=B1e NN a0 a1
def B23(nn:Nat){a0:DS}{a1:Int}:A5 K5 nn Gx [.sl .i32 a0 none,.int .i64 a1]=B1e nn a0 a1:=by
 have h:A5 K5 nn Gx [.sl .i32 a0 none,.int .i64 a1]=let j1:Bool->DU:=λz2=>LP K5 nn Gx [1,1,1,0,1,0,0] 10005 nn (B5e a0 a1 a1 0 0 a1) (A7 0 (sk K5 nn Gx [1,1,1,1] (B3 K5 Tryz.f209.results.toList)));bif(decide (a1<0))==false then(let cW:=decide (a1>(Ew a0:Int));bif cW then(some (.tup [.int .i64 0,.int .i64 0,.int .i64 0]))else(j1 cW))else(bif true then(some (.tup [.int .i64 0,.int .i64 0,.int .i64 0]))else(j1 true)):=En
 rw[h];simp only[C18];show _=_;kernel_rfl
def S209:S1T
 |[.sl .i32 a0 none,.int .i64 a1]=>pR [.int .i64,.int .i64,.int .i64] (A4o a0 a1)
 |_=>none
def C0k:Env Ty6 A4:=mkE [(208,S208),(209,S209)] [] noD 38 [] 0 [] []
def A1f(a0:DS)(a1:Int):DU:=gd (okR [.int .i64,.int .i64,.int .i64] (A4o a0 a1)) (let z1:=(lI (gL (A4o a0 a1) 0));let z2:=(lI (gL (A4o a0 a1) 2));let j3:Int->Int->DU:=λz4 z5=>bif(z5==1)then(some (.tup [.int .i64 z4,.int .i64 4]))else(some (.tup [.int .i64 z4,.int .i64 5]));bif(z1==a1)==false then(match idx a0 z1 with|none=>none|some y6=>(bif(y6==46)==false then(match idx a0 z1 with|none=>none|some y7=>(gd (okR [.bool] (A4h y7)) (bif(lB (gL (A4h y7) 0))then(some (.tup [.int .i64 a1,.int .i64 1]))else(j3 z1 z2))))else(bif true then(some (.tup [.int .i64 a1,.int .i64 1]))else(j3 z1 z2))))else(bif true then(some (.tup [.int .i64 a1,.int .i64 1]))else(j3 z1 z2)))
def C9f{a0:DS}{a1:Int}:A5 C0k NN Tryz.f180 [.sl .i32 a0 none,.int .i64 a1]=A1f a0 a1:=En
def B5w:S1T
 |[.sl .i32 a0 none,.int .i64 a1]=>pR [.int .i64,.int .i64] (A1f a0 a1)
 |_=>none
def M1:Env Ty6 A4:=mkE [] [] noD 38 [] 0 [] []
def A2o(a0:DS)(a1 a2:Int):DU:=bif(decide ((Ey .i64 (a1+2))<(Ew a0:Int)))==true then(match idx a0 a1 with|none=>none|some y1=>(bif(y1==a2)==true then(match idx a0 (Ey .i64 (a1+1))with|none=>none|some y2=>(bif(y2==a2)==true then(match idx a0 (Ey .i64 (a1+2))with|none=>none|some y3=>(some (.one (.bool (y3==a2)))))else(some (.one (.bool false)))))else(some (.one (.bool false)))))else(some (.one (.bool false)))
def B3B{a0:DS}{a1 a2:Int}:A5 M1 NN Tryz.f210 [.sl .i32 a0 none,.int .i64 a1,.int .i32 a2]=A2o a0 a1 a2:=En
def S210:S1T
 |[.sl .i32 a0 none,.int .i64 a1,.int .i32 a2]=>pR [.bool] (A2o a0 a1 a2)
 |_=>none
def A4z:Env Ty6 A4:=mkE [(210,S210)] [] (lkD [(0,[4]),(1,[6,7]),(2,[8,9,10,11]),(3,[13,14,29]),(4,[12,16,17,18,19,20,21,22,23,24,25,26]),(5,[15,27,28]),(6,[15,30,31,32]),(7,[0,1,5,29,33,34]),(8,[0,1,5,12,35])]) 36 [] 0 [] []
def B4c(a0:DS)(a1:Int)(x5:Int):S6:=⟨[eL 0 .i32 a0,eI 1 a1,eI 5 x5],[]⟩
def D5q(a0:DS)(a1:Int)(x5:Int)(b9:Bool):S6:=E7 (eB 12 b9) (B4c a0 a1 x5)
def D2X(a0:DS)(a1:Int)(x4:Int):S6:=⟨[eI 4 x4],[]⟩
def B4F{R:Type}(nn:Nat)(a0:DS)(a1:Int)(x5:Int)(k1:Int->Option R)(k2:Int->Option R)(k3:Int->Bool->Option R):Option R:=match idx a0 x5 with|none=>none|some y1=>(let z2:=decide (y1>=0);bif z2 then(match idx a0 x5 with|none=>none|some y3=>(bif(y3==92)==true then(let r5:=A2o a0 (Ey .i64 (x5+1)) 34;gd (okR [.bool] r5) (bif(lB (gL r5 0))then(k1 (Ey .i64 (x5+4)))else(let r4:=A2o a0 x5 34;gd (okR [.bool] r4) (bif(lB (gL r4 0))then(k2 (Ey .i64 (x5+3)))else(k1 (Ey .i64 (x5+1)))))))else(bif false then(k1 (Ey .i64 (x5+4)))else(let r6:=A2o a0 x5 34;gd (okR [.bool] r6) (bif(lB (gL r6 0))then(k2 (Ey .i64 (x5+3)))else(k1 (Ey .i64 (x5+1))))))))else(k3 x5 z2))
def A40{R:Type}(nn:Nat)(a0:DS)(a1:Int):Nat->Int->(Int->Option R)->(Int->Bool->Option R)->Option R
 |0,_,_,_=>none
 |n+1,x5,k2,k3=>B4F nn a0 a1 x5 (λx5=>A40 nn a0 a1 n x5 k2 k3) k2 k3
def C1m{R:Type}(nn:Nat)(a0:DS)(a1:Int):∀(n:Nat)(x5:Int)(K:Ex->S6->Option R),LP A4z nn Gw [1,1,0,0,0] 10002 n (B4c a0 a1 x5) K=A40 nn a0 a1 n x5 (λx4=>K .ret (D2X a0 a1 x4)) (λx5 b9=>K (.exit 0) (D5q a0 a1 x5 b9))
 |0,_,_=>rfl
 |n+1,x5,K=>by
  rw[A40];simp only[<-C1m nn a0 a1 n _ K];kernel_rfl
def B1p(nn:Nat)(a0:DS)(a1:Int):DU:=A40 nn a0 a1 nn (Ey .i64 (a1+3)) (λz1=>some (.one (.int .i64 z1))) (λz2 z3=>some (.one (.int .i64 a1)))
def A54(a0:DS)(a1:Int):DU:=B1p NN a0 a1
def D60(nn:Nat){a0:DS}{a1:Int}:A5 A4z nn Gw [.sl .i32 a0 none,.int .i64 a1]=B1p nn a0 a1:=by
 have h:A5 A4z nn Gw [.sl .i32 a0 none,.int .i64 a1]=LP A4z nn Gw [1,1,0,0,0] 10002 nn (B4c a0 a1 (Ey .i64 (a1+3))) (A7 0 (sk A4z nn Gw [1,1,1] (B3 A4z Tryz.f211.results.toList))):=En
 rw[h];simp only[C1m];show _=_;kernel_rfl
def B3f:S1T
 |[.sl .i32 a0 none,.int .i64 a1]=>pR [.int .i64] (A54 a0 a1)
 |_=>none
def A4Z:Env Ty6 A4:=mkE [] [] (lkD [(0,[4]),(1,[6,7]),(2,[8,9,10,11,12,13,14,15,16,17,18,19,20,21,22,23,24,25]),(3,[26,27,28,29,30]),(4,[0,1,5,31,32,33]),(5,[31,34,35,36,37]),(6,[38,39,40]),(7,[41,42,43,44,45,46,47,48,49,50,51,52,53,54,55,56,57,58]),(8,[0,1,5,59,60]),(9,[38,59,61,62]),(10,[0,1,5,26,63])]) 64 [] 0 [] []
def B4H(a0:DS)(a1:Int)(x5:Int):S6:=⟨[eL 0 .i32 a0,eI 1 a1,eI 5 x5],[]⟩
def C7K(a0:DS)(a1:Int)(x5:Int)(ig:Bool):S6:=E7 (eB 26 ig) (B4H a0 a1 x5)
def C8z(a0:DS)(a1:Int)(x4:Int):S6:=⟨[eI 4 x4],[]⟩
def B7e{R:Type}(nn:Nat)(a0:DS)(a1:Int)(x5:Int)(k1:Int->Option R)(k2:Int->Option R)(k3:Int->Bool->Option R):Option R:=let j1:Int->Bool->Option R:=λz2 z3=>match idx a0 z2 with|none=>none|some y4=>(bif(y4==34)then(k1 (Ey .i64 (z2+1)))else(let j5:Int->Bool->Option R:=λz6 z7=>k2 (Ey .i64 (z6+1));match idx a0 z2 with|none=>none|some y8=>(bif(y8==92)then(let z9:=Ey .i64 (z2+1);match idx a0 z9 with|none=>none|some gf=>(bif(decide (gf<0))==false then(match idx a0 z9 with|none=>none|some hJ=>(bif(hJ==10)==false then(match idx a0 z9 with|none=>none|some jJ=>(bif(jJ==13)then(k1 a1)else(j5 z9 (jJ==13))))else(bif true then(k1 a1)else(j5 z9 true))))else(bif true then(k1 a1)else(j5 z9 true))))else(k2 (Ey .i64 (z2+1))))));match idx a0 x5 with|none=>none|some og=>(bif(decide (og>=0))==true then(match idx a0 x5 with|none=>none|some lO=>(bif(lO !=10)==true then(match idx a0 x5 with|none=>none|some sW=>(bif(sW !=13)then(j1 x5 (sW !=13))else(k3 x5 (sW !=13))))else(bif false then(j1 x5 false)else(k3 x5 false))))else(bif false then(j1 x5 false)else(k3 x5 false)))
def A3x{R:Type}(nn:Nat)(a0:DS)(a1:Int):Nat->Int->(Int->Option R)->(Int->Bool->Option R)->Option R
 |0,_,_,_=>none
 |n+1,x5,k1,k3=>B7e nn a0 a1 x5 k1 (λx5=>A3x nn a0 a1 n x5 k1 k3) k3
def B80{R:Type}(nn:Nat)(a0:DS)(a1:Int):∀(n:Nat)(x5:Int)(K:Ex->S6->Option R),LP A4Z nn Gv [1,1,0,0,0] 10002 n (B4H a0 a1 x5) K=A3x nn a0 a1 n x5 (λx4=>K .ret (C8z a0 a1 x4)) (λx5 ig=>K (.exit 0) (C7K a0 a1 x5 ig))
 |0,_,_=>rfl
 |n+1,x5,K=>by
  rw[A3x];simp only[<-B80 nn a0 a1 n _ K];kernel_rfl
def B10(nn:Nat)(a0:DS)(a1:Int):DU:=A3x nn a0 a1 nn (Ey .i64 (a1+1)) (λz1=>some (.one (.int .i64 z1))) (λz2 z3=>some (.one (.int .i64 a1)))
def A5L(a0:DS)(a1:Int):DU:=B10 NN a0 a1
def D7a(nn:Nat){a0:DS}{a1:Int}:A5 A4Z nn Gv [.sl .i32 a0 none,.int .i64 a1]=B10 nn a0 a1:=by
 have h:A5 A4Z nn Gv [.sl .i32 a0 none,.int .i64 a1]=LP A4Z nn Gv [1,1,0,0,0] 10002 nn (B4H a0 a1 (Ey .i64 (a1+1))) (A7 0 (sk A4Z nn Gv [1,1,1] (B3 A4Z Tryz.f213.results.toList))):=En
 rw[h];simp only[B80];show _=_;kernel_rfl
def B50:S1T
 |[.sl .i32 a0 none,.int .i64 a1]=>pR [.int .i64] (A5L a0 a1)
 |_=>none
def C2E:Env Ty6 A4:=mkE [(210,S210),(211,B3f),(212,B0k),(213,B50),(214,B1E)] [] noD 60 [] 0 [] []
def A0K(a0:DS)(a1:Int):DU:=let r5:=A2o a0 a1 34;gd (okR [.bool] r5) (bif(lB (gL r5 0))then(gd (okR [.int .i64] (A54 a0 a1)) (let z1:=(lI (gL (A54 a0 a1) 0));bif(z1==a1)then(some (.tup [.int .i64 a1,.int .i64 1,.str []]))else(match sub a0 (Ey .i64 (a1+3)) (Ey .i64 (z1 - 3))with|none=>none|some y2=>(gd (okR [.str,.int .i64] (A2E y2)) (bif((lI (gL (A2E y2) 1)) !=0)then(some (.tup [.int .i64 a1,.int .i64 1,.str []]))else(some (.tup [.int .i64 z1,.int .i64 7,.str (lS (gL (A2E y2) 0))])))))))else(gd (okR [.int .i64] (A5L a0 a1)) (let z3:=(lI (gL (A5L a0 a1) 0));bif(z3==a1)then(some (.tup [.int .i64 a1,.int .i64 1,.str []]))else(match sub a0 (Ey .i64 (a1+1)) (Ey .i64 (z3 - 1))with|none=>none|some y4=>(gd (okR [.str,.int .i64] (A2z y4)) (bif((lI (gL (A2z y4) 1)) !=0)then(some (.tup [.int .i64 a1,.int .i64 1,.str []]))else(some (.tup [.int .i64 z3,.int .i64 6,.str (lS (gL (A2z y4) 0))]))))))))
def D0J{a0:DS}{a1:Int}:A5 C2E NN Tryz.f181 [.sl .i32 a0 none,.int .i64 a1]=A0K a0 a1:=En
def B7O:S1T
 |[.sl .i32 a0 none,.int .i64 a1]=>pR [.int .i64,.int .i64,.str] (A0K a0 a1)
 |_=>none
def A5Y:Env Ty6 A4:=mkE [(210,S210)] [] (lkD [(0,[4]),(3,[7,8,9]),(4,[11,12,21]),(5,[10,13,14,15,16,17,18,19,20]),(6,[0,1,5,6,21,22,23]),(7,[0,5,6,10,24,25]),(8,[1,26,27,28]),(9,[1,26,29])]) 30 [] 0 [] []
def B3C(a0:DS)(a1:Int)(x5:DT)(x6:Int):S6:=⟨[eL 0 .i32 a0,eI 1 a1,eS 5 x5,eI 6 x6],[]⟩
def D3w(a0:DS)(a1:Int)(x5:DT)(x6:Int)(aP:Bool):S6:=E7 (eB 10 aP) (B3C a0 a1 x5 x6)
def C5Q(a0:DS)(a1:Int)(x4:Int):S6:=⟨[eI 4 x4],[]⟩
def B1d{R:Type}(nn:Nat)(a0:DS)(a1:Int)(x5:DT)(x6:Int)(k1:Int->Option R)(k2:(DT)->Int->Option R)(k3:(DT)->Int->Bool->Option R):Option R:=let z1:=decide (x6<(Ew x5:Int));bif z1 then(match idx a0 a1 with|none=>none|some y2=>(match idx x5 x6 with|none=>none|some y3=>(let z4:=y2==(Ey .i32 (Fj y3:Int));bif z4 then(k1 (Ey .i64 (a1+1)))else(k2 x5 (Ey .i64 (x6+1))))))else(k3 x5 x6 z1)
def A7l{R:Type}(nn:Nat)(a0:DS)(a1:Int):Nat->(DT)->Int->(Int->Option R)->((DT)->Int->Bool->Option R)->Option R
 |0,_,_,_,_=>none
 |n+1,x5,x6,k1,k3=>B1d nn a0 a1 x5 x6 k1 (λx5 x6=>A7l nn a0 a1 n x5 x6 k1 k3) k3
def C2q{R:Type}(nn:Nat)(a0:DS)(a1:Int):∀(n:Nat)(x5:DT)(x6:Int)(K:Ex->S6->Option R),LP A5Y nn Gz [1,1,0,1,0,0] 10003 n (B3C a0 a1 x5 x6) K=A7l nn a0 a1 n x5 x6 (λx4=>K .ret (C5Q a0 a1 x4)) (λx5 x6 aP=>K (.exit 0) (D3w a0 a1 x5 x6 aP))
 |0,_,_,_=>rfl
 |n+1,x5,x6,K=>by
  rw[A7l];simp only[<-C2q nn a0 a1 n _ _ K];kernel_rfl
def A7M(nn:Nat)(a0:DS)(a1:Int):DU:=A7l nn a0 a1 nn [33,36,38,40,41,58,61,64,91,93,123,124,125] 0 (λz1=>some (.one (.int .i64 z1))) (λz2 z3 z4=>let r6:=A2o a0 a1 46;gd (okR [.bool] r6) (let z5:=(lB (gL r6 0));bif z5 then(some (.one (.int .i64 (Ey .i64 (a1+3)))))else(some (.one (.int .i64 a1)))))
def A33(a0:DS)(a1:Int):DU:=A7M NN a0 a1
def C78(nn:Nat){a0:DS}{a1:Int}:A5 A5Y nn Gz [.sl .i32 a0 none,.int .i64 a1]=A7M nn a0 a1:=by
 have h:A5 A5Y nn Gz [.sl .i32 a0 none,.int .i64 a1]=LP A5Y nn Gz [1,1,0,1,0,0] 10003 nn (B3C a0 a1 [33,36,38,40,41,58,61,64,91,93,123,124,125] 0) (A7 0 (sk A5Y nn Gz [1,1,1] (B3 A5Y Tryz.f182.results.toList))):=En
 rw[h];simp only[C2q];show _=_;kernel_rfl
def B7B:S1T
 |[.sl .i32 a0 none,.int .i64 a1]=>pR [.int .i64] (A33 a0 a1)
 |_=>none
def C25:Env Ty6 A4:=mkE [(177,B2Z),(178,B4Q),(179,B5K),(180,B5w),(181,B7O),(182,B7B)] [] noD 63 [] 0 [] []
def A3G(a0:DS)(a1:Int):DU:=match idx a0 a1 with|none=>none|some y1=>(bif(y1==(-2))then(some (.tup [.int .i64 a1,.int .i64 0,.str []]))else(match idx a0 a1 with|none=>none|some y2=>(gd (okR [.bool] (A7p y2)) (bif(lB (gL (A7p y2) 0))then(gd (okR [.int .i64] (A44 a0 a1)) (some (.tup [.int .i64 (lI (gL (A44 a0 a1) 0)),.int .i64 3,.str []])))else(let j3:DU:=match idx a0 a1 with|none=>none|some y4=>(bif(y4==34)then(gd (okR [.int .i64,.int .i64,.str] (A0K a0 a1)) (some (.tup [.int .i64 (lI (gL (A0K a0 a1) 0)),.int .i64 (lI (gL (A0K a0 a1) 1)),.str (lS (gL (A0K a0 a1) 2))])))else(gd (okR [.int .i64] (A33 a0 a1)) (let z5:=(lI (gL (A33 a0 a1) 0));bif(decide (z5>a1))then(some (.tup [.int .i64 z5,.int .i64 2,.str []]))else(some (.tup [.int .i64 a1,.int .i64 1,.str []])))));match idx a0 a1 with|none=>none|some y6=>(gd (okR [.bool] (A7r y6)) (bif(lB (gL (A7r y6) 0))==false then(match idx a0 a1 with|none=>none|some y7=>(bif(y7==45)then(gd (okR [.int .i64,.int .i64] (A1f a0 a1)) (some (.tup [.int .i64 (lI (gL (A1f a0 a1) 0)),.int .i64 (lI (gL (A1f a0 a1) 1)),.str []])))else j3))else(bif true then(gd (okR [.int .i64,.int .i64] (A1f a0 a1)) (some (.tup [.int .i64 (lI (gL (A1f a0 a1) 0)),.int .i64 (lI (gL (A1f a0 a1) 1)),.str []])))else j3))))))))
def C7Z{a0:DS}{a1:Int}:A5 C25 NN Tryz.f124 [.sl .i32 a0 none,.int .i64 a1]=A3G a0 a1:=En
def B6m:S1T
 |[.sl .i32 a0 none,.int .i64 a1]=>pR [.int .i64,.int .i64,.str] (A3G a0 a1)
 |_=>none
def C03:Env Ty6 A4:=mkE [(175,B0W)] [] noD 56 [] 0 [] []
def A5B(a0:Int):DU:=gd (okR [.bool] (A01 a0)) (bif(!(lB (gL (A01 a0) 0)))then(some (.one (.sl .u8 [] (some 1))))else(let z1:=Ey .u8 (Ey .i32 (128+(Ii a0 64)));let z2:=Ey .u8 (Ey .i32 (128+(Ii (Ey .i32 (Hp a0 64)) 64)));bif(decide (a0<128))then(some (.one (.sl .u8 [Ey .u8 a0] (some 1))))else(bif(decide (a0<2048))then(some (.one (.sl .u8 [Ey .u8 (Ey .i32 (192+(Ey .i32 (Hp a0 64)))),z1] (some 1))))else(bif(decide (a0<65536))then(some (.one (.sl .u8 [Ey .u8 (Ey .i32 (224+(Ey .i32 (Hp a0 4096)))),z2,z1] (some 1))))else(some (.one (.sl .u8 [Ey .u8 (Ey .i32 (240+(Ey .i32 (Hp a0 262144)))),(Ey .u8 (Ey .i32 (128+(Ii (Ey .i32 (Hp a0 4096)) 64)))),z2,z1] (some 1))))))))
def D0f{a0:Int}:A5 C03 NN Tryz.f172 [.int .i32 a0]=A5B a0:=En
def B3L:S1T
 |[.int .i32 a0]=>pR [.sl .u8 (some 1)] (A5B a0)
 |_=>none
def A5X:Env Ty6 A4:=mkE [(172,B3L)] [] (lkD [(0,[2,3]),(3,[7,8,9]),(4,[11,12]),(5,[10,13,14,15,16,17]),(6,[18,19]),(7,[0,4,5,6,20]),(8,[6,20,21,22,23]),(9,[0,4,5,10,24,25])]) 26 [] 0 [] []
def B7s(a0:DS)(x4:DS)(x5:Int):S6:=⟨[eL 0 .i32 a0,(4,.one (.sl .u8 x4 (some 104))),eI 5 x5],[104]⟩
def D1k(a0:DS)(x4:DS)(x5:Int)(aP:Bool):S6:=E7 (eB 10 aP) (B7s a0 x4 x5)
def C9E(a0:DS):S6:=⟨[eS 2 [],eB 3 false],[]⟩
def B0m{R:Type}(nn:Nat)(a0:DS)(x4:DS)(x5:Int)(k1:Option R)(k2:(DS)->Int->Option R)(k3:(DS)->Int->Bool->Option R):Option R:=let z1:=decide (x5<(Ew a0:Int));bif z1 then(match idx a0 x5 with|none=>none|some y2=>(gd (okR [.sl .u8 (some 1)] (A5B y2)) (let z3:=(A6 (gL (A5B y2) 0));let z4:=(Ew z3:Int)==0;bif z4 then k1 else(gd (A3 (Ew x4+Ew z3) 1) (k2 (x4++z3) (Ey .i64 (x5+1)))))))else(k3 x4 x5 z1)
def A7k{R:Type}(nn:Nat)(a0:DS):Nat->(DS)->Int->(Option R)->((DS)->Int->Bool->Option R)->Option R
 |0,_,_,_,_=>none
 |n+1,x4,x5,k1,k3=>B0m nn a0 x4 x5 k1 (λx4 x5=>A7k nn a0 n x4 x5 k1 k3) k3
def C0U{R:Type}(nn:Nat)(a0:DS):∀(n:Nat)(x4:DS)(x5:Int)(K:Ex->S6->Option R),LP A5X nn Hk [1,1,0,1,0,0] 10003 n (B7s a0 x4 x5) K=A7k nn a0 n x4 x5 (K .ret (C9E a0)) (λx4 x5 aP=>K (.exit 0) (D1k a0 x4 x5 aP))
 |0,_,_,_=>rfl
 |n+1,x4,x5,K=>by
  rw[A7k];simp only[<-C0U nn a0 n _ _ K];kernel_rfl
def A80(nn:Nat)(a0:DS):DU:=A7k nn a0 nn [] 0 (some (.tup [.str [],.bool false])) (λz1 z2 z3=>some (.tup [.str (Hw (λ(n:Int)=>Hy n.toNat) z1),.bool true]))
def A38(a0:DS):DU:=A80 NN a0
def D6m(nn:Nat){a0:DS}:A5 A5X nn Hk [.sl .i32 a0 none]=A80 nn a0:=by
 have h:A5 A5X nn Hk [.sl .i32 a0 none]=LP A5X nn Hk [1,1,0,1,0,0] 10003 nn (B7s a0 [] 0) (A7 0 (sk A5X nn Hk [1,1,1] (B3 A5X Tryz.f125.results.toList))):=En
 rw[h];simp only[C0U];show _=_;kernel_rfl
def B7q:S1T
 |[.sl .i32 a0 none]=>pR [.str,.bool] (A38 a0)
 |_=>none
def E55:Env Ty6 A4:=mkE [(123,B6R),(124,B6m),(125,B7q)] [] noD 41 [6] 0 [] []
def F55(a0:DS)(a1:List B1)(a2:Int):DU:=gd (okR [.int .i64] (A3M a0 a2)) (let z1:=(lI (gL (A3M a0 a2) 0));gd (okR [.int .i64,.int .i64,.str] (A3G a0 z1)) (let z2:=(lI (gL (A3G a0 z1) 0));match sub a0 z1 z2 with|none=>none|some y3=>(gd (okR [.str,.bool] (A38 y3)) (match idx a1 z1 with|none=>none|some y4=>(some (.one (.agg .tok (⟨(lI (gL (A3G a0 z1) 1)),(⟨y4.line,y4.col⟩:B1),z1,z2,(lS (gL (A38 y3) 0)),(lS (gL (A3G a0 z1) 2))⟩:A0))))))))
def B22{a0:DS}{a1:List B1}{a2:Int}:A5 E55 NN Tryz.f55 [.sl .i32 a0 none,.sl .pos a1 none,.int .i64 a2]=F55 a0 a1 a2:=En
def S55:S1T
 |[.sl .i32 a0 none,.sl .pos a1 none,.int .i64 a2]=>pR [.agg .tok] (F55 a0 a1 a2)
 |_=>none
def E24:Env Ty6 A4:=mkE [(52,S52),(53,S53),(54,S54),(55,S55)] [] (lkD [(0,[2,1000109]),(1,[10,11,12,13,14,1000109]),(2,[0,4,15,16,17,18,19,20,1000109]),(3,[3,21,22,1000109]),(4,[1000109]),(5,[1000109]),(6,[8,23,24,25,26]),(7,[27,28,29,30]),(8,[31,32,33,34,35,36,37]),(9,[5,6,7,9,38,39,1000109]),(10,[9,38,40,41,1000109]),(10006,[1000109])]) 42 [] 0 [] []
def C1u(a0:DS)(x5:DS)(x6:List B1)(x7:DZ)(x8:Int):S6:=⟨[(5,.one (.sl .i32 x5 (some 1020))),(6,.one (.sl .pos x6 (some 1022))),(7,.one (.sl .tok x7 (some 107))),eI 8 x8],[107,1020,1022]⟩
def D6u(a0:DS)(x2:DZ):S6:=⟨[(2,.one (.sl .tok x2 (some 107)))],[107]⟩
def B5R{R:Type}(nn:Nat)(a0:DS)(x5:DS)(x6:List B1)(x7:DZ)(x8:Int)(k1:(DZ)->Option R)(k2:(DS)->(List B1)->(DZ)->Int->Option R):Option R:=let r8:=F55 x5 x6 x8;gd (okR [.agg .tok] r8) (let z1:=(J4 (gL r8 0));gd (A3 (Ew x7+1) 72) (let j2:(DS)->(List B1)->(DZ)->A0->Bool->Option R:=λz3 z4 z5 z6 z7=>k2 z3 z4 z5 z6.to_;bif(z1.kind==0)==false then(bif(z1.kind==1)then(k1 (x7++[z1]))else(j2 x5 x6 (x7++[z1]) z1 (z1.kind==1)))else(bif true then(k1 (x7++[z1]))else(j2 x5 x6 (x7++[z1]) z1 true))))
def A5l{R:Type}(nn:Nat)(a0:DS):Nat->(DS)->(List B1)->(DZ)->Int->((DZ)->Option R)->Option R
 |0,_,_,_,_,_=>none
 |n+1,x5,x6,x7,x8,k1=>B5R nn a0 x5 x6 x7 x8 k1 (λx5 x6 x7 x8=>A5l nn a0 n x5 x6 x7 x8 k1)
def C0J{R:Type}(nn:Nat)(a0:DS):∀(n:Nat)(x5:DS)(x6:List B1)(x7:DZ)(x8:Int)(K:Ex->S6->Option R),LP E24 nn Ht [1,1,1,1,1,1,0,0] 10006 n (C1u a0 x5 x6 x7 x8) K=A5l nn a0 n x5 x6 x7 x8 (λx2=>K .ret (D6u a0 x2))
 |0,_,_,_,_,_=>rfl
 |n+1,x5,x6,x7,x8,K=>by
  rw[A5l];simp only[<-C0J nn a0 n _ _ _ _ K];kernel_rfl
def B1T(nn:Nat)(a0:DS):DU:=gd (okR [.sl .i32 (some 1),.int .i64] (F52 a0)) (let z1:=(A6r (gL (F52 a0) 0));let z2:=(lI (gL (F52 a0) 1));let r4:=F53 z1 (z2==(Ew a0:Int));gd (okR [.sl .i32 (some 1)] r4) (gd (okR [.sl .pos (some 1)] (F54 z1)) (A5l nn a0 nn (A6r (gL r4 0)) (B2K (gL (F54 z1) 0)) [] 0 (λz3=>some (.one (.sl .tok z3 (some 1)))))))
def F24(a0:DS):DU:=B1T NN a0
def D7L(nn:Nat){a0:DS}:A5 E24 nn Ht [.sl .u8 a0 none]=B1T nn a0:=by
 have h:A5 E24 nn Ht [.sl .u8 a0 none]=gd (okR [.sl .i32 (some 1),.int .i64] (F52 a0)) (let z1:=(A6r (gL (F52 a0) 0));let z2:=(lI (gL (F52 a0) 1));let r4:=F53 z1 (z2==(Ew a0:Int));gd (okR [.sl .i32 (some 1)] r4) (gd (okR [.sl .pos (some 1)] (F54 z1)) (LP E24 nn Ht [1,1,1,1,1,1,0,0] 10006 nn (C1u a0 (A6r (gL r4 0)) (B2K (gL (F54 z1) 0)) [] 0) (A7 0 (B3 E24 Tryz.f24.results.toList))))):=En
 rw[h];simp only[C0J];show _=_;kernel_rfl
def S24:S1T
 |[.sl .u8 a0 none]=>pR [.sl .tok (some 1)] (F24 a0)
 |_=>none
def E62:Env Ty6 A4:=mkE [] [(138,B0v)] noD 19 [] 1 [] []
def F62(a1:DT)(aa:DS):DW:=gd (okB [] kP (A47 aa)) (let z1:=(A6 (gC (A47 aa) 0 1));gd (A3 (Ew z1+Ew a1) 1) (some ([.int .i64 (Ew a1:Int),.any],[[.ptr 900000 B4,.sl .u8 (z1++Hw (λ(c:UInt8)=>(c.toNat:Int)) a1) (some 92000001)]])))
def B3G{a1:DT}{aa:DS}:C5 E62 NN Tryz.f62 [0] [.ptr 900000 0,.str a1] [[.ptr 900000 B4,.sl .u8 aa (some 92000001)]]=F62 a1 aa:=En
def S62:S2T
 |[.ptr d0 o0,.str a1],[[.ptr p0 q0,.sl .u8 aa (some bM)]]=>bif bq d0 o0&&pq p0 q0&&(Fb bM 92000001)then pB [.int .i64,.any] kP (F62 a1 aa)else none
 |_,_=>none
def E27:Env Ty6 A4:=mkE [] [(62,S62)] (lkD [(0,[1]),(2,[9,10,11]),(3,[5,12,13,14,15,16]),(4,[17])]) 18 [] 1 [] []
def B6X(a1:Eb)(aa:DS)(x7 x8:Int)(af:DS):S6:=pg [eL 6 .str a1,eI 7 x7,eI 8 x8] af
def D5C(a1:Eb)(aa:DS)(x7 x8:Int)(x9:Bool)(af:DS):S6:=E7 (eB 9 x9) (B6X a1 aa x7 x8 af)
def B2t{R:Type}(nn:Nat)(a1:Eb)(aa:DS)(x7 x8:Int)(af:DS)(k1:Int->Int->(DS)->Option R)(k2:Int->Int->Bool->(DS)->Option R):Option R:=let z1:=decide (x8<x7);bif z1 then(match idx a1 x8 with|none=>none|some y2=>(let r3:=F62 y2 af;gd (okB [.int .i64,.any] kP r3) (k1 x7 (Ey .i64 (x8+1)) (A6 (gC r3 0 1)))))else(k2 x7 x8 z1 af)
def A7u{R:Type}(nn:Nat)(a1:Eb)(aa:DS):Nat->Int->Int->(DS)->(Int->Int->Bool->(DS)->Option R)->Option R
 |0,_,_,_,_=>none
 |n+1,x7,x8,af,k2=>B2t nn a1 aa x7 x8 af (λx7 x8 af=>A7u nn a1 aa n x7 x8 af k2) k2
def C3x{R:Type}(nn:Nat)(a1:Eb)(aa:DS):∀(n:Nat)(x7 x8:Int)(af:DS)(K:Ex->S6->Option R),LP E27 nn Hs [1,0,0] 10001 n (B6X a1 aa x7 x8 af) K=A7u nn a1 aa n x7 x8 af (λx7 x8 x9 af=>K (.exit 0) (D5C a1 aa x7 x8 x9 af))
 |0,_,_,_,_=>rfl
 |n+1,x7,x8,af,K=>by
  rw[A7u];simp only[<-C3x nn a1 aa n _ _ _ K];kernel_rfl
def A8D(nn:Nat)(a1:Eb)(aa:DS):DW:=A7u nn a1 aa nn (Ew a1:Int) 0 aa (λz1 z2 z3 z4=>some ([],[[.ptr 900000 B4,.sl .u8 z4 (some 92000001)]]))
def F27(a1:Eb)(aa:DS):DW:=A8D NN a1 aa
def B3m(nn:Nat){a1:Eb}{aa:DS}:C5 E27 nn Hs [0] [.ptr 900000 0,.sl .str a1 none] [[.ptr 900000 B4,.sl .u8 aa (some 92000001)]]=A8D nn a1 aa:=by
 have h:C5 E27 nn Hs [0] [.ptr 900000 0,.sl .str a1 none] [[.ptr 900000 B4,.sl .u8 aa (some 92000001)]]=LP E27 nn Hs [1,0,0] 10001 nn (B6X a1 aa (Ew a1:Int) 0 aa) (A7 0 (L9 E27 Tryz.f27.results.toList [0] [[.ptr 900000 B4,.sl .u8 aa (some 92000001)]])):=En
 rw[h];simp only[C3x];show _=_;kernel_rfl
def S27:S2T
 |[.ptr d0 o0,.sl .str a1 none],[[.ptr p0 q0,.sl .u8 aa (some bM)]]=>bif bq d0 o0&&pq p0 q0&&(Fb bM 92000001)then pB [] kP (F27 a1 aa)else none
 |_,_=>none
def B77:Env Ty6 A4:=mkE [(47,S47)] [(27,S27)] noD 9 [] 1 [] []
def A49(a1:Int)(aa:DS):DW:=let r2:=F47 [32,32] a1;gd (okR [.str] r2) (let r1:=F27 [(lS (gL r2 0))] aa;gd (okB [] kP r1) (some ([],[[.ptr 900000 B4,.sl .u8 (A6 (gC r1 0 1)) (some 92000001)]])))
def D7T{a1:Int}{aa:DS}:C5 B77 NN Tryz.f139 [0] [.ptr 900000 0,.int .i64 a1] [[.ptr 900000 B4,.sl .u8 aa (some 92000001)]]=A49 a1 aa:=En
def B57:S2T
 |[.ptr d0 o0,.int .i64 a1],[[.ptr p0 q0,.sl .u8 aa (some bM)]]=>bif bq d0 o0&&pq p0 q0&&(Fb bM 92000001)then pB [] kP (A49 a1 aa)else none
 |_,_=>none
def E64:Env Ty6 A4:=mkE [] [] (lkD [(0,[2,1000105]),(1,[1000105]),(2,[0,1000105]),(3,[1000105]),(4,[9,10,11]),(5,[5,12,13,14,15,16,1000105]),(6,[17,1000105]),(7,[3,6,7,8,9,18,1000105]),(10003,[1000105])]) 19 [] 0 [] []
def B6z(a0:Ee)(x3:List PartT)(x7 x8:Int):S6:=⟨[(3,.one (.sl .part x3 (some 103))),eL 6 .sel a0,eI 7 x7,eI 8 x8],[103]⟩
def D4z(a0:Ee)(x3:List PartT)(x7 x8:Int)(x9:Bool):S6:=E7 (eB 9 x9) (B6z a0 x3 x7 x8)
def B5y{R:Type}(nn:Nat)(a0:Ee)(x3:List PartT)(x7 x8:Int)(k1:(List PartT)->Int->Int->Option R)(k2:(List PartT)->Int->Int->Bool->Option R):Option R:=let z1:=decide (x8<x7);bif z1 then(match idx a0 x8 with|none=>none|some y2=>(gd (A3 (Ew x3+1) 16) (k1 (x3++[PartT.sel y2]) x7 (Ey .i64 (x8+1)))))else(k2 x3 x7 x8 z1)
def A69{R:Type}(nn:Nat)(a0:Ee):Nat->(List PartT)->Int->Int->((List PartT)->Int->Int->Bool->Option R)->Option R
 |0,_,_,_,_=>none
 |n+1,x3,x7,x8,k2=>B5y nn a0 x3 x7 x8 (λx3 x7 x8=>A69 nn a0 n x3 x7 x8 k2) k2
def B9x{R:Type}(nn:Nat)(a0:Ee):∀(n:Nat)(x3:List PartT)(x7 x8:Int)(K:Ex->S6->Option R),LP E64 nn Gm [1,1,0,1,0,0] 10003 n (B6z a0 x3 x7 x8) K=A69 nn a0 n x3 x7 x8 (λx3 x7 x8 x9=>K (.exit 0) (D4z a0 x3 x7 x8 x9))
 |0,_,_,_,_=>rfl
 |n+1,x3,x7,x8,K=>by
  rw[A69];simp only[<-B9x nn a0 n _ _ _ K];kernel_rfl
def B81(nn:Nat)(a0:Ee):DU:=A69 nn a0 nn [] (Ew a0:Int) 0 (λz1 z2 z3 z4=>some (.one (.sl .part z1 (some 1))))
def F64(a0:Ee):DU:=B81 NN a0
def D0e(nn:Nat){a0:Ee}:A5 E64 nn Gm [.sl .sel a0 none]=B81 nn a0:=by
 have h:A5 E64 nn Gm [.sl .sel a0 none]=LP E64 nn Gm [1,1,0,1,0,0] 10003 nn (B6z a0 [] (Ew a0:Int) 0) (A7 0 (sk E64 nn Gm [1,1,1] (B3 E64 Tryz.f64.results.toList))):=En
 rw[h];simp only[B9x];show _=_;kernel_rfl
def S64:S1T
 |[.sl .sel a0 none]=>pR [.sl .part (some 1)] (F64 a0)
 |_=>none
def E86:Env Ty6 A4:=mkE [(155,A9u),(156,B0p)] [] noD 22 [] 0 [] []
def F86(a0:Bool)(a1:DT):DU:=bif a0 then(gd (okR [.str,.bool] (A4e a1)) (some (.one (.str (lS (gL (A4e a1) 0))))))else(gd (okR [.str,.int .i64] (A3N a1)) (some (.one (.str (lS (gL (A3N a1) 0))))))
def D5y{a0:Bool}{a1:DT}:A5 E86 NN Tryz.f86 [.bool a0,.str a1]=F86 a0 a1:=En
def S86:S1T
 |[.bool a0,.str a1]=>pR [.str] (F86 a0 a1)
 |_=>none
def C0a:Env Ty6 A4:=mkE [] [(27,S27)] noD 9 [] 1 [] []
def A1N(a1:Int)(aa:DS):DW:=bif(decide (a1>0))then(let r1:=F27 [[44,32]] aa;gd (okB [] kP r1) (some ([],[[.ptr 900000 B4,.sl .u8 (A6 (gC r1 0 1)) (some 92000001)]])))else(some ([],[[.ptr 900000 B4,.sl .u8 aa (some 92000001)]]))
def C5m{a1:Int}{aa:DS}:C5 C0a NN Tryz.f101 [0] [.ptr 900000 0,.int .i64 a1] [[.ptr 900000 B4,.sl .u8 aa (some 92000001)]]=A1N a1 aa:=En
def A6c:S2T
 |[.ptr d0 o0,.int .i64 a1],[[.ptr p0 q0,.sl .u8 aa (some bM)]]=>bif bq d0 o0&&pq p0 q0&&(Fb bM 92000001)then pB [] kP (A1N a1 aa)else none
 |_,_=>none
def B2j(g:LitT->(DS)->DW):S2T
 |[.ptr d0 o0,.agg .lit a1],[[.ptr p0 q0,.sl .u8 aa (some bM)]]=>bif bq d0 o0&&pq p0 q0&&(Fb bM 92000001)then pB [] kP (g a1 aa)else none
 |_,_=>none
def E44(dP:LitT->(DS)->DW):Env Ty6 A4:=mkE [(86,S86)] [(27,S27),(44,B2j dP),(101,A6c)] (lkD [(0,[1,1000105,1000107]),(1,[8,1000105,1000107]),(2,[11,1000105,1000107]),(3,[3,9,10,12,13,14,15,16,1000103,1000105,1000107]),(4,[10,18,1000105,1000107]),(5,[19,1000105,1000107]),(6,[20,1000105,1000107]),(7,[21,1000105,1000107]),(8,[3,9,17,22,23,24,25,26,1000103,1000105,1000107]),(9,[17,28,1000105,1000107]),(10,[3,9,27,29,30,31,1000103,1000105,1000107]),(11,[27,33,1000105,1000107]),(12,[3,9,32,34,35,36,37,38,39,40,41,1000103,1000105,1000107]),(13,[32,43,1000105,1000107]),(14,[9,42,44,45,46,1000105,1000107]),(15,[3,47,1000103,1000105,1000107]),(16,[1000103,1000105,1000107]),(17,[51,52,53,54,1000103,1000107]),(18,[4,55,56,57,1000103,1000107]),(19,[5,58,59,60,1000103,1000105,1000107]),(20,[61,1000103,1000105,1000107]),(21,[48,49,50,51,62,63,64,1000103,1000105,1000107]),(22,[9,42,66,1000105,1000107]),(23,[65,67,68,69,1000105,1000107]),(24,[3,70,1000103,1000105,1000107]),(25,[1000103,1000105,1000107]),(26,[74,75,76,77,1000103,1000105]),(27,[6,78,79,80,1000103,1000105]),(28,[81,82,83,84,85,1000103,1000105]),(29,[7,86,87,88,89,1000103,1000105,1000107]),(30,[90,1000103,1000105,1000107]),(31,[71,72,73,74,91,92,93,1000103,1000105,1000107]),(10016,[1000103,1000105,1000107]),(10025,[1000103,1000105,1000107])]) 94 [5,7] 1 [] []
def B2L(a1:LitT)(aa:DS)(iG:List LitT)(fJ gE:Int)(af:DS):S6:=pg [eL 48 .lit iG,eI 49 fJ,eI 50 gE] af
def D63(a1:LitT)(aa:DS)(iG:List LitT)(fJ gE:Int)(w9:Bool)(af:DS):S6:=E7 (eB 51 w9) (B2L a1 aa iG fJ gE af)
def B7o(a1:LitT)(aa:DS)(iH:List LfT)(iI gF:Int)(af:DS):S6:=pg [eL 71 .lf iH,eI 72 iI,eI 73 gF] af
def C9b(a1:LitT)(aa:DS)(iH:List LfT)(iI gF:Int)(xa:Bool)(af:DS):S6:=E7 (eB 74 xa) (B7o a1 aa iH iI gF af)
def A6x{R:Type}(nn:Nat)(dP:LitT->(DS)->DW)(a1:LitT)(aa:DS)(iG:List LitT)(fJ gE:Int)(af:DS)(k1:(List LitT)->Int->Int->(DS)->Option R)(k2:(List LitT)->Int->Int->Bool->(DS)->Option R):Option R:=let z1:=decide (gE<fJ);bif z1 then(match idx iG gE with|none=>none|some y2=>(let r5:=A1N gE af;gd (okB [] kP r5) (let z3:=(A6 (gC r5 0 1));let r4:=dP (LitT.mk y2.kind y2.text y2.block y2.items y2.fields (⟨y2.pos.line,y2.pos.col⟩:B1)) z3;gd (okB [] kP r4) (k1 iG fJ (Ey .i64 (gE+1)) (A6 (gC r4 0 1))))))else(k2 iG fJ gE z1 af)
def A5N{R:Type}(nn:Nat)(dP:LitT->(DS)->DW)(a1:LitT)(aa:DS):Nat->(List LitT)->Int->Int->(DS)->((List LitT)->Int->Int->Bool->(DS)->Option R)->Option R
 |0,_,_,_,_,_=>none
 |n+1,iG,fJ,gE,af,k2=>A6x nn dP a1 aa iG fJ gE af (λiG fJ gE af=>A5N nn dP a1 aa n iG fJ gE af k2) k2
def C1W{R:Type}(nn:Nat)(dP:LitT->(DS)->DW)(a1:LitT)(aa:DS):∀(n:Nat)(iG:List LitT)(fJ gE:Int)(af:DS)(K:Ex->S6->Option R),LP (E44 dP) nn Fs [1,1,0,1,1,1,1,1,1,1,1,1,0,1,0,1,0,0] 10016 n (B2L a1 aa iG fJ gE af) K=A5N nn dP a1 aa n iG fJ gE af (λiG fJ gE w9 af=>K (.exit 1) (D63 a1 aa iG fJ gE w9 af))
 |0,_,_,_,_,_=>rfl
 |n+1,iG,fJ,gE,af,K=>by
  rw[A5N];simp only[<-C1W nn dP a1 aa n _ _ _ _ K];kernel_rfl
def A6Q{R:Type}(nn:Nat)(dP:LitT->(DS)->DW)(a1:LitT)(aa:DS)(iH:List LfT)(iI gF:Int)(af:DS)(k1:(List LfT)->Int->Int->(DS)->Option R)(k2:(List LfT)->Int->Int->Bool->(DS)->Option R):Option R:=let z1:=decide (gF<iI);bif z1 then(match idx iH gF with|none=>none|some y2=>(let z3:=y2.value.fields;let z4:=y2.value.pos.line;let z5:=y2.value.pos.col;let cD:=A1N gF af;gd (okB [] kP cD) (let z6:=(A6 (gC cD 0 1));let r9:=F27 [y2.name,[58,32]] z6;gd (okB [] kP r9) (let z7:=(A6 (gC r9 0 1));let r8:=dP (LitT.mk y2.value.kind y2.value.text y2.value.block y2.value.items z3 (⟨z4,z5⟩:B1)) z7;gd (okB [] kP r8) (k1 iH iI (Ey .i64 (gF+1)) (A6 (gC r8 0 1)))))))else(k2 iH iI gF z1 af)
def A5G{R:Type}(nn:Nat)(dP:LitT->(DS)->DW)(a1:LitT)(aa:DS):Nat->(List LfT)->Int->Int->(DS)->((List LfT)->Int->Int->Bool->(DS)->Option R)->Option R
 |0,_,_,_,_,_=>none
 |n+1,iH,iI,gF,af,k2=>A6Q nn dP a1 aa iH iI gF af (λiH iI gF af=>A5G nn dP a1 aa n iH iI gF af k2) k2
def C33{R:Type}(nn:Nat)(dP:LitT->(DS)->DW)(a1:LitT)(aa:DS):∀(n:Nat)(iH:List LfT)(iI gF:Int)(af:DS)(K:Ex->S6->Option R),LP (E44 dP) nn Fs [1,1,0,1,1,1,1,1,1,1,1,1,1,1,0,1,0,1,0,0] 10025 n (B7o a1 aa iH iI gF af) K=A5G nn dP a1 aa n iH iI gF af (λiH iI gF xa af=>K (.exit 3) (C9b a1 aa iH iI gF xa af))
 |0,_,_,_,_,_=>rfl
 |n+1,iH,iI,gF,af,K=>by
  rw[A5G];simp only[<-C33 nn dP a1 aa n _ _ _ _ K];kernel_rfl
def A4X(nn:Nat)(dP:LitT->(DS)->DW)(a1:LitT)(aa:DS):DW:=bif(a1.kind==1)then(let r1:=F27 [[36],a1.text] aa;gd (okB [] kP r1) (some ([],[[.ptr 900000 B4,.sl .u8 (A6 (gC r1 0 1)) (some 92000001)]])))else(let j2:Int->Bool->DW:=λz3 z4=>bif z4 then(let r5:=F27 [a1.text] aa;gd (okB [] kP r5) (some ([],[[.ptr 900000 B4,.sl .u8 (A6 (gC r5 0 1)) (some 92000001)]])))else(bif(z3==6)then(let r6:=F27 [[110,117,108,108]] aa;gd (okB [] kP r6) (some ([],[[.ptr 900000 B4,.sl .u8 (A6 (gC r6 0 1)) (some 92000001)]])))else(bif(z3==4)then(let r8:=F86 a1.block a1.text;gd (okR [.str] r8) (let r7:=F27 [(lS (gL r8 0))] aa;gd (okB [] kP r7) (some ([],[[.ptr 900000 B4,.sl .u8 (A6 (gC r7 0 1)) (some 92000001)]]))))else(bif(z3==8)then(let dn:=F27 [[91]] aa;gd (okB [] kP dn) (A5N nn dP a1 aa nn a1.items (Ew a1.items:Int) 0 (A6 (gC dn 0 1)) (λz9 dJ cW er ee=>let ew:=F27 [[93]] ee;gd (okB [] kP ew) (some ([],[[.ptr 900000 B4,.sl .u8 (A6 (gC ew 0 1)) (some 92000001)]])))))else(bif(z3==9)then(let jN:=F27 [[123]] aa;gd (okB [] kP jN) (A5G nn dP a1 aa nn a1.fields (Ew a1.fields:Int) 0 (A6 (gC jN 0 1)) (λjK nj fI iX z20=>let ot:=F27 [[125]] z20;gd (okB [] kP ot) (some ([],[[.ptr 900000 B4,.sl .u8 (A6 (gC ot 0 1)) (some 92000001)]])))))else(some ([],[[.ptr 900000 B4,.sl .u8 aa (some 92000001)]]))))));bif(a1.kind==2)then(j2 a1.kind (a1.kind==2))else(bif(a1.kind==3)then(j2 a1.kind (a1.kind==3))else(bif(a1.kind==5)then(j2 a1.kind (a1.kind==5))else(j2 a1.kind (a1.kind==7)))))
def A4H(dP:LitT->(DS)->DW)(a1:LitT)(aa:DS):DW:=A4X NN dP a1 aa
def B3W(nn:Nat)(dP:LitT->(DS)->DW){a1:LitT}{aa:DS}:C5 (E44 dP) nn Fs [0] [.ptr 900000 0,.agg .lit a1] [[.ptr 900000 B4,.sl .u8 aa (some 92000001)]]=A4X nn dP a1 aa:=by
 have h:C5 (E44 dP) nn Fs [0] [.ptr 900000 0,.agg .lit a1] [[.ptr 900000 B4,.sl .u8 aa (some 92000001)]]=bif(a1.kind==1)then(let r1:=F27 [[36],a1.text] aa;gd (okB [] kP r1) (some ([],[[.ptr 900000 B4,.sl .u8 (A6 (gC r1 0 1)) (some 92000001)]])))else(let j2:Int->Bool->DW:=λz3 z4=>bif z4 then(let r5:=F27 [a1.text] aa;gd (okB [] kP r5) (some ([],[[.ptr 900000 B4,.sl .u8 (A6 (gC r5 0 1)) (some 92000001)]])))else(bif(z3==6)then(let r6:=F27 [[110,117,108,108]] aa;gd (okB [] kP r6) (some ([],[[.ptr 900000 B4,.sl .u8 (A6 (gC r6 0 1)) (some 92000001)]])))else(bif(z3==4)then(let r8:=F86 a1.block a1.text;gd (okR [.str] r8) (let r7:=F27 [(lS (gL r8 0))] aa;gd (okB [] kP r7) (some ([],[[.ptr 900000 B4,.sl .u8 (A6 (gC r7 0 1)) (some 92000001)]]))))else(bif(z3==8)then(let dn:=F27 [[91]] aa;gd (okB [] kP dn) (LP (E44 dP) nn Fs [1,1,0,1,1,1,1,1,1,1,1,1,0,1,0,1,0,0] 10016 nn (B2L a1 aa a1.items (Ew a1.items:Int) 0 (A6 (gC dn 0 1))) (A7 1 (sk (E44 dP) nn Fs [1,1,0,1,1,1,1,1,1,1,1,1,0,1,1] (A7 0 (L9 (E44 dP) Tryz.f44.results.toList [0] [[.ptr 900000 B4,.sl .u8 aa (some 92000001)]]))))))else(bif(z3==9)then(let jN:=F27 [[123]] aa;gd (okB [] kP jN) (LP (E44 dP) nn Fs [1,1,0,1,1,1,1,1,1,1,1,1,1,1,0,1,0,1,0,0] 10025 nn (B7o a1 aa a1.fields (Ew a1.fields:Int) 0 (A6 (gC jN 0 1))) (A7 3 (sk (E44 dP) nn Fs [1,1,0,1,1,1,1,1,1,1,1,1,1,1,0,1,1] (A7 0 (L9 (E44 dP) Tryz.f44.results.toList [0] [[.ptr 900000 B4,.sl .u8 aa (some 92000001)]]))))))else(some ([],[[.ptr 900000 B4,.sl .u8 aa (some 92000001)]]))))));bif(a1.kind==2)then(j2 a1.kind (a1.kind==2))else(bif(a1.kind==3)then(j2 a1.kind (a1.kind==3))else(bif(a1.kind==5)then(j2 a1.kind (a1.kind==5))else(j2 a1.kind (a1.kind==7))))):=En
 rw[h];simp only[C1W,C33];show _=_;kernel_rfl
def R44:Nat->LitT->(DS)->DW
 |0,_,_=>none
 |d+1,a1,aa=>A4H (R44 d) a1 aa
def F44(a1:LitT)(aa:DS):DW:=R44 DD a1 aa
def S44:S2T
 |[.ptr d0 o0,.agg .lit a1],[[.ptr p0 q0,.sl .u8 aa (some bM)]]=>bif bq d0 o0&&pq p0 q0&&(Fb bM 92000001)then pB [] kP (F44 a1 aa)else none
 |_,_=>none
def A43:Env Ty6 A4:=mkE [] [(27,S27),(44,S44),(101,A6c)] (lkD [(0,[6,7,1000105]),(1,[8,9,10,11,1000105]),(2,[1,1000105]),(3,[1000105]),(4,[15,16,17,18]),(5,[4,19,20,21]),(6,[22,23,24,25,26]),(7,[5,27,28,29,30,1000105]),(8,[31,1000105]),(9,[12,13,14,15,32,33,34,1000105]),(10003,[1000105])]) 35 [5] 1 [] []
def B5d(a1:List D1)(aa:DS)(bN cr:Int)(af:DS):S6:=pg [eL 12 .arg a1,eI 13 bN,eI 14 cr] af
def D4E(a1:List D1)(aa:DS)(bN cr:Int)(ep:Bool)(af:DS):S6:=E7 (eB 15 ep) (B5d a1 aa bN cr af)
def B6N{R:Type}(nn:Nat)(a1:List D1)(aa:DS)(bN cr:Int)(af:DS)(k1:Int->Int->(DS)->Option R)(k2:Int->Int->Bool->(DS)->Option R):Option R:=let z1:=decide (cr<bN);bif z1 then(match idx a1 cr with|none=>none|some y2=>(let z3:=y2.value.fields;let z4:=y2.value.pos.line;let z5:=y2.value.pos.col;let cD:=A1N cr af;gd (okB [] kP cD) (let z6:=(A6 (gC cD 0 1));let r9:=F27 [y2.name,[58,32]] z6;gd (okB [] kP r9) (let z7:=(A6 (gC r9 0 1));let r8:=F44 (LitT.mk y2.value.kind y2.value.text y2.value.block y2.value.items z3 (⟨z4,z5⟩:B1)) z7;gd (okB [] kP r8) (k1 bN (Ey .i64 (cr+1)) (A6 (gC r8 0 1)))))))else(k2 bN cr z1 af)
def A3q{R:Type}(nn:Nat)(a1:List D1)(aa:DS):Nat->Int->Int->(DS)->(Int->Int->Bool->(DS)->Option R)->Option R
 |0,_,_,_,_=>none
 |n+1,bN,cr,af,k2=>B6N nn a1 aa bN cr af (λbN cr af=>A3q nn a1 aa n bN cr af k2) k2
def B9H{R:Type}(nn:Nat)(a1:List D1)(aa:DS):∀(n:Nat)(bN cr:Int)(af:DS)(K:Ex->S6->Option R),LP A43 nn Hg [1,1,0,1,0,0] 10003 n (B5d a1 aa bN cr af) K=A3q nn a1 aa n bN cr af (λbN cr ep af=>K (.exit 0) (D4E a1 aa bN cr ep af))
 |0,_,_,_,_=>rfl
 |n+1,bN,cr,af,K=>by
  rw[A3q];simp only[<-B9H nn a1 aa n _ _ _ K];kernel_rfl
def B45(nn:Nat)(a1:List D1)(aa:DS):DW:=let z1:=(Ew a1:Int)==0;bif z1 then(some ([],[[.ptr 900000 B4,.sl .u8 aa (some 92000001)]]))else(let r7:=F27 [[40]] aa;gd (okB [] kP r7) (A3q nn a1 aa nn (Ew a1:Int) 0 (A6 (gC r7 0 1)) (λz2 z3 z4 z5=>let r6:=F27 [[41]] z5;gd (okB [] kP r6) (some ([],[[.ptr 900000 B4,.sl .u8 (A6 (gC r6 0 1)) (some 92000001)]])))))
def A8L(a1:List D1)(aa:DS):DW:=B45 NN a1 aa
def D5k(nn:Nat){a1:List D1}{aa:DS}:C5 A43 nn Hg [0] [.ptr 900000 0,.sl .arg a1 none] [[.ptr 900000 B4,.sl .u8 aa (some 92000001)]]=B45 nn a1 aa:=by
 have h:C5 A43 nn Hg [0] [.ptr 900000 0,.sl .arg a1 none] [[.ptr 900000 B4,.sl .u8 aa (some 92000001)]]=let z1:=(Ew a1:Int)==0;bif z1 then(some ([],[[.ptr 900000 B4,.sl .u8 aa (some 92000001)]]))else(let r7:=F27 [[40]] aa;gd (okB [] kP r7) (LP A43 nn Hg [1,1,0,1,0,0] 10003 nn (B5d a1 aa (Ew a1:Int) 0 (A6 (gC r7 0 1))) (A7 0 (sk A43 nn Hg [1,1,1] (L9 A43 Tryz.f142.results.toList [0] [[.ptr 900000 B4,.sl .u8 aa (some 92000001)]]))))):=En
 rw[h];simp only[B9H];show _=_;kernel_rfl
def B0A:S2T
 |[.ptr d0 o0,.sl .arg a1 none],[[.ptr p0 q0,.sl .u8 aa (some bM)]]=>bif bq d0 o0&&pq p0 q0&&(Fb bM 92000001)then pB [] kP (A8L a1 aa)else none
 |_,_=>none
def E68:Env Ty6 A4:=mkE [] [(27,S27),(142,B0A)] (lkD [(0,[1,1000105]),(1,[1000105]),(2,[9,10,11]),(3,[12,13,14,15,16]),(4,[5,17,18,19,20,1000105]),(5,[21,1000105]),(10001,[1000105])]) 22 [] 1 [] []
def B6o(a1:List C7)(aa:DS)(x7 x8:Int)(af:DS):S6:=pg [eL 6 .dir a1,eI 7 x7,eI 8 x8] af
def C6T(a1:List C7)(aa:DS)(x7 x8:Int)(x9:Bool)(af:DS):S6:=E7 (eB 9 x9) (B6o a1 aa x7 x8 af)
def B4i{R:Type}(nn:Nat)(a1:List C7)(aa:DS)(x7 x8:Int)(af:DS)(k1:Int->Int->(DS)->Option R)(k2:Int->Int->Bool->(DS)->Option R):Option R:=let z1:=decide (x8<x7);bif z1 then(match idx a1 x8 with|none=>none|some y2=>(let r5:=F27 [[32,64],y2.name] af;gd (okB [] kP r5) (let z3:=(A6 (gC r5 0 1));let r4:=A8L y2.args z3;gd (okB [] kP r4) (k1 x7 (Ey .i64 (x8+1)) (A6 (gC r4 0 1))))))else(k2 x7 x8 z1 af)
def A2U{R:Type}(nn:Nat)(a1:List C7)(aa:DS):Nat->Int->Int->(DS)->(Int->Int->Bool->(DS)->Option R)->Option R
 |0,_,_,_,_=>none
 |n+1,x7,x8,af,k2=>B4i nn a1 aa x7 x8 af (λx7 x8 af=>A2U nn a1 aa n x7 x8 af k2) k2
def C01{R:Type}(nn:Nat)(a1:List C7)(aa:DS):∀(n:Nat)(x7 x8:Int)(af:DS)(K:Ex->S6->Option R),LP E68 nn Hr [1,0,0] 10001 n (B6o a1 aa x7 x8 af) K=A2U nn a1 aa n x7 x8 af (λx7 x8 x9 af=>K (.exit 0) (C6T a1 aa x7 x8 x9 af))
 |0,_,_,_,_=>rfl
 |n+1,x7,x8,af,K=>by
  rw[A2U];simp only[<-C01 nn a1 aa n _ _ _ K];kernel_rfl
def B92(nn:Nat)(a1:List C7)(aa:DS):DW:=A2U nn a1 aa nn (Ew a1:Int) 0 aa (λz1 z2 z3 z4=>some ([],[[.ptr 900000 B4,.sl .u8 z4 (some 92000001)]]))
def F68(a1:List C7)(aa:DS):DW:=B92 NN a1 aa
def C6n(nn:Nat){a1:List C7}{aa:DS}:C5 E68 nn Hr [0] [.ptr 900000 0,.sl .dir a1 none] [[.ptr 900000 B4,.sl .u8 aa (some 92000001)]]=B92 nn a1 aa:=by
 have h:C5 E68 nn Hr [0] [.ptr 900000 0,.sl .dir a1 none] [[.ptr 900000 B4,.sl .u8 aa (some 92000001)]]=LP E68 nn Hr [1,0,0] 10001 nn (B6o a1 aa (Ew a1:Int) 0 aa) (A7 0 (L9 E68 Tryz.f68.results.toList [0] [[.ptr 900000 B4,.sl .u8 aa (some 92000001)]])):=En
 rw[h];simp only[C01];show _=_;kernel_rfl
def S68:S2T
 |[.ptr d0 o0,.sl .dir a1 none],[[.ptr p0 q0,.sl .u8 aa (some bM)]]=>bif bq d0 o0&&pq p0 q0&&(Fb bM 92000001)then pB [] kP (F68 a1 aa)else none
 |_,_=>none
def E66:Env Ty6 A4:=mkE [] [] noD 8 [] 0 [] []
def F66(a0:Int):DU:=bif(a0==2)then(some (.one (.str [109,117,116,97,116,105,111,110])))else(bif(a0==3)then(some (.one (.str [115,117,98,115,99,114,105,112,116,105,111,110])))else(some (.one (.str [113,117,101,114,121]))))
def C5s{a0:Int}:A5 E66 NN Tryz.f66 [.int .i64 a0]=F66 a0:=En
def S66:S1T
 |[.int .i64 a0]=>pR [.str] (F66 a0)
 |_=>none
def C9N(a0:RdT)(a2:Int)(aa:DS):DW:=gd (okR [.str] (F66 a0.op)) (let r1:=F27 [(lS (gL (F66 a0.op) 0)),[58,32],a0.type_] aa;gd (okB [] kP r1) (some ([],[[.ptr 900000 B4,.sl .u8 (A6 (gC r1 0 1)) (some 92000001)]])))
def D76:S2T
 |[.agg .rd a0,.ptr d0 o0,.int .i64 a2],[[.ptr p0 q0,.sl .u8 aa (some bM)]]=>bif bq d0 o0&&pq p0 q0&&(Fb bM 92000001)then pB [] kP (C9N a0 a2 aa)else none
 |_,_=>none
def E18:Env Ty6 A4:=mkE [(47,S47),(48,S48)] [] noD 13 [] 0 [] []
def F18(a0:I6):DU:=let r2:=F48 a0.wrap [93];gd (okR [.int .i64] r2) (let r1:=F47 [91] (lI (gL r2 0));gd (okR [.str] r1) (gd (decide (Ew (lS (gL r1 0))+Ew a0.name<=9223372036854775807)) (gd (decide (Ew ((lS (gL r1 0))++a0.name)+Ew a0.wrap<=9223372036854775807)) (some (.one (.str (((lS (gL r1 0))++a0.name)++a0.wrap)))))))
def D2O{a0:I6}:A5 E18 NN Tryz.f18 [.agg .tref a0]=F18 a0:=En
def S18:S1T
 |[.agg .tref a0]=>pR [.str] (F18 a0)
 |_=>none
def E37:Env Ty6 A4:=mkE [(86,S86)] [(27,S27)] noD 17 [] 1 [] []
def F37(a1:A1j)(a2:DT)(aa:DS):DW:=bif a1.has then(let r2:=F86 a1.block a1.text;gd (okR [.str] r2) (let r1:=F27 [(lS (gL r2 0)),a2] aa;gd (okB [] kP r1) (some ([],[[.ptr 900000 B4,.sl .u8 (A6 (gC r1 0 1)) (some 92000001)]]))))else(some ([],[[.ptr 900000 B4,.sl .u8 aa (some 92000001)]]))
def B5Z{a1:A1j}{a2:DT}{aa:DS}:C5 E37 NN Tryz.f37 [0] [.ptr 900000 0,.agg .note a1,.str a2] [[.ptr 900000 B4,.sl .u8 aa (some 92000001)]]=F37 a1 a2 aa:=En
def S37:S2T
 |[.ptr d0 o0,.agg .note a1,.str a2],[[.ptr p0 q0,.sl .u8 aa (some bM)]]=>bif bq d0 o0&&pq p0 q0&&(Fb bM 92000001)then pB [] kP (F37 a1 a2 aa)else none
 |_,_=>none
def C2s:Env Ty6 A4:=mkE [] [(27,S27),(44,S44)] noD 13 [] 1 [] []
def A9k(a1:Bool)(a2:LitT)(aa:DS):DW:=bif a1 then(let r2:=F27 [[32,61,32]] aa;gd (okB [] kP r2) (let z1:=(A6 (gC r2 0 1));gd (okB [] kP (F44 a2 z1)) (some ([],[[.ptr 900000 B4,.sl .u8 (A6 (gC (F44 a2 z1) 0 1)) (some 92000001)]]))))else(some ([],[[.ptr 900000 B4,.sl .u8 aa (some 92000001)]]))
def D3i{a1:Bool}{a2:LitT}{aa:DS}:C5 C2s NN Tryz.f141 [0] [.ptr 900000 0,.bool a1,.agg .lit a2] [[.ptr 900000 B4,.sl .u8 aa (some 92000001)]]=A9k a1 a2 aa:=En
def B3v:S2T
 |[.ptr d0 o0,.bool a1,.agg .lit a2],[[.ptr p0 q0,.sl .u8 aa (some bM)]]=>bif bq d0 o0&&pq p0 q0&&(Fb bM 92000001)then pB [] kP (A9k a1 a2 aa)else none
 |_,_=>none
def B1m(g:(List PartT)->Int->(DS)->DW):S2T
 |[.ptr d0 o0,.sl .part a1 none,.int .i64 a2],[[.ptr p0 q0,.sl .u8 aa (some bM)]]=>bif bq d0 o0&&pq p0 q0&&(Fb bM 92000001)then pB [] kP (g a1 a2 aa)else none
 |_,_=>none
def B1l(g:SelT->Int->(DS)->DW):S2T
 |[.agg .sel a0,.ptr d0 o0,.int .i64 a2],[[.ptr p0 q0,.sl .u8 aa (some bM)]]=>bif bq d0 o0&&pq p0 q0&&(Fb bM 92000001)then pB [] kP (g a0 a2 aa)else none
 |_,_=>none
def FI(g263:SelT->Int->DS->DW)(x:PartT)(lv:Int)(b:DS):DW:=
 match x with
 | .sel s=>g263 s lv b
 |_=>none
def TI(g263:SelT->Int->DS->DW):String->DV->Ec->Option (Bool×DV×Ec):=λnm ls cs=>
 match ls,cs with
 |[.one1 .part x,.ptr d0 o0,.int .i64 a2],[[.ptr p0 q0,.sl .u8 aa (some bM)]]=>
  bif decide (nm= "pergola/printer.print")&&((Fb d0 900000&&Fb o0 0)&&((Fb p0 900000&&Fb q0 B4)&&Fb bM 92000001))then
   some (okB [] [[.ptr 900000 B4,.sl .u8 (some 92000001)]] (FI g263 x a2 aa),rsR [] (FI g263 x a2 aa),csR [[.ptr 900000 B4,.sl .u8 (some 92000001)]] (FI g263 x a2 aa))else none
 |_,_=>none
def biI:String->DX:=λ_=>[1]
def E63(dR:(List PartT)->Int->(DS)->DW)(g263:SelT->Int->(DS)->DW):Env Ty6 A4:={mkE [] [(27,S27),(139,B57)] (lkD [(0,[8,9]),(1,[10,11,12,13]),(2,[1]),(4,[17,18,19]),(5,[20,21,22,23]),(6,[7,24,25,26,27,28]),(7,[29,30,31]),(8,[32]),(9,[2,14,15,16,17,33,34,35]),(10,[36,37,38])]) 39 [] 1 [] []with TIg:=TI g263,bi:=biI}
def B4f(a1:List PartT)(a2:Int)(aa:DS)(ep fw:Int)(af:DS):S6:=pg [eI 2 a2,eL 14 .part a1,eI 15 ep,eI 16 fw] af
def D0I(a1:List PartT)(a2:Int)(aa:DS)(ep fw:Int)(xb:Bool)(af:DS):S6:=E7 (eB 17 xb) (B4f a1 a2 aa ep fw af)
def B5a{R:Type}(nn:Nat)(dR:(List PartT)->Int->(DS)->DW)(g263:SelT->Int->(DS)->DW)(a1:List PartT)(a2:Int)(aa:DS)(ep fw:Int)(af:DS)(k1:Int->Int->(DS)->Option R)(k2:Int->Int->Bool->(DS)->Option R):Option R:=let z1:=decide (fw<ep);bif z1 then(match idx a1 fw with|none=>none|some y2=>(let r7:=A49 (Ey .i64 (a2+1)) af;gd (okB [] kP r7) (let z3:=(A6 (gC r7 0 1));let r6:=FI g263 y2 (Ey .i64 (a2+1)) z3;gd (okB [] kP r6) (let z4:=(A6 (gC r6 0 1));let r5:=F27 [[10]] z4;gd (okB [] kP r5) (k1 ep (Ey .i64 (fw+1)) (A6 (gC r5 0 1)))))))else(k2 ep fw z1 af)
def A3u{R:Type}(nn:Nat)(dR:(List PartT)->Int->(DS)->DW)(g263:SelT->Int->(DS)->DW)(a1:List PartT)(a2:Int)(aa:DS):Nat->Int->Int->(DS)->(Int->Int->Bool->(DS)->Option R)->Option R
 |0,_,_,_,_=>none
 |n+1,ep,fw,af,k2=>B5a nn dR g263 a1 a2 aa ep fw af (λep fw af=>A3u nn dR g263 a1 a2 aa n ep fw af k2) k2
def B8H{R:Type}(nn:Nat)(dR:(List PartT)->Int->(DS)->DW)(g263:SelT->Int->(DS)->DW)(a1:List PartT)(a2:Int)(aa:DS):∀(n:Nat)(ep fw:Int)(af:DS)(K:Ex->S6->Option R),LP (E63 dR g263) nn Gn [1,1,0,1,0,0] 10003 n (B4f a1 a2 aa ep fw af) K=A3u nn dR g263 a1 a2 aa n ep fw af (λep fw xb af=>K (.exit 0) (D0I a1 a2 aa ep fw xb af))
 |0,_,_,_,_=>rfl
 |n+1,ep,fw,af,K=>by
  rw[A3u];simp only[<-B8H nn dR g263 a1 a2 aa n _ _ _ K];kernel_rfl
def B20(nn:Nat)(dR:(List PartT)->Int->(DS)->DW)(g263:SelT->Int->(DS)->DW)(a1:List PartT)(a2:Int)(aa:DS):DW:=let z1:=(Ew a1:Int)==0;bif z1 then(some ([],[[.ptr 900000 B4,.sl .u8 aa (some 92000001)]]))else(let r8:=F27 [[32,123,10]] aa;gd (okB [] kP r8) (A3u nn dR g263 a1 a2 aa nn (Ew a1:Int) 0 (A6 (gC r8 0 1)) (λz2 z3 z4 z5=>gd (okB [] kP (A49 a2 z5)) (let z6:=(A6 (gC (A49 a2 z5) 0 1));let r7:=F27 [[125]] z6;gd (okB [] kP r7) (some ([],[[.ptr 900000 B4,.sl .u8 (A6 (gC r7 0 1)) (some 92000001)]]))))))
def B4E(dR:(List PartT)->Int->(DS)->DW)(g263:SelT->Int->(DS)->DW)(a1:List PartT)(a2:Int)(aa:DS):DW:=B20 NN dR g263 a1 a2 aa
def D36(nn:Nat)(dR:(List PartT)->Int->(DS)->DW)(g263:SelT->Int->(DS)->DW){a1:List PartT}{a2:Int}{aa:DS}:C5 (E63 dR g263) nn Gn [0] [.ptr 900000 0,.sl .part a1 none,.int .i64 a2] [[.ptr 900000 B4,.sl .u8 aa (some 92000001)]]=B20 nn dR g263 a1 a2 aa:=by
 have h:C5 (E63 dR g263) nn Gn [0] [.ptr 900000 0,.sl .part a1 none,.int .i64 a2] [[.ptr 900000 B4,.sl .u8 aa (some 92000001)]]=let z1:=(Ew a1:Int)==0;bif z1 then(some ([],[[.ptr 900000 B4,.sl .u8 aa (some 92000001)]]))else(let r8:=F27 [[32,123,10]] aa;gd (okB [] kP r8) (LP (E63 dR g263) nn Gn [1,1,0,1,0,0] 10003 nn (B4f a1 a2 aa (Ew a1:Int) 0 (A6 (gC r8 0 1))) (A7 0 (sk (E63 dR g263) nn Gn [1,1,1] (L9 (E63 dR g263) Tryz.f63.results.toList [0] [[.ptr 900000 B4,.sl .u8 aa (some 92000001)]]))))):=En
 rw[h];simp only[B8H];show _=_;kernel_rfl
def B8r(dR:(List PartT)->Int->(DS)->DW)(g263:SelT->Int->(DS)->DW):Env Ty6 A4:=mkE [(64,S64)] [(27,S27),(63,B1m dR),(68,S68),(142,B0A)] noD 60 [] 2 [] []
def B1N(dR:(List PartT)->Int->(DS)->DW)(g263:SelT->Int->(DS)->DW)(a0:SelT)(a2:Int)(aa:DS):DW:=let j1:(DS)->DW:=λz2=>let r6:=F68 a0.dirs z2;gd (okB [] kP r6) (let z3:=(A6 (gC r6 0 1));bif(a0.kind !=2)then(let r5:=F64 a0.sels;gd (okR [.sl .part (some 1)] r5) (let r4:=dR (A71 (gL r5 0)) a2 z3;gd (okB [] kP r4) (some ([],[[.ptr 900000 B4,.sl .u8 (A6 (gC r4 0 1)) (some 92000001)]]))))else(some ([],[[.ptr 900000 B4,.sl .u8 z3 (some 92000001)]])));bif(a0.kind==1)then(let j7:(DS)->DW:=λz8=>let gi:=F27 [a0.name] z8;gd (okB [] kP gi) (let z9:=(A6 (gC gi 0 1));let cD:=A8L a0.args z9;gd (okB [] kP cD) (j1 (A6 (gC cD 0 1))));bif(!(a0.alias_==[]))then(let dM:=F27 [a0.alias_,[58,32]] aa;gd (okB [] kP dM) (j7 (A6 (gC dM 0 1))))else(j7 aa))else(bif(a0.kind==2)then(let dO:=F27 [[46,46,46],a0.name] aa;gd (okB [] kP dO) (j1 (A6 (gC dO 0 1))))else(bif(a0.kind==3)then(let gk:=F27 [[46,46,46]] aa;gd (okB [] kP gk) (let eh:=(A6 (gC gk 0 1));bif(!(a0.on_==[]))then(let dn:=F27 [[32,111,110,32],a0.on_] eh;gd (okB [] kP dn) (j1 (A6 (gC dn 0 1))))else(j1 eh)))else(j1 aa)))
def D3a(dR:(List PartT)->Int->(DS)->DW)(g263:SelT->Int->(DS)->DW){a0:SelT}{a2:Int}{aa:DS}:C5 (B8r dR g263) NN Tryz.f263 [1] [.agg .sel a0,.ptr 900000 0,.int .i64 a2] [[.ptr 900000 B4,.sl .u8 aa (some 92000001)]]=B1N dR g263 a0 a2 aa:=En
def U9:Nat->((List PartT)->Int->(DS)->DW)×(SelT->Int->(DS)->DW)
 |0=>(λ_ _ _=>none,λ_ _ _=>none)
 |d+1=>(B4E (U9 d).1 (U9 d).2,B1N (U9 d).1 (U9 d).2)
def F63(a1:List PartT)(a2:Int)(aa:DS):DW:=(U9 DD).1 a1 a2 aa
def S63:S2T
 |[.ptr d0 o0,.sl .part a1 none,.int .i64 a2],[[.ptr p0 q0,.sl .u8 aa (some bM)]]=>bif bq d0 o0&&pq p0 q0&&(Fb bM 92000001)then pB [] kP (F63 a1 a2 aa)else none
 |_,_=>none
def E67:Env Ty6 A4:=mkE [(18,S18)] [(27,S27),(68,S68),(101,A6c),(141,B3v)] (lkD [(0,[6,7,1000105]),(1,[8,9,10,11,1000105]),(2,[1,1000105]),(3,[1000105]),(4,[15,16,17,18]),(5,[4,19,20,21]),(6,[22,23,24,25,26,27,28,29]),(7,[30,31,32,33,34,35]),(8,[5,36,37,38,39,1000105]),(9,[40,1000105]),(10,[12,13,14,15,41,42,43,1000105]),(10003,[1000105])]) 44 [5] 1 [] []
def B2R(a1:List VdT)(aa:DS)(bN cr:Int)(af:DS):S6:=pg [eL 12 .vd a1,eI 13 bN,eI 14 cr] af
def C95(a1:List VdT)(aa:DS)(bN cr:Int)(ep:Bool)(af:DS):S6:=E7 (eB 15 ep) (B2R a1 aa bN cr af)
def B2U{R:Type}(nn:Nat)(a1:List VdT)(aa:DS)(bN cr:Int)(af:DS)(k1:Int->Int->(DS)->Option R)(k2:Int->Int->Bool->(DS)->Option R):Option R:=let z1:=decide (cr<bN);bif z1 then(match idx a1 cr with|none=>none|some y2=>(let z3:=y2.dflt.pos.line;let z4:=y2.dflt.pos.col;let dM:=A1N cr af;gd (okB [] kP dM) (let z5:=(A6 (gC dM 0 1));let gi:=F18 (⟨y2.type_.name,y2.type_.wrap⟩:I6);gd (okR [.str] gi) (let cD:=F27 [[36],y2.name,[58,32],(lS (gL gi 0))] z5;gd (okB [] kP cD) (let z6:=(A6 (gC cD 0 1));let r9:=A9k y2.hasDefault (LitT.mk y2.dflt.kind y2.dflt.text y2.dflt.block y2.dflt.items y2.dflt.fields (⟨z3,z4⟩:B1)) z6;gd (okB [] kP r9) (let z7:=(A6 (gC r9 0 1));let r8:=F68 y2.dirs z7;gd (okB [] kP r8) (k1 bN (Ey .i64 (cr+1)) (A6 (gC r8 0 1)))))))))else(k2 bN cr z1 af)
def A2H{R:Type}(nn:Nat)(a1:List VdT)(aa:DS):Nat->Int->Int->(DS)->(Int->Int->Bool->(DS)->Option R)->Option R
 |0,_,_,_,_=>none
 |n+1,bN,cr,af,k2=>B2U nn a1 aa bN cr af (λbN cr af=>A2H nn a1 aa n bN cr af k2) k2
def B8s{R:Type}(nn:Nat)(a1:List VdT)(aa:DS):∀(n:Nat)(bN cr:Int)(af:DS)(K:Ex->S6->Option R),LP E67 nn Gl [1,1,0,1,0,0] 10003 n (B2R a1 aa bN cr af) K=A2H nn a1 aa n bN cr af (λbN cr ep af=>K (.exit 0) (C95 a1 aa bN cr ep af))
 |0,_,_,_,_=>rfl
 |n+1,bN,cr,af,K=>by
  rw[A2H];simp only[<-B8s nn a1 aa n _ _ _ K];kernel_rfl
def B5A(nn:Nat)(a1:List VdT)(aa:DS):DW:=let z1:=(Ew a1:Int)==0;bif z1 then(some ([],[[.ptr 900000 B4,.sl .u8 aa (some 92000001)]]))else(let r7:=F27 [[40]] aa;gd (okB [] kP r7) (A2H nn a1 aa nn (Ew a1:Int) 0 (A6 (gC r7 0 1)) (λz2 z3 z4 z5=>let r6:=F27 [[41]] z5;gd (okB [] kP r6) (some ([],[[.ptr 900000 B4,.sl .u8 (A6 (gC r6 0 1)) (some 92000001)]])))))
def F67(a1:List VdT)(aa:DS):DW:=B5A NN a1 aa
def C6N(nn:Nat){a1:List VdT}{aa:DS}:C5 E67 nn Gl [0] [.ptr 900000 0,.sl .vd a1 none] [[.ptr 900000 B4,.sl .u8 aa (some 92000001)]]=B5A nn a1 aa:=by
 have h:C5 E67 nn Gl [0] [.ptr 900000 0,.sl .vd a1 none] [[.ptr 900000 B4,.sl .u8 aa (some 92000001)]]=let z1:=(Ew a1:Int)==0;bif z1 then(some ([],[[.ptr 900000 B4,.sl .u8 aa (some 92000001)]]))else(let r7:=F27 [[40]] aa;gd (okB [] kP r7) (LP E67 nn Gl [1,1,0,1,0,0] 10003 nn (B2R a1 aa (Ew a1:Int) 0 (A6 (gC r7 0 1))) (A7 0 (sk E67 nn Gl [1,1,1] (L9 E67 Tryz.f67.results.toList [0] [[.ptr 900000 B4,.sl .u8 aa (some 92000001)]]))))):=En
 rw[h];simp only[B8s];show _=_;kernel_rfl
def S67:S2T
 |[.ptr d0 o0,.sl .vd a1 none],[[.ptr p0 q0,.sl .u8 aa (some bM)]]=>bif bq d0 o0&&pq p0 q0&&(Fb bM 92000001)then pB [] kP (F67 a1 aa)else none
 |_,_=>none
def E28:Env Ty6 A4:=mkE [(64,S64),(65,S65),(66,S66)] [(27,S27),(29,S29),(63,S63),(67,S67),(68,S68)] noD 61 [37,38] 1 [] [(37,138)]
def F28(a1:D8)(aa:DS):DW:=let j1:(DS)->DW:=λz2=>let r6:=F68 a1.dirs z2;gd (okB [] kP r6) (let z3:=(A6 (gC r6 0 1));let r5:=F64 a1.sels;gd (okR [.sl .part (some 1)] r5) (let r4:=F63 (A71 (gL r5 0)) 0 z3;gd (okB [] kP r4) (some ([],[[.ptr 900000 B4,.sl .u8 (A6 (gC r4 0 1)) (some 92000001)]]))));bif(a1.kind==4)then(let r7:=F27 [[102,114,97,103,109,101,110,116,32],a1.name,[32,111,110,32],a1.on_] aa;gd (okB [] kP r7) (j1 (A6 (gC r7 0 1))))else(bif a1.short then(let dM:=F64 a1.sels;gd (okR [.sl .part (some 1)] dM) (let gi:=F63 (A71 (gL dM 0)) 0 [];gd (okB [] kP gi) (let z8:=(A6 (gC gi 0 1));gd (okB [.str] kP (F29 z8)) (let cD:=F65 (lS (gB (F29 z8) 0)) [32];gd (okR [.str] cD) (let r9:=F27 [(lS (gL cD 0))] aa;gd (okB [] kP r9) (some ([],[[.ptr 900000 B4,.sl .u8 (A6 (gC r9 0 1)) (some 92000001)]])))))))else(let jM:=F66 a1.kind;gd (okR [.str] jM) (let lV:=F27 [(lS (gL jM 0))] aa;gd (okB [] kP lV) (let ee:=(A6 (gC lV 0 1));let zN:(DS)->DW:=λfv=>let gk:=F67 a1.vars fv;gd (okB [] kP gk) (j1 (A6 (gC gk 0 1)));bif(!(a1.name==[]))then(let lW:=F27 [[32],a1.name] ee;gd (okB [] kP lW) (zN (A6 (gC lW 0 1))))else(zN ee)))))
def B2H{a1:D8}{aa:DS}:C5 E28 NN Tryz.f28 [0] [.ptr 900000 0,.agg .dfn a1] [[.ptr 900000 B4,.sl .u8 aa (some 92000001)]]=F28 a1 aa:=En
def S28:S2T
 |[.ptr d0 o0,.agg .dfn a1],[[.ptr p0 q0,.sl .u8 aa (some bM)]]=>bif bq d0 o0&&pq p0 q0&&(Fb bM 92000001)then pB [] kP (F28 a1 aa)else none
 |_,_=>none
def E9:Env Ty6 A4:=mkE [] [(27,S27),(28,S28),(29,S29)] (lkD [(0,[0,2,1000105,1000107]),(1,[6,7,1000105]),(2,[1,8,1000101,1000105]),(3,[1000101,1000105]),(4,[12,13,14,15,1000101]),(5,[4,16,1000101]),(6,[17,18,19,20,1000101]),(7,[5,17,21,22,23,1000101,1000105]),(8,[24,25,26,1000101,1000105]),(9,[27,1000101,1000105]),(10,[3,9,10,11,12,28,29,30,31,1000101,1000105,1000107]),(10003,[1000101,1000105])]) 32 [5,6,7] 0 [] [(6,107)]
def B2E(a0:J1)(x9:List D8)(aP cg:Int)(aK:DS):S6:=⟨[eP 3 107,eL 9 .dfn x9,eI 10 aP,eI 11 cg,(1000107,.bx 107 [.ptr 107 B4,.sl .u8 aK (some 2010701)])],[107,2010701]⟩
def D1c(a0:J1)(x9:List D8)(aP cg:Int)(b9:Bool)(aK:DS):S6:=E7 (eB 12 b9) (B2E a0 x9 aP cg aK)
def B0b{R:Type}(nn:Nat)(a0:J1)(x9:List D8)(aP cg:Int)(aK:DS)(k1:(List D8)->Int->Int->(DS)->Option R)(k2:(List D8)->Int->Int->Bool->(DS)->Option R):Option R:=let z1:=decide (cg<aP);bif z1 then(let j2:(List D8)->Int->Int->(DS)->Option R:=λz3 z4 z5 z6=>k1 z3 z4 (Ey .i64 (z5+1)) z6;match idx x9 cg with|none=>none|some y7=>(let z8:=decide (cg>0);bif z8 then(let dO:=F27 [[10]] aK;gd (okB [] kP dO) (let z9:=(A6 (gC dO 0 1));let dM:=F28 (⟨y7.kind,y7.name,y7.on_,y7.short,y7.vars,y7.dirs,y7.sels,(⟨y7.pos.line,y7.pos.col⟩:B1)⟩:D8) z9;gd (okB [] kP dM) (let dJ:=(A6 (gC dM 0 1));let gi:=F27 [[10]] dJ;gd (okB [] kP gi) (j2 x9 aP cg (A6 (gC gi 0 1))))))else(let gk:=F28 (⟨y7.kind,y7.name,y7.on_,y7.short,y7.vars,y7.dirs,y7.sels,(⟨y7.pos.line,y7.pos.col⟩:B1)⟩:D8) aK;gd (okB [] kP gk) (let eh:=(A6 (gC gk 0 1));let dn:=F27 [[10]] eh;gd (okB [] kP dn) (j2 x9 aP cg (A6 (gC dn 0 1)))))))else(k2 x9 aP cg z1 aK)
def A2a{R:Type}(nn:Nat)(a0:J1):Nat->(List D8)->Int->Int->(DS)->((List D8)->Int->Int->Bool->(DS)->Option R)->Option R
 |0,_,_,_,_,_=>none
 |n+1,x9,aP,cg,aK,k2=>B0b nn a0 x9 aP cg aK (λx9 aP cg aK=>A2a nn a0 n x9 aP cg aK k2) k2
def C0v{R:Type}(nn:Nat)(a0:J1):∀(n:Nat)(x9:List D8)(aP cg:Int)(aK:DS)(K:Ex->S6->Option R),LP E9 nn Gf [1,1,0,1,0,0] 10003 n (B2E a0 x9 aP cg aK) K=A2a nn a0 n x9 aP cg aK (λx9 aP cg b9 aK=>K (.exit 0) (D1c a0 x9 aP cg b9 aK))
 |0,_,_,_,_,_=>rfl
 |n+1,x9,aP,cg,aK,K=>by
  rw[A2a];simp only[<-C0v nn a0 n _ _ _ _ K];kernel_rfl
def F9n(nn:Nat)(a0:J1):DU:=A2a nn a0 nn a0.defs (Ew a0.defs:Int) 0 [] (λz1 z2 z3 z4 z5=>gd (okB [.str] kP (F29 z5)) (some (.one (.str (lS (gB (F29 z5) 0))))))
def F9(a0:J1):DU:=F9n NN a0
def ev9(nn:Nat){a0:J1}:A5 E9 nn Gf [.agg .doc a0]=F9n nn a0:=by
 have h:A5 E9 nn Gf [.agg .doc a0]=LP E9 nn Gf [1,1,0,1,0,0] 10003 nn (B2E a0 a0.defs (Ew a0.defs:Int) 0 []) (A7 0 (sk E9 nn Gf [1,1,1] (B3 E9 Tryz.f9.results.toList))):=En
 rw[h];simp only[C0v];show _=_;kernel_rfl
def S9:S1T
 |[.agg .doc a0]=>pR [.str] (F9 a0)
 |_=>none
def E32:Env Ty6 A4:=mkE [] [] noD 13 [] 1 [] []
def F32(a1:DT)(ac:DS):DW:=gd (A3 (Ew ac+Ew a1) 1) (some ([],[[.sl .u8 (ac++Hw (λ(c:UInt8)=>(c.toNat:Int)) a1) (some 92000000)]]))
def B3h{a1:DT}{ac:DS}:C5 E32 NN Tryz.f32 [0] [.ptr 900000 0,.str a1] [[.sl .u8 ac (some 92000000)]]=F32 a1 ac:=En
def S32:S2T
 |[.ptr d0 o0,.str a1],[[.sl .u8 ac (some co)]]=>bif bq d0 o0&&(Fb co 92000000)then pB [] kO (F32 a1 ac)else none
 |_,_=>none
def E30:Env Ty6 A4:=mkE [] [(32,S32)] noD 11 [] 1 [] []
def F30(a1:Int)(a2:DT)(ac:DS):DW:=bif(decide (a1>0))then(let r1:=F32 a2 ac;gd (okB [] kO r1) (some ([],[[.sl .u8 (A6 (gC r1 0 0)) (some 92000000)]])))else(some ([],[[.sl .u8 ac (some 92000000)]]))
def B6r{a1:Int}{a2:DT}{ac:DS}:C5 E30 NN Tryz.f30 [0] [.ptr 900000 0,.int .i64 a1,.str a2] [[.sl .u8 ac (some 92000000)]]=F30 a1 a2 ac:=En
def S30:S2T
 |[.ptr d0 o0,.int .i64 a1,.str a2],[[.sl .u8 ac (some co)]]=>bif bq d0 o0&&(Fb co 92000000)then pB [] kO (F30 a1 a2 ac)else none
 |_,_=>none
def A7B:Env Ty6 A4:=mkE [] [(32,S32)] (lkD [(0,[5,6]),(2,[7,8]),(3,[10,11]),(4,[9,12,13])]) 14 [] 1 [] []
def B6E(a1:Int)(ac:DS)(x4:Int)(ae:DS):S6:=ou [eI 1 a1,eI 4 x4] ae
def C5w(a1:Int)(ac:DS)(x4:Int)(x9:Bool)(ae:DS):S6:=E7 (eB 9 x9) (B6E a1 ac x4 ae)
def B4B{R:Type}(nn:Nat)(a1:Int)(ac:DS)(x4:Int)(ae:DS)(k1:Int->(DS)->Option R)(k2:Int->Bool->(DS)->Option R):Option R:=let z1:=decide (x4<a1);bif z1 then(let r2:=F32 [32,32] ae;gd (okB [] kO r2) (k1 (Ey .i64 (x4+1)) (A6 (gC r2 0 0))))else(k2 x4 z1 ae)
def A2I{R:Type}(nn:Nat)(a1:Int)(ac:DS):Nat->Int->(DS)->(Int->Bool->(DS)->Option R)->Option R
 |0,_,_,_=>none
 |n+1,x4,ae,k2=>B4B nn a1 ac x4 ae (λx4 ae=>A2I nn a1 ac n x4 ae k2) k2
def C39{R:Type}(nn:Nat)(a1:Int)(ac:DS):∀(n:Nat)(x4:Int)(ae:DS)(K:Ex->S6->Option R),LP A7B nn Hu [1,1,0,0] 10002 n (B6E a1 ac x4 ae) K=A2I nn a1 ac n x4 ae (λx4 x9 ae=>K (.exit 0) (C5w a1 ac x4 x9 ae))
 |0,_,_,_=>rfl
 |n+1,x4,ae,K=>by
  rw[A2I];simp only[<-C39 nn a1 ac n _ _ K];kernel_rfl
def B5v(nn:Nat)(a1:Int)(ac:DS):DW:=let r4:=F32 [10] ac;gd (okB [] kO r4) (A2I nn a1 ac nn 0 (A6 (gC r4 0 0)) (λz1 z2 z3=>some ([],[[.sl .u8 z3 (some 92000000)]])))
def A7D(a1:Int)(ac:DS):DW:=B5v NN a1 ac
def C7M(nn:Nat){a1:Int}{ac:DS}:C5 A7B nn Hu [0] [.ptr 900000 0,.int .i64 a1] [[.sl .u8 ac (some 92000000)]]=B5v nn a1 ac:=by
 have h:C5 A7B nn Hu [0] [.ptr 900000 0,.int .i64 a1] [[.sl .u8 ac (some 92000000)]]=let r4:=F32 [10] ac;gd (okB [] kO r4) (LP A7B nn Hu [1,1,0,0] 10002 nn (B6E a1 ac 0 (A6 (gC r4 0 0))) (A7 0 (L9 A7B Tryz.f143.results.toList [0] [[.sl .u8 ac (some 92000000)]]))):=En
 rw[h];simp only[C39];show _=_;kernel_rfl
def B7C:S2T
 |[.ptr d0 o0,.int .i64 a1],[[.sl .u8 ac (some co)]]=>bif bq d0 o0&&(Fb co 92000000)then pB [] kO (A7D a1 ac)else none
 |_,_=>none
def C3h:Env Ty6 A4:=mkE [(163,B0q),(164,A9t)] [(32,S32)] noD 28 [] 1 [] []
def A7j(a1:Bool)(a2:DT)(ac:DS):DW:=bif a1 then(gd (okR [.str,.bool] (A3a a2)) (let z1:=(lS (gL (A3a a2) 0));bif(lB (gL (A3a a2) 1))then(let r2:=F32 z1 ac;gd (okB [] kO r2) (some ([],[[.sl .u8 (A6 (gC r2 0 0)) (some 92000000)]])))else(gd (okR [.str,.int .i64] (A1Z a2)) (let z3:=(lS (gL (A1Z a2) 0));let r4:=F32 z3 ac;gd (okB [] kO r4) (some ([],[[.sl .u8 (A6 (gC r4 0 0)) (some 92000000)]]))))))else(gd (okR [.str,.int .i64] (A1Z a2)) (let z5:=(lS (gL (A1Z a2) 0));let r6:=F32 z5 ac;gd (okB [] kO r6) (some ([],[[.sl .u8 (A6 (gC r6 0 0)) (some 92000000)]]))))
def C8g{a1:Bool}{a2:DT}{ac:DS}:C5 C3h NN Tryz.f102 [0] [.ptr 900000 0,.bool a1,.str a2] [[.sl .u8 ac (some 92000000)]]=A7j a1 a2 ac:=En
def B6x:S2T
 |[.ptr d0 o0,.bool a1,.str a2],[[.sl .u8 ac (some co)]]=>bif bq d0 o0&&(Fb co 92000000)then pB [] kO (A7j a1 a2 ac)else none
 |_,_=>none
def B1J(g:LitT->(DS)->DW):S2T
 |[.ptr d0 o0,.agg .lit a1],[[.sl .u8 ac (some co)]]=>bif bq d0 o0&&(Fb co 92000000)then pB [] kO (g a1 ac)else none
 |_,_=>none
def E45(dK:LitT->(DS)->DW):Env Ty6 A4:=mkE [] [(30,S30),(32,S32),(45,B1J dK),(102,B6x)] (lkD [(0,[1]),(1,[6]),(2,[3,8,9,10,11,55,1000103]),(3,[13]),(4,[7,12,14,15]),(5,[3,16,17,18,19,1000103]),(6,[12,21]),(7,[3,7,20,22,23,1000103]),(8,[20,25]),(9,[3,7,24,26,27,28,29,30,31,1000103]),(10,[24,33]),(11,[7,32,34,35]),(13,[36,37,38,39]),(14,[41,42]),(15,[40,43,44,45]),(16,[46,47,48,49,50,51,52]),(17,[3,4,40,53,54,1000103]),(18,[7,32,56]),(19,[55,57,58]),(21,[59,60,61,62]),(22,[64,65]),(23,[63,66,67,68]),(24,[69,70,71,72,73,74,75,76]),(25,[77,78]),(26,[79,80,81,82,83,84,85,86]),(27,[3,5,63,87,88,1000103])]) 89 [] 1 [] []
def B5T(a1:LitT)(ac:DS)(x4:Int)(ae:DS):S6:=ou [(3,.one (.elem .lit a1 0)),eI 4 x4] ae
def C8Z(a1:LitT)(ac:DS)(x4:Int)(sX:Bool)(ae:DS):S6:=E7 (eB 40 sX) (B5T a1 ac x4 ae)
def B7c(a1:LitT)(ac:DS)(x5:Int)(ae:DS):S6:=ou [(3,.one (.elem .lit a1 0)),eI 5 x5] ae
def D2M(a1:LitT)(ac:DS)(x5:Int)(xc:Bool)(ae:DS):S6:=E7 (eB 63 xc) (B7c a1 ac x5 ae)
def A59{R:Type}(nn:Nat)(dK:LitT->(DS)->DW)(a1:LitT)(ac:DS)(x4:Int)(ae:DS)(k1:Int->(DS)->Option R)(k2:Int->Bool->(DS)->Option R):Option R:=let z1:=decide (x4<(Ew a1.items:Int));bif z1 then(let r4:=F30 x4 [44,32] ae;gd (okB [] kO r4) (let z2:=(A6 (gC r4 0 0));match idx a1.items x4 with|none=>none|some y3=>(gd (okB [] kO (dK y3 z2)) (k1 (Ey .i64 (x4+1)) (A6 (gC (dK y3 z2) 0 0))))))else(k2 x4 z1 ae)
def A4W{R:Type}(nn:Nat)(dK:LitT->(DS)->DW)(a1:LitT)(ac:DS):Nat->Int->(DS)->(Int->Bool->(DS)->Option R)->Option R
 |0,_,_,_=>none
 |n+1,x4,ae,k2=>A59 nn dK a1 ac x4 ae (λx4 ae=>A4W nn dK a1 ac n x4 ae k2) k2
def C4t{R:Type}(nn:Nat)(dK:LitT->(DS)->DW)(a1:LitT)(ac:DS):∀(n:Nat)(x4:Int)(ae:DS)(K:Ex->S6->Option R),LP (E45 dK) nn Fq [1,1,0,1,1,1,1,1,1,1,0,1,0,1,0,0] 10013 n (B5T a1 ac x4 ae) K=A4W nn dK a1 ac n x4 ae (λx4 sX ae=>K (.exit 1) (C8Z a1 ac x4 sX ae))
 |0,_,_,_=>rfl
 |n+1,x4,ae,K=>by
  rw[A4W];simp only[<-C4t nn dK a1 ac n _ _ K];kernel_rfl
def A7F{R:Type}(nn:Nat)(dK:LitT->(DS)->DW)(a1:LitT)(ac:DS)(x5:Int)(ae:DS)(k1:Int->(DS)->Option R)(k2:Int->Bool->(DS)->Option R):Option R:=let z1:=decide (x5<(Ew a1.fields:Int));bif z1 then(let cD:=F30 x5 [44,32] ae;gd (okB [] kO cD) (let z2:=(A6 (gC cD 0 0));match idx a1.fields x5 with|none=>none|some y3=>(let r9:=F32 y3.name z2;gd (okB [] kO r9) (let z4:=(A6 (gC r9 0 0));let r8:=F32 [58,32] z4;gd (okB [] kO r8) (let z5:=(A6 (gC r8 0 0));match idx a1.fields x5 with|none=>none|some y6=>(let r7:=dK (LitT.mk y6.value.kind y6.value.text y6.value.block y6.value.items y6.value.fields y6.value.pos) z5;gd (okB [] kO r7) (k1 (Ey .i64 (x5+1)) (A6 (gC r7 0 0)))))))))else(k2 x5 z1 ae)
def A5W{R:Type}(nn:Nat)(dK:LitT->(DS)->DW)(a1:LitT)(ac:DS):Nat->Int->(DS)->(Int->Bool->(DS)->Option R)->Option R
 |0,_,_,_=>none
 |n+1,x5,ae,k2=>A7F nn dK a1 ac x5 ae (λx5 ae=>A5W nn dK a1 ac n x5 ae k2) k2
def C0y{R:Type}(nn:Nat)(dK:LitT->(DS)->DW)(a1:LitT)(ac:DS):∀(n:Nat)(x5:Int)(ae:DS)(K:Ex->S6->Option R),LP (E45 dK) nn Fq [1,1,0,1,1,1,1,1,1,1,1,1,0,1,0,1,0,0] 10021 n (B7c a1 ac x5 ae) K=A5W nn dK a1 ac n x5 ae (λx5 xc ae=>K (.exit 3) (D2M a1 ac x5 xc ae))
 |0,_,_,_=>rfl
 |n+1,x5,ae,K=>by
  rw[A5W];simp only[<-C0y nn dK a1 ac n _ _ K];kernel_rfl
def A4E(nn:Nat)(dK:LitT->(DS)->DW)(a1:LitT)(ac:DS):DW:=bif(a1.kind==1)then(let r3:=F32 [36] ac;gd (okB [] kO r3) (let z1:=(A6 (gC r3 0 0));let r2:=F32 a1.text z1;gd (okB [] kO r2) (some ([],[[.sl .u8 (A6 (gC r2 0 0)) (some 92000000)]]))))else(bif(a1.kind==6)then(let r4:=F32 [110,117,108,108] ac;gd (okB [] kO r4) (some ([],[[.sl .u8 (A6 (gC r4 0 0)) (some 92000000)]])))else(bif(a1.kind==4)then(let r5:=A7j a1.block a1.text ac;gd (okB [] kO r5) (some ([],[[.sl .u8 (A6 (gC r5 0 0)) (some 92000000)]])))else(bif(a1.kind==8)then(let cD:=F32 [91] ac;gd (okB [] kO cD) (A4W nn dK a1 ac nn 0 (A6 (gC cD 0 0)) (λz6 z7 z8=>let r9:=F32 [93] z8;gd (okB [] kO r9) (some ([],[[.sl .u8 (A6 (gC r9 0 0)) (some 92000000)]])))))else(bif(a1.kind==9)then(let dn:=F32 [123] ac;gd (okB [] kO dn) (A5W nn dK a1 ac nn 0 (A6 (gC dn 0 0)) (λcW er ee=>let ew:=F32 [125] ee;gd (okB [] kO ew) (some ([],[[.sl .u8 (A6 (gC ew 0 0)) (some 92000000)]])))))else(let gk:=F32 a1.text ac;gd (okB [] kO gk) (some ([],[[.sl .u8 (A6 (gC gk 0 0)) (some 92000000)]])))))))
def A4Q(dK:LitT->(DS)->DW)(a1:LitT)(ac:DS):DW:=A4E NN dK a1 ac
def B4K(nn:Nat)(dK:LitT->(DS)->DW){a1:LitT}{ac:DS}:C5 (E45 dK) nn Fq [0] [.ptr 900000 0,.agg .lit a1] [[.sl .u8 ac (some 92000000)]]=A4E nn dK a1 ac:=by
 have h:C5 (E45 dK) nn Fq [0] [.ptr 900000 0,.agg .lit a1] [[.sl .u8 ac (some 92000000)]]=bif(a1.kind==1)then(let r3:=F32 [36] ac;gd (okB [] kO r3) (let z1:=(A6 (gC r3 0 0));let r2:=F32 a1.text z1;gd (okB [] kO r2) (some ([],[[.sl .u8 (A6 (gC r2 0 0)) (some 92000000)]]))))else(bif(a1.kind==6)then(let r4:=F32 [110,117,108,108] ac;gd (okB [] kO r4) (some ([],[[.sl .u8 (A6 (gC r4 0 0)) (some 92000000)]])))else(bif(a1.kind==4)then(let r5:=A7j a1.block a1.text ac;gd (okB [] kO r5) (some ([],[[.sl .u8 (A6 (gC r5 0 0)) (some 92000000)]])))else(bif(a1.kind==8)then(let cD:=F32 [91] ac;gd (okB [] kO cD) (LP (E45 dK) nn Fq [1,1,0,1,1,1,1,1,1,1,0,1,0,1,0,0] 10013 nn (B5T a1 ac 0 (A6 (gC cD 0 0))) (A7 1 (sk (E45 dK) nn Fq [1,1,0,1,1,1,1,1,1,1,0,1,1] (A7 0 (L9 (E45 dK) Tryz.f45.results.toList [0] [[.sl .u8 ac (some 92000000)]]))))))else(bif(a1.kind==9)then(let dn:=F32 [123] ac;gd (okB [] kO dn) (LP (E45 dK) nn Fq [1,1,0,1,1,1,1,1,1,1,1,1,0,1,0,1,0,0] 10021 nn (B7c a1 ac 0 (A6 (gC dn 0 0))) (A7 3 (sk (E45 dK) nn Fq [1,1,0,1,1,1,1,1,1,1,1,1,0,1,1] (A7 0 (L9 (E45 dK) Tryz.f45.results.toList [0] [[.sl .u8 ac (some 92000000)]]))))))else(let gk:=F32 a1.text ac;gd (okB [] kO gk) (some ([],[[.sl .u8 (A6 (gC gk 0 0)) (some 92000000)]]))))))):=En
 rw[h];simp only[C4t,C0y];show _=_;kernel_rfl
def R45:Nat->LitT->(DS)->DW
 |0,_,_=>none
 |d+1,a1,ac=>A4Q (R45 d) a1 ac
def F45(a1:LitT)(ac:DS):DW:=R45 DD a1 ac
def S45:S2T
 |[.ptr d0 o0,.agg .lit a1],[[.sl .u8 ac (some co)]]=>bif bq d0 o0&&(Fb co 92000000)then pB [] kO (F45 a1 ac)else none
 |_,_=>none
def A5r:Env Ty6 A4:=mkE [] [(30,S30),(32,S32),(45,S45)] (lkD [(0,[5,6]),(1,[7,8,9]),(3,[10,11,12]),(4,[14,15]),(5,[13,16,17,18]),(6,[19,20,21,22,23,24,25]),(7,[26,27]),(8,[28,29,30,31,32,33,34]),(9,[1,4,13,35,36])]) 37 [] 1 [] []
def B5V(a1:List D1)(ac:DS)(x4:Int)(ae:DS):S6:=ou [eL 1 .arg a1,eI 4 x4] ae
def C5V(a1:List D1)(ac:DS)(x4:Int)(bN:Bool)(ae:DS):S6:=E7 (eB 13 bN) (B5V a1 ac x4 ae)
def B3R{R:Type}(nn:Nat)(a1:List D1)(ac:DS)(x4:Int)(ae:DS)(k1:Int->(DS)->Option R)(k2:Int->Bool->(DS)->Option R):Option R:=let z1:=decide (x4<(Ew a1:Int));bif z1 then(let cD:=F30 x4 [44,32] ae;gd (okB [] kO cD) (let z2:=(A6 (gC cD 0 0));match idx a1 x4 with|none=>none|some y3=>(let r9:=F32 y3.name z2;gd (okB [] kO r9) (let z4:=(A6 (gC r9 0 0));let r8:=F32 [58,32] z4;gd (okB [] kO r8) (let z5:=(A6 (gC r8 0 0));match idx a1 x4 with|none=>none|some y6=>(let r7:=F45 (LitT.mk y6.value.kind y6.value.text y6.value.block y6.value.items y6.value.fields y6.value.pos) z5;gd (okB [] kO r7) (k1 (Ey .i64 (x4+1)) (A6 (gC r7 0 0)))))))))else(k2 x4 z1 ae)
def A3g{R:Type}(nn:Nat)(a1:List D1)(ac:DS):Nat->Int->(DS)->(Int->Bool->(DS)->Option R)->Option R
 |0,_,_,_=>none
 |n+1,x4,ae,k2=>B3R nn a1 ac x4 ae (λx4 ae=>A3g nn a1 ac n x4 ae k2) k2
def C3L{R:Type}(nn:Nat)(a1:List D1)(ac:DS):∀(n:Nat)(x4:Int)(ae:DS)(K:Ex->S6->Option R),LP A5r nn Hf [1,1,0,1,0,0] 10003 n (B5V a1 ac x4 ae) K=A3g nn a1 ac n x4 ae (λx4 bN ae=>K (.exit 0) (C5V a1 ac x4 bN ae))
 |0,_,_,_=>rfl
 |n+1,x4,ae,K=>by
  rw[A3g];simp only[<-C3L nn a1 ac n _ _ K];kernel_rfl
def B5q(nn:Nat)(a1:List D1)(ac:DS):DW:=let z1:=(Ew a1:Int)==0;bif z1 then(some ([],[[.sl .u8 ac (some 92000000)]]))else(let r6:=F32 [40] ac;gd (okB [] kO r6) (A3g nn a1 ac nn 0 (A6 (gC r6 0 0)) (λz2 z3 z4=>let r5:=F32 [41] z4;gd (okB [] kO r5) (some ([],[[.sl .u8 (A6 (gC r5 0 0)) (some 92000000)]])))))
def A8l(a1:List D1)(ac:DS):DW:=B5q NN a1 ac
def C92(nn:Nat){a1:List D1}{ac:DS}:C5 A5r nn Hf [0] [.ptr 900000 0,.sl .arg a1 none] [[.sl .u8 ac (some 92000000)]]=B5q nn a1 ac:=by
 have h:C5 A5r nn Hf [0] [.ptr 900000 0,.sl .arg a1 none] [[.sl .u8 ac (some 92000000)]]=let z1:=(Ew a1:Int)==0;bif z1 then(some ([],[[.sl .u8 ac (some 92000000)]]))else(let r6:=F32 [40] ac;gd (okB [] kO r6) (LP A5r nn Hf [1,1,0,1,0,0] 10003 nn (B5V a1 ac 0 (A6 (gC r6 0 0))) (A7 0 (sk A5r nn Hf [1,1,1] (L9 A5r Tryz.f145.results.toList [0] [[.sl .u8 ac (some 92000000)]]))))):=En
 rw[h];simp only[C3L];show _=_;kernel_rfl
def B1P:S2T
 |[.ptr d0 o0,.sl .arg a1 none],[[.sl .u8 ac (some co)]]=>bif bq d0 o0&&(Fb co 92000000)then pB [] kO (A8l a1 ac)else none
 |_,_=>none
def E72:Env Ty6 A4:=mkE [] [(32,S32),(145,B1P)] (lkD [(1,[5,6,7]),(2,[9,10]),(3,[8,11,12]),(4,[13,14,15,16,17,18,19]),(5,[20,21,22,23,24,25,26])]) 27 [] 1 [] []
def B4m(a1:List C7)(ac:DS)(x4:Int)(ae:DS):S6:=ou [eL 1 .dir a1,eI 4 x4] ae
def C9q(a1:List C7)(ac:DS)(x4:Int)(x8:Bool)(ae:DS):S6:=E7 (eB 8 x8) (B4m a1 ac x4 ae)
def B6P{R:Type}(nn:Nat)(a1:List C7)(ac:DS)(x4:Int)(ae:DS)(k1:Int->(DS)->Option R)(k2:Int->Bool->(DS)->Option R):Option R:=let z1:=decide (x4<(Ew a1:Int));bif z1 then(let r8:=F32 [32,64] ae;gd (okB [] kO r8) (let z2:=(A6 (gC r8 0 0));match idx a1 x4 with|none=>none|some y3=>(let r7:=F32 y3.name z2;gd (okB [] kO r7) (let z4:=(A6 (gC r7 0 0));match idx a1 x4 with|none=>none|some y5=>(let r6:=A8l y5.args z4;gd (okB [] kO r6) (k1 (Ey .i64 (x4+1)) (A6 (gC r6 0 0))))))))else(k2 x4 z1 ae)
def A2J{R:Type}(nn:Nat)(a1:List C7)(ac:DS):Nat->Int->(DS)->(Int->Bool->(DS)->Option R)->Option R
 |0,_,_,_=>none
 |n+1,x4,ae,k2=>B6P nn a1 ac x4 ae (λx4 ae=>A2J nn a1 ac n x4 ae k2) k2
def C0H{R:Type}(nn:Nat)(a1:List C7)(ac:DS):∀(n:Nat)(x4:Int)(ae:DS)(K:Ex->S6->Option R),LP E72 nn Hq [1,0,0] 10001 n (B4m a1 ac x4 ae) K=A2J nn a1 ac n x4 ae (λx4 x8 ae=>K (.exit 0) (C9q a1 ac x4 x8 ae))
 |0,_,_,_=>rfl
 |n+1,x4,ae,K=>by
  rw[A2J];simp only[<-C0H nn a1 ac n _ _ K];kernel_rfl
def C0d(nn:Nat)(a1:List C7)(ac:DS):DW:=A2J nn a1 ac nn 0 ac (λz1 z2 z3=>some ([],[[.sl .u8 z3 (some 92000000)]]))
def F72(a1:List C7)(ac:DS):DW:=C0d NN a1 ac
def C7U(nn:Nat){a1:List C7}{ac:DS}:C5 E72 nn Hq [0] [.ptr 900000 0,.sl .dir a1 none] [[.sl .u8 ac (some 92000000)]]=C0d nn a1 ac:=by
 have h:C5 E72 nn Hq [0] [.ptr 900000 0,.sl .dir a1 none] [[.sl .u8 ac (some 92000000)]]=LP E72 nn Hq [1,0,0] 10001 nn (B4m a1 ac 0 ac) (A7 0 (L9 E72 Tryz.f72.results.toList [0] [[.sl .u8 ac (some 92000000)]])):=En
 rw[h];simp only[C0H];show _=_;kernel_rfl
def S72:S2T
 |[.ptr d0 o0,.sl .dir a1 none],[[.sl .u8 ac (some co)]]=>bif bq d0 o0&&(Fb co 92000000)then pB [] kO (F72 a1 ac)else none
 |_,_=>none
def B1Y(g:(Ee)->Int->(DS)->DW):S2T
 |[.ptr d0 o0,.sl .sel a1 none,.int .i64 a2],[[.sl .u8 ac (some co)]]=>bif bq d0 o0&&(Fb co 92000000)then pB [] kO (g a1 a2 ac)else none
 |_,_=>none
def B1O(g:SelT->Int->(DS)->DW):S2T
 |[.ptr d0 o0,.agg .sel a1,.int .i64 a2],[[.sl .u8 ac (some co)]]=>bif bq d0 o0&&(Fb co 92000000)then pB [] kO (g a1 a2 ac)else none
 |_,_=>none
def E69(dL:(Ee)->Int->(DS)->DW)(g144:SelT->Int->(DS)->DW):Env Ty6 A4:=mkE [] [(32,S32),(143,B7C),(144,B1O g144)] (lkD [(0,[7,8]),(2,[9,10,11]),(3,[13,14]),(4,[12,15,16,17,18]),(5,[19,20,21,22,23,24,25,26]),(6,[1,2,6,12,27,28,29]),(7,[30,31])]) 32 [] 1 [] []
def B5G(a1:Ee)(a2:Int)(ac:DS)(x6:Int)(ae:DS):S6:=ou [eL 1 .sel a1,eI 2 a2,eI 6 x6] ae
def D4B(a1:Ee)(a2:Int)(ac:DS)(x6:Int)(b9:Bool)(ae:DS):S6:=E7 (eB 12 b9) (B5G a1 a2 ac x6 ae)
def B29{R:Type}(nn:Nat)(dL:(Ee)->Int->(DS)->DW)(g144:SelT->Int->(DS)->DW)(a1:Ee)(a2:Int)(ac:DS)(x6:Int)(ae:DS)(k1:Int->(DS)->Option R)(k2:Int->Bool->(DS)->Option R):Option R:=let z1:=decide (x6<(Ew a1:Int));bif z1 then(let r5:=A7D (Ey .i64 (a2+1)) ae;gd (okB [] kO r5) (let z2:=(A6 (gC r5 0 0));match idx a1 x6 with|none=>none|some y3=>(let r4:=g144 y3 (Ey .i64 (a2+1)) z2;gd (okB [] kO r4) (k1 (Ey .i64 (x6+1)) (A6 (gC r4 0 0))))))else(k2 x6 z1 ae)
def A2F{R:Type}(nn:Nat)(dL:(Ee)->Int->(DS)->DW)(g144:SelT->Int->(DS)->DW)(a1:Ee)(a2:Int)(ac:DS):Nat->Int->(DS)->(Int->Bool->(DS)->Option R)->Option R
 |0,_,_,_=>none
 |n+1,x6,ae,k2=>B29 nn dL g144 a1 a2 ac x6 ae (λx6 ae=>A2F nn dL g144 a1 a2 ac n x6 ae k2) k2
def B8P{R:Type}(nn:Nat)(dL:(Ee)->Int->(DS)->DW)(g144:SelT->Int->(DS)->DW)(a1:Ee)(a2:Int)(ac:DS):∀(n:Nat)(x6:Int)(ae:DS)(K:Ex->S6->Option R),LP (E69 dL g144) nn Gk [1,0,1,0,0] 10002 n (B5G a1 a2 ac x6 ae) K=A2F nn dL g144 a1 a2 ac n x6 ae (λx6 b9 ae=>K (.exit 0) (D4B a1 a2 ac x6 b9 ae))
 |0,_,_,_=>rfl
 |n+1,x6,ae,K=>by
  rw[A2F];simp only[<-B8P nn dL g144 a1 a2 ac n _ _ K];kernel_rfl
def B6y(nn:Nat)(dL:(Ee)->Int->(DS)->DW)(g144:SelT->Int->(DS)->DW)(a1:Ee)(a2:Int)(ac:DS):DW:=let r6:=F32 [123] ac;gd (okB [] kO r6) (A2F nn dL g144 a1 a2 ac nn 0 (A6 (gC r6 0 0)) (λz1 z2 z3=>gd (okB [] kO (A7D a2 z3)) (let z4:=(A6 (gC (A7D a2 z3) 0 0));let r5:=F32 [125] z4;gd (okB [] kO r5) (some ([],[[.sl .u8 (A6 (gC r5 0 0)) (some 92000000)]])))))
def B6u(dL:(Ee)->Int->(DS)->DW)(g144:SelT->Int->(DS)->DW)(a1:Ee)(a2:Int)(ac:DS):DW:=B6y NN dL g144 a1 a2 ac
def D2q(nn:Nat)(dL:(Ee)->Int->(DS)->DW)(g144:SelT->Int->(DS)->DW){a1:Ee}{a2:Int}{ac:DS}:C5 (E69 dL g144) nn Gk [0] [.ptr 900000 0,.sl .sel a1 none,.int .i64 a2] [[.sl .u8 ac (some 92000000)]]=B6y nn dL g144 a1 a2 ac:=by
 have h:C5 (E69 dL g144) nn Gk [0] [.ptr 900000 0,.sl .sel a1 none,.int .i64 a2] [[.sl .u8 ac (some 92000000)]]=let r6:=F32 [123] ac;gd (okB [] kO r6) (LP (E69 dL g144) nn Gk [1,0,1,0,0] 10002 nn (B5G a1 a2 ac 0 (A6 (gC r6 0 0))) (A7 0 (sk (E69 dL g144) nn Gk [1,1] (L9 (E69 dL g144) Tryz.f69.results.toList [0] [[.sl .u8 ac (some 92000000)]])))):=En
 rw[h];simp only[B8P];show _=_;kernel_rfl
def B8p(dL:(Ee)->Int->(DS)->DW)(g144:SelT->Int->(DS)->DW):Env Ty6 A4:=mkE [] [(32,S32),(69,B1Y dL),(72,S72),(145,B1P)] noD 61 [] 1 [] []
def B02(dL:(Ee)->Int->(DS)->DW)(g144:SelT->Int->(DS)->DW)(a1:SelT)(a2:Int)(ac:DS):DW:=let j1:(DS)->DW:=λz2=>let r7:=F72 a1.dirs z2;gd (okB [] kO r7) (let z3:=(A6 (gC r7 0 0));bif(decide ((Ew a1.sels:Int)>0))then(let r6:=F32 [32] z3;gd (okB [] kO r6) (let z4:=(A6 (gC r6 0 0));let r5:=dL a1.sels a2 z4;gd (okB [] kO r5) (some ([],[[.sl .u8 (A6 (gC r5 0 0)) (some 92000000)]]))))else(some ([],[[.sl .u8 z3 (some 92000000)]])));bif(a1.kind==2)then(let cD:=F32 [46,46,46] ac;gd (okB [] kO cD) (let z8:=(A6 (gC cD 0 0));let r9:=F32 a1.name z8;gd (okB [] kO r9) (j1 (A6 (gC r9 0 0)))))else(bif(a1.kind==3)then(let dn:=F32 [46,46,46] ac;gd (okB [] kO dn) (let cW:=(A6 (gC dn 0 0));bif(!(a1.on_==[]))then(let ew:=F32 [32,111,110,32] cW;gd (okB [] kO ew) (let er:=(A6 (gC ew 0 0));let dO:=F32 a1.on_ er;gd (okB [] kO dO) (j1 (A6 (gC dO 0 0)))))else(j1 cW)))else(let uq:(DS)->DW:=λnj=>let tg:=F32 a1.name nj;gd (okB [] kO tg) (let fI:=(A6 (gC tg 0 0));let jM:=A8l a1.args fI;gd (okB [] kO jM) (j1 (A6 (gC jM 0 0))));bif(!(a1.alias_==[]))then(let jL:=F32 a1.alias_ ac;gd (okB [] kO jL) (let z21:=(A6 (gC jL 0 0));let jN:=F32 [58,32] z21;gd (okB [] kO jN) (uq (A6 (gC jN 0 0)))))else(uq ac)))
def C5p(dL:(Ee)->Int->(DS)->DW)(g144:SelT->Int->(DS)->DW){a1:SelT}{a2:Int}{ac:DS}:C5 (B8p dL g144) NN Tryz.f144 [0] [.ptr 900000 0,.agg .sel a1,.int .i64 a2] [[.sl .u8 ac (some 92000000)]]=B02 dL g144 a1 a2 ac:=En
def W0:Nat->((Ee)->Int->(DS)->DW)×(SelT->Int->(DS)->DW)
 |0=>(λ_ _ _=>none,λ_ _ _=>none)
 |d+1=>(B6u (W0 d).1 (W0 d).2,B02 (W0 d).1 (W0 d).2)
def F69(a1:Ee)(a2:Int)(ac:DS):DW:=(W0 DD).1 a1 a2 ac
def S69:S2T
 |[.ptr d0 o0,.sl .sel a1 none,.int .i64 a2],[[.sl .u8 ac (some co)]]=>bif bq d0 o0&&(Fb co 92000000)then pB [] kO (F69 a1 a2 ac)else none
 |_,_=>none
def E70:Env Ty6 A4:=mkE [] [] noD 8 [] 0 [] []
def F70(a0:Int):DU:=bif(a0==1)then(some (.one (.str [113,117,101,114,121])))else(bif(a0==2)then(some (.one (.str [109,117,116,97,116,105,111,110])))else(some (.one (.str [115,117,98,115,99,114,105,112,116,105,111,110]))))
def D0C{a0:Int}:A5 E70 NN Tryz.f70 [.int .i64 a0]=F70 a0:=En
def S70:S1T
 |[.int .i64 a0]=>pR [.str] (F70 a0)
 |_=>none
def E49:Env Ty6 A4:=mkE [] [(32,S32)] (lkD [(0,[1]),(2,[5,6,7,8]),(3,[10,11,16]),(4,[9,12,13,14,15]),(5,[16,17,18]),(6,[4,9,19,20,21,22]),(7,[3,23,24,25,26,1000103])]) 27 [] 1 [] []
def B7h(a1:I6)(ac:DS)(x4:Int)(ae:DS):S6:=ou [(3,.one (.elem .tref a1 0)),eI 4 x4] ae
def C5x(a1:I6)(ac:DS)(x4:Int)(x9:Bool)(ae:DS):S6:=E7 (eB 9 x9) (B7h a1 ac x4 ae)
def A8C{R:Type}(nn:Nat)(a1:I6)(ac:DS)(x4:Int)(ae:DS)(k1:Int->(DS)->Option R)(k2:Int->Bool->(DS)->Option R):Option R:=let z1:=decide (x4<(Ew a1.wrap:Int));bif z1 then(match idx a1.wrap x4 with|none=>none|some y2=>(let z3:=(Fj y2:Int)==93;bif z3 then(let r4:=F32 [91] ae;gd (okB [] kO r4) (k1 (Ey .i64 (x4+1)) (A6 (gC r4 0 0))))else(k1 (Ey .i64 (x4+1)) ae)))else(k2 x4 z1 ae)
def A4S{R:Type}(nn:Nat)(a1:I6)(ac:DS):Nat->Int->(DS)->(Int->Bool->(DS)->Option R)->Option R
 |0,_,_,_=>none
 |n+1,x4,ae,k2=>A8C nn a1 ac x4 ae (λx4 ae=>A4S nn a1 ac n x4 ae k2) k2
def C4W{R:Type}(nn:Nat)(a1:I6)(ac:DS):∀(n:Nat)(x4:Int)(ae:DS)(K:Ex->S6->Option R),LP E49 nn Gt [1,0,1,0,0] 10002 n (B7h a1 ac x4 ae) K=A4S nn a1 ac n x4 ae (λx4 x9 ae=>K (.exit 0) (C5x a1 ac x4 x9 ae))
 |0,_,_,_=>rfl
 |n+1,x4,ae,K=>by
  rw[A4S];simp only[<-C4W nn a1 ac n _ _ K];kernel_rfl
def A6l(nn:Nat)(a1:I6)(ac:DS):DW:=A4S nn a1 ac nn 0 ac (λz1 z2 z3=>let r6:=F32 a1.name z3;gd (okB [] kO r6) (let z4:=(A6 (gC r6 0 0));let r5:=F32 a1.wrap z4;gd (okB [] kO r5) (some ([],[[.sl .u8 (A6 (gC r5 0 0)) (some 92000000)]]))))
def F49(a1:I6)(ac:DS):DW:=A6l NN a1 ac
def B5Y(nn:Nat){a1:I6}{ac:DS}:C5 E49 nn Gt [0] [.ptr 900000 0,.agg .tref a1] [[.sl .u8 ac (some 92000000)]]=A6l nn a1 ac:=by
 have h:C5 E49 nn Gt [0] [.ptr 900000 0,.agg .tref a1] [[.sl .u8 ac (some 92000000)]]=LP E49 nn Gt [1,0,1,0,0] 10002 nn (B7h a1 ac 0 ac) (A7 0 (sk E49 nn Gt [1,1] (L9 E49 Tryz.f49.results.toList [0] [[.sl .u8 ac (some 92000000)]]))):=En
 rw[h];simp only[C4W];show _=_;kernel_rfl
def S49:S2T
 |[.ptr d0 o0,.agg .tref a1],[[.sl .u8 ac (some co)]]=>bif bq d0 o0&&(Fb co 92000000)then pB [] kO (F49 a1 ac)else none
 |_,_=>none
def E71:Env Ty6 A4:=mkE [] [(30,S30),(32,S32),(45,S45),(49,S49),(72,S72)] (lkD [(0,[5,6]),(1,[7,8,9]),(3,[10,11,12]),(4,[14,15]),(5,[13,16,17,18]),(6,[19,20]),(7,[21,22,23,24,25,26,27]),(8,[28,29]),(9,[30,31,32,33,34,35,36]),(10,[37,38,39,40]),(11,[41,42,43]),(12,[44,45,46,47,48,49,50]),(13,[41,51,52,53,54,55,56,57]),(14,[1,4,13,58,59])]) 60 [] 1 [] []
def B4M(a1:List VdT)(ac:DS)(x4:Int)(ae:DS):S6:=ou [eL 1 .vd a1,eI 4 x4] ae
def D74(a1:List VdT)(ac:DS)(x4:Int)(bN:Bool)(ae:DS):S6:=E7 (eB 13 bN) (B4M a1 ac x4 ae)
def B0B{R:Type}(nn:Nat)(a1:List VdT)(ac:DS)(x4:Int)(ae:DS)(k1:Int->(DS)->Option R)(k2:Int->Bool->(DS)->Option R):Option R:=let z1:=decide (x4<(Ew a1:Int));bif z1 then(let j2:Int->(DS)->Option R:=λz3 z4=>k1 (Ey .i64 (z3+1)) z4;let gj:=F30 x4 [44,32] ae;gd (okB [] kO gj) (let z5:=(A6 (gC gj 0 0));let et:=F32 [36] z5;gd (okB [] kO et) (let z6:=(A6 (gC et 0 0));match idx a1 x4 with|none=>none|some y7=>(let lU:=F32 y7.name z6;gd (okB [] kO lU) (let z8:=(A6 (gC lU 0 0));let jL:=F32 [58,32] z8;gd (okB [] kO jL) (let z9:=(A6 (gC jL 0 0));match idx a1 x4 with|none=>none|some gf=>(let jN:=F49 gf.type_ z9;gd (okB [] kO jN) (let cW:=(A6 (gC jN 0 0));match idx a1 x4 with|none=>none|some jJ=>(bif jJ.hasDefault then(let jM:=F32 [32,61,32] cW;gd (okB [] kO jM) (let ee:=(A6 (gC jM 0 0));match idx a1 x4 with|none=>none|some lO=>(let lV:=F45 (LitT.mk lO.dflt.kind lO.dflt.text lO.dflt.block lO.dflt.items lO.dflt.fields lO.dflt.pos) ee;gd (okB [] kO lV) (let fv:=(A6 (gC lV 0 0));match idx a1 x4 with|none=>none|some qC=>(let lW:=F72 qC.dirs fv;gd (okB [] kO lW) (j2 x4 (A6 (gC lW 0 0))))))))else(match idx a1 x4 with|none=>none|some Cm=>(let ot:=F72 Cm.dirs cW;gd (okB [] kO ot) (j2 x4 (A6 (gC ot 0 0))))))))))))))else(k2 x4 z1 ae)
def A2M{R:Type}(nn:Nat)(a1:List VdT)(ac:DS):Nat->Int->(DS)->(Int->Bool->(DS)->Option R)->Option R
 |0,_,_,_=>none
 |n+1,x4,ae,k2=>B0B nn a1 ac x4 ae (λx4 ae=>A2M nn a1 ac n x4 ae k2) k2
def B8I{R:Type}(nn:Nat)(a1:List VdT)(ac:DS):∀(n:Nat)(x4:Int)(ae:DS)(K:Ex->S6->Option R),LP E71 nn Gj [1,1,0,1,0,0] 10003 n (B4M a1 ac x4 ae) K=A2M nn a1 ac n x4 ae (λx4 bN ae=>K (.exit 0) (D74 a1 ac x4 bN ae))
 |0,_,_,_=>rfl
 |n+1,x4,ae,K=>by
  rw[A2M];simp only[<-B8I nn a1 ac n _ _ K];kernel_rfl
def B2F(nn:Nat)(a1:List VdT)(ac:DS):DW:=let z1:=(Ew a1:Int)==0;bif z1 then(some ([],[[.sl .u8 ac (some 92000000)]]))else(let r6:=F32 [40] ac;gd (okB [] kO r6) (A2M nn a1 ac nn 0 (A6 (gC r6 0 0)) (λz2 z3 z4=>let r5:=F32 [41] z4;gd (okB [] kO r5) (some ([],[[.sl .u8 (A6 (gC r5 0 0)) (some 92000000)]])))))
def F71(a1:List VdT)(ac:DS):DW:=B2F NN a1 ac
def D6P(nn:Nat){a1:List VdT}{ac:DS}:C5 E71 nn Gj [0] [.ptr 900000 0,.sl .vd a1 none] [[.sl .u8 ac (some 92000000)]]=B2F nn a1 ac:=by
 have h:C5 E71 nn Gj [0] [.ptr 900000 0,.sl .vd a1 none] [[.sl .u8 ac (some 92000000)]]=let z1:=(Ew a1:Int)==0;bif z1 then(some ([],[[.sl .u8 ac (some 92000000)]]))else(let r6:=F32 [40] ac;gd (okB [] kO r6) (LP E71 nn Gj [1,1,0,1,0,0] 10003 nn (B4M a1 ac 0 (A6 (gC r6 0 0))) (A7 0 (sk E71 nn Gj [1,1,1] (L9 E71 Tryz.f71.results.toList [0] [[.sl .u8 ac (some 92000000)]]))))):=En
 rw[h];simp only[B8I];show _=_;kernel_rfl
def S71:S2T
 |[.ptr d0 o0,.sl .vd a1 none],[[.sl .u8 ac (some co)]]=>bif bq d0 o0&&(Fb co 92000000)then pB [] kO (F71 a1 ac)else none
 |_,_=>none
def E31:Env Ty6 A4:=mkE [(70,S70)] [(32,S32),(69,S69),(71,S71),(72,S72)] noD 58 [] 1 [] []
def F31(a1:D8)(ac:DS):DW:=let j1:DW:=let j2:(DS)->DW:=λz3=>let r8:=F72 a1.dirs z3;gd (okB [] kO r8) (let z4:=(A6 (gC r8 0 0));let r7:=F32 [32] z4;gd (okB [] kO r7) (let z5:=(A6 (gC r7 0 0));let r6:=F69 a1.sels 0 z5;gd (okB [] kO r6) (some ([],[[.sl .u8 (A6 (gC r6 0 0)) (some 92000000)]]))));bif(a1.kind==4)then(let dn:=F32 [102,114,97,103,109,101,110,116,32] ac;gd (okB [] kO dn) (let z9:=(A6 (gC dn 0 0));let ew:=F32 a1.name z9;gd (okB [] kO ew) (let dJ:=(A6 (gC ew 0 0));let dO:=F32 [32,111,110,32] dJ;gd (okB [] kO dO) (let cW:=(A6 (gC dO 0 0));let dM:=F32 a1.on_ cW;gd (okB [] kO dM) (j2 (A6 (gC dM 0 0)))))))else(let lU:=F70 a1.kind;gd (okR [.str] lU) (let jL:=F32 (lS (gL lU 0)) ac;gd (okB [] kO jL) (let jK:=(A6 (gC jL 0 0));let ni:(DS)->DW:=λfI=>let jM:=F71 a1.vars fI;gd (okB [] kO jM) (j2 (A6 (gC jM 0 0)));bif(!(a1.name==[]))then(let jN:=F32 [32] jK;gd (okB [] kO jN) (let z20:=(A6 (gC jN 0 0));let ot:=F32 a1.name z20;gd (okB [] kO ot) (ni (A6 (gC ot 0 0)))))else(ni jK))));bif(a1.kind==1)==true then(bif a1.short then(let et:=F69 a1.sels 0 ac;gd (okB [] kO et) (some ([],[[.sl .u8 (A6 (gC et 0 0)) (some 92000000)]])))else j1)else(bif false then(let gj:=F69 a1.sels 0 ac;gd (okB [] kO gj) (some ([],[[.sl .u8 (A6 (gC gj 0 0)) (some 92000000)]])))else j1)
def C9y{a1:D8}{ac:DS}:C5 E31 NN Tryz.f31 [0] [.ptr 900000 0,.agg .dfn a1] [[.sl .u8 ac (some 92000000)]]=F31 a1 ac:=En
def S31:S2T
 |[.ptr d0 o0,.agg .dfn a1],[[.sl .u8 ac (some co)]]=>bif bq d0 o0&&(Fb co 92000000)then pB [] kO (F31 a1 ac)else none
 |_,_=>none
def E10:Env Ty6 A4:=mkE [] [(30,S30),(31,S31),(32,S32)] (lkD [(0,[0,2,1000106]),(1,[5,6]),(3,[7,8,9,10]),(4,[12,13]),(5,[11,14,15,16]),(6,[17,18,19,20,21,22,23]),(7,[24,25]),(8,[1,3,4,11,26,27,28,29,30,1000101,1000106])]) 31 [5,6] 0 [] [(5,106)]
def B6I(a0:J1)(x4:Int)(ag:DS):S6:=⟨[(1,.one (.elem .doc a0 0)),eP 3 106,eI 4 x4,(1000106,.bx 106 [.sl .u8 ag (some 2010600)])],[106,2010600]⟩
def D3A(a0:J1)(x4:Int)(cg:Bool)(ag:DS):S6:=E7 (eB 11 cg) (B6I a0 x4 ag)
def B4w{R:Type}(nn:Nat)(a0:J1)(x4:Int)(ag:DS)(k1:Int->(DS)->Option R)(k2:Int->Bool->(DS)->Option R):Option R:=let z1:=decide (x4<(Ew a0.defs:Int));bif z1 then(let r6:=F30 x4 [10] ag;gd (okB [] kO r6) (let z2:=(A6 (gC r6 0 0));match idx a0.defs x4 with|none=>none|some y3=>(gd (okB [] kO (F31 y3 z2)) (let z4:=(A6 (gC (F31 y3 z2) 0 0));let r5:=F32 [10] z4;gd (okB [] kO r5) (k1 (Ey .i64 (x4+1)) (A6 (gC r5 0 0)))))))else(k2 x4 z1 ag)
def A2A{R:Type}(nn:Nat)(a0:J1):Nat->Int->(DS)->(Int->Bool->(DS)->Option R)->Option R
 |0,_,_,_=>none
 |n+1,x4,ag,k2=>B4w nn a0 x4 ag (λx4 ag=>A2A nn a0 n x4 ag k2) k2
def B9W{R:Type}(nn:Nat)(a0:J1):∀(n:Nat)(x4:Int)(ag:DS)(K:Ex->S6->Option R),LP E10 nn Hm [1,1,0,1,0,0] 10003 n (B6I a0 x4 ag) K=A2A nn a0 n x4 ag (λx4 cg ag=>K (.exit 0) (D3A a0 x4 cg ag))
 |0,_,_,_=>rfl
 |n+1,x4,ag,K=>by
  rw[A2A];simp only[<-B9W nn a0 n _ _ K];kernel_rfl
def C2c(nn:Nat)(a0:J1):DU:=A2A nn a0 nn 0 [] (λz1 z2 z3=>some (.one (.str (Hw (λ(n:Int)=>Hy n.toNat) z3))))
def F10(a0:J1):DU:=C2c NN a0
def D6A(nn:Nat){a0:J1}:A5 E10 nn Hm [.agg .doc a0]=C2c nn a0:=by
 have h:A5 E10 nn Hm [.agg .doc a0]=LP E10 nn Hm [1,1,0,1,0,0] 10003 nn (B6I a0 0 []) (A7 0 (sk E10 nn Hm [1,1,1] (B3 E10 Tryz.f10.results.toList))):=En
 rw[h];simp only[B9W];show _=_;kernel_rfl
def S10:S1T
 |[.agg .doc a0]=>pR [.str] (F10 a0)
 |_=>none
end Go.Aev
namespace Go.Aev
def bI(s:DT):DS:=s.map λ(c:UInt8)=>(c.toNat:Int)
def F1(a b:DT):bI (a++b)=bI a++bI b:=Ir
def C2(a:DT):(bI a).length=a.length:=Ig ..
def B9Q(s:DT):toB (bI s)=s:=by
 unfold toB bI;rw[List.map_map];have:((λ(n:Int)=>Hy n.toNat)∘λ(c:UInt8)=>(c.toNat:Int))=id:=by
  funext c
  simp
 rw[this,List.map_id]
def MB:Nat:=140737488355328
def B4R{n:Nat}(h:n<=MB):A3 n 1=true:=by
 unfold A3 MB at*;simp;exact h
def o44(l:DS):okB [] [[.ptr 900000 B4,.sl .u8 (some 92000001)]] (some ([],H2 l))=true:=rfl
def H0(r:DV)(l:DS):A6 (gC (some (r,H2 l)) 0 1)=l:=rfl
def o45(l:DS):okB [] [[.sl .u8 (some 92000000)]] (some ([],J7 l))=true:=rfl
def G1(r:DV)(l:DS):A6 (gC (some (r,J7 l)) 0 0)=l:=rfl
def o62(k:Int)(l:DS):okB [.int .i64,.any] [[.ptr 900000 B4,.sl .u8 (some 92000001)]] (some ([.int .i64 k,.any],H2 l))=true:=rfl
def D2h(b:DS):A47 b=some ([],H2 b):=rfl
def S5{a:DT}{b:DS}(h:b.length+a.length<=MB):F32 a b=some ([],J7 (b++bI a)):=by
 simp only[F32,gd,kC,kP,kO,B4R h,Eg];rfl
def D62{a:DT}{b:DS}(h:b.length+a.length<=MB):F62 a b=some ([.int .i64 (a.length:Int),.any],H2 (b++bI a)):=by
 simp only[F62,gd,kC,kP,kO,D2h,o44,H0,B4R h,Eg];rfl
def H3{α:Type}(l:List α)(i:Nat):idx l (i:Int)=l[i]? :=by
 unfold idx;simp
def S4{i:Nat}(h:i<=4611686018427387904):Ey .i64 ((i:Int)+1)=((i+1:Nat):Int):=by
 rw[A5g Du Du];omega
def B78{R:Type}{nn:Nat}{a1:Eb}{b0:DS}{k2:Int->Int->Bool->(DS)->Option R}(hs:a1.length<=1000):∀(n i:Nat)(buf:DS),i<=a1.length->a1.length<n+i->buf.length+(a1.drop i).flatten.length<=MB->
  A7u nn a1 b0 n (a1.length:Int) (i:Int) buf k2=k2 (a1.length:Int) (a1.length:Int) false (buf++bI (a1.drop i).flatten)
 |0,i,buf,h1,h2,h3=>Du
 |n+1,i,buf,h1,h2,h3=>by
  unfold A7u;by_cases hi:i<a1.length
  ·have hg:a1[i]?=some a1[i]:=Fz hi;have hd:a1.drop i=a1[i]::a1.drop (i+1):=Gc hi;rw[hd]at h3 ⊢;rw[Is,Fa]at h3;have aH:decide ((i:Int)<(a1.length:Int))=true:=Ei Du;simp only[F27,A8D,B2t,gd,kC,kP,kO,aH,Eg,H3,hg,D62 (a:=a1[i]) (b:=buf) Du,o62,H0,S4 (i:=i) Du];rw[B78 hs n (i+1) (buf++bI a1[i]) Du Du (by rw[Fa,C2];omega),Is,F1,Fk]
  ·have bR:i=a1.length:=Du
   subst bR;have aH:decide ((a1.length:Int)<(a1.length:Int))=false:=Ej Du;simp only[F27,A8D,B2t,gd,kC,kP,kO,aH,Eh];rw[Gb];simp[bI]
def Z9{a:Eb}{b:DS}(hs:a.length<=1000)(h:b.length+a.flatten.length<=MB):F27 a b=some ([],H2 (b++bI a.flatten)):=by
 have nk:NN=18446744073709551616:=rfl;have bE:=B78 (nn:=NN) (b0:=b) (k2:=λ(x7:Int)(x8:Int)(x9:Bool)(x:DS)=>some (([]:DV),[[(.ptr 900000 B4:L6),.sl .u8 x (some 92000001)]])) hs NN 0 b Du (by rw[nk];omega) (by simpa using h);simp only[F27,A8D,B2t,gd,kC,kP,kO];exact bE
def B59{i:Nat}{b:DS}(h:b.length+2<=MB):A1N (i:Int) b=some ([],H2 (b++bI (if i=0 then []else [44,32]))):=by
 simp only[A1N,gd,kC,kP,kO,Z9 (a:=[[44,32]]) (b:=b) Ep (by simpa using h),o44,H0,Eg];by_cases hi:i=0
 ·subst hi;simp[bI];rfl
 ·have:decide ((i:Int)>0)=true:=Ei Du;rw[this,Ek hi];rfl
def B1n{i:Nat}{s:DT}{b:DS}(h:b.length+s.length<=MB):F30 (i:Int) s b=some ([],J7 (b++bI (if i=0 then []else s))):=by
 simp only[F30,gd,kC,kP,kO,S5 (a:=s) (b:=b) h,o45,G1,Eg];by_cases hi:i=0
 ·subst hi;simp[bI];rfl
 ·have:decide ((i:Int)>0)=true:=Ei Du;rw[this,Ek hi];rfl
def qq(block:Bool)(text:DT):DT:=bif block then(btF text).1 else(qtF text).1
def D0D{t:DT}(h:smS t=true):A4e t=some (.tup [.str (btF t).1,.bool (btF t).2]):=by unfold A4e;rw[h];rfl
def D2B{t:DT}(h:smS t=true):A3N t=some (.tup [.str (qtF t).1,.int .i64 (qtF t).2]):=by unfold A3N;rw[h];rfl
def D3X{t:DT}(h:smS t=true):A3a t=some (.tup [.str (btF t).1,.bool (btF t).2]):=by unfold A3a;rw[h];rfl
def C72{t:DT}(h:smS t=true):A1Z t=some (.tup [.str (qtF t).1,.int .i64 (qtF t).2]):=by unfold A1Z;rw[h];rfl
def oS(s:DT)(b:Bool):okR [.str,.bool] (some (.tup [.str s,.bool b]))=true:=rfl
def oSi(s:DT)(b:Int):okR [.str,.int .i64] (some (.tup [.str s,.int .i64 b]))=true:=rfl
def gS(s:DT)(r:DV):lS (gL (some (.tup (.str s::r))) 0)=s:=rfl
def gS1(s:DT):lS (gL (some (.one (.str s))) 0)=s:=rfl
def gSb(l:L6)(b:Bool)(r:DV):lB (gL (some (.tup (l::.bool b::r))) 1)=b:=rfl
def oS1(s:DT):okR [.str] (some (.one (.str s)))=true:=rfl
def C9U{t:DT}(h:smS t=true)(bl:Bool):F86 bl t=some (.one (.str (qq bl t))):=by
 simp only[F86,gd,kC,kP,kO,D0D h,D2B h,oS,oSi,gS,Eg];cases bl<;>rfl
def C5o{t:DT}{b:DS}(h:smS t=true)(bl:Bool)(hb:bl=true->(btF t).2=true)(hl:b.length+(qq bl t).length<=MB):A7j bl t b=some ([],J7 (b++bI (qq bl t))):=by
 simp only[A7j,gd,kC,kP,kO,D3X h,C72 h,oS,oSi,gS,gSb,Eg];cases bl with
 |true=>
  have h1:qq true t=(btF t).1:=rfl;rw[h1]at hl ⊢;rw[hb rfl];simp only[Eg,S5 hl,o45,G1];rfl
 |false=>
  have h1:qq false t=(qtF t).1:=rfl;rw[h1]at hl ⊢;simp only[Eh,S5 hl,o45,G1,Eg];rfl
def jn:Nat->Eb->DT
 |_,[]=>[]
 |i,x::r=>(if i=0 then []else [44,32])++x++jn (i+1) r
section
variable {R:Type}{p:LitT->DT}
def B8Q{nn:Nat}{g:LitT->(DS)->Option (DV×Ec)}{a1:LitT}{b0:DS}{k2:(List LitT)->Int->Int->Bool->(DS)->Option R}{xs:List LitT}(hs:xs.length<=4611686018427387904)
  (hg:∀x∈xs,∀b:DS,b.length+(p x).length+4<=MB->g x b=some ([],H2 (b++bI (p x)))):∀(n i:Nat)(buf:DS),i<=xs.length->xs.length<n+i->buf.length+(jn i ((xs.drop i).map p)).length+4<=MB->
  A5N nn g a1 b0 n xs (xs.length:Int) (i:Int) buf k2=k2 xs (xs.length:Int) (xs.length:Int) false (buf++bI (jn i ((xs.drop i).map p)))
 |0,i,buf,h1,h2,h3=>Du
 |n+1,i,buf,h1,h2,h3=>by
  unfold A5N;by_cases hi:i<xs.length
  ·have ed:xs[i]?=some xs[i]:=Fz hi;have hd:xs.drop i=xs[i]::xs.drop (i+1):=Gc hi;have cv:xs[i]∈xs:=Fy hi;generalize xs[i]=y at*;rw[hd]at h3 ⊢;simp only[Hn,jn,Fa]at h3 ⊢;have aH:decide ((i:Int)<(xs.length:Int))=true:=Ei Du;have hc:(bI (if i=0 then []else [44,32])).length<=2:=by rw[C2];split<;>simp
   have cH:(bI (if i=0 then []else [44,32])).length=(if i=0 then []else([44,32]:DT)).length:=C2 _;have e:LitT.mk y.kind y.text y.block y.items y.fields ⟨y.pos.line,y.pos.col⟩=y:=LitT.eta y;simp only[F44,A4H,A4X,A6x,A6Q,gd,kC,kP,kO,aH,Eg,H3,ed,B59 (i:=i) (b:=buf) Du,o44,H0,S4 (i:=i) Du,e];rw[hg y cv _ (by rw[Fa];omega)];simp only[o44,H0,Eg];rw[B8Q hs hg n (i+1) _ Du Du (by simp only[Fa,C2]at*;omega)];simp only[F1,Fk]
  ·have bR:i=xs.length:=Du
   subst bR;have aH:decide ((xs.length:Int)<(xs.length:Int))=false:=Ej Du;simp only[F44,A4H,A4X,A6x,A6Q,gd,kC,kP,kO,aH,Eh];rw[Gb];simp[bI,jn]
def C3p{nn:Nat}{g:LitT->(DS)->Option (DV×Ec)}{a1:LitT}{b0:DS}{k2:Int->Bool->(DS)->Option R}(hs:a1.items.length<=4611686018427387904)
  (hg:∀x∈a1.items,∀b:DS,b.length+(p x).length+4<=MB->g x b=some ([],J7 (b++bI (p x)))):∀(n i:Nat)(buf:DS),i<=a1.items.length->a1.items.length<n+i->buf.length+(jn i ((a1.items.drop i).map p)).length+4<=MB->
  A4W nn g a1 b0 n (i:Int) buf k2=k2 (a1.items.length:Int) false (buf++bI (jn i ((a1.items.drop i).map p)))
 |0,i,buf,h1,h2,h3=>Du
 |n+1,i,buf,h1,h2,h3=>by
  unfold A4W;by_cases hi:i<a1.items.length
  ·have ed:a1.items[i]?=some a1.items[i]:=Fz hi;have hd:a1.items.drop i=a1.items[i]::a1.items.drop (i+1):=Gc hi;have cv:a1.items[i]∈a1.items:=Fy hi;generalize a1.items[i]=y at*;rw[hd]at h3 ⊢;simp only[Hn,jn,Fa]at h3 ⊢;have aH:decide ((i:Int)<(a1.items.length:Int))=true:=Ei Du;have cH:(bI (if i=0 then []else [44,32])).length=(if i=0 then []else([44,32]:DT)).length:=C2 _;have hc:(if i=0 then []else([44,32]:DT)).length<=2:=by split<;>simp
   have e:LitT.mk y.kind y.text y.block y.items y.fields ⟨y.pos.line,y.pos.col⟩=y:=LitT.eta y;simp only[F45,A4Q,A4E,A59,A7F,gd,kC,kP,kO,aH,Eg,H3,ed,B1n (i:=i) (s:=[44,32]) (b:=buf) (by show buf.length+2<=MB;omega),o45,G1,S4 (i:=i) Du,e];rw[hg y cv _ (by rw[Fa];omega)];simp only[o45,G1,Eg];rw[C3p hs hg n (i+1) _ Du Du (by simp only[Fa,C2]at*;omega)];simp only[F1,Fk]
  ·have bR:i=a1.items.length:=Du
   have aH:decide ((i:Int)<(a1.items.length:Int))=false:=Ej Du;simp only[F45,A4Q,A4E,A59,A7F,gd,kC,kP,kO,aH,Eh];rw[bR,Gb];simp[bI,jn]
def fp(p:LitT->DT)(f:LfT):DT:=f.name++[58,32]++p f.value
def B8C{nn:Nat}{g:LitT->(DS)->Option (DV×Ec)}{a1:LitT}{b0:DS}{k2:(List LfT)->Int->Int->Bool->(DS)->Option R}{xs:List LfT}(hs:xs.length<=4611686018427387904)
  (hg:∀x∈xs,∀b:DS,b.length+(p x.value).length+4<=MB->g x.value b=some ([],H2 (b++bI (p x.value)))):∀(n i:Nat)(buf:DS),i<=xs.length->xs.length<n+i->buf.length+(jn i ((xs.drop i).map (fp p))).length+4<=MB->
  A5G nn g a1 b0 n xs (xs.length:Int) (i:Int) buf k2=k2 xs (xs.length:Int) (xs.length:Int) false (buf++bI (jn i ((xs.drop i).map (fp p))))
 |0,i,buf,h1,h2,h3=>Du
 |n+1,i,buf,h1,h2,h3=>by
  unfold A5G;by_cases hi:i<xs.length
  ·have ed:xs[i]?=some xs[i]:=Fz hi;have hd:xs.drop i=xs[i]::xs.drop (i+1):=Gc hi;have cv:xs[i]∈xs:=Fy hi;generalize xs[i]=y at*;rw[hd]at h3 ⊢;simp only[Hn,jn,Fa,fp]at h3 ⊢;have aH:decide ((i:Int)<(xs.length:Int))=true:=Ei Du;have cH:(bI (if i=0 then []else [44,32])).length=(if i=0 then []else([44,32]:DT)).length:=C2 _;have hc:(if i=0 then []else([44,32]:DT)).length<=2:=by split<;>simp
   have Cn:([58,32]:DT).length=2:=rfl;have hn:([y.name,[58,32]]:Eb).flatten=y.name++[58,32]:=Eo
   have e:LitT.mk y.value.kind y.value.text y.value.block y.value.items y.value.fields ⟨y.value.pos.line,y.value.pos.col⟩=y.value:=LitT.eta y.value;have Co:F27 [y.name,[58,32]] (buf++bI (if i=0 then []else [44,32]))=some ([],H2 ((buf++bI (if i=0 then []else [44,32]))++bI (y.name++[58,32]))):=by
    have:=Z9 (a:=[y.name,[58,32]]) (b:=buf++bI (if i=0 then []else [44,32])) Eo (by rw[hn,Fa,Fa];omega);rw[hn]at this;exact this
   simp only[F44,A4H,A4X,A6x,A6Q,gd,kC,kP,kO,aH,Eg,H3,ed,B59 (i:=i) (b:=buf) Du,o44,H0,S4 (i:=i) Du,e,Co];rw[hg y cv _ (by simp only[Fa,C2]at*;omega)];simp only[o44,H0,Eg];rw[B8C hs hg n (i+1) _ Du Du (by simp only[Fa,C2]at*;omega)];simp only[F1,Fk]
  ·have bR:i=xs.length:=Du
   subst bR;have aH:decide ((xs.length:Int)<(xs.length:Int))=false:=Ej Du;simp only[F44,A4H,A4X,A6x,A6Q,gd,kC,kP,kO,aH,Eh];rw[Gb];simp[bI,jn]
def B9w{nn:Nat}{g:LitT->(DS)->Option (DV×Ec)}{a1:LitT}{b0:DS}{k2:Int->Bool->(DS)->Option R}(hs:a1.fields.length<=4611686018427387904)
  (hg:∀x∈a1.fields,∀b:DS,b.length+(p x.value).length+4<=MB->g x.value b=some ([],J7 (b++bI (p x.value)))):∀(n i:Nat)(buf:DS),i<=a1.fields.length->a1.fields.length<n+i->buf.length+(jn i ((a1.fields.drop i).map (fp p))).length+4<=MB->
  A5W nn g a1 b0 n (i:Int) buf k2=k2 (a1.fields.length:Int) false (buf++bI (jn i ((a1.fields.drop i).map (fp p))))
 |0,i,buf,h1,h2,h3=>Du
 |n+1,i,buf,h1,h2,h3=>by
  unfold A5W;by_cases hi:i<a1.fields.length
  ·have ed:a1.fields[i]?=some a1.fields[i]:=Fz hi;have hd:a1.fields.drop i=a1.fields[i]::a1.fields.drop (i+1):=Gc hi;have cv:a1.fields[i]∈a1.fields:=Fy hi;generalize a1.fields[i]=y at*;rw[hd]at h3 ⊢;simp only[Hn,jn,Fa,fp]at h3 ⊢;have aH:decide ((i:Int)<(a1.fields.length:Int))=true:=Ei Du;have cH:(bI (if i=0 then []else [44,32])).length=(if i=0 then []else([44,32]:DT)).length:=C2 _;have hc:(if i=0 then []else([44,32]:DT)).length<=2:=by split<;>simp
   have Cn:([58,32]:DT).length=2:=rfl;have e:LitT.mk y.value.kind y.value.text y.value.block y.value.items y.value.fields ⟨y.value.pos.line,y.value.pos.col⟩=y.value:=LitT.eta y.value;have e1:F32 y.name (buf++bI (if i=0 then []else [44,32]))=some ([],J7 ((buf++bI (if i=0 then []else [44,32]))++bI y.name)):=S5 (by simp only[Fa,C2]at*;omega);have e2:F32 [58,32] ((buf++bI (if i=0 then []else [44,32]))++bI y.name)=some ([],J7 (((buf++bI (if i=0 then []else [44,32]))++bI y.name)++bI [58,32])):=S5 (by simp only[Fa,C2]at*;omega);simp only[F45,A4Q,A4E,A59,A7F,gd,kC,kP,kO,aH,Eg,H3,ed,B1n (i:=i) (s:=[44,32]) (b:=buf) (by show buf.length+2<=MB;omega),o45,G1,S4 (i:=i) Du,e,e1,e2];rw[hg y cv _ (by simp only[Fa,C2]at*;omega)];simp only[o45,G1,Eg];rw[B9w hs hg n (i+1) _ Du Du (by simp only[Fa,C2]at*;omega)];simp only[F1,Fk]
  ·have bR:i=a1.fields.length:=Du
   have aH:decide ((i:Int)<(a1.fields.length:Int))=false:=Ej Du;simp only[F45,A4Q,A4E,A59,A7F,gd,kC,kP,kO,aH,Eh];rw[bR,Gb];simp[bI,jn]
end
def prN:Nat->LitT->DT
 |0,_=>[]
 |d+1,v=>if v.kind=1 then [36]++v.text else if v.kind=6 then [110,117,108,108]else if v.kind=4 then qq v.block v.text
  else if v.kind=8 then [91]++(jn 0 (v.items.map (prN d))++[93])else if v.kind=9 then [123]++(jn 0 (v.fields.map (fp (prN d)))++[125])else v.text
def B0h{α:Type}{f:α->DT}{g:α->Nat}:∀(i:Nat)(l:List α),(∀x∈l,(f x).length+2<=g x)->(jn i (l.map f)).length<=sw g l
 |_,[],_=>by simp[jn,sw]
 |i,x::r,h=>by
  have h1:=h x Ie;have h2:=B0h (i+1) r (λy hy=>h y (Iq _ hy));have hc:(if i=0 then []else([44,32]:DT)).length<=2:=by split<;>simp
  simp only[Hn,jn,Fa,sw];omega
def B6e{α:Type}(k:Nat)(f:α->Nat):∀(l:List α),sw (λx=>k*f x) l=k*sw f l
 |[]=>by simp[sw]
 |x::l=>by simp only[sw,B6e k f l,Nat.mul_add]
def A0v(l:DS):(toB l).length=l.length:=Ig ..
def B0x(l:DS):(B7 l).length<=4*l.length:=by
 unfold B7;rw[A0v];exact Bv.flat_u8F_len l
def B03(a b:DS):B7 (a++b)=B7 a++B7 b:=by
 unfold B7 toB;rw[It,Ir]
def A0U(c:Int)(l:DS):(B7 (c::l)).length=(u8F c).length+(B7 l).length:=by
 unfold B7;rw[A0v,A0v,Ho,Fa]
def C5c(v:DT):(C3 v).1.length<=v.length:=by
 obtain⟨_,_,h1,h2⟩:=Bv.decF_enc v.length v (Fu _);omega
def A6s{c:Int}(h:c<128):(u8F c).length=1:=by
 unfold u8F;rw[El h];rfl
def B0U(n:Int)(h:n<16):S2 n<128:=by
 unfold S2;split<;>omega
def A5p(c:Int):(B7 (H7 c)).length=6:=by
 unfold H7;rw[A0U,A0U,A0U,A0U,A0U,A0U,A6s Ep,A6s Ep,A6s (B0U _ Du),A6s (B0U _ Du),A6s (B0U _ Du),A6s (B0U _ Du)];rfl
def A8O(c:Int):(B7 (wrF c)).length<=12:=by
 unfold wrF;have qG:∀a b:Int,(B7 [a,b]).length<=12:=λa b=>by
  have:=B0x [a,b];simp at this;omega
 split
 ·exact qG _ _
 ·split
  ·exact qG _ _
  ·split
   ·exact qG _ _
   ·split
    ·exact qG _ _
    ·split
     ·exact qG _ _
     ·split
      ·exact qG _ _
      ·split
       ·rw[B03,Fa,A5p,A5p];exact Fu _
       ·split
        ·rw[A5p];decide
        ·have:=B0x [c];simp at this;omega
def D5S(cs:DS):(B7 (qtC cs)).length<=2+12*cs.length:=by
 have h:∀l:DS,(B7 (l.flatMap wrF)).length<=12*l.length:=λl=>by
  induction l with
  |nil=>simp[B7,toB]
  |cons c l ih=>
   have:=A8O c;rw[Ho,B03,Fa,Ff];omega
 have e:qtC cs=[34]++cs.flatMap wrF++[34]:=rfl;have zQ:(B7 [34]).length=1:=Ep
 rw[e,B03,B03,Fa,Fa,zQ];have:=h cs;omega
def A9Z(l:DS):(maskF l).length<=2*l.length:=by
 induction l using maskF.induct with
 |case1 r ih=>simp only[maskF,Ff];omega
 |case2 c r h ih=>rw[maskF];simp only[Ff];omega;exact h
 |case3=>simp[maskF]
def C5O(cs:DS):(B7 (btC cs)).length<=32+8*cs.length:=by
 have h1:=B0x (btC cs);have h2:=A9Z cs;have h3:(btC cs).length<=8+(maskF cs).length:=by
  unfold btC;simp only[Fa];have:(if(decide (1<(B5 cs).length)|| !K6 (cs.headD 0))=true then [10]else([]:DS)).length<=1:=by split<;>simp
  simp only[Ff,Fg];omega
 omega
def D2l(b:Bool){t:DT}(h:t.length<=8400000):(qq b t).length+2<=101000000:=by
 have hd:=C5c t;cases b with
 |true=>
  show(btF t).1.length+2<=_;unfold btF;split
  ·simp
  ·split
   ·simp
   ·split
    ·simp
    ·split
     ·simp
     ·have:=C5O (C3 t).1;show(B7 (btC (C3 t).1)).length+2<=_;omega
 |false=>
  show(qtF t).1.length+2<=_;unfold qtF;split
  ·simp
  ·have:=D5S (C3 t).1;show(B7 (qtC (C3 t).1)).length+2<=_;omega
def A87:∀(d:Nat)(v:LitT),N8 d v->(prN d v).length+2<=101000000*wt d v
 |0,v,h=>h.elim
 |d+1,v,h=>by
  obtain⟨h1,h2,h3,h4,h5,h6⟩:=h;have hi:(jn 0 (v.items.map (prN d))).length<=101000000*sw (wt d) v.items:=by
   rw[<-B6e];exact B0h 0 v.items λx hx=>A87 d x (h5 x hx)
  have hf:(jn 0 (v.fields.map (fp (prN d)))).length<=101000000*sw (λ(f:LfT)=>1+wt d f.value) v.fields:=by
   rw[<-B6e];refine B0h 0 v.fields λf hf=>?_;obtain⟨k1,k2⟩:=h6 f hf;have:=A87 d f.value k2;show(f.name++[58,32]++prN d f.value).length+2<=101000000*(1+wt d f.value);simp only[Fa,Ff,Fg];omega
  have hq:=D2l v.block h3;simp only[prN,wt];split
  ·simp only[Fa,Ff,Fg];omega
  ·split
   ·simp only[Ff,Fg];omega
   ·split
    ·omega
    ·split
     ·simp only[Fa,Ff,Fg];omega
     ·split
      ·simp only[Fa,Ff,Fg];omega
      ·omega
def B5b{t:DT}(h:t.length<=8400000):smS t=true:=by
 unfold smS;exact Ei Du
def C4B{d:Nat}{v:LitT}(h:wt (d+1) v<=4611686018427387903)(hg:N8 (d+1) v):v.items.length<=4611686018427387904:=by
 cases d with
 |zero=>
  have:v.items=[]:=by
   cases hv:v.items with
   |nil=>rfl
   |cons x r=>exact absurd (hg.2.2.2.2.1 x (by rw[hv];exact Ie)) (λh=>h)
  rw[this];simp
 |succ d=>
  have:=C6c (d:=d+1) (Nat.succ_pos d) v;have h2:wt (d+1+1) v=W (d+1) v:=rfl;omega
def C0p{d:Nat}{v:LitT}(h:wt (d+1) v<=4611686018427387903):v.fields.length<=4611686018427387904:=by
 have:=C8f (d:=d) v;have h2:wt (d+1) v=W d v:=rfl;omega
def B4Z:∀(d:Nat)(v:LitT)(b:DS),N8 d v->wt d v<=1100000->b.length+(prN d v).length+4<=MB->R44 d v b=some ([],H2 (b++bI (prN d v)))
 |0,v,b,h,_,_=>h.elim
 |d+1,v,b,h,hw,hl=>by
  have hg:=h;obtain⟨h1,h2,h3,h4,h5,h6⟩:=h;have Cp:=A87 (d+1) v hg;have ji:=C4B Du hg;have jf:=C0p (v:=v) (d:=d) Du;have th:∀x∈v.items,wt d x<=1100000:=λx hx=>by
   have:=A8v (wt d) v.items x hx;have h2:wt (d+1) v=W d v:=rfl;unfold W at h2;omega
  have tj:∀f∈v.fields,wt d f.value<=1100000:=λf hf=>by
   have:=A8v (λ(f:LfT)=>1+wt d f.value) v.fields f hf;have h2:wt (d+1) v=W d v:=rfl;unfold W at h2;have h3:(λ(f:LfT)=>1+wt d f.value) f=1+wt d f.value:=rfl;omega
  have nk:NN=18446744073709551616:=rfl;have eC:=B5b h3;show A4H (R44 d) v b=_;have hk:v.kind=1\/v.kind=2\/v.kind=3\/v.kind=4\/v.kind=5\/v.kind=6\/v.kind=7\/v.kind=8\/v.kind=9:=Du
  have text:∀(k:Int),v.kind=k->k=2\/k=3\/k=5\/k=7->prN (d+1) v=v.text:=λk e h=>by
   simp only[prN];rw[Ek Du,Ek Du,Ek Du,Ek Du,Ek Du]
  simp only[F44,A4H,A4X,A6x,A6Q,gd,kC,kP,kO];rcases hk with hk|hk|hk|hk|hk|hk|hk|hk|hk
  ·have hp:prN (d+1) v=([[36],v.text]:Eb).flatten:=by simp[prN,hk]
   rw[hp]at hl ⊢;have e:=Z9 (a:=[[36],v.text]) (b:=b) Eo Du;simp only[hk,e,o44,H0,Eg];rfl
  ·have hp:=text 2 hk Du;rw[hp]at hl ⊢;have e:=Z9 (a:=[v.text]) (b:=b) Eo Es;rw[show([v.text]:Eb).flatten=v.text from Eo]at e;simp only[hk,e,o44,H0,Eg];rfl
  ·have hp:=text 3 hk Du;rw[hp]at hl ⊢;have e:=Z9 (a:=[v.text]) (b:=b) Eo Es;rw[show([v.text]:Eb).flatten=v.text from Eo]at e;simp only[hk,e,o44,H0,Eg];rfl
  ·have hp:prN (d+1) v=qq v.block v.text:=by simp[prN,hk]
   rw[hp]at hl ⊢;have e:=Z9 (a:=[qq v.block v.text]) (b:=b) Eo Es;rw[show([qq v.block v.text]:Eb).flatten=qq v.block v.text from Eo]at e;simp only[hk,C9U eC,oS1,gS1,e,o44,H0,Eg];rfl
  ·have hp:=text 5 hk Du;rw[hp]at hl ⊢;have e:=Z9 (a:=[v.text]) (b:=b) Eo Es;rw[show([v.text]:Eb).flatten=v.text from Eo]at e;simp only[hk,e,o44,H0,Eg];rfl
  ·have hp:prN (d+1) v=[110,117,108,108]:=by simp[prN,hk]
   rw[hp]at hl ⊢;have e:=Z9 (a:=[[110,117,108,108]]) (b:=b) Eo (by simp at hl ⊢;omega);rw[show([[110,117,108,108]]:Eb).flatten=[110,117,108,108]from Eo]at e;simp only[hk,e,o44,H0,Eg];rfl
  ·have hp:=text 7 hk Du;rw[hp]at hl ⊢;have e:=Z9 (a:=[v.text]) (b:=b) Eo Es;rw[show([v.text]:Eb).flatten=v.text from Eo]at e;simp only[hk,e,o44,H0,Eg];rfl
  ·have hp:prN (d+1) v=[91]++(jn 0 (v.items.map (prN d))++[93]):=by simp[prN,hk]
   rw[hp]at hl ⊢;simp only[Fa,Ff,Fg]at hl;have e:=Z9 (a:=[[91]]) (b:=b) Eo Es;have e2:=Z9 (a:=[[93]]) (b:=(b++bI [91])++bI (jn 0 (v.items.map (prN d)))) Eo (by simp[C2,Fa];omega);rw[show([[91]]:Eb).flatten=[91]from Eo]at e;rw[show([[93]]:Eb).flatten=[93]from Eo]at e2;simp only[hk,e,o44,H0,Eg];show A5N NN (R44 d) v b NN v.items (v.items.length:Int) ((0:Nat):Int) (b++bI [91]) _=_;rw[B8Q (p:=prN d) ji (λx hx b' bH=>B4Z d x b' (h5 x hx) (th x hx) Du) NN 0 (b++bI [91]) Du (by rw[nk];omega) (by simp[C2,Fa];omega)];rw[Ga];simp only[e2,o44,H0,Eg,F1];simp only[Fk];rfl
  ·have hp:prN (d+1) v=[123]++(jn 0 (v.fields.map (fp (prN d)))++[125]):=by simp[prN,hk]
   rw[hp]at hl ⊢;simp only[Fa,Ff,Fg]at hl;have e:=Z9 (a:=[[123]]) (b:=b) Eo Es;have e2:=Z9 (a:=[[125]]) (b:=(b++bI [123])++bI (jn 0 (v.fields.map (fp (prN d))))) Eo (by simp[C2,Fa];omega);rw[show([[123]]:Eb).flatten=[123]from Eo]at e;rw[show([[125]]:Eb).flatten=[125]from Eo]at e2;simp only[hk,e,o44,H0,Eg];show A5G NN (R44 d) v b NN v.fields (v.fields.length:Int) ((0:Nat):Int) (b++bI [123]) _=_;rw[B8C (p:=prN d) jf (λx hx b' bH=>B4Z d x.value b' (h6 x hx).2 (tj x hx) Du) NN 0 (b++bI [123]) Du (by rw[nk];omega) (by simp[C2,Fa];omega)];rw[Ga];simp only[e2,o44,H0,Eg,F1];simp only[Fk];rfl
def B32:∀(d:Nat)(v:LitT)(b:DS),N8 d v->wt d v<=1100000->b.length+(prN d v).length+4<=MB->R45 d v b=some ([],J7 (b++bI (prN d v)))
 |0,v,b,h,_,_=>h.elim
 |d+1,v,b,h,hw,hl=>by
  have hg:=h;obtain⟨h1,h2,h3,h4,h5,h6⟩:=h;have Cp:=A87 (d+1) v hg;have ji:=C4B Du hg;have jf:=C0p (v:=v) (d:=d) Du;have th:∀x∈v.items,wt d x<=1100000:=λx hx=>by
   have:=A8v (wt d) v.items x hx;have h2:wt (d+1) v=W d v:=rfl;unfold W at h2;omega
  have tj:∀f∈v.fields,wt d f.value<=1100000:=λf hf=>by
   have:=A8v (λ(f:LfT)=>1+wt d f.value) v.fields f hf;have h2:wt (d+1) v=W d v:=rfl;unfold W at h2;have h3:(λ(f:LfT)=>1+wt d f.value) f=1+wt d f.value:=rfl;omega
  have nk:NN=18446744073709551616:=rfl;have eC:=B5b h3;show A4Q (R45 d) v b=_;have hk:v.kind=1\/v.kind=2\/v.kind=3\/v.kind=4\/v.kind=5\/v.kind=6\/v.kind=7\/v.kind=8\/v.kind=9:=Du
  have text:∀(k:Int),v.kind=k->k=2\/k=3\/k=5\/k=7->prN (d+1) v=v.text:=λk e h=>by
   simp only[prN];rw[Ek Du,Ek Du,Ek Du,Ek Du,Ek Du]
  simp only[F45,A4Q,A4E,A59,A7F,gd,kC,kP,kO];rcases hk with hk|hk|hk|hk|hk|hk|hk|hk|hk
  ·have hp:prN (d+1) v=[36]++v.text:=by simp[prN,hk]
   rw[hp]at hl ⊢;simp only[Fa,Ff,Fg]at hl;have e:=S5 (a:=[36]) (b:=b) Es;have e2:=S5 (a:=v.text) (b:=b++bI [36]) (by simp[C2,Fa];omega);simp only[hk,e,e2,o45,G1,Eg,F1];simp only[Fk];rfl
  ·have hp:=text 2 hk Du;rw[hp]at hl ⊢;have e:=S5 (a:=v.text) (b:=b) Du;simp only[hk,e,o45,G1,Eg];rfl
  ·have hp:=text 3 hk Du;rw[hp]at hl ⊢;have e:=S5 (a:=v.text) (b:=b) Du;simp only[hk,e,o45,G1,Eg];rfl
  ·have hp:prN (d+1) v=qq v.block v.text:=by simp[prN,hk]
   rw[hp]at hl ⊢;have e:=C5o (b:=b) eC v.block (λhb=>h4 hk hb) Du;simp only[hk,e,o45,G1,Eg];rfl
  ·have hp:=text 5 hk Du;rw[hp]at hl ⊢;have e:=S5 (a:=v.text) (b:=b) Du;simp only[hk,e,o45,G1,Eg];rfl
  ·have hp:prN (d+1) v=[110,117,108,108]:=by simp[prN,hk]
   rw[hp]at hl ⊢;have e:=S5 (a:=[110,117,108,108]) (b:=b) (by simp at hl ⊢;omega);simp only[hk,e,o45,G1,Eg];rfl
  ·have hp:=text 7 hk Du;rw[hp]at hl ⊢;have e:=S5 (a:=v.text) (b:=b) Du;simp only[hk,e,o45,G1,Eg];rfl
  ·have hp:prN (d+1) v=[91]++(jn 0 (v.items.map (prN d))++[93]):=by simp[prN,hk]
   rw[hp]at hl ⊢;simp only[Fa,Ff,Fg]at hl;have e:=S5 (a:=[91]) (b:=b) Es;have e2:=S5 (a:=[93]) (b:=(b++bI [91])++bI (jn 0 (v.items.map (prN d)))) (by simp[C2,Fa];omega);simp only[hk,e,o45,G1,Eg];show A4W NN (R45 d) v b NN ((0:Nat):Int) (b++bI [91]) _=_;rw[C3p (p:=prN d) ji (λx hx b' bH=>B32 d x b' (h5 x hx) (th x hx) Du) NN 0 (b++bI [91]) Du (by rw[nk];omega) (by simp[C2,Fa];omega)];rw[Ga];simp only[e2,o45,G1,Eg,F1];simp only[Fk];rfl
  ·have hp:prN (d+1) v=[123]++(jn 0 (v.fields.map (fp (prN d)))++[125]):=by simp[prN,hk]
   rw[hp]at hl ⊢;simp only[Fa,Ff,Fg]at hl;have e:=S5 (a:=[123]) (b:=b) Es;have e2:=S5 (a:=[125]) (b:=(b++bI [123])++bI (jn 0 (v.fields.map (fp (prN d))))) (by simp[C2,Fa];omega);simp only[hk,e,o45,G1,Eg];show A5W NN (R45 d) v b NN ((0:Nat):Int) (b++bI [123]) _=_;rw[B9w (p:=prN d) jf (λx hx b' bH=>B32 d x.value b' (h6 x hx).2 (tj x hx) Du) NN 0 (b++bI [123]) Du (by rw[nk];omega) (by simp[C2,Fa];omega)];rw[Ga];simp only[e2,o45,G1,Eg,F1];simp only[Fk];rfl
end Go.Aev
namespace Go.Aev
open Go.Proofs
def A0o(n:Nat):Bool:=Nat.ble n 1099511627776
def O9(s:DT):Bool:=(s==[40])||((s==[91])||(s==[123]))
def A04(s:DT):Bool:=(s==[41])||((s==[93])||(s==[125]))
def A4c(s:DT):Bool:=s==[101,110,100]
def setTok(N:DY)(n:Nat)(nd:A1)(at_:Nat):DY:=N.set n {nd with tok:=(at_:Int)}
def A0x(N:DY)(n:Nat)(nd:A1)(r:Eb):DY:=
 N.set n {nd with kids:=(Ip r.length).map λi=>((N.length+i:Nat):Int)}++r.map λs=>⟨s,[],0⟩
def L1(toks:DZ)(depth:Int):Nat->DY->DX->Nat->Int->Option (A1B×Nat×Int)
 |0,_,_,_,_=>none
 |_+1,N,[],_,_=>some (⟨N,toks⟩,0,0)
 |f+1,N,n::aw,at_,op=>
  match N[n]? with
  |none=>none
  |some nd=>
  match toks[at_]? with
  |none=>none
  |some t=>
   bif okR [.bool] (F56 nd.sym)then
    bif lB (gL (F56 nd.sym) 0)then
     bif okR [.bool] (F58 nd.sym t)then
      bif lB (gL (F58 nd.sym t) 0)then
       bif O9 nd.sym then
        bif decide (depth<Ey .i64 (op+1))then some (⟨[],[]⟩,at_,71)
        else L1 toks depth f (setTok N n nd at_) aw (bif A4c nd.sym then at_ else at_+1) (Ey .i64 (op+1))
       else L1 toks depth f (setTok N n nd at_) aw (bif A4c nd.sym then at_ else at_+1) (bif A04 nd.sym then Ey .i64 (op - 1)else op)
      else some (⟨[],[]⟩,at_,70)
     else none
    else
     match nd.kids with
     |[]=>
      bif okR [.sl .str none] (F57 nd.sym t)then
       bif A0o (N.length+(aw.length+(I2 (gL (F57 nd.sym t) 0)).length))then
        L1 toks depth f (A0x N n nd (I2 (gL (F57 nd.sym t) 0))) ((Ip (I2 (gL (F57 nd.sym t) 0)).length).map (λi=>N.length+i)++aw) at_ op
       else none
      else none
     |_::_=>none
   else none
def P6:DT:=[68,111,99,117,109,101,110,116]
def F25(a0:DZ)(a1:Int):DU:=
 bif A0o a0.length then
  match L1 a0 a1 NN [⟨P6,[],0⟩] [0] 0 0 with
  |some (d,at_,k)=>some (.tup [.agg .tree d,.int .i64 (at_:Int),.int .i64 k])
  |none=>none
 else none
def S25:DV->Option (Bool×E6)
 |[.sl .tok a0 none,.int .i64 a1]=>some (okR [.agg .tree,.int .i64,.int .i64] (F25 a0 a1),N3 [.agg .tree,.int .i64,.int .i64] (F25 a0 a1))
 |_=>none
end Go.Aev
namespace Go.Aev
def B1z(T:DZ)(d:A1B)(j:Nat)(k:Int):DU:=
 bif k !=0 then
  match T[j]? with
  |some t=>some (.tup [.agg .doc (⟨[]⟩:J1),.agg .fault (⟨k,[t.pos],[]⟩:A1Q)])
  |none=>none
 else bif okB [.agg .doc] kN (F26 d.nodes d.toks)then some (.tup [.agg .doc (A9E (gB (F26 d.nodes d.toks) 0)),.agg .fault (⟨0,[],[]⟩:A1Q)])else none
def A0I(a1:Int):Int:=bif decide (200<a1)then 200 else a1
def F8(a0:DS)(a1:Int):DU:=
 bif okR [.sl .tok (some 1)] (F24 a0)then
  (bif A0o (A2v (gL (F24 a0) 0)).length then
   match L1 (A2v (gL (F24 a0) 0)) (A0I a1) NN [⟨P6,[],0⟩] [0] 0 0 with
   |some (d,j,k)=>B1z (A2v (gL (F24 a0) 0)) d j k
   |none=>none
  else none)
 else none
def S8:S1T
 |[.sl .u8 a0 none,.int .i64 a1]=>pR [.agg .doc,.agg .fault] (F8 a0 a1)
 |_=>none
def F7:DU:=some (.one (.bool true))
def S7:S1T
 |[]=>pR [.bool] F7
 |_=>none
end Go.Aev
namespace Go.Aev
open Go.Proofs
def E3:Env Ty6 A4:=mkE [(7,S7),(8,S8),(9,S9),(10,S10)] [] noD 25 [5,6] 0 [] []
def F3(a0:DS)(a1:Int):DU:=gd (okR [.bool] F7) (bif(!(lB (gL F7 0)))then(some (.one (.bool false)))else(gd (okR [.agg .doc,.agg .fault] (F8 a0 a1)) (let z1:=(A9E (gL (F8 a0 a1) 0)).defs;bif(((C2i (gL (F8 a0 a1) 1)).kind) !=0)==false then(let r3:=F9 (⟨z1⟩:J1);gd (okR [.str] r3) (let r2:=F10 (⟨z1⟩:J1);gd (okR [.str] r2) (some (.one (.bool ((lS (gL r3 0))==(lS (gL r2 0))))))))else(some (.one (.bool true))))))
def ev3{a0:DS}{a1:Int}:A5 E3 NN Tryz.f3 [.sl .u8 a0 none,.int .i64 a1]=F3 a0 a1:=En
def S3:S1T
 |[.sl .u8 a0 none,.int .i64 a1]=>pR [.bool] (F3 a0 a1)
 |_=>none
end Go.Aev
namespace Go.Aev
def B8K:∀(n:Nat),Ij [91] n=Ft n 91
 |0=>rfl
 |n+1=>by rw[Ij,B8K n];rfl
def B3e{R:Type}{nn:Nat}{a1:I6}{b0:DS}{k2:Int->Bool->(DS)->Option R}(hs:a1.wrap.length<=1000):∀(n i:Nat)(buf:DS),i<=a1.wrap.length->a1.wrap.length<n+i->buf.length+(a1.wrap.drop i).length<=MB->
  A4S nn a1 b0 n (i:Int) buf k2=k2 (a1.wrap.length:Int) false (buf++bI (Ft ((a1.wrap.drop i).count 93) 91))
 |0,i,buf,h1,h2,h3=>Du
 |n+1,i,buf,h1,h2,h3=>by
  unfold A4S;by_cases hi:i<a1.wrap.length
  ·have ed:a1.wrap[i]?=some a1.wrap[i]:=Fz hi;have hd:a1.wrap.drop i=a1.wrap[i]::a1.wrap.drop (i+1):=Gc hi;generalize a1.wrap[i]=y at*;rw[hd]at h3 ⊢;rw[Ff]at h3;have aH:decide ((i:Int)<(a1.wrap.length:Int))=true:=Ei Du;have e:=S5 (a:=[91]) (b:=buf) (by show buf.length+1<=MB;omega);by_cases hy:y=93
   ·subst hy;have xd:((Fj 93:Nat):Int)==93:=rfl;simp only[F49,A6l,A8C,gd,kC,kP,kO,aH,Eg,H3,ed,xd,e,o45,G1,S4 (i:=i) Du];rw[B3e hs n (i+1) (buf++bI [91]) Du Du (by rw[Fa,C2];show buf.length+1+_<=_;omega)];rw[List.count_cons_self,List.replicate_succ,Fk];rfl
   ·have hn:((Fj y:Nat):Int)==93↔False:=by
     simp only[beq_iff_eq,iff_false];intro h;apply hy;have:y.toNat=93:=Du
     exact UInt8.toNat_inj.1 this
    have xd:(((Fj y:Nat):Int)==93)=false:=by
     cases h:((Fj y:Nat):Int)==93 with
     |false=>rfl
     |true=>exact absurd (hn.1 h) (λh=>h)
    simp only[F49,A6l,A8C,gd,kC,kP,kO,aH,Eg,H3,ed,xd,Eh,S4 (i:=i) Du];rw[B3e hs n (i+1) buf Du Du Du];rw[List.count_cons_of_ne hy]
  ·have bR:i=a1.wrap.length:=Du
   have aH:decide ((i:Int)<(a1.wrap.length:Int))=false:=Ej Du;simp only[F49,A6l,A8C,gd,kC,kP,kO,aH,Eh];rw[bR,Gb];simp[bI]
def oI(k:Int):okR [.int .i64] (some (.one (.int .i64 k)):DU)=true:=rfl
def gI(k:Int):lI (gL (some (.one (.int .i64 k)):DU) 0)=k:=rfl
def prT(r:I6):DT:=Ft (r.wrap.count 93) 91++r.name++r.wrap
def C8t(r:I6):(prT r).length<=2*r.wrap.length+r.name.length:=by
 have:r.wrap.count 93<=r.wrap.length:=Iu;unfold prT;rw[Fa,Fa,Fx];omega
def C1N{r:I6}(h1:r.name.length<=8400000)(h2:r.wrap.length<=1000){b:DS}(hb:b.length+(prT r).length+r.wrap.length<=MB):
  F18 r=some (.one (.str (prT r)))/\F49 r b=some ([],J7 (b++bI (prT r))):=by
 have hc:r.wrap.count 93<=1000:=Im Iu h2;have hl:(prT r).length=r.wrap.count 93+r.name.length+r.wrap.length:=by unfold prT;rw[Fa,Fa,Fx]
 constructor
 ·have Cq:F48 r.wrap [93]=some (.one (.int .i64 ((r.wrap.count 93:Nat):Int))):=by
   unfold F48;rw[B5b Du];rfl
  have Cr:F47 [91] ((r.wrap.count 93:Nat):Int)=some (.one (.str (Ft (r.wrap.count 93) 91))):=by
   unfold F47;rw[Ei Ep,Ei Du,Ei Du];show(some (.one (.str (Ij [91] ((r.wrap.count 93:Nat):Int).toNat))):DU)=_;rw[Int.toNat_natCast,B8K]
  have d1:Ew (Ft (r.wrap.count 93) (91:UInt8))+Ew r.name<=9223372036854775807:=by rw[Fx];omega
  have d2:Ew (Ft (r.wrap.count 93) (91:UInt8)++r.name)+Ew r.wrap<=9223372036854775807:=by rw[Fa,Fx];omega
  simp only[F18,gd,kC,kP,kO,Cq,oI,gI,Cr,oS1,gS1,Eg,d1,d2,decide_true];rfl
 ·have nk:NN=18446744073709551616:=rfl;have e1:=S5 (a:=r.name) (b:=b++bI (Ft (r.wrap.count 93) 91)) (by rw[Fa,C2,Fx];omega);have e2:=S5 (a:=r.wrap) (b:=(b++bI (Ft (r.wrap.count 93) 91))++bI r.name) (by rw[Fa,Fa,C2,C2,Fx];omega);simp only[F49,A6l,A8C,gd,kC,kP,kO];show A4S NN r b NN ((0:Nat):Int) b _=_;rw[B3e h2 NN 0 b Du (by rw[nk];omega) (by rw[Ga];omega),Ga];simp only[e1,e2,o45,G1,Eg];unfold prT;simp only[F1,Fk];rfl
def oB1(b:Bool):okR [.bool] (some (.one (.bool b)):DU)=true:=rfl
def gB1(b:Bool):lB (gL (some (.one (.bool b)):DU) 0)=b:=rfl
end Go.Aev
