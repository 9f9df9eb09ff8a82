/- Proved here: the given statement Rows.PrinterSystemsUptoCardSaid (the text of all definitions that a source is read as). Conditions: those that the constant itself states, the bound on the argument's bulk among them; none beside it. -/
import Derived.Test.YtolabkginnkhgaaGreatDoorCards
import Derived.Test.YtolabkginnkhgaaGreatDoorTie
import Derived.Test.YtolabkginnkhgaaGreatDoorX4
set_option maxRecDepth 100000
set_option linter.unusedVariables false
set_option linter.unusedSimpArgs false
open Go.Proofs.Tryz renaming prog→Aw,f25→Bj,f33→Bu,f4→By,call263→Bz,call268→Cd,call267→Ce,call265→Cf,call264→Cg,func4→Cn,checked→Co,call7→Cp,call63→Cq,call153→Cr,call152→Cs,underlying3→Db,params4→Dc,call89→Dd,call88→De,call87→Df,call85→Dg,call84→Dh,call83→Di,call82→Dj,call81→Dk,call80→Dl,call79→Dm,call78→Dn,call68→Do,call66→Dp,call64→Dq,call45→Dr,call44→Ds,call38→Du,call37→Dv,call36→Dw,call35→Dx,call266→Dy,call189→Dz,call157→Ea,call154→Eb,call151→Ec,call150→Ed,call148→Ee,call147→Ef,call142→Eg,call141→Eh,call139→Ei,call12→Ej,call11→Ek
open Bool renaming and_eq_true→Ax
open Go renaming wpList_plain→Ay,FuncId→Az,wpList_nil→Ba,TypeId→Bm,trodAll_cons_mk→Cm
open Nat renaming beq→Bb,le_refl→Be,zero_add→Bh,lt_succ_self→Bp,mul_one→Ch,blt→Cu,le_trans→El
open Go.IntKind renaming wrap→Bf
open List renaming mem_cons→Bg,not_mem_nil→Bi,range→Bl,map_append→Bw,length_append→Bx,mem_singleton→Ca,length_map→Cb,reverse_cons→Ci,length_cons→Cj,getElem?_eq_some_iff→Ck,length_range→Cv,getElem?_range→Cw,getElem?_map→Cx,getElem?_eq_getElem→Cy,take_of_length_le→Em,take_append_of_le_length→En,nil_append→Eo,mem_cons_of_mem→Ep,length_take→Er,length_set→Es,length_drop→Et,getElem?_append_left→Eu,drop_length→Ev,drop_eq_getElem_cons→Ew,cons_append→Ey
open Option.some renaming injEq→Bn,inj→Ct
open Prod.mk renaming injEq→Bo
open Go.World renaming cell?→Bq,holding→Cz
open Go.Value renaming slice→Br,okWide→Da
open Go.Exit renaming inBlock→Cc
open Go.Builtin renaming lenOf→Cl
open Go.Ending renaming returned→Ez
open Go.DataW renaming TrodAll→Fa
open Array renaming replicate→Fb,getElem?_append_left→Fc,getD_eq_getD_getElem?→Fe
open Go.Value.slice renaming injEq→Ff
namespace Go.Aev
open Go.Proofs
theorem C6b{w0:World}{m0:Nat->Nat}{Q:Exit->Act->World->Prop}{vt sv nv:Value}{depth op:Int}{at_ bz bd:Nat}{a:Act}{w:World}{m ρ:Nat->Nat}{N:List G1}{xs:Ai}{N0 len:Nat}{anq:Aj}(aj:N0+(len+anq.length)<=1099511627776)(hi:DerI w0 m0 w m ρ N none anq nv sv vt xs bd bz)(tm:Tm a 136 [(0,vt),(1,.int .i64 depth),(4,.pointer (some ⟨bz,0,none⟩)),(7,.pointer (some ⟨bd,0,none⟩)),(8,sv),(9,D2 at_),(10,.int .i64 op),(15,D2 N0),(17,.int .i64 ((len:Int) - 1))])
  (hk:∀a w m ρ sv,Tm a 136 [(0,vt),(1,.int .i64 depth),(4,.pointer (some ⟨bz,0,none⟩)),(7,.pointer (some ⟨bd,0,none⟩)),(8,sv),(9,D2 at_),(10,.int .i64 op)]->DerI w0 m0 w m ρ N none ((Bl len).map (λi=>N0+i)++anq) nv sv vt xs bd bz->Q .normal a w):(A1 Bj [1,1,1,1,1,0,0,0,1,0,1,1,1,1,0,1,0,1,1,1,0,1]).wp Aw Q a w:=by
 generalize hc:(Bl len).map (λi=>N0+i)=c at hk;have ck:c.length=len:=by rw[<-hc,Cb,Cv]
 have zb:∀n,n<len->c[n]?=some (N0+n):=λn hn=>by rw[<-hc,Cx,Cw hn];rfl
 refine wbl 4 rfl ?_;refine wlp rfl (λn a w=>∃m ρ sv,n<=len/\Tm a 136 [(0,vt),(1,.int .i64 depth),(4,.pointer (some ⟨bz,0,none⟩)),(7,.pointer (some ⟨bd,0,none⟩)),(8,sv),(9,D2 at_),(10,.int .i64 op),(15,D2 N0),(17,.int .i64 ((n:Int) - 1))]/\DerI w0 m0 w m ρ N none (c.drop n++anq) nv sv vt xs bd bz) len ⟨m,ρ,sv,Be _,tm,by rw[<-ck,Ev,Eo];exact hi⟩ ?_;clear tm hi m ρ sv a w;rintro n a w ⟨m,ρ,sv,hn,tm,hi⟩;refine wsq rfl ?_;refine wsq rfl ?_;refine E3 19 2 rfl rfl ?_;refine Pm tm λa tm=>?_;refine Pv tm (B67 tm) λa tm=>?_;refine Wn ?_;refine wcn tm rfl _ rfl ?_;cases n with
 |zero=>
  rw[At (by simp)];refine A5H 4 rfl ?_;simp only[Exit.then,Cc,if_true];have tm:=tm.keep [0,1,4,7,8,9,10];exact hk a w m ρ sv tm hi
 |succ n=>
  rw[Au (by simp)];refine Q8 rfl ?_;show(A1 _ _).wp _ _ _ _;have tm:=tm.keep [0,1,4,7,8,9,10,15,17];have ur:(((n+1:Nat):Int) - 1)=(n:Int):=by omega
  rw[ur]at tm;refine wsq rfl ?_;refine wbl 5 rfl ?_;have cB:Bf .i64 ((N0:Int)+(n:Int))=((N0+n:Nat):Int):=by rw[A18 (by omega) (by omega)];omega
  refine E3 21 7 rfl rfl ?_;refine Pm tm λa tm=>?_;refine Pm tm λa tm=>?_;refine Pm tm λa tm=>?_;refine Pv tm (A3w tm) λa tm=>?_;rw[cB]at tm;refine Ay rfl λK hK=>A4Y tm A0E tz3 rfl rfl rfl rfl rfl (us:=[D2 (N0+n)]) rfl rfl rfl (by decide) (by decide) λa tm=>hK _ _ ?_;have eY:=A0I w m (.cells [D2 (N0+n)].toArray 3) hi.z0;have bX:=hi.step eY (λb _ h=>h.elim) (.inl λ_ h=>h) 0 (λh=>absurd rfl h);have dS:ArrN (w.alloc (.cells [D2 (N0+n)].toArray 3)) 1 (.slice (some ⟨w.heap.size,0,none⟩) 1 1) 1 [D2 (N0+n)]:=A3X (w:=w) rfl rfl (Be _) (by simp) (λj x hj=>by simpa using hj);obtain⟨ie,z,e1,e2,e3,e4,e5⟩:=A08 tz3;have dl:(c.drop (n+1)++anq).length<=1099511627776:=by rw[Bx,Et];omega
  obtain⟨mH,w2,af,bS,dy,dt⟩:=A9O (P:=Aw) (t:=151) (u:=151) (ty:=151) (e:=3) (y:=.slice (some ⟨w.heap.size,0,none⟩) 1 1) (k:=1) (ys:=[D2 (N0+n)]) (m:=m) A0E (.inl ⟨3,A0E⟩) e1 e2 e4 (by rw[e5];rfl) bX.stk (by simp[Cl]) (dS.first _) rfl (λx hx=>by rcases Ca.1 hx with rfl;rfl) (λb hb=>bX.sys.zr b (by rw[bX.sr b hb];decide)) bX.z0 (by rw[e3];omega) (by rw[e3];decide);refine Ay rfl λK hK=>B0Z tm rfl rfl rfl rfl rfl rfl rfl rfl af λa tm=>hK _ _ ?_;refine Pa tm λa tm=>?_;refine Ba ?_;show(A1 _ _).wp _ _ _ _;refine E3 20 3 rfl rfl ?_;refine Pm tm λa tm=>?_;refine Pv tm (A2b tm) λa tm=>?_;refine Pa tm λa tm=>?_;refine Ba ?_;have iP:c.drop n=(N0+n)::c.drop (n+1):=by
   have h1:=zb n (by omega);have h2:=(Ck.1 h1);rw[Ew h2.1,h2.2]
  have co:=bX.newStk (stk':=c.drop n++anq) dy (λb _ hs=>bX.sr b hs) (by rw[iP,Ey,Cj,Ci,Bw];exact bS) dt;have hw:Bf .i64 ((n:Int) - 1)=(n:Int) - 1:=A18 (by omega) (by omega);rw[hw]at tm;exact⟨n,Bp n,m,_,mH,by omega,tm.sub ⟨rfl,rfl,rfl,rfl,rfl,rfl,rfl,rfl,rfl,trivial⟩,co⟩
theorem KI(l:Nat)(i:Nat):(Bl (i+1)).map (λj=>D2 (l+j))=(Bl i).map (λj=>D2 (l+j))++[D2 (l+i)]:=by
 rw[List.range_succ,Bw];rfl
theorem D3b{w0:World}{m0:Nat->Nat}{Q:Exit->Act->World->Prop}{vt vr sv nv:Value}{depth op:Int}{at_ bz bd:Nat}{a:Act}{w:World}{m ρ:Nat->Nat}{N:List G1}{xs:Ai}{n:Nat}{nd:G1}{r:Ag}{stk:Aj}(hN:N[n]?=some nd)(jf:nd.kids=[])(aj:N.length+r.length<=1099511627776)(hi:DerI w0 m0 w m ρ N none stk nv sv vt xs bd bz)(cT:CRep U6 w m (.sl .str r none) vr)
  (tm:Tm a 136 [(0,vt),(1,.int .i64 depth),(4,.pointer (some ⟨bz,0,none⟩)),(7,.pointer (some ⟨bd,0,none⟩)),(8,sv),(9,D2 at_),(10,.int .i64 op),(11,D2 n),(14,vr),(15,D2 N.length),(16,D2 0)])
  (hk:∀a w m ρ nv xs,Tm a 136 [(0,vt),(1,.int .i64 depth),(4,.pointer (some ⟨bz,0,none⟩)),(7,.pointer (some ⟨bd,0,none⟩)),(8,sv),(9,D2 at_),(10,.int .i64 op),(14,vr),(15,D2 N.length)]->DerI w0 m0 w m ρ (A88 N n nd r) none stk nv sv vt xs bd bz->CRep U6 w m (.sl .str r none) vr->Q .normal a w):(A1 Bj [1,1,1,1,1,0,0,0,1,0,1,1,1,1,0,1,0,1,1,0,1]).wp Aw Q a w:=by
 have lk:=A00 hN;obtain⟨zF,sp,ut,nZ⟩:=hi.rep.kid n nd hN (λe=>by cases e);have nZ:=nZ jf;subst nZ;refine wbl 2 rfl ?_;refine wlp rfl (λq a w=>∃i m ρ nv xs kv,q=r.length - i/\i<=r.length/\Tm a 136 [(0,vt),(1,.int .i64 depth),(4,.pointer (some ⟨bz,0,none⟩)),(7,.pointer (some ⟨bd,0,none⟩)),(8,sv),(9,D2 at_),(10,.int .i64 op),(11,D2 n),(14,vr),(15,D2 N.length),(16,D2 i)]/\DerI w0 m0 w m ρ (N++(r.take i).map (λs=>(⟨s,[],0⟩:G1))) (some n) stk nv sv vt xs bd bz/\xs[n*3+1]?=some kv/\ArrN w 1 kv i ((Bl i).map λj=>D2 (N.length+j))/\(∀b,H5 kv=some b->ρ b=5)/\CRep U6 w m (.sl .str r none) vr/\(i=0->kv=.slice none 0 0)) r.length ⟨0,m,ρ,nv,xs,.slice none 0 0,rfl,Nat.zero_le _,tm,?_,sp,ArrN.nil,λb hb=>by simp[H5]at hb,cT,λ_=>rfl⟩ ?_
 ·rw[List.take_zero,List.map_nil,List.append_nil];exact{hi with rep:=hi.rep.open n}
 clear tm hi cT sp ut m ρ nv xs a w;rintro q a w ⟨i,m,ρ,nv,xs,kv,rfl,zG,tm,hi,hx,jC,bH,cT,a7⟩;obtain⟨ra,uv,n5⟩:=cT.sl_inv;have uw:(N++(r.take i).map (λs=>(⟨s,[],0⟩:G1))).length=N.length+i:=by rw[Bx,Cb,Er];omega
 refine wsq rfl ?_;refine wsq rfl ?_;refine E3 14 4 rfl rfl ?_;refine Pm tm λa tm=>?_;refine Pm tm λa tm=>?_;refine Pv tm (A1f tm X8 rfl rfl rfl rfl rfl n5) λa tm=>?_;refine Pv tm (C2L tm) λa tm=>?_;refine Wn ?_;refine wcn tm rfl _ rfl ?_;have tm:=tm.keep [0,1,4,7,8,9,10,11,14,15,16];by_cases ap:i<r.length
 ·rw[Au (by simpa using ap)];refine Q8 rfl ?_;show(A1 _ _).wp _ _ _ _;refine wsq rfl ?_;refine wbl 3 rfl ?_;refine wsq rfl ?_;have ux:r[i]?=some r[i]:=Cy ap;generalize r[i]=s at ux;obtain⟨rb,lT,wx,ob,oM,jA⟩:=C7x cT ux;refine B84 (S:=λw'=>w'.cell? ⟨bd,0+0,none⟩=some nv/\w'.cell? ⟨rb,lT+i*1,none⟩=some (G8 s)) 10 rfl 16 11 rfl rfl ?_;have kd:=A7U hi.z0;have hi:=hi.step kd (λb _ h=>h.elim) (.inl λ_ h=>h) 0 (λh=>absurd rfl h);have bH:∀b,H5 kv=some b->H2 ρ w.heap.size 0 b=5:=λb hb=>by rw[J2 (jC.lt hb)];exact bH b hb
  have jC:=kd.arr jC (λb _ h=>h);have cT:=cT.mono u6_ok kd.ext;have oM:=(kd.ext.cell _ _ jA).trans oM
  skip
  generalize H2 ρ w.heap.size 0=ρ at hi bH;generalize ({w with drawn:=w.drawn+1}:World)=w at hi jC cT oM ⊢;clear kd;have HS:w.cell? ⟨bd,0+0,none⟩=some nv/\w.cell? ⟨rb,lT+i*1,none⟩=some (G8 s):=⟨hi.d.cell rfl,oM⟩;obtain⟨ie,z,e1,e2,e3,e4,e5⟩:=A08 A5Y;refine Lt tm 0 rfl (by exact HS) (λw hS=>Y1 tm A4T) λa tm=>?_;refine Lt tm 1 rfl (by exact HS) (λw hS=>A0w tm A7x rfl rfl (hS.1)) λa tm=>?_;refine Lt tm 2 rfl (by exact HS) (λw hS=>A2u tm) λa tm=>?_;refine Lt tm 3 rfl (by exact HS) (λw hS=>A2u tm) λa tm=>?_;refine Lt tm 4 rfl (by exact HS) (λw hS=>A11 tm X8 tz9 rfl rfl ob rfl rfl ap) λa tm=>?_;refine Lt tm 5 rfl (by exact HS) (λw hS=>A0w tm pl9 rfl rfl (hS.2)) λa tm=>?_;refine Lt tm 6 rfl (by exact HS) (λw hS=>C3X tm rfl rfl rfl (cs:=(N5 s).toArray) (by kernel_rfl)) λa tm=>?_;refine A3K (i:=7) (by kernel_rfl) rfl rfl λK hK=>?_;have eY:=A0I w m (.cells (N5 s).toArray 153) hi.z0;have bX:=hi.step eY (λb _ h=>h.elim) (.inl λ_ h=>h) 0 (λh=>absurd rfl h);have fH:∀b,H5 kv=some b->H2 ρ w.heap.size 0 b=5:=λb hb=>by rw[J2 (jC.lt hb)];exact bH b hb
  have gE:=eY.arr jC (λb _ h=>h);have jo:=cT.mono u6_ok eY.ext;have kD:=(eY.ext.cell _ _ jA).trans oM;have dS:ArrN (w.alloc (.cells (N5 s).toArray 153)) 3 (.slice (some ⟨w.heap.size,0,none⟩) 1 1) 1 (N5 s):=A3X (w:=w) rfl rfl (Be _) (by simp[N5]) (λj x hj=>by simpa using hj);generalize uy:w.heap.size=wn at*;refine A4Y tm A2L A5Y rfl rfl rfl rfl rfl (us:=N5 s) rfl rfl rfl (by decide) (by decide) λa tm=>hK _ _ (λ_=>⟨bX.d.cell rfl,kD⟩) ?_;rw[uy]at tm;generalize (w.alloc (.cells (N5 s).toArray 153))=w at bX gE jo kD dS eY ⊢;have HS:w.cell? ⟨bd,0+0,none⟩=some nv/\w.cell? ⟨rb,lT+i*1,none⟩=some (G8 s):=⟨bX.d.cell rfl,kD⟩;refine A3K (i:=8) (by kernel_rfl) rfl rfl λK hK=>?_;obtain⟨hC,w2,af,bS,dy,dt⟩:=A9O (P:=Aw) (t:=95) (u:=95) (ty:=95) (e:=153) (y:=.slice (some ⟨wn,0,none⟩) 1 1) (k:=1) (ys:=N5 s) (m:=m) A2L (.inl ⟨153,A2L⟩) e1 e2 e4 (by rw[e5];rfl) bX.arr (by simp[Cl]) (dS.first _) rfl (λx hx=>by simp only[N5,Bg,Bi,or_false]at hx;rcases hx with rfl|rfl|rfl<;>rfl) (λb hb=>bX.sys.zr b (by rw[bX.ar b hb];decide)) bX.z0 (by rw[e3,uw];omega) (by rw[e3];decide);have jj:=dy.bk bX.d (λhs=>by have:=bX.ar bd hs;rw[bX.dr]at this;cases this);have oc:=(dy.ext.cell _ _ jA).trans kD;refine B0Z tm rfl rfl rfl rfl rfl rfl rfl rfl af λa tm=>hK _ _ (λ_=>⟨jj.cell rfl,oc⟩) ?_;have HS:w2.cell? ⟨bd,0+0,none⟩=some nv/\w2.cell? ⟨rb,lT+i*1,none⟩=some (G8 s):=⟨jj.cell rfl,oc⟩;refine Lt tm 9 rfl (by exact HS) (λw hS=>Y1 tm A4T) λa tm=>?_;refine A3K (i:=10) (by kernel_rfl) rfl rfl λK hK=>?_;obtain⟨q1,q2,q3⟩:=jj.store (m:=m) Aw (off:=0) (vs:=[hC]) (by simp) (λv hv=>by rcases Ca.1 hv with rfl;obtain⟨pa,lU,rfl⟩:=bS.len;rfl) (bX.sys.zr bd (by rw[bX.dr];decide)) dy.zero;have uz:hC.cells=[hC].toArray:=by obtain⟨pa,lU,rfl⟩:=bS.len;rfl
  refine A8g tm D7b rfl rfl rfl rfl (us:=[hC]) uz rfl q1 (hK _ _ (λh=>absurd rfl h) ?_);refine B9I (by kernel_rfl) ?_ _;have fk:∀j,some n=some j->j<(N++(r.take i).map (λs=>(⟨s,[],0⟩:G1))).length:=λj e=>by cases e;rw[uw];omega
  have df:=(bX.rep.keep dy).push s fk;have oy:N++(r.take i).map (λs=>(⟨s,[],0⟩:G1))++[(⟨s,[],0⟩:G1)]=N++(r.take (i+1)).map (λs=>(⟨s,[],0⟩:G1)):=by
   rw[List.take_add_one,ux,Bw,List.append_assoc];rfl
  rw[oy]at df;have od:(N++(r.take (i+1)).map (λs=>(⟨s,[],0⟩:G1))).length=N.length+(i+1):=by rw[Bx,Cb,Er];omega
  have kE:ArrN w2 3 hC (N++(r.take (i+1)).map (λs=>(⟨s,[],0⟩:G1))).length (xs++N5 s):=by rw[od, <-Nat.add_assoc, <-uw];exact bS
  have co:=bX.newArr dy (λb _ hs=>bX.ar b hs) dt kE df q3 q2;have iy:∀b,H5 kv=some b->H2 (H2 ρ wn 0) w.heap.size 4 b=5:=λb hb=>by rw[J2 (gE.lt hb)];exact fH b hb
  have lV:=q3.arr (dy.arr gE (λb hb hs=>by have h1:=fH b hb;rw[bX.ar b hs]at h1;cases h1)) (λb hb hs=>by have h1:=fH b hb;rw[hs,bX.dr]at h1;cases h1);have kF:=(jo.mono u6_ok dy.ext).mono u6_ok q3.ext;have du:(xs++N5 s)[n*3+1]?=some kv:=by rw[Eu (A00 hx)];exact hx
  generalize H2 (H2 ρ wn 0) w.heap.size 4=ρ at co iy;generalize (I5 w2 bd 0 [hC])=w at co lV kF ⊢;clear bX fH gE jo kD dS eY hi bH jC cT oM HS af bS dy dt jj oc q1 q2 q3 df kE hx;have tm:=tm.keep [0,1,4,7,8,9,10,11,14,15,16];show(A1 _ _).wp _ _ _ _;obtain⟨nb,oe,ll,qP,cQ,dR,kG⟩:=co.arr.at du;have wz:n<(N++(r.take (i+1)).map (λs=>(⟨s,[],0⟩:G1))).length:=by rw[od];omega
  refine B84 (S:=λw'=>w'.cell? ⟨bd,0+0,none⟩=some hC/\w'.cell? ⟨nb,0+n*3+1,none⟩=some kv) 16 rfl 17 17 rfl rfl ?_;have kd:=A7U co.z0;have hi:=co.step kd (λb _ h=>h.elim) (.inl λ_ h=>h) 0 (λh=>absurd rfl h);have bH:∀b,H5 kv=some b->H2 ρ w.heap.size 0 b=5:=λb hb=>by rw[J2 (lV.lt hb)];exact iy b hb
  have jC:=kd.arr lV (λb _ h=>h);have cT:=kF.mono u6_ok kd.ext;generalize H2 ρ w.heap.size 0=ρ at hi bH;generalize ({w with drawn:=w.drawn+1}:World)=w at hi jC cT ⊢;clear kd co iy lV kF dR kG;have eS:∀{w:World}{ρ:Nat->Nat}{x:Value}{xs:Ai}{M:List G1}{e:Ak},DerI w0 m0 w m ρ M e stk hC sv vt xs bd bz->xs[n*3+1]?=some x->w.cell? ⟨nb,0+n*3+1,none⟩=some x/\w.frozen? ⟨nb,0+n*3+1,none⟩=false:=λ{w}{ρ}{x}{xs}{M}{e} hi hx=>by
   obtain⟨zH,wA,og,_,_,h4,h5⟩:=hi.arr.at hx;rw[ll]at og;simp only[Ff,Bn,Addr.mk.injEq]at og;obtain⟨⟨rfl,_⟩,_⟩:=og;rw[Bh];exact⟨h4,h5⟩
  have HS:w.cell? ⟨bd,0+0,none⟩=some hC/\w.cell? ⟨nb,0+n*3+1,none⟩=some kv:=⟨hi.d.cell rfl,(eS hi du).1⟩;obtain⟨zI,z2,d1,d2,d3,d4,d5⟩:=A08 tz3;have cB:Bf .i64 ((N.length:Int)+(i:Int))=((N.length+i:Nat):Int):=by rw[A18 (by omega) (by omega)];omega
  refine Lt tm 0 rfl (by exact HS) (λw hS=>Y1 tm A4T) λa tm=>?_;refine Lt tm 1 rfl (by exact HS) (λw hS=>A0w tm A7x rfl rfl (hS.1)) λa tm=>?_;refine Lt tm 2 rfl (by exact HS) (λw hS=>A2u tm) λa tm=>?_;refine Lt tm 3 rfl (by exact HS) (λw hS=>Y1 tm A4T) λa tm=>?_;refine Lt tm 4 rfl (by exact HS) (λw hS=>A0w tm A7x rfl rfl (hS.1)) λa tm=>?_;refine Lt tm 5 rfl (by exact HS) (λw hS=>A2u tm) λa tm=>?_;refine Lt tm 6 rfl (by exact HS) (λw hS=>A11 tm A2L A5Y rfl rfl ll rfl rfl wz) λa tm=>?_;refine Lt tm 7 rfl (by exact HS) (λw hS=>Y1 tm C5q) λa tm=>?_;refine Lt tm 8 rfl (by exact HS) (λw hS=>A0w tm D5z rfl rfl (hS.2)) λa tm=>?_;refine Lt tm 9 rfl (by exact HS) (λw hS=>A2u tm) λa tm=>?_;refine Lt tm 10 rfl (by exact HS) (λw hS=>A2u tm) λa tm=>?_;refine Lt tm 11 rfl (by exact HS) (λw hS=>A3w tm) λa tm=>?_;refine A3K (i:=12) (by kernel_rfl) rfl rfl λK hK=>?_;rw[cB]at tm;have eY:=A0I w m (.cells [D2 (N.length+i)].toArray 3) hi.z0;have bX:=hi.step eY (λb _ h=>h.elim) (.inl λ_ h=>h) 0 (λh=>absurd rfl h);have fH:∀b,H5 kv=some b->H2 ρ w.heap.size 0 b=5:=λb hb=>by rw[J2 (jC.lt hb)];exact bH b hb
  have gE:=eY.arr jC (λb _ h=>h);have jo:=cT.mono u6_ok eY.ext;have dS:ArrN (w.alloc (.cells [D2 (N.length+i)].toArray 3)) 1 (.slice (some ⟨w.heap.size,0,none⟩) 1 1) 1 [D2 (N.length+i)]:=A3X (w:=w) rfl rfl (Be _) (by simp) (λj x hj=>by simpa using hj);generalize uy:w.heap.size=uA at bX fH dS;refine A4Y tm A0E tz3 rfl rfl rfl rfl rfl (us:=[D2 (N.length+i)]) rfl rfl rfl (by decide) (by decide) λa tm=>hK _ _ (λ_=>⟨bX.d.cell rfl,(eS bX du).1⟩) ?_;rw[uy]at tm;generalize (w.alloc (.cells [D2 (N.length+i)].toArray 3))=w at bX gE jo dS eY ⊢;refine A3K (i:=13) (by kernel_rfl) rfl rfl λK hK=>?_;obtain⟨mI,w2,af,bS,dy,dt⟩:=A9O (P:=Aw) (t:=151) (u:=151) (ty:=151) (e:=3) (y:=.slice (some ⟨uA,0,none⟩) 1 1) (k:=1) (ys:=[D2 (N.length+i)]) (m:=m) A0E (.inl ⟨3,A0E⟩) d1 d2 d4 (by rw[d5];rfl) gE (by simp[Cl]) (dS.first _) rfl (λx hx=>by rcases Ca.1 hx with rfl;rfl) (λb hb=>bX.sys.zr b (by rw[fH b hb];decide)) bX.z0 (by rw[d3];omega) (by rw[d3];decide);have co:=bX.step dy (λb _ hs=>by rw[fH b hs];decide) (.inr rfl) 5 (λ_=>rfl);have ob:=jo.mono u6_ok dy.ext;have iy:∀b,H5 mI=some b->H2 (H2 ρ uA 0) w.heap.size 5 b=5:=λb hb=>by
   rcases dt b hb with h|h
   ·rw[J2 (gE.lt h)];exact fH b h
   ·exact A0H h
  refine B0Z tm rfl rfl rfl rfl rfl rfl rfl rfl af λa tm=>hK _ _ (λ_=>⟨co.d.cell rfl,(eS co du).1⟩) ?_;generalize H2 (H2 ρ uA 0) w.heap.size 5=ρ at co iy;refine A3K (i:=14) (by kernel_rfl) rfl rfl λK hK=>?_;refine A5d tm rfl rfl (A11 tm A2L A5Y rfl rfl ll rfl rfl wz) λa tm=>hK _ _ (λ_=>⟨co.d.cell rfl,(eS co du).1⟩) ?_;refine A3K (i:=15) (by kernel_rfl) rfl rfl λK hK=>?_;refine A5d tm rfl rfl (Y1 tm C5q rfl rfl) λa tm=>hK _ _ (λ_=>⟨co.d.cell rfl,(eS co du).1⟩) ?_;refine A3K (i:=16) (by kernel_rfl) rfl rfl λK hK=>?_;have uB:mI.cells= #[mI]:=by obtain⟨pa,lU,rfl⟩:=bS.len;rfl
  have uC:mI.oneCell'=true:=by obtain⟨pa,lU,rfl⟩:=bS.len;rfl
  refine C17 (sz:=1) tm D8K rfl rfl rfl rfl uB uC (eS co du).1 (eS co du).2 (hK _ _ (λh=>absurd rfl h) ?_);refine B9I (by kernel_rfl) ?_ _;have kH:(⟨nb,0+n*3+1,none⟩:Addr)=⟨nb,n*3+1,none⟩:=by rw[Bh]
  rw[kH];have kI:=co.arr.set (j:=n*3+1) (by rw[od];omega) ll mI;have qQ:=C5s w2 m (b:=nb) (off:=n*3+1) mI (co.sys.zr nb (by rw[co.ar nb cQ];decide)) co.z0;have oK:=co.setArr cQ qQ rfl kI (co.rep.setKid mI);have qR:=qQ.arr bS (λb hb hs=>by have h1:=iy b hb;rw[hs,co.ar nb cQ]at h1;cases h1);rw[<-KI]at qR;have uD:=ob.mono u6_ok qQ.ext;show(A1 _ _).wp _ _ _ _;have tm:=tm.keep [0,1,4,7,8,9,10,11,14,15,16];refine E3 15 3 rfl rfl ?_;refine Pm tm λa tm=>?_;refine Pv tm (A3w tm) λa tm=>?_;refine Pa tm λa tm=>?_;refine Ba ?_;have qz:Bf .i64 ((i:Int)+1)=((i+1:Nat):Int):=A9r (by omega);rw[qz]at tm;exact⟨r.length - (i+1),by omega,i+1,m,ρ,hC,_,mI,rfl,by omega,tm.sub ⟨rfl,rfl,rfl,rfl,rfl,rfl,rfl,rfl,rfl,rfl,rfl,trivial⟩,oK,List.getElem?_set_self (A00 du),qR,iy,uD,λh=>by omega⟩
 ·rw[At (by simpa using ap)];refine A5H 2 rfl ?_;simp only[Exit.then,Cc,if_true];have bJ:i=r.length:=by omega
  subst bJ;rw[List.take_length]at hi;have iG:∀(j:Nat)(lf:L6),(flat U6 .i64 ((Bl r.length).map λi=>((N.length+i:Nat):Int)))[j]?=some lf->∃u:Value,((Bl r.length).map λj=>D2 (N.length+j))[j]?=some u/\CRep U6 w m lf u:=λj lf hj=>by
   obtain⟨x,h1,h2⟩:=B8w (t:=.i64) hj;have hs:U6.size .i64=1:=rfl;rw[hs,Nat.div_one]at h1;rw[hs,Nat.mod_one]at h2;have h3:=A00 h1;rw[Cb,Cv]at h3;rw[Cx,Cw h3]at h1;cases h1;cases h2;exact⟨_,by rw[Cx,Cw h3];rfl,.int _ _⟩
  obtain⟨m',ck,oh⟩:=B5m (U:=U6) u6_ok (t:=.i64) (l:=(Bl r.length).map λi=>((N.length+i:Nat):Int)) jC (by simp) iG (λb hb=>hi.sys.zr b (by rw[bH b hb];decide)) hi.z0;obtain⟨ρ',co⟩:=hi.shut oh (λb _ hs=>by rw[bH b hs];decide);have oy:(N++r.map (λs=>(⟨s,[],0⟩:G1)))[n]?=some nd:=by rw[Eu lk];exact hN
  have mJ:=co.rep.shut oy hx ck (λh0=>a7 (by simpa using h0));have hg:(N++r.map (λs=>(⟨s,[],0⟩:G1))).set n {nd with kids:=(Bl r.length).map λi=>((N.length+i:Nat):Int)}=A88 N n nd r:=by
   unfold A88;rw[List.set_append_left _ _ lk]
  rw[hg]at mJ;have zd:(A88 N n nd r).length=(N++r.map (λs=>(⟨s,[],0⟩:G1))).length:=by rw[<-hg,Es]
  exact hk a w m' ρ' nv xs (tm.sub ⟨rfl,rfl,rfl,rfl,rfl,rfl,rfl,rfl,rfl,trivial⟩) {co with arr:=by(rw[zd];exact co.arr),rep:=mJ} (cT.mono u6_ok oh.ext)
theorem D2Z{Q:Exit->Act->World->Prop}{vt sv:Value}{depth op:Int}{at_ bz bd n:Nat}{sym:Ab}{a:Act}{w:World}(tm:Tm a 136 [(0,vt),(1,.int .i64 depth),(4,.pointer (some ⟨bz,0,none⟩)),(7,.pointer (some ⟨bd,0,none⟩)),(8,sv),(9,D2 at_),(10,.int .i64 op),(11,D2 n),(12,G8 sym),(107,G8 sym)])(hk:∀a,Tm a 136 [(0,vt),(1,.int .i64 depth),(4,.pointer (some ⟨bz,0,none⟩)),(7,.pointer (some ⟨bd,0,none⟩)),(8,sv),(9,D2 at_),(10,.int .i64 op),(11,D2 n),(12,G8 sym),(107,G8 sym),(108,.bool (Z7 sym))]->Q .normal a w):(A1 Bj [1,1,1,1,1,0,0,0,1,0,1,1,1,1,1,1,0,1,0,0]).wp Aw Q a w:=by
 refine wsq rfl ?_;refine E3 25 2 rfl rfl ?_;refine Pv tm (A6D tm rfl (i:=sym) (j:=[40]) rfl rfl) λa tm=>?_;refine Pa tm λa tm=>?_;refine Wn ?_;refine wcn tm rfl _ rfl ?_;have tm:=tm.keep [0,1,4,7,8,9,10,11,12,107,108];cases h1:(sym==[40])with
 |true=>
  rw[Au rfl];rw[h1]at tm;refine Q8 rfl (hk a ?_);rw[show Z7 sym=true by unfold Z7;rw[h1];rfl];exact tm
 |false=>
  rw[At (by simp)];refine wsq rfl ?_;refine E3 26 2 rfl rfl ?_;refine Pv tm (A6D tm rfl (i:=sym) (j:=[91]) rfl rfl) λa tm=>?_;refine Pa tm λa tm=>?_;refine Wn ?_;refine wcn tm rfl _ rfl ?_;have tm:=tm.keep [0,1,4,7,8,9,10,11,12,107,108];cases h2:(sym==[91])with
  |true=>
   rw[Au rfl];rw[h2]at tm;refine Q8 rfl (hk a ?_);rw[show Z7 sym=true by unfold Z7;rw[h1,h2];rfl];exact tm
  |false=>
   rw[At (by simp)];refine E3 27 2 rfl rfl ?_;refine Pv tm (A6D tm rfl (i:=sym) (j:=[123]) rfl rfl) λa tm=>?_;refine Pa tm λa tm=>?_;refine Ba ?_;refine hk _ ?_;rw[show Z7 sym=(sym==[123])by unfold Z7;rw[h1,h2];rfl];exact tm.sub (by repeat' constructor)
theorem D0r{Q:Exit->Act->World->Prop}{vt sv:Value}{depth op:Int}{at_ bz bd n:Nat}{sym:Ab}{a:Act}{w:World}(tm:Tm a 136 [(0,vt),(1,.int .i64 depth),(4,.pointer (some ⟨bz,0,none⟩)),(7,.pointer (some ⟨bd,0,none⟩)),(8,sv),(9,D2 at_),(10,.int .i64 op),(11,D2 n),(12,G8 sym),(107,G8 sym)])(hk:∀a,Tm a 136 [(0,vt),(1,.int .i64 depth),(4,.pointer (some ⟨bz,0,none⟩)),(7,.pointer (some ⟨bd,0,none⟩)),(8,sv),(9,D2 at_),(10,.int .i64 op),(11,D2 n),(12,G8 sym),(107,G8 sym),(119,.bool (A1Y sym))]->Q .normal a w):(A1 Bj [1,1,1,1,1,0,0,0,1,0,1,1,1,1,1,1,0,1,0,1,1,0]).wp Aw Q a w:=by
 refine wsq rfl ?_;refine E3 31 2 rfl rfl ?_;refine Pv tm (A6D tm rfl (i:=sym) (j:=[41]) rfl rfl) λa tm=>?_;refine Pa tm λa tm=>?_;refine Wn ?_;refine wcn tm rfl _ rfl ?_;have tm:=tm.keep [0,1,4,7,8,9,10,11,12,107,119];cases h1:(sym==[41])with
 |true=>
  rw[Au rfl];rw[h1]at tm;refine Q8 rfl (hk a ?_);rw[show A1Y sym=true by unfold A1Y;rw[h1];rfl];exact tm
 |false=>
  rw[At (by simp)];refine wsq rfl ?_;refine E3 32 2 rfl rfl ?_;refine Pv tm (A6D tm rfl (i:=sym) (j:=[93]) rfl rfl) λa tm=>?_;refine Pa tm λa tm=>?_;refine Wn ?_;refine wcn tm rfl _ rfl ?_;have tm:=tm.keep [0,1,4,7,8,9,10,11,12,107,119];cases h2:(sym==[93])with
  |true=>
   rw[Au rfl];rw[h2]at tm;refine Q8 rfl (hk a ?_);rw[show A1Y sym=true by unfold A1Y;rw[h1,h2];rfl];exact tm
  |false=>
   rw[At (by simp)];refine E3 33 2 rfl rfl ?_;refine Pv tm (A6D tm rfl (i:=sym) (j:=[125]) rfl rfl) λa tm=>?_;refine Pa tm λa tm=>?_;refine Ba ?_;refine hk _ ?_;rw[show A1Y sym=(sym==[125])by unfold A1Y;rw[h1,h2];rfl];exact tm.sub (by repeat' constructor)
theorem C8Z{Q:Exit->Act->World->Prop}{vt sv:Value}{depth op:Int}{at_ bz bd n:Nat}{sym:Ab}{a:Act}{w:World}{w0:World}{m0 m ρ:Nat->Nat}{N:List G1}{ex:Ak}{stk:Aj}{nv:Value}{xs:Ai}(hi:DerI w0 m0 w m ρ N ex stk nv sv vt xs bd bz)(tm:Tm a 136 [(0,vt),(1,.int .i64 depth),(4,.pointer (some ⟨bz,0,none⟩)),(7,.pointer (some ⟨bd,0,none⟩)),(8,sv),(9,D2 at_),(10,.int .i64 op),(11,D2 n),(12,G8 sym)])
  (uE:Z7 sym=true->depth<Bf .i64 (op+1)->∀a w m,Tm a 136 [(4,.pointer (some ⟨bz,0,none⟩)),(5,D2 at_),(6,.int .i64 71)]->Bk w bz [.slice none 0 0,.slice none 0 0]->KM w0 m0 w m (λ_=>False)->Q .ret a w)
  (hk:∀a qS,(Z7 sym=true->¬depth<Bf .i64 (op+1)/\qS=Bf .i64 (op+1))->(Z7 sym=false->qS=(bif A1Y sym then Bf .i64 (op - 1)else op))->Tm a 136 [(0,vt),(1,.int .i64 depth),(4,.pointer (some ⟨bz,0,none⟩)),(7,.pointer (some ⟨bd,0,none⟩)),(8,sv),(9,D2 at_),(10,.int .i64 qS),(11,D2 n),(12,G8 sym)]->Q .normal a w):(A1 Bj [1,1,1,1,1,0,0,0,1,0,1,1,1,1,1,1,0]).wp Aw Q a w:=by
 refine wsq rfl ?_;refine E3 24 1 rfl rfl ?_;refine Pm tm λa tm=>?_;refine Wn ?_;refine wbl 6 rfl ?_;refine wsq rfl ?_;refine D2Z (tm.sub ⟨rfl,rfl,rfl,rfl,rfl,rfl,rfl,rfl,rfl,rfl,trivial⟩) λa tm=>?_;show(A1 _ _).wp _ _ _ _;refine wcn tm rfl _ rfl ?_;cases ho:Z7 sym with
 |true=>
  rw[Au rfl];refine wsq rfl ?_;refine E3 28 3 rfl rfl ?_;refine Pm tm λa tm=>?_;refine Pv tm (A3w tm) λa tm=>?_;refine Pa tm λa tm=>?_;refine Wn ?_;refine wsq rfl ?_;refine E3 29 3 rfl rfl ?_;refine Pm tm λa tm=>?_;refine Pm tm λa tm=>?_;refine Pv tm (B2x tm) λa tm=>?_;refine Wn ?_;refine wcn tm rfl _ rfl ?_;have tm:=tm.keep [0,1,4,7,8,9,10,11,12];by_cases hd:depth<Bf .i64 (op+1)
  ·rw[Au (by simpa using hd)];refine wsq rfl ?_;obtain⟨q1,q2,q3⟩:=hi.z.store (m:=m) Aw (off:=0) (vs:=[.slice none 0 0,.slice none 0 0]) (by simp) (λv hv=>by simp only[Bg,Bi,or_false]at hv;rcases hv with rfl|rfl<;>rfl) (hi.sys.zr bz (by rw[hi.zr];decide)) hi.z0;refine E3 30 5 rfl rfl ?_;refine Pv tm (A8a tm rfl rfl (cs:= #[.slice none 0 0,.slice none 0 0]) (by kernel_rfl)) λa tm=>?_;refine Pm tm λa tm=>?_;refine Ps tm A3F q1 ?_;refine Pa tm λa tm=>?_;refine Pa tm λa tm=>?_;refine Wn ?_;refine A4s rfl ?_;exact uE ho hd _ _ m (tm.sub ⟨rfl,rfl,rfl,trivial⟩) q2 (hi.sys.stay q3 (λb _ hs=>by rw[hs,hi.zr];decide)).km
  ·rw[At (by simpa using hd)];refine Q8 rfl ?_;exact hk a _ (λ_=>⟨hd,rfl⟩) (λh=>by rw[ho]at h;cases h) tm
 |false=>
  rw[At (by simp)];refine wsq rfl ?_;refine D0r (tm.sub ⟨rfl,rfl,rfl,rfl,rfl,rfl,rfl,rfl,rfl,rfl,trivial⟩) λa tm=>?_;show(A1 _ _).wp _ _ _ _;refine wcn tm rfl _ rfl ?_;cases hc:A1Y sym with
  |true=>
   rw[Au rfl];refine E3 34 3 rfl rfl ?_;refine Pm tm λa tm=>?_;refine Pv tm (A2b tm) λa tm=>?_;refine Pa tm λa tm=>?_;refine Ba ?_;exact hk _ _ (λh=>by rw[ho]at h;cases h) (λ_=>by rw[hc];rfl) (tm.sub ⟨rfl,rfl,rfl,rfl,rfl,rfl,rfl,rfl,rfl,trivial⟩)
  |false=>
   rw[At (by simp)];refine Q8 rfl ?_;exact hk _ _ (λh=>by rw[ho]at h;cases h) (λ_=>by rw[hc];rfl) (tm.sub ⟨rfl,rfl,rfl,rfl,rfl,rfl,rfl,rfl,rfl,trivial⟩)
theorem C8J{Q:Exit->Act->World->Prop}{vt sv:Value}{depth op:Int}{at_ bz bd n:Nat}{sym:Ab}{a:Act}{w:World}{w0:World}{m0 m ρ:Nat->Nat}{N:List G1}{stk:Aj}{nv:Value}{xs:Ai}{nd:G1}(hi:DerI w0 m0 w m ρ N none stk nv sv vt xs bd bz)(hN:N[n]?=some nd)(wB:nd.sym=sym)(zJ:at_<=1099511627776)(tm:Tm a 136 [(0,vt),(1,.int .i64 depth),(4,.pointer (some ⟨bz,0,none⟩)),(7,.pointer (some ⟨bd,0,none⟩)),(8,sv),(9,D2 at_),(10,.int .i64 op),(11,D2 n),(12,G8 sym)])
  (hk:∀a w xs,Tm a 136 [(0,vt),(1,.int .i64 depth),(4,.pointer (some ⟨bz,0,none⟩)),(7,.pointer (some ⟨bd,0,none⟩)),(8,sv),(9,D2 (bif B0Y sym then at_ else at_+1)),(10,.int .i64 op)]->DerI w0 m0 w m ρ (setTok N n nd at_) none stk nv sv vt xs bd bz->Q .normal a w):(A1 Bj [1,1,1,1,1,0,0,0,1,0,1,1,1,1,1,1,1]).wp Aw Q a w:=by
 have lk:=A00 hN;have hx:=hi.rep.tok n nd hN;obtain⟨nb,oe,ll,qP,cQ,dR,kG⟩:=hi.arr.at hx;have kH:(⟨nb,0+n*3+2,none⟩:Addr)=⟨nb,n*3+2,none⟩:=by rw[Bh]
 refine wsq rfl ?_;refine E3 35 7 rfl rfl ?_;refine Pv tm (Y1 tm A4T) λa tm=>?_;refine Pv tm (A0w tm A7x rfl rfl (hi.d.cell rfl)) λa tm=>?_;refine Pm tm λa tm=>?_;refine Pm tm λa tm=>?_;refine Pv tm (A11 tm A2L A5Y rfl rfl ll rfl rfl lk) λa tm=>?_;refine Pv tm (Y1 tm D5a) λa tm=>?_;refine Ay rfl λK hK=>C17 (sz:=1) tm tz3 rfl rfl rfl rfl rfl rfl (by rw[kH];exact dR) (by rw[kH];exact kG) (hK _ _ ?_);refine Ba ?_;rw[kH];have kI:=hi.arr.set (j:=n*3+2) (by omega) ll (D2 at_);have qQ:=C5s w m (b:=nb) (off:=n*3+2) (D2 at_) (hi.sys.zr nb (by rw[hi.ar nb cQ];decide)) hi.z0;have oK:=hi.setArr cQ qQ (by unfold setTok;rw[Es]) kI (hi.rep.setTok hN at_);generalize (w.setCell ⟨nb,n*3+2,none⟩ (D2 at_))=w at oK ⊢;show(A1 _ _).wp _ _ _ _;refine wsq rfl ?_;have tm:=tm.keep [0,1,4,7,8,9,10,11,12];refine E3 36 2 rfl rfl ?_;refine Pm tm λa tm=>?_;refine Pv tm (C8e tm rfl (i:=sym) (j:=[101,110,100]) rfl rfl) λa tm=>?_;refine Wn ?_;refine wcn tm rfl _ rfl ?_;have tm:=tm.keep [0,1,4,7,8,9,10,11,12];cases he:B0Y sym with
 |true=>
  rw[At (by rw[show(sym==[101,110,100])=true from he];simp)];refine Q8 rfl ?_;refine hk _ _ _ ?_ oK;rw[he];exact tm.sub (by repeat' constructor)
 |false=>
  rw[Au (by rw[show(sym==[101,110,100])=false from he];rfl)];refine E3 37 3 rfl rfl ?_;refine Pm tm λa tm=>?_;refine Pv tm (A3w tm) λa tm=>?_;refine Pa tm λa tm=>?_;refine Ba ?_;have hw:Bf .i64 ((at_:Int)+1)=((at_+1:Nat):Int):=A9r (by omega);rw[hw]at tm;refine hk _ _ _ ?_ oK;rw[he];exact tm.sub (by repeat' constructor)
def C4k(w0:World)(m0:Nat->Nat)(d:A2f)(at_:Nat)(k:Int)(Q:Exit->Act->World->Prop):Prop:=
 ∀e a w m (us:Ai),(e=.normal\/e=.ret)->a.defers=[]->(results Bj a.tmps).run Aw w=.ok (.tuple #[.agg us.toArray,D2 at_,.int .i64 k]) w->CRep U6 w m (.agg .tree d) (.agg us.toArray)->KM w0 m0 w m (λ_=>False)->Q e a w
theorem B4X{w0 w:World}{m0 m:Nat->Nat}{d:A2f}{at_:Nat}{k:Int}{Q:Exit->Act->World->Prop}(hQ:C4k w0 m0 d at_ k Q){e:Exit}{a:Act}{bz:Nat}{us:Ai}(he:e=.normal\/e=.ret)(tm:Tm a 136 [(4,.pointer (some ⟨bz,0,none⟩)),(5,D2 at_),(6,.int .i64 k)])(hb:Bk w bz us)(hl:us.length=2)(hr:CRep U6 w m (.agg .tree d) (.agg us.toArray))(hk:KM w0 m0 w m (λ_=>False)):Q e a w:=by
 refine hQ e a w m us he tm.dfr ?_ hr hk;have h4:=tm.get 4 _ rfl;have h5:=tm.get 5 _ rfl;have h6:=tm.get 6 _ rfl;have hl:(loadVar 97 ⟨bz,0,none⟩).run Aw w=.ok (.agg us.toArray) w:=B6G B7F A3F hl (λj u hj=>by rw[Bh];exact hb.cell hj);exact A83 Aw Bj a w [.cell 4 97,.tmp 5,.tmp 6] (by kernel_rfl) (vs:=[.agg us.toArray,D2 at_,.int .i64 k]) (λf hf=>by
  simp[hf.tmp,hf.cell,h4,h5,h6,asAddr,hl])
theorem C2s{w:World}{m:Nat->Nat}:CRep U6 w m (.agg .tree ⟨[],[]⟩) (.agg [.slice none 0 0,.slice none 0 0].toArray):=A9K ⟨.nil _ _ _ _,.nil _ _ _ _,trivial⟩
theorem D35{w:World}{sv:Value}{n:Nat}{anq:Aj}(h:ArrN w 1 sv (n::anq).length ((n::anq).reverse.map D2)):
  ∃b cap,sv=.slice (some ⟨b,0,none⟩) (anq.length+1) cap/\anq.length+1<=cap/\w.cell? ⟨b,0+anq.length*1,none⟩=some (D2 n):=by
 obtain⟨b,cap,hv,_,_,aZ,hc⟩:=h.blk (by simp);refine⟨b,cap,hv,aZ,?_⟩;rw[Bh,Ch];exact(hc anq.length _ (by simp)).1
theorem D4N{I:Inv}(hb:HB I){w0:World}{m0:Nat->Nat}(hI:I w0 m0)(hz:∀b,w0.heap.size<=b->m0 b=0){toks:Ah}{depth:Int}{d:A2f}{uF:Nat}{k:Int}{Q:Exit->Act->World->Prop}{vt:Value}{F:Nat}
  (af:A4b toks depth F [⟨A0Z,[],0⟩] [0] 0 0=some (d,uF,k))(eX:toks.length<=1099511627776)(lW:CRep U6 w0 m0 (.sl .tok toks none) vt)(hQ:C4k w0 m0 d uF k Q){a:Act}(tm:Tm a 136 [(0,vt),(1,.int .i64 depth)]):
  (A1 Bj []).wp Aw Q a w0:=by
 obtain⟨pv,lU,ol⟩:=lW.sl_inv;refine wsq rfl ?_;refine E3 0 3 rfl rfl ?_;refine Ay rfl λK hK=>A75 tm A3F rfl rfl rfl λa tm=>hK _ _ ?_;refine Pa tm λa tm=>?_;refine Pa tm λa tm=>?_;refine Wn ?_;refine wsq rfl ?_;have k1:=A0I w0 m0 (.cells [.slice none 0 0,.slice none 0 0].toArray 97) hz;have s0:Sys w0 m0 (λ_=>False) w0 m0 (λ_=>0):=⟨KM.refl _ _ _ hz,λb h=>absurd rfl h,λb _ h=>absurd rfl h⟩;have s1:=s0.stepM k1 (λ_ _ h=>h.elim) 1;have b1:Bk (w0.alloc (.cells [.slice none 0 0,.slice none 0 0].toArray 97)) w0.heap.size [.slice none 0 0,.slice none 0 0]:=A6T;have dv:H2 (λ_=>0) w0.heap.size 1 w0.heap.size=1:=A0H (Be _);generalize w0.heap.size=bz at tm s1 b1 dv;generalize H2 (λ_=>0) bz 1=ρ1 at s1 dv;generalize (w0.alloc (.cells [.slice none 0 0,.slice none 0 0].toArray 97))=w1 at k1 s1 b1 tm ⊢;refine E3 1 6 rfl rfl ?_;refine Pm tm λa tm=>?_;refine Pv tm (C3X tm rfl rfl rfl (v:=G8 A0Z) (cs:=(N5 A0Z).toArray) (by kernel_rfl)) λa tm=>?_;refine Ay rfl λK hK=>A4Y tm A2L A5Y rfl rfl rfl rfl rfl (us:=N5 A0Z) rfl rfl rfl (by decide) (by decide) λa tm=>hK _ _ ?_;have k2:=A0I w1 m0 (.cells (N5 A0Z).toArray 153) s1.z;have s2:=s1.stepM k2 (λ_ _ h=>h.elim) 4;have a2:ArrN (w1.alloc (.cells (N5 A0Z).toArray 153)) 3 (.slice (some ⟨w1.heap.size,0,none⟩) 1 1) 1 (N5 A0Z):=A3X (w:=w1) rfl rfl (Be _) (by simp[N5]) (λj x hj=>by simpa using hj);have ea:H2 ρ1 w1.heap.size 4 w1.heap.size=4:=A0H (Be _);have dv:=(J2 (r:=4) b1.lt).trans dv;have b1:=k2.bk b1 (λh=>h);generalize w1.heap.size=bn at tm s2 a2 dv ea;generalize H2 ρ1 bn 4=ρ2 at s2 dv ea;generalize (w1.alloc (.cells (N5 A0Z).toArray 153))=w2 at k2 s2 b1 a2 ⊢;refine Pv tm (D3g tm rfl rfl rfl rfl (cs:= #[.slice (some ⟨bn,0,none⟩) 1 1,vt]) (by rw[ol];kernel_rfl)) λa tm=>?_;refine Ay rfl λK hK=>A75 tm A3F rfl rfl rfl λa tm=>hK _ _ ?_;have k3:=A0I w2 m0 (.cells [.slice none 0 0,.slice none 0 0].toArray 97) s2.z;have s3:=s2.stepM k3 (λ_ _ h=>h.elim) 2;have b3:Bk (w2.alloc (.cells [.slice none 0 0,.slice none 0 0].toArray 97)) w2.heap.size [.slice none 0 0,.slice none 0 0]:=A6T;have fm:H2 ρ2 w2.heap.size 2 w2.heap.size=2:=A0H (Be _);have dv:=(J2 (r:=2) b1.lt).trans dv;have ea:=(J2 (r:=2) (a2.lt (A0D (by decide)))).trans ea;have b1:=k3.bk b1 (λh=>h);have a2:=k3.arr a2 (λ_ _ h=>h);generalize w2.heap.size=bd at tm s3 b3 dv ea fm;generalize H2 ρ2 bd 2=ρ3 at s3 dv ea fm;generalize (w2.alloc (.cells [.slice none 0 0,.slice none 0 0].toArray 97))=w3 at k3 s3 b1 a2 b3 ⊢;obtain⟨q1,q2,q3⟩:=b3.store (m:=m0) Aw (off:=0) (vs:=[.slice (some ⟨bn,0,none⟩) 1 1,vt]) (by simp) (λv hv=>by simp only[Bg,Bi,or_false]at hv;rcases hv with rfl|rfl;rfl;rw[ol];rfl) (s3.zr bd (by rw[fm];decide)) s3.z;refine Ps tm A3F q1 ?_;have s4:=s3.stay q3 (λb _ hs=>by rw[hs,fm];decide);have b1:=q3.bk b1 (λhs=>by rw[hs,fm]at dv;cases dv);have a2:=q3.arr a2 (λb hb hs=>by rw[A0D (by decide)]at hb;cases hb;rw[hs,fm]at ea;cases ea);have b3:Bk _ bd [.slice (some ⟨bn,0,none⟩) 1 1,vt]:=q2;generalize (I5 w3 bd 0 [.slice (some ⟨bn,0,none⟩) 1 1,vt])=w4 at s4 b1 a2 b3 ⊢;refine Wn ?_;refine wsq rfl ?_;refine E3 2 2 rfl rfl ?_;refine Ay rfl λK hK=>A4Y tm A0E tz3 rfl rfl rfl rfl rfl (us:=[D2 0]) rfl rfl rfl (by decide) (by decide) λa tm=>hK _ _ ?_;refine Pa tm λa tm=>?_;refine Ba ?_;have k5:=A0I w4 m0 (.cells [D2 0].toArray 3) s4.z;have s5:=s4.stepM k5 (λ_ _ h=>h.elim) 3;have a5:ArrN (w4.alloc (.cells [D2 0].toArray 3)) 1 (.slice (some ⟨w4.heap.size,0,none⟩) 1 1) 1 [D2 0]:=A3X (w:=w4) rfl rfl (Be _) (by simp) (λj x hj=>by simpa using hj);have hi:∃ρ sv,sv=Br (some ⟨w4.heap.size,0,none⟩) 1 1/\DerI w0 m0 (w4.alloc (.cells [D2 0].toArray 3)) m0 ρ [⟨A0Z,[],0⟩] none [0] (.slice (some ⟨bn,0,none⟩) 1 1) sv vt (N5 A0Z) bd bz:=by
  refine⟨_,_,rfl,s5,k5.arr a2 (λ_ _ h=>h),λb hb=>?_,⟨rfl,λi nd hi=>?_,λi nd hi=>?_,λi nd hi _=>?_⟩,a5,λb hb=>?_,k5.bk b3 (λh=>h),?_,k5.bk b1 (λh=>h),?_⟩
  ·have h1:=hb;rw[A0D (by decide)]at hb;cases hb;rw[J2 (a2.lt h1)];exact ea
  ·match i,hi with
   |0,hi=>cases hi;rfl
   |i+1,hi=>simp at hi
  ·match i,hi with
   |0,hi=>cases hi;rfl
   |i+1,hi=>simp at hi
  ·match i,hi with
   |0,hi=>cases hi;exact⟨_,rfl,.nil _ _ _ _,λ_=>rfl⟩
   |i+1,hi=>simp at hi
  ·rw[A0D (by decide)]at hb;cases hb;exact A0H (Be _)
  ·rw[J2 b3.lt];exact fm
  ·rw[J2 b1.lt];exact dv
 obtain⟨ρ,sv,iF,hi⟩:=hi;rw[<-iF]at tm;generalize (w4.alloc (.cells [D2 0].toArray 3))=w at hi ⊢;generalize (Br (some ⟨bn,0,none⟩) 1 1)=nv at hi;clear iF k1 s1 k2 s2 k3 s3 q1 q2 q3 s4 b1 a2 b3 k5 s5 a5 dv ea fm;show(A1 _ _).wp _ _ _ _;refine wsq rfl ?_;refine E3 3 1 rfl rfl ?_;refine Pa tm λa tm=>?_;refine Wn ?_;refine wsq rfl ?_;refine E3 4 1 rfl rfl ?_;refine Pa tm λa tm=>?_;refine Wn ?_;refine wsq rfl ?_;refine wbl 0 rfl ?_;refine wlp rfl (λq a w=>∃N stk at_ op m ρ nv sv xs,A4b toks depth q N stk at_ op=some (d,uF,k)/\Tm a 136 [(0,vt),(1,.int .i64 depth),(4,.pointer (some ⟨bz,0,none⟩)),(7,.pointer (some ⟨bd,0,none⟩)),(8,sv),(9,D2 at_),(10,.int .i64 op)]/\DerI w0 m0 w m ρ N none stk nv sv vt xs bd bz/\stk.length<=1099511627776) F ⟨_,[0],0,0,m0,ρ,nv,sv,_,af,tm.sub ⟨rfl,rfl,rfl,rfl,rfl,rfl,rfl,trivial⟩,hi,by simp⟩ ?_;clear tm hi af s0;rintro q a w ⟨N,stk,at_,op,m,ρ,nv,sv,xs,af,tm,hi,fC⟩;cases q with
 |zero=>cases af
 |succ q=>
 obtain⟨pa,cap,iF⟩:=hi.stk.len;refine wsq rfl ?_;refine wsq rfl ?_;refine E3 5 3 rfl rfl ?_;refine Pm tm λa tm=>?_;refine Pv tm (A1f tm A0E rfl rfl rfl rfl rfl iF) λa tm=>?_;refine Pv tm (B2x tm) λa tm=>?_;refine Wn ?_;refine wcn tm rfl _ rfl ?_;cases stk with
 |nil=>
  simp only[A4b,Bn,Bo]at af;obtain⟨rfl,rfl,rfl⟩:=af;rw[At (by simp)];refine A5H 0 rfl ?_;simp only[Exit.then,Cc,if_true];show(A1 _ _).wp _ _ _ _;refine wsq rfl ?_;obtain⟨m',ck,oh⟩:=B5m (U:=U6) u6_ok (t:=.node) hi.arr rfl hi.rep.flat (λb hb=>hi.sys.zr b (by rw[hi.ar b hb];decide)) hi.z0;obtain⟨na,oe,om⟩:=hi.arr.len;obtain⟨q1,q2,q3⟩:=hi.z.store (m:=m) Aw (off:=0) (vs:=[nv,vt]) (by simp) (λv hv=>by simp only[Bg,Bi,or_false]at hv;rcases hv with rfl|rfl;rw[om];rfl;rw[ol];rfl) (hi.sys.zr bz (by rw[hi.zr];decide)) hi.z0;refine E3 38 4 rfl rfl ?_;refine Pv tm (A1E tm B7F A3F rfl rfl (us:=[nv,vt]) rfl (λj u hj=>by rw[Bh];exact hi.d.cell hj)) λa tm=>?_;refine Ps tm A3F q1 ?_;refine Pa tm λa tm=>?_;refine Pa tm λa tm=>?_;refine Wn ?_;refine A4s rfl ?_;have s1:=hi.sys.stay q3 (λb _ hs=>by rw[hs,hi.zr];decide);have df:=hi.rep.keep q3;have bS:=q3.arr hi.arr (λb hb hs=>by have h1:=hi.ar b hb;rw[hs,hi.zr]at h1;cases h1);obtain⟨m',ck,oh⟩:=B5m (U:=U6) u6_ok (t:=.node) bS rfl df.flat (λb hb=>s1.zr b (by rw[hi.ar b hb];decide)) s1.z;have s2:=s1.close oh (λb _ hs=>by rw[hi.ar b hs];decide) (ρ':=λ_=>0) (λb h=>absurd rfl h);exact B4X hQ (.inr rfl) (tm.sub ⟨rfl,rfl,rfl,trivial⟩) q2 rfl (A9K ⟨ck,lW.mono u6_ok s2.km.ext,trivial⟩) s2.km
 |cons n anq=>
  rw[Au (by simp)];refine Q8 rfl ?_;show(A1 _ _).wp _ _ _ _;refine wbl 1 rfl ?_;simp only[A4b]at af;split at af
  ·cases af
  rename_i nd hN;split at af
  ·cases af
  rename_i t kJ;obtain⟨sb,kK,iz,kL,fI⟩:=D35 hi.stk;rw[iz]at iF tm;rw[Cj]at fC;have gF:Bf .i64 (((anq.length+1:Nat):Int) - 1)=(anq.length:Int):=by rw[A18 (by omega) (by omega)];omega
  have tm:=tm.keep [0,1,4,7,8,9,10];refine wsq rfl ?_;refine E3 6 7 rfl rfl ?_;refine Pm tm λa tm=>?_;refine Pm tm λa tm=>?_;refine Pv tm (A1f tm A0E) λa tm=>?_;refine Pv tm (A2b tm) λa tm=>?_;refine Pv tm (A11 tm A0E tz3 rfl rfl rfl rfl gF (by omega)) λa tm=>?_;refine Pv tm (A0w tm pl3 rfl rfl (fI)) λa tm=>?_;refine Pa tm λa tm=>?_;refine Wn ?_;refine wsq rfl ?_;refine E3 7 6 rfl rfl ?_;refine Pm tm λa tm=>?_;refine Pm tm λa tm=>?_;refine Pv tm (A1f tm A0E) λa tm=>?_;refine Pv tm (A2b tm) λa tm=>?_;refine Pv tm (B9H tm A0E tz3 rfl rfl rfl rfl gF (by omega) kL) λa tm=>?_;refine Pa tm λa tm=>?_;refine Ba ?_;have cw:=hi.stk;rw[iz]at cw;have bS:=cw.cut (k:=anq.length) (by simp);have gq:((n::anq).reverse.map D2).take (anq.length*1)=anq.reverse.map D2:=by
   rw[Ch,Ci,Bw,En (by simp)];exact Em (by simp)
  rw[gq]at bS;have hi:DerI w0 m0 w m ρ N none anq nv (.slice (some ⟨sb,0,none⟩) anq.length kK) vt xs bd bz:={hi with stk:=bS,sr:=λb hb=>hi.sr b (by rw[iz];exact(B5A (m:=anq.length)).trans hb)};generalize uG:(Br (some ⟨sb,0,none⟩) anq.length kK)=sv at hi tm;obtain⟨tb,qT,qU,oN,rR⟩:=B3G (lW.mono u6_ok hi.sys.km.ext) kJ;have iA:=A00 kJ;have lk:=A00 hN;obtain⟨nb,oe,ll,qP,cQ,dR,kG⟩:=hi.arr.at (hi.rep.sym n nd hN);have iU:w.cell? ⟨nb,0+n*3+0,none⟩=some (G8 nd.sym):=by rw[Bh,Nat.add_zero];exact dR
  have tm:=tm.keep [0,1,4,7,8,9,10,11];show(A1 _ _).wp _ _ _ _;refine wsq rfl ?_;refine E3 8 7 rfl rfl ?_;refine Pv tm (Y1 tm A4T) λa tm=>?_;refine Pv tm (A0w tm A7x rfl rfl (hi.d.cell rfl)) λa tm=>?_;refine Pm tm λa tm=>?_;refine Pv tm (A11 tm A2L A5Y rfl rfl ll rfl rfl lk) λa tm=>?_;refine Pv tm (Y1 tm C7P) λa tm=>?_;refine Pv tm (A0w tm pl9 rfl rfl (iU)) λa tm=>?_;refine Pa tm λa tm=>?_;refine Wn ?_;refine wsq rfl ?_;refine E3 9 6 rfl rfl ?_;refine Pm tm λa tm=>?_;refine Pm tm λa tm=>?_;refine Pv tm (A11 tm B3x A0C rfl rfl oN rfl rfl iA) λa tm=>?_;refine Pv tm (A1E tm A7v A0C rfl rfl rfl rR) λa tm=>?_;refine Ay rfl λK hK=>A75 tm A0C rfl rfl rfl λa tm=>hK _ _ ?_;have eY:=A0I w m (.cells [.int .i64 0,.int .i64 0,.int .i64 0,.int .i64 0,.int .i64 0,.string ⟨[].toArray⟩,.string ⟨[].toArray⟩].toArray 102) hi.z0;have hi:=hi.step eY (λb _ h=>h.elim) (.inl λ_ h=>h) 6 (λ_=>rfl);have cr:Bk (w.alloc (.cells [.int .i64 0,.int .i64 0,.int .i64 0,.int .i64 0,.int .i64 0,.string ⟨[].toArray⟩,.string ⟨[].toArray⟩].toArray 102)) w.heap.size _:=A6T;have eC:H2 ρ w.heap.size 6 w.heap.size=6:=A0H (Be _);generalize uH:w.heap.size=bt at hi cr eC tm;obtain⟨q1,q2,q3⟩:=cr.store (m:=m) Aw (off:=0) (vs:=U4 t) (by simp[U4]) (λv hv=>by simp only[U4,Bg,Bi,or_false]at hv;rcases hv with rfl|rfl|rfl|rfl|rfl|rfl|rfl<;>rfl) (hi.sys.zr bt (by rw[eC];decide)) hi.z0;refine Ps tm A0C q1 ?_;refine Ba ?_;have hi:=hi.step q3 (λb _ hs=>by rw[hs,eC];decide) (.inr rfl) 0 (λh=>absurd rfl h);have cr:Bk _ bt (U4 t):=q2;generalize H2 (H2 ρ bt 6) _ 0=ρ at hi;generalize (I5 _ bt 0 (U4 t))=w at hi cr ⊢;clear ll dR kG iU oN rR fI;have tm:=tm.keep [0,1,4,7,8,9,10,11,12,13];cases h1:okR [.bool] (F56 nd.sym)with
  |false=>rw[h1]at af;cases af
  |true=>
  rw[h1]at af;simp only[Ap]at af;show(A1 _ _).wp _ _ _ _;refine wsq rfl ?_;refine wsq rfl ?_;refine E3 10 3 rfl rfl ?_;refine Pm tm λa tm=>?_;refine Ay rfl λK hK=>A3T tm rfl rfl rfl (A8z hb).enter rfl (B1G tm rfl rfl) (A3E (A8z hb) (ls:=[.str nd.sym]) (A3o (r:=.one (.bool (lB (gL (F56 nd.sym) 0)))) rfl h1) (hb.mono _ _ _ _ hI hi.sys.km.ext) hi.z0 ⟨.str _,trivial⟩ rfl) ?_;rintro e w1 ⟨v1,m1,rfl,k1,e1⟩;have cr:=k1.bk cr (λh=>h);have hi:=hi.step k1 (λb _ h=>h.elim) (.inl λ_ h=>h) 0 (λh=>absurd rfl h);obtain rfl:=CRep.bool_inv e1;refine⟨_,rfl,λa tm=>hK _ _ ?_⟩;refine Pv tm (B1d tm) λa tm=>?_;refine Wn ?_;refine wcn tm rfl _ rfl ?_;have tm:=tm.keep [0,1,4,7,8,9,10,11,12,13];cases h2:lB (gL (F56 nd.sym) 0)with
  |false=>
   rw[h2]at af;simp only[Aq]at af;rw[Au (show(!false)=true from rfl)];split at af
   ·rename_i jf;cases h3:okR [.sl .str none] (F57 nd.sym t)with
    |false=>rw[h3]at af;cases af
    |true=>
    rw[h3]at af;simp only[Ap]at af;generalize ze:H8 (gL (F57 nd.sym t) 0)=r at af;cases h4:A6n (N.length+(anq.length+r.length))with
    |false=>rw[h4]at af;cases af
    |true=>
    rw[h4]at af;simp only[Ap]at af;have aj:N.length+(anq.length+r.length)<=1099511627776:=by simpa [A6n]using h4
    refine wsq rfl ?_;refine E3 11 4 rfl rfl ?_;refine Pm tm λa tm=>?_;refine Pv tm (A1E tm A7v A0C rfl rfl rfl (λj u hj=>by rw[Bh];exact cr.cell hj)) λa tm=>?_;refine Ay rfl λK hK=>A3T tm rfl rfl rfl (B9Z hb).enter rfl (B4p tm rfl rfl rfl) (A3E (B9Z hb) (ls:=[.str nd.sym,.agg .tok t]) (A3o (r:=.one (.sl .str (lL .str (gL (F57 nd.sym t) 0)) none)) rfl h3) (hb.mono _ _ _ _ hI hi.sys.km.ext) hi.z0 ⟨.str _,B0K t,trivial⟩ rfl) ?_;rintro e w1 ⟨v1,m1,rfl,k1,e1⟩;have cr:=k1.bk cr (λh=>h);have hi:=hi.step k1 (λb _ h=>h.elim) (.inl λ_ h=>h) 0 (λh=>absurd rfl h);have cT:CRep U6 w1 m1 (.sl .str r none) v1:=by rw[<-ze];exact e1
    refine⟨_,rfl,λa tm=>hK _ _ ?_⟩;refine Pa tm λa tm=>?_;refine Wn ?_;refine wsq rfl ?_;obtain⟨na,wC,om⟩:=hi.arr.len;refine E3 12 4 rfl rfl ?_;refine Pv tm (Y1 tm A4T) λa tm=>?_;refine Pv tm (A0w tm A7x rfl rfl (hi.d.cell rfl)) λa tm=>?_;refine Pv tm (A1f tm A2L rfl rfl rfl rfl rfl om) λa tm=>?_;refine Pa tm λa tm=>?_;refine Wn ?_;refine wsq rfl ?_;refine wsq rfl ?_;refine E3 13 1 rfl rfl ?_;refine Pa tm λa tm=>?_;refine Wn ?_;refine D3b hN jf (by omega) hi cT (tm.sub ⟨rfl,rfl,rfl,rfl,rfl,rfl,rfl,rfl,rfl,rfl,rfl,trivial⟩) λa w m ρ nv xs tm hi cT=>?_;show(A1 _ _).wp _ _ _ _;refine wsq rfl ?_;refine wsq rfl ?_;obtain⟨ra,uv,n5⟩:=cT.sl_inv;refine E3 18 4 rfl rfl ?_;refine Pm tm λa tm=>?_;refine Pv tm (A1f tm X8 rfl rfl rfl rfl rfl n5) λa tm=>?_;refine Pv tm (A2b tm) λa tm=>?_;refine Pa tm λa tm=>?_;refine Ba ?_;have uI:Bf .i64 ((r.length:Int) - 1)=(r.length:Int) - 1:=A18 (by omega) (by omega);rw[uI]at tm;show(A1 _ _).wp _ _ _ _;refine C6b (len:=r.length) (N0:=N.length) (by omega) hi (tm.sub ⟨rfl,rfl,rfl,rfl,rfl,rfl,rfl,rfl,rfl,trivial⟩) λa w m ρ sv tm hi=>?_;show(A1 _ _).wp _ _ _ _;refine A5H 1 rfl ?_;exact⟨q,Bp q,_,_,at_,op,m,ρ,nv,sv,xs,af,tm,hi,by rw[Bx,Cb,Cv];omega⟩
   ·cases af
  |true=>
   rw[h2]at af;simp only[Ap]at af;rw[At (by simp)];refine Q8 rfl ?_;cases h3:okR [.bool] (F58 nd.sym t)with
   |false=>rw[h3]at af;cases af
   |true=>
   rw[h3]at af;simp only[Ap]at af;show(A1 _ _).wp _ _ _ _;refine wsq rfl ?_;refine wsq rfl ?_;refine E3 22 4 rfl rfl ?_;refine Pm tm λa tm=>?_;refine Pv tm (A1E tm A7v A0C rfl rfl rfl (λj u hj=>by rw[Bh];exact cr.cell hj)) λa tm=>?_;refine Ay rfl λK hK=>A3T tm rfl rfl rfl (C2T hb).enter rfl (B4p tm rfl rfl rfl) (A3E (C2T hb) (ls:=[.str nd.sym,.agg .tok t]) (A3o (r:=.one (.bool (lB (gL (F58 nd.sym t) 0)))) rfl h3) (hb.mono _ _ _ _ hI hi.sys.km.ext) hi.z0 ⟨.str _,B0K t,trivial⟩ rfl) ?_;rintro e w1 ⟨v1,m1,rfl,k1,e1⟩;have cr:=k1.bk cr (λh=>h);have hi:=hi.step k1 (λb _ h=>h.elim) (.inl λ_ h=>h) 0 (λh=>absurd rfl h);obtain rfl:=CRep.bool_inv e1;refine⟨_,rfl,λa tm=>hK _ _ ?_⟩;refine Pv tm (B1d tm) λa tm=>?_;refine Wn ?_;refine wcn tm rfl _ rfl ?_;have tm:=tm.keep [0,1,4,7,8,9,10,11,12,13];cases h4:lB (gL (F58 nd.sym t) 0)with
   |false=>
    rw[h4]at af;simp only[Aq,Bn,Bo]at af;obtain⟨rfl,rfl,rfl⟩:=af;rw[Au (show(!false)=true from rfl)];refine wsq rfl ?_;obtain⟨q1,q2,q3⟩:=hi.z.store (m:=_) Aw (off:=0) (vs:=[.slice none 0 0,.slice none 0 0]) (by simp) (λv hv=>by simp only[Bg,Bi,or_false]at hv;rcases hv with rfl|rfl<;>rfl) (hi.sys.zr bz (by rw[hi.zr];decide)) hi.z0;refine E3 23 5 rfl rfl ?_;refine Pv tm (A8a tm rfl rfl (cs:= #[.slice none 0 0,.slice none 0 0]) (by kernel_rfl)) λa tm=>?_;refine Pm tm λa tm=>?_;refine Ps tm A3F q1 ?_;refine Pa tm λa tm=>?_;refine Pa tm λa tm=>?_;refine Wn ?_;refine A4s rfl ?_;exact B4X hQ (.inr rfl) (tm.sub ⟨rfl,rfl,rfl,trivial⟩) q2 rfl C2s (hi.sys.stay q3 (λb _ hs=>by rw[hs,hi.zr];decide)).km
   |true=>
    rw[h4]at af;simp only[Ap]at af;rw[At (by simp)];refine Q8 rfl ?_;show(A1 _ _).wp _ _ _ _;refine wsq rfl ?_;generalize wB:nd.sym=sym at af tm;refine C8Z hi (tm.sub ⟨rfl,rfl,rfl,rfl,rfl,rfl,rfl,rfl,rfl,trivial⟩) (λho hd a w m tm uJ oh=>?_) (λa qS ag uK tm=>?_)
    ·rw[ho]at af;simp only[Ap,Ar hd,Bn,Bo]at af;obtain⟨rfl,rfl,rfl⟩:=af;exact B4X hQ (.inr rfl) tm uJ rfl C2s oh
    ·show(A1 _ _).wp _ _ _ _;refine C8J hi hN wB (by omega) tm λa w xs tm hi=>?_;refine⟨q,Bp q,_,anq,_,qS,_,_,nv,sv,xs,?_,tm,hi,by omega⟩;cases ho:Z7 sym with
     |true=>
      rw[ho]at af;obtain⟨h8,h9⟩:=ag ho;simp only[Ap,As h8,Aq]at af;rw[h9];exact af
     |false=>
      rw[ho]at af;simp only[Aq]at af;rw[uK ho];exact af
theorem D41{n:Nat}{vs:Ai}(hn:vs.length<=n){fr:List (Nat×Value)}(h:∀i v,X1 fr i=some v->vs[i]?=some v):Tm {tmps:=vs.toArray++Fb (n - vs.toArray.size) undef,defers:=[]} n fr:=by
 refine⟨by simp;omega,rfl,λi v hv=>?_⟩;have h1:=h i v hv;have h2:=(Ck.1 h1).1;rw[Fe,Fc (by simpa using h2)];simp[h1]
theorem C93{I:Inv}(hb:HB I):Sound Aw U6 I 25 (sG S25):=by
 refine⟨Tryz.call25,λls r hr=>?_⟩;unfold sG at hr;unfold S25 at hr;split at hr
 ·rename_i toks depth;obtain⟨h1,h2⟩:=A3r hr;unfold F25 at h1 h2;cases eX:A6n toks.length with
  |false=>rw[eX]at h1;cases h1
  |true=>
  rw[eX]at h1 h2;simp only[Ap]at h1 h2;split at h2
  ·rename_i d at_ k af;intro w0 g vs hI hz ak _ _
   match vs,ak with
   |[vt,vd],⟨e1,e2,_⟩=>
    obtain rfl:=CRep.int_inv e2.1;refine calls_of_wp Tryz.func25 (show Tryz.f25.body=some (A1 Bj [])by kernel_rfl) ?_;refine D4N hb hI hz af (by simpa [A6n]using eX) e1.1 (λe a w m us he hd hv hr hk=>?_) (D41 (show 2<=136 by decide) λi v h=>?_)
    ·have cf:∃v g',Ez (.tuple #[.agg us.toArray,D2 at_,.int .i64 k])=.returned v/\Post U6 ⟨w0,g.wm,λb=>O0 [.sl .tok toks none,(.int .i64 depth:L6)]=true/\spare (g.G 0)=some b,0,λ_=>undef⟩ g' r v w:=by
      refine⟨_,{g with wm:=m},rfl,?_⟩;rw[<-h2];exact C0r (ls:=[.agg .tree d,.int .i64 (at_:Int),.int .i64 k]) (vs:=[.agg us.toArray,D2 at_,.int .i64 k]) hk (λ_ h=>h.elim) ⟨hr,.int _ _,.int _ _,trivial⟩ rfl _ rfl
     rcases he with rfl|rfl<;>exact⟨hd,_,hv,cf⟩
    ·unfold X1 at h
     match i,h with
     |0,h=>cases h;rfl
     |1,h=>cases h;rfl
  ·rename_i hn;rw[hn]at h1;cases h1
 ·cases hr
end Go.Aev
namespace Go.Aev
open Go.Proofs
variable {I:Inv}
theorem C4c(hb:HB I):∀d,Sound Aw U6 I 148 (sG (B09 ((A8K d))))
 |0=>by
  exact⟨Ee,λls r h=>by
   unfold sG B09 at h;split at h<;>cases h⟩
 |d+1=>by
  have qV:=C4c hb d;exact F2 (X9 ((A8K d))) hb rfl ⟨(B00 hb),(B2s hb),qV,trivial⟩ trivial Tryz.func148 rfl Ee (λls r h=>by
   unfold sG B09 at h;split at h
   ·exact D8 (D1R NN ((A8K d))) rfl h
   ·cases h)
theorem C3q(hb:HB I):Sound Aw U6 I 148 (sG B4v):=(C4c hb DD)
theorem C2j(hb:HB I):∀d,Sound Aw U6 I 147 (sG (A9E ((A25 d))))
 |0=>by
  exact⟨Ef,λls r h=>by
   unfold sG A9E at h;split at h<;>cases h⟩
 |d+1=>by
  have qW:=C2j hb d;exact F2 (Y7 ((A25 d))) hb rfl ⟨(B00 hb),(B4t hb),(B2s hb),qW,(C3q hb),trivial⟩ trivial Tryz.func147 rfl Ef (λls r h=>by
   unfold sG A9E at h;split at h
   ·exact D8 (C72 NN ((A25 d))) rfl h
   ·cases h)
theorem C9N(hb:HB I):Sound Aw U6 I 147 (sG B8J):=(C2j hb DD)
end Go.Aev
namespace Go.Aev
open Go.Proofs
variable {I:Inv}
theorem B8e(hb:HB I):Sound Aw U6 I 74 (sG S74):=A53 E74 hb rfl ⟨(B2s hb),(C9N hb),(C3q hb),trivial⟩ trivial Tryz.func74 rfl Tryz.call74 (λls r h=>by
 unfold sG S74 at h;split at h
 ·exact A6L (D7J NN) rfl h
 ·cases h)
theorem B1S(hb:HB I):Sound Aw U6 I 76 (sG S76):=F2 E76 hb rfl trivial trivial Tryz.func76 rfl Tryz.call76 (λls r h=>by
 unfold sG S76 at h;split at h
 ·exact D8 D3c rfl h
 ·cases h)
theorem A9a(hb:HB I):Sound Aw U6 I 174 (sG A5g):=F2 A5t hb rfl trivial trivial Tryz.func174 rfl Tryz.call174 (λls r h=>by
 unfold sG A5g at h;split at h
 ·exact D8 (C7j NN) rfl h
 ·cases h)
theorem C3g(hb:HB I):Sound Aw U6 I 175 (sG B05):=F2 C2H hb rfl trivial trivial Tryz.func175 rfl Tryz.call175 (λls r h=>by
 unfold sG B05 at h;split at h
 ·exact D8 D53 rfl h
 ·cases h)
theorem D28(hb:HB I):Sound Aw U6 I 121 (sG B4e):=F2 C1q hb rfl ⟨(A9a hb),(C3g hb),trivial⟩ trivial Tryz.func121 rfl Tryz.call121 (λls r h=>by
 unfold sG B4e at h;split at h
 ·exact D8 C7I rfl h
 ·cases h)
theorem A7A(hb:HB I):Sound Aw U6 I 53 (sG S53):=F2 E53 hb rfl ⟨(D28 hb),trivial⟩ trivial Tryz.func53 rfl Tryz.call53 (λls r h=>by
 unfold sG S53 at h;split at h
 ·exact D8 (B35 NN) rfl h
 ·cases h)
theorem C8q(hb:HB I):Sound Aw U6 I 122 (sG B3M):=F2 A5o hb rfl trivial trivial Tryz.func122 rfl Tryz.call122 (λls r h=>by
 unfold sG B3M at h;split at h
 ·exact D8 (D1E NN) rfl h
 ·cases h)
end Go.Aev
namespace Go.Aev
open Go.Proofs
theorem D3A{w:World}{sv:Value}{cG:Ab}{anq:Ag}(h:ArrN w 1 sv (cG::anq).length ((cG::anq).reverse.map G8)):
  ∃b cap,sv=.slice (some ⟨b,0,none⟩) (anq.length+1) cap/\anq.length+1<=cap/\w.cell? ⟨b,0+anq.length*1,none⟩=some (G8 cG):=by
 obtain⟨b,cap,hv,_,_,aZ,hc⟩:=h.blk (by simp);refine⟨b,cap,hv,aZ,?_⟩;rw[Bh,Ch];exact(hc anq.length _ (by simp)).1
structure RunI(w0:World)(m0:Nat->Nat)(w:World)(m:Nat->Nat)(ρ:Nat->Nat)(sv:Value)(st:Ag)(bz:Nat):Prop where
 sys:Sys w0 m0 (λ_=>False) w m ρ
 arr:ArrN w 1 sv st.length (st.reverse.map G8)
 role:∀b,H5 sv=some b->ρ b=3
 z:Bk w bz [.int .i64 0,.int .i64 0]
 zr:ρ bz=1
theorem RunI.z0{w0 w:World}{m0 m ρ:Nat->Nat}{sv:Value}{st:Ag}{bz:Nat}(h:RunI w0 m0 w m ρ sv st bz):∀b,w.heap.size<=b->m b=0:=h.sys.z
theorem RunI.step{w0 w w':World}{m0 m m' ρ:Nat->Nat}{sv:Value}{st:Ag}{bz:Nat}{S:Nat->Prop}(h:RunI w0 m0 w m ρ sv st bz)(k:KM w m w' m' S)(hS:∀b, ¬S b)(r:Nat)(hr:r≠0->m'=m):RunI w0 m0 w' m' (H2 ρ w.heap.size r) sv st bz:=by
 refine⟨h.sys.step k (λb _ hs=>(hS b hs).elim) (λb _ hs=>(hS b hs).elim) r (λh0 b hb=>by rw[hr h0];exact h.z0 b hb),k.arr h.arr λb _=>hS b,λb hb=>?_,k.bk h.z (hS bz),?_⟩
 ·rw[J2 (h.arr.lt hb)];exact h.role b hb
 ·rw[J2 h.z.lt];exact h.zr
theorem RunI.tok{w0 w w':World}{m0 m ρ:Nat->Nat}{sv:Value}{st:Ag}{bz bt:Nat}(h:RunI w0 m0 w m ρ sv st bz)(k:KM w m w' m (λb=>b=bt))(ht:ρ bt=2):RunI w0 m0 w' m ρ sv st bz:=by
 refine⟨h.sys.stay k (λb _ hs=>by rw[hs,ht];decide),k.arr h.arr λb hb hs=>?_,h.role,k.bk h.z λhs=>?_,h.zr⟩
 ·have:=h.role b hb;rw[hs,ht]at this;cases this
 ·have:=h.zr;rw[hs,ht]at this;cases this
def B7W(w0:World)(m0:Nat->Nat)(k:Int)(p:A7)(Q:Exit->Act->World->Prop):Prop:=
 ∀e a w m,(e=.normal\/e=.ret)->a.defers=[]->(results Bu a.tmps).run Aw w=.ok (.tuple #[.int .i64 k,.agg (L1 p).toArray]) w->KM w0 m0 w m (λ_=>False)->Q e a w
theorem A9H{w0 w:World}{m0 m:Nat->Nat}{k:Int}{p:A7}{Q:Exit->Act->World->Prop}(hQ:B7W w0 m0 k p Q){e:Exit}{a:Act}{bz:Nat}(he:e=.normal\/e=.ret)(tm:Tm a 93 [(8,.int .i64 k),(9,.pointer (some ⟨bz,0,none⟩))])(hb:Bk w bz (L1 p))(hk:KM w0 m0 w m (λ_=>False)):Q e a w:=by
 refine hQ e a w m he tm.dfr ?_ hk;have h8:=tm.get 8 _ rfl;have h9:=tm.get 9 _ rfl;have:=A83 Aw Bu a w [.tmp 8,.cell 9 44] (by kernel_rfl) (vs:=[.int .i64 k,.agg (L1 p).toArray]) (λf hf=>by
  have hl:(loadVar 44 ⟨bz,0,none⟩).run Aw w=.ok (.agg (L1 p).toArray) w:=B6G A9o A2Q rfl (λj u hj=>by rw[Bh];exact hb.cell hj);simp[hf.tmp,hf.cell,h8,h9,asAddr,hl])
 exact this
theorem D19{w0:World}{m0:Nat->Nat}{Q:Exit->Act->World->Prop}{vr vt vc:Value}{depth op:Int}{at_ bz:Nat}{c anq:Ag}{a:Act}{w:World}{m ρ:Nat->Nat}{sv:Value}
  (aj:c.length+anq.length<=1099511627776)(hi:RunI w0 m0 w m ρ sv anq bz)(jS:CRep U6 w m (.sl .str c none) vc)(tm:Tm a 93 [(0,vr),(2,vt),(3,.int .i64 depth),(9,.pointer (some ⟨bz,0,none⟩)),(10,sv),(11,.int .i64 op),(12,.int .i64 (at_:Int)),(15,vc),(17,.int .i64 ((c.length:Int) - 1))])
  (hk:∀a w m ρ sv,Tm a 93 [(0,vr),(2,vt),(3,.int .i64 depth),(9,.pointer (some ⟨bz,0,none⟩)),(10,sv),(11,.int .i64 op),(12,.int .i64 (at_:Int))]->RunI w0 m0 w m ρ sv (c++anq) bz->Ext w0 m0 w m->Q .normal a w):
  (A1 Bu [1,1,1,1,0,0,0,1,0,1,1,1,0,1,0,1,1,0,1]).wp Aw Q a w:=by
 refine wbl 2 rfl ?_;refine wlp rfl (λn a w=>∃m ρ sv,n<=c.length/\Tm a 93 [(0,vr),(2,vt),(3,.int .i64 depth),(9,.pointer (some ⟨bz,0,none⟩)),(10,sv),(11,.int .i64 op),(12,.int .i64 (at_:Int)),(15,vc),(17,.int .i64 ((n:Int) - 1))]/\RunI w0 m0 w m ρ sv (c.drop n++anq) bz/\CRep U6 w m (.sl .str c none) vc) c.length ⟨m,ρ,sv,Be _,tm,by rw[Ev,Eo];exact hi,jS⟩ ?_;clear tm hi jS m ρ sv a w;rintro n a w ⟨m,ρ,sv,hn,tm,hi,jS⟩;refine wsq rfl ?_;refine wsq rfl ?_;refine E3 13 2 rfl rfl ?_;refine Pm tm λa tm=>?_;refine Pv tm (B67 tm) λa tm=>?_;refine Wn ?_;refine wcn tm rfl _ rfl ?_;cases n with
 |zero=>
  rw[At (by simp)];refine A5H 2 rfl ?_;simp only[Exit.then,Cc,if_true];have tm:=tm.keep [0,2,3,9,10,11,12];exact hk a w m ρ sv tm hi hi.sys.km.ext
 |succ n=>
  rw[Au (by simp)];refine Q8 rfl ?_;show(A1 _ _).wp _ _ _ _;have tm:=tm.keep [0,2,3,9,10,11,12,15,17];have ur:(((n+1:Nat):Int) - 1)=(n:Int):=by omega
  rw[ur]at tm;have iJ:c[n]?=some c[n]:=Cy (by omega);obtain⟨b,off,cap,hv,aJ⟩:=C1P jS iJ;refine wsq rfl ?_;refine wbl 3 rfl ?_;refine E3 15 8 rfl rfl ?_;refine Pm tm λa tm=>?_;refine Pm tm λa tm=>?_;refine Pm tm λa tm=>?_;refine Pv tm (A11 tm X8 tz9 rfl rfl hv rfl rfl (by omega)) λa tm=>?_;refine Pv tm (A0w tm pl9 rfl rfl (aJ)) λa tm=>?_;refine Ay rfl λK hK=>A4Y tm X8 tz9 rfl rfl rfl rfl rfl (us:=[G8 c[n]]) rfl rfl rfl (by decide) (by decide) λa tm=>hK _ _ ?_;have hz:=hi.z0;have eY:=A0I w m (.cells [G8 c[n]].toArray 9) hz;have bX:=hi.step eY (λ_ h=>h) 0 (λh=>absurd rfl h);have vw:Bk (w.alloc (.cells [G8 c[n]].toArray 9)) w.heap.size [G8 c[n]]:=A6T;have dS:ArrN (w.alloc (.cells [G8 c[n]].toArray 9)) 1 (.slice (some ⟨w.heap.size,0,none⟩) 1 1) 1 [G8 c[n]]:=A3X (w:=w) rfl rfl (Be _) (by simp) (λj x hj=>by simpa using hj);obtain⟨ie,z,e1,e2,e3,e4,e5⟩:=A08 tz9;have dl:(c.drop (n+1)++anq).length<=1099511627776:=by rw[Bx,Et];omega
  obtain⟨mH,w2,af,bS,dy,dt⟩:=A9O (P:=Aw) (t:=122) (u:=122) (ty:=122) (e:=9) (y:=.slice (some ⟨w.heap.size,0,none⟩) 1 1) (k:=1) (ys:=[G8 c[n]]) (m:=m) X8 (.inl ⟨9,X8⟩) e1 e2 e4 (by rw[e5];rfl) bX.arr (by simp[Cl]) (dS.first _) rfl (λx hx=>by rcases Ca.1 hx with rfl;rfl) (λb hb=>bX.sys.zr b (by rw[bX.role b hb];decide)) bX.z0 (by rw[e3];omega) (by rw[e3];decide);refine Ay rfl λK hK=>B0Z tm rfl rfl rfl rfl rfl rfl rfl rfl af λa tm=>hK _ _ ?_;refine Pa tm λa tm=>?_;refine Ba ?_;show(A1 _ _).wp _ _ _ _;refine E3 14 3 rfl rfl ?_;refine Pm tm λa tm=>?_;refine Pv tm (A2b tm) λa tm=>?_;refine Pa tm λa tm=>?_;refine Ba ?_;have co:RunI w0 m0 w2 m (H2 (H2 ρ w.heap.size 0) (w.alloc (.cells [G8 c[n]].toArray 9)).heap.size 3) mH (c.drop n++anq) bz:=by
   have iP:c.drop n=c[n]::c.drop (n+1):=(Ew (by omega));refine⟨bX.sys.stepM dy (λb _ hs=>by rw[bX.role b hs];decide) 3,?_,λb hb=>?_,dy.bk bX.z λhs=>?_,?_⟩
   ·rw[iP,Ey,Cj,Ci,Bw];exact bS
   ·rcases dt b hb with h|h
    ·rw[J2 (bX.arr.lt h)];exact bX.role b h
    ·rw[A0H h]
   ·have:=bX.role bz hs;rw[bX.zr]at this;cases this
   ·rw[J2 bX.z.lt];exact bX.zr
  have hw:Bf .i64 ((n:Int) - 1)=(n:Int) - 1:=A18 (by omega) (by omega);rw[hw]at tm;refine⟨n,Bp n,m,_,mH,by omega,?_,co,(jS.mono u6_ok eY.ext).mono u6_ok dy.ext⟩;exact tm.sub (by repeat' constructor)
theorem B7A{I:Inv}(hb:HB I){w0:World}{m0:Nat->Nat}(hI:I w0 m0)(hz:∀b,w0.heap.size<=b->m0 b=0){bu:An}{toks:Ah}{depth op br:Int}{k:Int}{p:A7}{Q:Exit->Act->World->Prop}{vr vt qX:Value}{n at_ bz bt:Nat}{cG:Ab}{anq:Ag}{t:A0}{m ρ:Nat->Nat}
  (eX:toks.length<=1099511627776)(cT:CRep U6 w0 m0 (.sl .rule bu none) vr)(lW:CRep U6 w0 m0 (.sl .tok toks none) vt)
  (af:Q2 bu toks depth n anq (bif Cu (at_+1) toks.length then at_+1 else at_) (Bf .i64 (op+br))=some (k,p))(h5:okR [.int .i64] (F76 cG)=true)(qY:lI (gL (F76 cG) 0)=br)(fC:anq.length<=1099511627776)(iA:at_<toks.length)
  {a:Act}{w:World}(tm:Tm a 93 [(0,vr),(2,vt),(3,.int .i64 depth),(9,.pointer (some ⟨bz,0,none⟩)),(10,qX),(11,.int .i64 op),(12,.int .i64 (at_:Int)),(13,G8 cG),(14,.pointer (some ⟨bt,0,none⟩))])(hi:RunI w0 m0 w m ρ qX anq bz)(cr:Bk w bt (U4 t))(eC:ρ bt=2)
  (hk:∀a w n',n'<n+1/\(∃st at_ op m ρ sv,Q2 bu toks depth n' st at_ op=some (k,p)/\Tm a 93 [(0,vr),(2,vt),(3,.int .i64 depth),(9,.pointer (some ⟨bz,0,none⟩)),(10,sv),(11,.int .i64 op),(12,.int .i64 (at_:Int))]/\RunI w0 m0 w m ρ sv st bz/\st.length<=1099511627776)->Q .normal a w):(A1 Bu [1,1,1,1,0,0,0,1,0,1,1,1,1,1,1]).wp Aw Q a w:=by
 refine wsq rfl ?_;refine E3 20 5 rfl rfl ?_;refine Pm tm λa tm=>?_;refine Pm tm λa tm=>?_;refine Ay rfl λK hK=>A3T tm rfl rfl rfl (B1S hb).enter rfl (B1G tm rfl rfl) (A3E (B1S hb) (ls:=[.str cG]) (A3o (r:=.one (.int .i64 (lI (gL (F76 cG) 0)))) rfl h5) (hb.mono _ _ _ _ hI hi.sys.km.ext) hi.z0 ⟨.str _,trivial⟩ rfl) ?_;rintro e w1 ⟨v1,m1,rfl,k1,e1⟩;have eC:=(J2 (r:=0) cr.lt).trans eC;have cr:=k1.bk cr (λh=>h);have hi:=hi.step k1 (λ_ h=>h) 0 (λh=>absurd rfl h);obtain rfl:=CRep.int_inv e1;rw[qY];refine⟨_,rfl,λa tm=>hK _ _ ?_⟩;refine Pv tm (A3w tm) λa tm=>?_;refine Pa tm λa tm=>?_;refine Ba ?_;have tm:=tm.keep [0,2,3,9,10,11,12,13,14];show(A1 _ _).wp _ _ _ _;refine wsq rfl ?_;obtain⟨tb,qT,qU,oN,_⟩:=B3G lW (Cy iA);refine E3 21 5 rfl rfl ?_;refine Pm tm λa tm=>?_;refine Pv tm (A3w tm) λa tm=>?_;refine Pm tm λa tm=>?_;refine Pv tm (A1f tm B3x rfl rfl rfl rfl rfl oN) λa tm=>?_;refine Pv tm (C2L tm) λa tm=>?_;refine Wn ?_;rw[A9r (by omega)]at tm;refine wcn tm rfl _ rfl ?_;have tm:=tm.keep [0,2,3,9,10,11,12,13,14];by_cases ap:at_+1<toks.length
 ·rw[Au (by simpa using (by omega:((at_:Int)+1<(toks.length:Int))))];rw[show Cu (at_+1) toks.length=true by rw[Nat.blt_eq];exact ap,Ap]at af;refine E3 22 3 rfl rfl ?_;refine Pm tm λa tm=>?_;refine Pv tm (A3w tm) λa tm=>?_;refine Pa tm λa tm=>?_;refine Ba ?_;rw[A9r (by omega)]at tm;exact hk _ _ n ⟨Bp n,anq,at_+1,_,_,_,qX,af,tm.sub ⟨rfl,rfl,rfl,rfl,rfl,rfl,rfl,trivial⟩,hi,fC⟩
 ·rw[At (by simpa using (by omega:((toks.length:Int)<=(at_:Int)+1)))];rw[show Cu (at_+1) toks.length=false by rw[Bool.eq_false_iff];intro h;rw[Nat.blt_eq]at h;exact ap h,Aq]at af;refine Q8 rfl ?_;exact hk _ _ n ⟨Bp n,anq,at_,_,_,_,qX,af,tm.sub ⟨rfl,rfl,rfl,rfl,rfl,rfl,rfl,trivial⟩,hi,fC⟩
theorem D4M{I:Inv}(hb:HB I){w0:World}{m0:Nat->Nat}(hI:I w0 m0)(hz:∀b,w0.heap.size<=b->m0 b=0){bu:An}{first:Ab}{toks:Ah}{depth:Int}{k:Int}{p:A7}{Q:Exit->Act->World->Prop}{vr vt:Value}{N:Nat}
  (af:Q2 bu toks depth N [first] 0 0=some (k,p))(eX:toks.length<=1099511627776)(cT:CRep U6 w0 m0 (.sl .rule bu none) vr)(lW:CRep U6 w0 m0 (.sl .tok toks none) vt)(hQ:B7W w0 m0 k p Q){a:Act}(tm:Tm a 93 [(0,vr),(1,G8 first),(2,vt),(3,.int .i64 depth)]):
  (A1 Bu []).wp Aw Q a w0:=by
 refine wsq rfl ?_;refine E3 0 2 rfl rfl ?_;refine Pa tm λa tm=>?_;refine Ay rfl λK hK=>A75 tm A2Q rfl rfl rfl λa tm=>hK _ _ ?_;refine Wn ?_;refine wsq rfl ?_;refine E3 1 3 rfl rfl ?_;refine Pm tm λa tm=>?_;refine Ay rfl λK hK=>A4Y tm X8 tz9 rfl rfl rfl rfl rfl (us:=[G8 first]) rfl rfl rfl (by decide) (by decide) λa tm=>hK _ _ ?_;refine Pa tm λa tm=>?_;refine Wn ?_;refine wsq rfl ?_;refine E3 2 1 rfl rfl ?_;refine Pa tm λa tm=>?_;refine Wn ?_;refine wsq rfl ?_;refine E3 3 1 rfl rfl ?_;refine Pa tm λa tm=>?_;refine Ba ?_;have hi:∃ρ sv,sv=Br (some ⟨(w0.alloc (.cells [.int .i64 0,.int .i64 0].toArray 44)).heap.size,0,none⟩) 1 1/\RunI w0 m0 ((w0.alloc (.cells [.int .i64 0,.int .i64 0].toArray 44)).alloc (.cells [G8 first].toArray 9)) m0 ρ sv [first] w0.heap.size:=by
  have s0:Sys w0 m0 (λ_=>False) w0 m0 (λ_=>0):=⟨KM.refl _ _ _ hz,λb h=>absurd rfl h,λb _ h=>absurd rfl h⟩;have k1:=A0I w0 m0 (.cells [.int .i64 0,.int .i64 0].toArray 44) hz;have s1:=s0.stepM k1 (λ_ _ h=>h.elim) 1;have b1:Bk (w0.alloc (.cells [.int .i64 0,.int .i64 0].toArray 44)) w0.heap.size [.int .i64 0,.int .i64 0]:=A6T;have k2:=A0I (w0.alloc (.cells [.int .i64 0,.int .i64 0].toArray 44)) m0 (.cells [G8 first].toArray 9) s1.z;refine⟨_,_,rfl,s1.stepM k2 (λ_ _ h=>h.elim) 3,A3X rfl rfl (Be _) (by simp) (λj x hj=>by simpa using hj),λb hb=>?_,k2.bk b1 (λh=>h),?_⟩
  ·rw[A0D (by decide)]at hb;cases hb;exact A0H (Be _)
  ·rw[J2 b1.lt];exact A0H (Be _)
 obtain⟨ρ,sv,iF,hi⟩:=hi;rw[<-iF]at tm;generalize uJ:w0.heap.size=bz at hi tm;generalize ((w0.alloc (.cells [.int .i64 0,.int .i64 0].toArray 44)).alloc (.cells [G8 first].toArray 9))=w at hi ⊢;clear iF uJ;show(A1 _ _).wp _ _ _ _;refine wsq rfl ?_;refine wbl 0 rfl ?_;refine wlp rfl (λn a w=>∃st at_ op m ρ sv,Q2 bu toks depth n st at_ op=some (k,p)/\Tm a 93 [(0,vr),(2,vt),(3,.int .i64 depth),(9,.pointer (some ⟨bz,0,none⟩)),(10,sv),(11,.int .i64 op),(12,.int .i64 (at_:Int))]/\RunI w0 m0 w m ρ sv st bz/\st.length<=1099511627776) N ⟨[first],0,0,m0,ρ,sv,af,tm.sub ⟨rfl,rfl,rfl,rfl,rfl,rfl,rfl,trivial⟩,hi,by simp⟩ ?_;clear tm hi ρ sv a w af;rintro n a w ⟨st,at_,op,m,ρ,sv,af,tm,hi,fC⟩;cases n with
 |zero=>cases af
 |succ n=>
 obtain⟨pa,cap,iF⟩:=hi.arr.len;refine wsq rfl ?_;refine wsq rfl ?_;refine E3 4 3 rfl rfl ?_;refine Pm tm λa tm=>?_;refine Pv tm (A1f tm X8 rfl rfl rfl rfl rfl iF) λa tm=>?_;refine Pv tm (B2x tm) λa tm=>?_;refine Wn ?_;refine wcn tm rfl _ rfl ?_;cases st with
 |nil=>
  simp only[Q2,Bn,Bo]at af;obtain⟨rfl,rfl⟩:=af;rw[At (by simp)];refine A5H 0 rfl ?_;simp only[Exit.then,Cc,if_true];show(A1 _ _).wp _ _ _ _;refine wsq rfl ?_;obtain⟨q1,q2,q3⟩:=hi.z.store (m:=m) Aw (off:=0) (vs:=[.int .i64 0,.int .i64 0]) (by decide) (λv hv=>by rcases Bg.1 hv with rfl|hv;rfl;rcases Bg.1 hv with rfl|hv;rfl;cases hv) (hi.sys.zr bz (by rw[hi.zr];decide)) hi.z0;refine E3 23 3 rfl rfl ?_;refine Pv tm (A8a tm rfl rfl (cs:= #[.int .i64 0,.int .i64 0]) (by kernel_rfl)) λa tm=>?_;refine Pa tm λa tm=>?_;refine Ps tm A2Q q1 ?_;refine Wn ?_;refine A4s rfl ?_;exact A9H hQ (.inr rfl) (tm.sub ⟨rfl,rfl,trivial⟩) q2 (hi.sys.stay q3 (λb _ hs=>by rw[hs,hi.zr];decide)).km
 |cons cG anq=>
  rw[Au (by simp)];refine Q8 rfl ?_;show(A1 _ _).wp _ _ _ _;refine wbl 1 rfl ?_;simp only[Q2]at af;split at af
  ·cases af
  rename_i t kJ;obtain⟨sb,kK,iz,kL,fI⟩:=D3A hi.arr;rw[iz]at iF tm;rw[Cj]at fC;have gF:Bf .i64 (((anq.length+1:Nat):Int) - 1)=(anq.length:Int):=by rw[A18 (by omega) (by omega)];omega
  have tm:=tm.keep [0,2,3,9,10,11,12];refine wsq rfl ?_;refine E3 5 7 rfl rfl ?_;refine Pm tm λa tm=>?_;refine Pm tm λa tm=>?_;refine Pv tm (A1f tm X8) λa tm=>?_;refine Pv tm (A2b tm) λa tm=>?_;refine Pv tm (A11 tm X8 tz9 rfl rfl rfl rfl gF (by omega)) λa tm=>?_;refine Pv tm (A0w tm pl9 rfl rfl (fI)) λa tm=>?_;refine Pa tm λa tm=>?_;refine Wn ?_;refine wsq rfl ?_;refine E3 6 6 rfl rfl ?_;refine Pm tm λa tm=>?_;refine Pm tm λa tm=>?_;refine Pv tm (A1f tm X8) λa tm=>?_;refine Pv tm (A2b tm) λa tm=>?_;refine Pv tm (B9H tm X8 tz9 rfl rfl rfl rfl gF (by omega) kL) λa tm=>?_;refine Pa tm λa tm=>?_;refine Wn ?_;refine wsq rfl ?_;have cw:=hi.arr;rw[iz]at cw;have bS:=cw.cut (k:=anq.length) (by simp);have gq:((cG::anq).reverse.map G8).take (anq.length*1)=anq.reverse.map G8:=by
   rw[Ch,Ci,Bw,En (by simp)];exact Em (by simp)
  rw[gq]at bS;have hi:RunI w0 m0 w m ρ (.slice (some ⟨sb,0,none⟩) anq.length kK) anq bz:=⟨hi.sys,bS,λb hb=>hi.role b (by rw[iz];exact(B5A (m:=anq.length)).trans hb),hi.z,hi.zr⟩;generalize uG:(Br (some ⟨sb,0,none⟩) anq.length kK)=qX at hi tm;obtain⟨tb,qT,qU,oN,rR⟩:=B3G (lW.mono u6_ok hi.sys.km.ext) kJ;have iA:=(Ck.1 kJ).1;have tm:=tm.keep [0,2,3,9,10,11,12,13];refine E3 7 6 rfl rfl ?_;refine Pm tm λa tm=>?_;refine Pm tm λa tm=>?_;refine Pv tm (A11 tm B3x A0C rfl rfl oN rfl rfl iA) λa tm=>?_;refine Pv tm (A1E tm A7v A0C rfl rfl rfl rR) λa tm=>?_;refine Ay rfl λK hK=>A75 tm A0C rfl rfl rfl λa tm=>hK _ _ ?_;have eY:=A0I w m (.cells [.int .i64 0,.int .i64 0,.int .i64 0,.int .i64 0,.int .i64 0,.string ⟨[].toArray⟩,.string ⟨[].toArray⟩].toArray 102) hi.z0;have hi:=hi.step eY (λ_ h=>h) 2 (λ_=>rfl);have cr:Bk (w.alloc (.cells [.int .i64 0,.int .i64 0,.int .i64 0,.int .i64 0,.int .i64 0,.string ⟨[].toArray⟩,.string ⟨[].toArray⟩].toArray 102)) w.heap.size _:=A6T;have eC:H2 ρ w.heap.size 2 w.heap.size=2:=A0H (Be _);generalize uH:w.heap.size=bt at hi cr eC tm;obtain⟨q1,q2,q3⟩:=cr.store (m:=m) Aw (off:=0) (vs:=U4 t) (by simp[U4]) (λv hv=>by simp only[U4,Bg,Bi,or_false]at hv;rcases hv with rfl|rfl|rfl|rfl|rfl|rfl|rfl<;>rfl) (hi.sys.zr bt (by rw[eC];decide)) hi.z0;refine Ps tm A0C q1 ?_;refine Ba ?_;have hi:=hi.tok q3 eC;have cr:Bk _ bt (U4 t):=q2;generalize (I5 _ bt 0 (U4 t))=w at hi cr ⊢;generalize H2 ρ bt 2=ρ at hi eC;have tm:=tm.keep [0,2,3,9,10,11,12,13,14];show(A1 _ _).wp _ _ _ _;refine wsq rfl ?_;refine wsq rfl ?_;cases h1:okR [.bool] (F73 cG)with
  |false=>rw[h1]at af;cases af
  |true=>
  rw[h1]at af;simp only[Ap]at af;refine E3 8 2 rfl rfl ?_;refine Pm tm λa tm=>?_;refine Ay rfl λK hK=>A3T tm rfl rfl rfl (B00 hb).enter rfl (B1G tm rfl rfl) (A3E (B00 hb) (ls:=[.str cG]) (A3o (r:=.one (.bool (lB (gL (F73 cG) 0)))) rfl h1) (hb.mono _ _ _ _ hI hi.sys.km.ext) hi.z0 ⟨.str _,trivial⟩ rfl) ?_;rintro e w1 ⟨v1,m1,rfl,k1,e1⟩;have eC:=(J2 (r:=0) cr.lt).trans eC;have cr:=k1.bk cr (λh=>h);have hi:=hi.step k1 (λ_ h=>h) 0 (λh=>absurd rfl h);obtain rfl:=CRep.bool_inv e1;refine⟨_,rfl,λa tm=>hK _ _ ?_⟩;refine Wn ?_;refine wcn tm rfl _ rfl ?_;have tm:=tm.keep [0,2,3,9,10,11,12,13,14]
  skip
  cases h2:lB (gL (F73 cG) 0)with
  |true=>
   rw[h2]at af;simp only[Ap]at af;rw[Au rfl];cases h3:okR [.slc .str,.bool] (F74 bu cG t)with
   |false=>rw[h3]at af;cases af
   |true=>
   rw[h3]at af;simp only[Ap]at af;refine wsq rfl ?_;refine E3 9 9 rfl rfl ?_;refine Pm tm λa tm=>?_;refine Pm tm λa tm=>?_;refine Pv tm (A1E tm A7v A0C rfl rfl rfl (λj u hj=>by rw[Bh];exact cr.cell hj)) λa tm=>?_;refine Ay rfl λK hK=>A3T tm rfl rfl rfl (B8e hb).enter rfl (C9A tm rfl rfl rfl rfl) (A3E (B8e hb) (ls:=[.sl .rule bu none,.str cG,.agg .tok t]) (A3o (r:=.tup [.sl .str (lL .str (gL (F74 bu cG t) 0)) none,.bool (lB (gL (F74 bu cG t) 1))]) rfl h3) (hb.mono _ _ _ _ hI hi.sys.km.ext) hi.z0 ⟨cT.mono u6_ok hi.sys.km.ext,.str _,B0K t,trivial⟩ rfl) ?_;rintro e w1 ⟨v1,m1,rfl,k1,e1⟩;have eC:=(J2 (r:=0) cr.lt).trans eC;have cr:=k1.bk cr (λh=>h);have hi:=hi.step k1 (λ_ h=>h) 0 (λh=>absurd rfl h);obtain⟨iR,rfl,e1⟩:=e1;obtain⟨vc,rfl,jS⟩:∃vc,iR=[vc,.bool (lB (gL (F74 bu cG t) 1))]/\CRep U6 w1 m1 (.sl .str (H8 (gL (F74 bu cG t) 0)) none) vc:=by
    match iR,e1 with
    |[x,y],⟨e2,e3,_⟩=>exact⟨x,by rw[CRep.bool_inv e3],e2⟩
   refine⟨_,rfl,λa tm=>hK _ _ ?_⟩;refine Pm tm λa tm=>?_;refine Pv tm (C0L tm) λa tm=>?_;refine Pv tm (C0L tm) λa tm=>?_;refine Pa tm λa tm=>?_;refine Pa tm λa tm=>?_;refine Ba ?_;have tm:=tm.keep [0,2,3,9,10,11,12,13,14,15,16];show(A1 _ _).wp _ _ _ _;refine wsq rfl ?_;refine wsq rfl ?_;refine E3 10 2 rfl rfl ?_;refine Pm tm λa tm=>?_;refine Pv tm (B1d tm) λa tm=>?_;refine Wn ?_;refine wcn tm rfl _ rfl ?_;cases h4:lB (gL (F74 bu cG t) 1)with
   |false=>
    rw[h4]at af;simp only[Aq,Bn,Bo]at af;obtain⟨rfl,rfl⟩:=af;rw[Au (show(!false)=true from rfl)];refine wsq rfl ?_;have qZ:∀(j:Nat) u,(L1 t.pos)[j]?=some u->Bq _ ⟨bt,0+1+j,none⟩=some u:=λj u hj=>cr.cell (j:=0+1+j) (u:=u) (by match j,hj with|0,hj=>exact hj|1,hj=>exact hj);refine B5b (S:=λw'=>∀(j:Nat) u,(L1 t.pos)[j]?=some u->w'.cell? ⟨bt,0+1+j,none⟩=some u) rfl 11 4 rfl rfl ?_;have iV:=A7U hi.z0;obtain⟨q1,q2,q3⟩:=(iV.bk hi.z (λh=>h)).store (m:=_) Aw (off:=0) (vs:=L1 t.pos) (by simp[L1]) (λv hv=>by simp only[L1,Bg,Bi,or_false]at hv;rcases hv with rfl|rfl<;>rfl) (hi.sys.zr bz (by rw[hi.zr];decide)) iV.zero;have av:bt≠bz:=λe=>by have h9:=hi.zr;rw[<-e]at h9;rw[eC]at h9;cases h9
    have HS:∀(j:Nat) u,(L1 t.pos)[j]?=some u->Bq _ ⟨bt,0+1+j,none⟩=some u:=qZ;refine Dt tm 0 rfl (by exact HS) (λw hS=>Y1 tm B28) λa tm=>?_;refine Dt tm 1 rfl (by exact HS) (λw hS=>A1E tm A9o A2Q rfl rfl rfl hS) λa tm=>?_;refine Dt tm 2 rfl (by exact HS) (λw hS=>B01 tm) λa tm=>?_;refine B2w (i:=3) (by kernel_rfl) rfl rfl λK hK=>?_;refine A8g tm A2Q rfl rfl rfl rfl (us:=L1 t.pos) rfl rfl q1 (hK _ _ (λj u hj=>?_) ?_)
    ·exact(q3.bk (iV.bk cr (λh=>h)) av).cell (j:=0+1+j) (u:=u) (by match j,hj with|0,hj=>exact hj|1,hj=>exact hj)
    refine B2T (by kernel_rfl) ?_ _;show(A1 _ _).wp _ _ _ _;refine A4s rfl ?_;exact A9H hQ (.inr rfl) (tm.sub ⟨rfl,rfl,trivial⟩) q2 ((hi.sys.stay iV (λb _ hs=>hs.elim)).stay q3 (λb _ hs=>by rw[hs,hi.zr];decide)).km
   |true=>
   rw[h4]at af;simp only[Ap]at af;rw[At (by simp)];refine Q8 rfl ?_;generalize gJ:H8 (gL (F74 bu cG t) 0)=c at af jS;cases h5:smN (c.length+anq.length)with
   |false=>rw[h5]at af;cases af
   |true=>
   rw[h5]at af;simp only[Ap]at af;have ck:c.length+anq.length<=1099511627776:=by simpa [smN]using h5
   show(A1 _ _).wp _ _ _ _;refine wsq rfl ?_;refine wsq rfl ?_;obtain⟨ca,zf,uL⟩:=jS.sl_inv;refine E3 12 4 rfl rfl ?_;refine Pm tm λa tm=>?_;refine Pv tm (A1f tm X8 rfl rfl rfl rfl rfl uL) λa tm=>?_;refine Pv tm (A2b tm) λa tm=>?_;refine Pa tm λa tm=>?_;refine Ba ?_;have uI:Bf .i64 ((c.length:Int) - 1)=(c.length:Int) - 1:=A18 (by omega) (by omega);rw[uI]at tm;show(A1 _ _).wp _ _ _ _;refine D19 ck hi jS (tm.sub ⟨rfl,rfl,rfl,rfl,rfl,rfl,rfl,rfl,rfl,trivial⟩) λa w m ρ sv tm hi _=>?_;show(A1 _ _).wp _ _ _ _;refine A5H 1 rfl ?_;exact⟨n,Bp n,c++anq,at_,op,m,ρ,sv,af,tm,hi,by rw[Bx];exact ck⟩
  |false=>
   rw[h2]at af;simp only[Aq]at af;rw[At (by simp)];refine Q8 rfl ?_;show(A1 _ _).wp _ _ _ _;refine wsq rfl ?_;refine wsq rfl ?_;cases h3:okR [.bool] (F75 cG t)with
   |false=>rw[h3]at af;cases af
   |true=>
   rw[h3]at af;simp only[Ap]at af;refine E3 16 4 rfl rfl ?_;refine Pm tm λa tm=>?_;refine Pv tm (A1E tm A7v A0C rfl rfl rfl (λj u hj=>by rw[Bh];exact cr.cell hj)) λa tm=>?_;refine Ay rfl λK hK=>A3T tm rfl rfl rfl (B4t hb).enter rfl (B4p tm rfl rfl rfl) (A3E (B4t hb) (ls:=[.str cG,.agg .tok t]) (A3o (r:=.one (.bool (lB (gL (F75 cG t) 0)))) rfl h3) (hb.mono _ _ _ _ hI hi.sys.km.ext) hi.z0 ⟨.str _,B0K t,trivial⟩ rfl) ?_;rintro e w1 ⟨v1,m1,rfl,k1,e1⟩;have eC:=(J2 (r:=0) cr.lt).trans eC;have cr:=k1.bk cr (λh=>h);have hi:=hi.step k1 (λ_ h=>h) 0 (λh=>absurd rfl h);obtain rfl:=CRep.bool_inv e1;refine⟨_,rfl,λa tm=>hK _ _ ?_⟩;refine Pv tm (B1d tm) λa tm=>?_;refine Wn ?_;refine wcn tm rfl _ rfl ?_;have tm:=tm.keep [0,2,3,9,10,11,12,13,14];cases h4:lB (gL (F75 cG t) 0)with
   |false=>
    rw[h4]at af;simp only[Aq,Bn,Bo]at af;obtain⟨rfl,rfl⟩:=af;rw[Au (show(!false)=true from rfl)];refine wsq rfl ?_;have qZ:∀(j:Nat) u,(L1 t.pos)[j]?=some u->Bq _ ⟨bt,0+1+j,none⟩=some u:=λj u hj=>cr.cell (j:=0+1+j) (u:=u) (by match j,hj with|0,hj=>exact hj|1,hj=>exact hj);refine B5b (S:=λw'=>∀(j:Nat) u,(L1 t.pos)[j]?=some u->w'.cell? ⟨bt,0+1+j,none⟩=some u) rfl 17 4 rfl rfl ?_;have iV:=A7U hi.z0;obtain⟨q1,q2,q3⟩:=(iV.bk hi.z (λh=>h)).store (m:=_) Aw (off:=0) (vs:=L1 t.pos) (by simp[L1]) (λv hv=>by simp only[L1,Bg,Bi,or_false]at hv;rcases hv with rfl|rfl<;>rfl) (hi.sys.zr bz (by rw[hi.zr];decide)) iV.zero;have av:bt≠bz:=λe=>by have h9:=hi.zr;rw[<-e]at h9;rw[eC]at h9;cases h9
    have HS:∀(j:Nat) u,(L1 t.pos)[j]?=some u->Bq _ ⟨bt,0+1+j,none⟩=some u:=qZ;refine Dt tm 0 rfl (by exact HS) (λw hS=>Y1 tm B28) λa tm=>?_;refine Dt tm 1 rfl (by exact HS) (λw hS=>A1E tm A9o A2Q rfl rfl rfl hS) λa tm=>?_;refine Dt tm 2 rfl (by exact HS) (λw hS=>B01 tm) λa tm=>?_;refine B2w (i:=3) (by kernel_rfl) rfl rfl λK hK=>?_;refine A8g tm A2Q rfl rfl rfl rfl (us:=L1 t.pos) rfl rfl q1 (hK _ _ (λj u hj=>?_) ?_)
    ·exact(q3.bk (iV.bk cr (λh=>h)) av).cell (j:=0+1+j) (u:=u) (by match j,hj with|0,hj=>exact hj|1,hj=>exact hj)
    refine B2T (by kernel_rfl) ?_ _;show(A1 _ _).wp _ _ _ _;refine A4s rfl ?_;exact A9H hQ (.inr rfl) (tm.sub ⟨rfl,rfl,trivial⟩) q2 ((hi.sys.stay iV (λb _ hs=>hs.elim)).stay q3 (λb _ hs=>by rw[hs,hi.zr];decide)).km
   |true=>
   rw[h4]at af;simp only[Ap]at af;rw[At (by simp)];refine Q8 rfl ?_;cases h5:okR [.int .i64] (F76 cG)with
   |false=>rw[h5]at af;cases af
   |true=>
   rw[h5]at af;simp only[Ap]at af;generalize qY:lI (gL (F76 cG) 0)=br at af;show(A1 _ _).wp _ _ _ _;refine wsq rfl ?_;refine wsq rfl ?_;refine E3 18 8 rfl rfl ?_;refine Pm tm λa tm=>?_;refine Ay rfl λK hK=>A3T tm rfl rfl rfl (B1S hb).enter rfl (B1G tm rfl rfl) (A3E (B1S hb) (ls:=[.str cG]) (A3o (r:=.one (.int .i64 (lI (gL (F76 cG) 0)))) rfl h5) (hb.mono _ _ _ _ hI hi.sys.km.ext) hi.z0 ⟨.str _,trivial⟩ rfl) ?_;rintro e w1 ⟨v1,m1,rfl,k1,e1⟩;have eC:=(J2 (r:=0) cr.lt).trans eC;have cr:=k1.bk cr (λh=>h);have hi:=hi.step k1 (λ_ h=>h) 0 (λh=>absurd rfl h);obtain rfl:=CRep.int_inv e1;rw[qY];refine⟨_,rfl,λa tm=>hK _ _ ?_⟩;refine Pv tm (D3v tm) λa tm=>?_;refine Pm tm λa tm=>?_;cases hq:br==1 with
   |true=>
    rw[hq]at tm af;simp only[Bool.true_and]at af;refine Pg tm 3 74 (A2u tm) λa tm=>?_;refine Pg tm 3 74 (A2u tm) λa tm=>?_;refine Pg tm 3 74 (B67 tm) λa tm=>?_;refine Pv tm (D7h tm) λa tm=>?_;refine Wn ?_;refine wcn tm rfl _ rfl ?_;have tm:=tm.keep [0,2,3,9,10,11,12,13,14];cases hd:decide (depth<=op)with
    |true=>
     rw[hd]at af;simp only[Ap,Bn,Bo]at af;obtain⟨rfl,rfl⟩:=af;rw[Au rfl];refine wsq rfl ?_;have qZ:∀(j:Nat) u,(L1 t.pos)[j]?=some u->Bq _ ⟨bt,0+1+j,none⟩=some u:=λj u hj=>cr.cell (j:=0+1+j) (u:=u) (by match j,hj with|0,hj=>exact hj|1,hj=>exact hj);refine B5b (S:=λw'=>∀(j:Nat) u,(L1 t.pos)[j]?=some u->w'.cell? ⟨bt,0+1+j,none⟩=some u) rfl 19 4 rfl rfl ?_;have iV:=A7U hi.z0;obtain⟨q1,q2,q3⟩:=(iV.bk hi.z (λh=>h)).store (m:=_) Aw (off:=0) (vs:=L1 t.pos) (by simp[L1]) (λv hv=>by simp only[L1,Bg,Bi,or_false]at hv;rcases hv with rfl|rfl<;>rfl) (hi.sys.zr bz (by rw[hi.zr];decide)) iV.zero;have av:bt≠bz:=λe=>by have h9:=hi.zr;rw[<-e]at h9;rw[eC]at h9;cases h9
     have HS:∀(j:Nat) u,(L1 t.pos)[j]?=some u->Bq _ ⟨bt,0+1+j,none⟩=some u:=qZ;refine Dt tm 0 rfl (by exact HS) (λw hS=>Y1 tm B28) λa tm=>?_;refine Dt tm 1 rfl (by exact HS) (λw hS=>A1E tm A9o A2Q rfl rfl rfl hS) λa tm=>?_;refine Dt tm 2 rfl (by exact HS) (λw hS=>B01 tm) λa tm=>?_;refine B2w (i:=3) (by kernel_rfl) rfl rfl λK hK=>?_;refine A8g tm A2Q rfl rfl rfl rfl (us:=L1 t.pos) rfl rfl q1 (hK _ _ (λj u hj=>?_) ?_)
     ·exact(q3.bk (iV.bk cr (λh=>h)) av).cell (j:=0+1+j) (u:=u) (by match j,hj with|0,hj=>exact hj|1,hj=>exact hj)
     refine B2T (by kernel_rfl) ?_ _;show(A1 _ _).wp _ _ _ _;refine A4s rfl ?_;exact A9H hQ (.inr rfl) (tm.sub ⟨rfl,rfl,trivial⟩) q2 ((hi.sys.stay iV (λb _ hs=>hs.elim)).stay q3 (λb _ hs=>by rw[hs,hi.zr];decide)).km
    |false=>
     rw[hd]at af;simp only[Aq]at af;rw[At (by simp)];refine Q8 rfl ?_;refine B7A hb hI hz eX cT lW af h5 qY (by omega) iA tm hi cr eC λa w n' h=>⟨n',h⟩
   |false=>
    rw[hq]at tm af;simp only[Bool.false_and,Aq]at af;refine B52 tm (j:=3) (g:=74) (d:=75) (b:=false) rfl rfl rfl rfl rfl rfl rfl λa tm=>?_;refine B52 tm (j:=3) (g:=74) (d:=76) (b:=false) rfl rfl rfl rfl rfl rfl rfl λa tm=>?_;refine B52 tm (j:=3) (g:=74) (d:=77) (b:=false) rfl rfl rfl rfl rfl rfl rfl λa tm=>?_;refine Pv tm (C9R tm) λa tm=>?_;refine Wn ?_;refine wcn tm rfl _ rfl ?_;have tm:=tm.keep [0,2,3,9,10,11,12,13,14];rw[At (by simp)];refine Q8 rfl ?_;refine B7A hb hI hz eX cT lW af h5 qY (by omega) iA tm hi cr eC λa w n' h=>⟨n',h⟩
theorem D0i{n:Nat}{vs:Ai}(hn:vs.length<=n){fr:List (Nat×Value)}(h:∀i v,X1 fr i=some v->vs[i]?=some v):Tm {tmps:=vs.toArray++Fb (n - vs.toArray.size) undef,defers:=[]} n fr:=by
 refine⟨by simp;omega,rfl,λi v hv=>?_⟩;have h1:=h i v hv;have h2:=(Ck.1 h1).1;rw[Fe,Fc (by simpa using h2)];simp[h1]
theorem A87{I:Inv}(hb:HB I):Sound Aw U6 I 33 (sG S33):=by
 refine⟨Tryz.call33,λls r hr=>?_⟩;unfold sG at hr;unfold S33 at hr;split at hr
 ·rename_i bu first toks depth
  obtain⟨h1,h2⟩:=A3r hr;unfold F33 at h1 h2;cases eX:smN toks.length with
  |false=>rw[eX]at h1;cases h1
  |true=>
  rw[eX]at h1 h2;simp only[Ap]at h1 h2;split at h2
  ·rename_i k p af;intro w0 g vs hI hz ak _ _
   match vs,ak with
   |[vr,v1,vt,vd],⟨e1,e2,e3,e4,_⟩=>
    obtain rfl:=CRep.str_inv e2.1;obtain rfl:=CRep.int_inv e4.1;refine calls_of_wp Tryz.func33 (show Tryz.f33.body=some (A1 Bu [])by kernel_rfl) ?_;refine D4M hb hI hz af (by simpa [smN]using eX) e1.1 e3.1 (λe a w m he hd hv hk=>?_) (D0i (show 4<=93 by decide) λi v h=>?_)
    ·have cf:∃v g',Ez (.tuple #[.int .i64 k,.agg (L1 p).toArray])=.returned v/\Post U6 ⟨w0,g.wm,λb=>O0 [.sl .rule bu none,.str first,.sl .tok toks none,(.int .i64 depth:L6)]=true/\spare (g.G 0)=some b,0,λ_=>undef⟩ g' r v w:=by
      refine⟨_,{g with wm:=m},rfl,?_⟩;rw[<-h2];exact C0r (ls:=[.int .i64 k,.agg .pos p]) (vs:=[.int .i64 k,.agg (L1 p).toArray]) hk (λ_ h=>h.elim) ⟨.int _ _,C5U p,trivial⟩ rfl _ rfl
     rcases he with rfl|rfl<;>exact⟨hd,_,hv,cf⟩
    ·unfold X1 at h
     match i,h with
     |0,h=>cases h;rfl
     |1,h=>cases h;rfl
     |2,h=>cases h;rfl
     |3,h=>cases h;rfl
  ·rename_i hn;rw[hn]at h1;cases h1
 ·cases hr
end Go.Aev
namespace Go.Aev
open Go.Proofs
variable {I:Inv}
theorem A6N(hb:HB I):Sound Aw U6 I 35 (sG S35):=F2 E35 hb rfl trivial trivial Tryz.func35 rfl Dx (λls r h=>by
 unfold sG S35 at h;split at h
 ·exact D8 B2O rfl h
 ·cases h)
theorem B5n(hb:HB I):D4 Aw U6 I 78 (sGB S78):=G2 E78 hb rfl trivial trivial Tryz.func78 rfl Dn (λls cs r h=>by
 unfold sGB S78 at h;split at h
 ·obtain⟨hc,h⟩:=E8 h;simp only[Ax,F0]at hc;obtain⟨rfl,rfl⟩:=hc;exact G0 D3q rfl rfl h
 ·cases h)
theorem C0I(hb:HB I):D4 Aw U6 I 150 (sGB A99):=G2 B7I hb rfl trivial trivial Tryz.func150 rfl Ed (λls cs r h=>by
 unfold sGB A99 at h;split at h
 ·obtain⟨hc,h⟩:=E8 h;simp only[Ax,F0]at hc;obtain⟨rfl,rfl⟩:=hc;exact G0 D3O rfl rfl h
 ·cases h)
theorem A3S(hb:HB I):D4 Aw U6 I 79 (sGB S79):=G2 E79 hb rfl trivial ⟨(C0I hb),trivial⟩ Tryz.func79 rfl Dm (λls cs r h=>by
 unfold sGB S79 at h;split at h
 ·obtain⟨hc,h⟩:=E8 h;simp only[Ax,F0]at hc;obtain⟨rfl,rfl⟩:=hc;exact G0 D0Y rfl rfl h
 ·cases h)
theorem A7T(hb:HB I):D4 Aw U6 I 151 (sGB A4r):=G2 C0S hb rfl trivial trivial Tryz.func151 rfl Ec (λls cs r h=>by
 unfold sGB A4r at h;split at h
 ·obtain⟨hc,h⟩:=E8 h;simp only[Ax,F0]at hc;obtain⟨rfl,rfl⟩:=hc;exact G0 C9k rfl rfl h
 ·cases h)
theorem A6y(hb:HB I):D4 Aw U6 I 80 (sGB S80):=G2 E80 hb rfl trivial ⟨(A7T hb),trivial⟩ Tryz.func80 rfl Dl (λls cs r h=>by
 unfold sGB S80 at h;split at h
 ·obtain⟨hc,h⟩:=E8 h;simp only[Ax,F0]at hc;obtain⟨rfl,rfl⟩:=hc;exact G0 C7s rfl rfl h
 ·cases h)
theorem D7k(hb:HB I):Sound Aw U6 I 81 (sG S81):=F2 E81 hb rfl ⟨(B7a hb),trivial⟩ trivial Tryz.func81 rfl Dk (λls r h=>by
 unfold sG S81 at h;split at h
 ·exact D8 (C7l NN) rfl h
 ·cases h)
end Go.Aev
namespace Go.Aev
open Go.Proofs
variable {I:Inv}
theorem D6n(hb:HB I):Sound Aw U6 I 189 (sG B3N):=F2 C0O hb rfl trivial trivial Tryz.func189 rfl Dz (λls r h=>by
 unfold sG B3N at h;split at h
 ·exact D8 C6a rfl h
 ·cases h)
end Go.Aev
namespace Go.Aev
open Go.Proofs
variable {I:Inv}
theorem B8r(hb:HB I):∀d,D4 Aw U6 I 153 (sGB (B1J ((A19 d))))
 |0=>by
  exact⟨Cr,λls cs rs aR h=>by
   unfold sGB B1J at h;split at h
   ·obtain⟨_,h⟩:=E8 h;cases h
   ·cases h⟩
 |d+1=>by
  have q6:=B8r hb d;exact G2 (R6 ((A19 d))) hb rfl ⟨(D6n hb),trivial⟩ ⟨(A3S hb),(A6y hb),(A7T hb),q6,trivial⟩ Tryz.func153 rfl Cr (λls cs r h=>by
   unfold sGB B1J at h;split at h
   ·obtain⟨hc,h⟩:=E8 h;simp only[Ax,F0]at hc;obtain⟨rfl,rfl⟩:=hc;exact G0 (D8P NN ((A19 d))) rfl rfl h
   ·cases h)
theorem B7D(hb:HB I):D4 Aw U6 I 153 (sGB B5U):=(B8r hb DD)
end Go.Aev
namespace Go.Aev
open Go.Proofs
variable {I:Inv}
theorem B21(hb:HB I):D4 Aw U6 I 84 (sGB S84):=G2 E84 hb rfl trivial ⟨(A3S hb),(A6y hb),(C0I hb),(A7T hb),(B7D hb),trivial⟩ Tryz.func84 rfl Dh (λls cs r h=>by
 unfold sGB S84 at h;split at h
 ·obtain⟨hc,h⟩:=E8 h;simp only[Ax,F0]at hc;obtain⟨rfl,rfl⟩:=hc;exact G0 (D2X NN) rfl rfl h
 ·cases h)
theorem C0G(hb:HB I):∀d,D4 Aw U6 I 152 (sGB (B0o ((A4W d))))
 |0=>by
  exact⟨Cs,λls cs rs aR h=>by
   unfold sGB B0o at h;split at h
   ·obtain⟨_,h⟩:=E8 h;cases h
   ·cases h⟩
 |d+1=>by
  have q7:=C0G hb d;exact G2 (C0D ((A4W d))) hb rfl trivial ⟨(A3S hb),(A7T hb),q7,trivial⟩ Tryz.func152 rfl Cs (λls cs r h=>by
   unfold sGB B0o at h;split at h
   ·obtain⟨hc,h⟩:=E8 h;simp only[Ax,F0]at hc;obtain⟨rfl,rfl⟩:=hc;exact G0 (D7x ((A4W d))) rfl rfl h
   ·cases h)
theorem C3f(hb:HB I):D4 Aw U6 I 152 (sGB B2U):=(C0G hb DD)
end Go.Aev
namespace Go.Aev
open Go.Proofs
variable {I:Inv}
theorem B5w(hb:HB I):D4 Aw U6 I 82 (sGB S82):=G2 E82 hb rfl trivial ⟨(B5n hb),(A3S hb),(A6y hb),(B21 hb),(C3f hb),(B7D hb),trivial⟩ Tryz.func82 rfl Dj (λls cs r h=>by
 unfold sGB S82 at h;split at h
 ·obtain⟨hc,h⟩:=E8 h;simp only[Ax,F0]at hc;obtain⟨rfl,rfl⟩:=hc;exact G0 (D3x NN) rfl rfl h
 ·cases h)
theorem D7c(hb:HB I):D4 Aw U6 I 83 (sGB S83):=G2 E83 hb rfl trivial ⟨(A3S hb),(A6y hb),trivial⟩ Tryz.func83 rfl Di (λls cs r h=>by
 unfold sGB S83 at h;split at h
 ·obtain⟨hc,h⟩:=E8 h;simp only[Ax,F0]at hc;obtain⟨rfl,rfl⟩:=hc;exact G0 (D2A NN) rfl rfl h
 ·cases h)
end Go.Aev
namespace Go.Aev
open Go.Proofs
variable {I:Inv}
theorem C9Q(hb:HB I):D4 Aw U6 I 154 (sGB B6V):=G2 C4O hb rfl trivial ⟨(B5n hb),(A3S hb),(A6y hb),(B5w hb),(B21 hb),(A7T hb),(C3f hb),trivial⟩ Tryz.func154 rfl Eb (λls cs r h=>by
 unfold sGB B6V S2S at h;split at h
 ·obtain⟨hc,h⟩:=E8 h;simp only[Ax,F0]at hc;obtain⟨⟨rfl,rfl⟩,rfl,rfl⟩:=hc;split at h
  ·rename_i d hd;rw[C5u hd];exact G0 C96 rfl rfl h
  ·cases h
 ·cases h)
end Go.Aev
namespace Go.Aev
open Go.Proofs
variable {I:Inv}
theorem C9h(hb:HB I):D4 Aw U6 I 85 (sGB S85):=G2 E85 hb rfl trivial ⟨(A3S hb),(B5w hb),(C9Q hb),trivial⟩ Tryz.func85 rfl Dg (λls cs r h=>by
 unfold sGB S85 S2S at h;split at h
 ·obtain⟨hc,h⟩:=E8 h;simp only[Ax,F0]at hc;obtain⟨⟨rfl,rfl⟩,rfl,rfl⟩:=hc;split at h
  ·rename_i d hd;rw[C5u hd];exact G0 (D7E NN) rfl rfl h
  ·cases h
 ·cases h)
end Go.Aev
namespace Go.Aev
open Go.Proofs
variable {I:Inv}
theorem D5i(hb:HB I):D4 Aw U6 I 36 (sGB S36):=G2 E36 hb rfl ⟨(D7k hb),trivial⟩ ⟨(B5n hb),(A3S hb),(A6y hb),(B5w hb),(D7c hb),(B21 hb),(C9h hb),trivial⟩ Tryz.func36 rfl Dw (λls cs r h=>by
 unfold sGB S36 at h;split at h
 ·obtain⟨hc,h⟩:=E8 h;simp only[Ax,F0]at hc;obtain⟨rfl,rfl⟩:=hc;exact G0 D5w rfl rfl h
 ·cases h)
end Go.Aev
namespace Go.Aev
open Go.Proofs
variable {I:Inv}
theorem B1E(hb:HB I):Sound Aw U6 I 54 (sG S54):=F2 E54 hb rfl ⟨(C8q hb),trivial⟩ trivial Tryz.func54 rfl Tryz.call54 (λls r h=>by
 unfold sG S54 at h;split at h
 ·exact D8 (B5x NN) rfl h
 ·cases h)
theorem D6v(hb:HB I):Sound Aw U6 I 176 (sG B5l):=F2 C0y hb rfl ⟨(A9a hb),trivial⟩ trivial Tryz.func176 rfl Tryz.call176 (λls r h=>by
 unfold sG B5l at h;split at h
 ·exact D8 D0u rfl h
 ·cases h)
theorem D8D(hb:HB I):Sound Aw U6 I 123 (sG B62):=F2 E123 hb rfl ⟨(D6v hb),trivial⟩ trivial Tryz.func123 rfl Tryz.call123 (λls r h=>by
 unfold sG B62 at h;split at h
 ·exact D8 (D3C NN) rfl h
 ·cases h)
theorem D6R(hb:HB I):Sound Aw U6 I 177 (sG B2Q):=F2 C15 hb rfl ⟨(A9a hb),trivial⟩ trivial Tryz.func177 rfl Tryz.call177 (λls r h=>by
 unfold sG B2Q at h;split at h
 ·exact D8 D8t rfl h
 ·cases h)
theorem snd208(hb:HB I):Sound Aw U6 I 208 (sG S208):=F2 A0x hb rfl ⟨(A9a hb),trivial⟩ trivial Tryz.func208 rfl Tryz.call208 (λls r h=>by
 unfold sG S208 at h;split at h
 ·exact D8 B3t rfl h
 ·cases h)
theorem D2f(hb:HB I):Sound Aw U6 I 178 (sG B4s):=F2 A5n hb rfl ⟨(snd208 hb),trivial⟩ trivial Tryz.func178 rfl Tryz.call178 (λls r h=>by
 unfold sG B4s at h;split at h
 ·exact D8 (D2b NN) rfl h
 ·cases h)
theorem C7n(hb:HB I):Sound Aw U6 I 179 (sG B6Y):=F2 B9V hb rfl ⟨(A9a hb),trivial⟩ trivial Tryz.func179 rfl Tryz.call179 (λls r h=>by
 unfold sG B6Y at h;split at h
 ·exact D8 D4R rfl h
 ·cases h)
end Go.Aev
namespace Go.Aev
open Go.Proofs
variable {I:Inv}
theorem D2L(hb:HB I):Sound Aw U6 I 230 (sG B2t):=F2 C2M hb rfl trivial trivial Tryz.func230 rfl Tryz.call230 (λls r h=>by
 unfold sG B2t at h;split at h
 ·exact D8 D69 rfl h
 ·cases h)
theorem D70(hb:HB I):Sound Aw U6 I 231 (sG B6N):=F2 C1s hb rfl trivial trivial Tryz.func231 rfl Tryz.call231 (λls r h=>by
 unfold sG B6N at h;split at h
 ·exact D8 D1Z rfl h
 ·cases h)
theorem snd209(hb:HB I):Sound Aw U6 I 209 (sG S209):=F2 K3 hb rfl ⟨(D2L hb),(D70 hb),trivial⟩ trivial Tryz.func209 rfl Tryz.call209 (λls r h=>by
 unfold sG S209 at h;split at h
 ·exact D8 (B4K NN) rfl h
 ·cases h)
theorem D01(hb:HB I):Sound Aw U6 I 180 (sG B2C):=F2 C19 hb rfl ⟨(snd208 hb),(snd209 hb),trivial⟩ trivial Tryz.func180 rfl Tryz.call180 (λls r h=>by
 unfold sG B2C at h;split at h
 ·exact D8 C7T rfl h
 ·cases h)
theorem snd210(hb:HB I):Sound Aw U6 I 210 (sG S210):=F2 L2 hb rfl trivial trivial Tryz.func210 rfl Tryz.call210 (λls r h=>by
 unfold sG S210 at h;split at h
 ·exact D8 B4w rfl h
 ·cases h)
theorem D6M(hb:HB I):Sound Aw U6 I 211 (sG B3c):=F2 A5b hb rfl ⟨(snd210 hb),trivial⟩ trivial Tryz.func211 rfl Tryz.call211 (λls r h=>by
 unfold sG B3c at h;split at h
 ·exact D8 (D6H NN) rfl h
 ·cases h)
end Go.Aev
namespace Go.Aev
open Go.Proofs
variable {I:Inv}
theorem D8e(hb:HB I):Sound Aw U6 I 213 (sG B2X):=F2 A4u hb rfl trivial trivial Tryz.func213 rfl Tryz.call213 (λls r h=>by
 unfold sG B2X at h;split at h
 ·exact D8 (D4F NN) rfl h
 ·cases h)
theorem D5k(hb:HB I):Sound Aw U6 I 181 (sG B5M):=F2 B9b hb rfl ⟨(snd210 hb),(D6M hb),hb.s212,(D8e hb),hb.s214,trivial⟩ trivial Tryz.func181 rfl Tryz.call181 (λls r h=>by
 unfold sG B5M at h;split at h
 ·exact D8 C8v rfl h
 ·cases h)
theorem C87(hb:HB I):Sound Aw U6 I 182 (sG B5H):=F2 A5C hb rfl ⟨(snd210 hb),trivial⟩ trivial Tryz.func182 rfl Tryz.call182 (λls r h=>by
 unfold sG B5H at h;split at h
 ·exact D8 (C9B NN) rfl h
 ·cases h)
theorem D2i(hb:HB I):Sound Aw U6 I 124 (sG B42):=F2 C5i hb rfl ⟨(D6R hb),(D2f hb),(C7n hb),(D01 hb),(D5k hb),(C87 hb),trivial⟩ trivial Tryz.func124 rfl Tryz.call124 (λls r h=>by
 unfold sG B42 at h;split at h
 ·exact D8 D5d rfl h
 ·cases h)
theorem D8f(hb:HB I):Sound Aw U6 I 172 (sG B5G):=F2 C2P hb rfl ⟨(C3g hb),trivial⟩ trivial Tryz.func172 rfl Tryz.call172 (λls r h=>by
 unfold sG B5G at h;split at h
 ·exact D8 C5y rfl h
 ·cases h)
theorem D73(hb:HB I):Sound Aw U6 I 125 (sG B4T):=F2 A4t hb rfl ⟨(D8f hb),trivial⟩ trivial Tryz.func125 rfl Tryz.call125 (λls r h=>by
 unfold sG B4T at h;split at h
 ·exact D8 (D16 NN) rfl h
 ·cases h)
theorem B4H(hb:HB I):Sound Aw U6 I 55 (sG S55):=F2 E55 hb rfl ⟨(D8D hb),(D2i hb),(D73 hb),trivial⟩ trivial Tryz.func55 rfl Tryz.call55 (λls r h=>by
 unfold sG S55 at h;split at h
 ·exact D8 B68 rfl h
 ·cases h)
end Go.Aev
namespace Go.Aev
open Go.Proofs
variable {I:Inv}
theorem C4S(hb:HB I):Sound Aw U6 I 24 (sG S24):=F2 E24 hb rfl ⟨hb.s52,(A7A hb),(B1E hb),(B4H hb),trivial⟩ trivial Tryz.func24 rfl Tryz.call24 (λls r h=>by
 unfold sG S24 at h;split at h
 ·exact D8 (D7T NN) rfl h
 ·cases h)
theorem B0f(hb:HB I):Sound Aw U6 I 34 (sG S34):=F2 E34 hb rfl ⟨(B7a hb),trivial⟩ trivial Tryz.func34 rfl Tryz.call34 (λls r h=>by
 unfold sG S34 at h;split at h
 ·exact D8 (B31 NN) rfl h
 ·cases h)
end Go.Aev
namespace Go.Aev
open Go.Proofs
variable {I:Inv}
theorem C6U(hb:HB I):Sound Aw U6 I 11 (sG S11):=A53 E11 hb rfl ⟨(C4S hb),(A87 hb),(B0f hb),(A6N hb),trivial⟩ ⟨(D5i hb),trivial⟩ Tryz.func11 rfl Ek (λls r h=>by
 unfold sG S11 at h;split at h
 ·exact A6L (D2l NN) rfl h
 ·cases h)
theorem B4A(hb:HB I):D4 Aw U6 I 62 (sGB S62):=G2 E62 hb rfl trivial ⟨hb.s138,trivial⟩ Tryz.func62 rfl Tryz.call62 (λls cs r h=>by
 unfold sGB S62 at h;split at h
 ·obtain⟨hc,h⟩:=E8 h;simp only[Ax,F0]at hc;obtain⟨⟨⟨rfl,rfl⟩,⟨rfl,rfl⟩⟩,rfl⟩:=hc;exact G0 B39 rfl rfl h
 ·cases h)
theorem P9(hb:HB I):D4 Aw U6 I 27 (sGB S27):=G2 E27 hb rfl trivial ⟨(B4A hb),trivial⟩ Tryz.func27 rfl Tryz.call27 (λls cs r h=>by
 unfold sGB S27 at h;split at h
 ·obtain⟨hc,h⟩:=E8 h;simp only[Ax,F0]at hc;obtain⟨⟨⟨rfl,rfl⟩,⟨rfl,rfl⟩⟩,rfl⟩:=hc;exact G0 (B3J NN) rfl rfl h
 ·cases h)
theorem B6q(hb:HB I):Sound Aw U6 I 86 (sG S86):=F2 E86 hb rfl ⟨hb.s155,hb.s156,trivial⟩ trivial Tryz.func86 rfl Tryz.call86 (λls r h=>by
 unfold sG S86 at h;split at h
 ·exact D8 D8Q rfl h
 ·cases h)
theorem A8o(hb:HB I):D4 Aw U6 I 37 (sGB S37):=G2 E37 hb rfl ⟨(B6q hb),trivial⟩ ⟨(P9 hb),trivial⟩ Tryz.func37 rfl Dv (λls cs r h=>by
 unfold sGB S37 at h;split at h
 ·obtain⟨hc,h⟩:=E8 h;simp only[Ax,F0]at hc;obtain⟨⟨⟨rfl,rfl⟩,⟨rfl,rfl⟩⟩,rfl⟩:=hc;exact G0 B2N rfl rfl h
 ·cases h)
theorem C4Y(hb:HB I):D4 Aw U6 I 139 (sGB B2f):=G2 C4x hb rfl ⟨hb.s47,trivial⟩ ⟨(P9 hb),trivial⟩ Tryz.func139 rfl Ei (λls cs r h=>by
 unfold sGB B2f at h;split at h
 ·obtain⟨hc,h⟩:=E8 h;simp only[Ax,F0]at hc;obtain⟨⟨⟨rfl,rfl⟩,⟨rfl,rfl⟩⟩,rfl⟩:=hc;exact G0 D6u rfl rfl h
 ·cases h)
end Go.Aev
namespace Go.Aev
open Go.Proofs
variable {I:Inv}
theorem C8m(hb:HB I):Sound Aw U6 I 64 (sG S64):=F2 E64 hb rfl trivial trivial Tryz.func64 rfl Dq (λls r h=>by
 unfold sG S64 at h;split at h
 ·exact D8 (C7O NN) rfl h
 ·cases h)
theorem B0m(hb:HB I):D4 Aw U6 I 101 (sGB A6P):=G2 B8a hb rfl trivial ⟨(P9 hb),trivial⟩ Tryz.func101 rfl Tryz.call101 (λls cs r h=>by
 unfold sGB A6P at h;split at h
 ·obtain⟨hc,h⟩:=E8 h;simp only[Ax,F0]at hc;obtain⟨⟨⟨rfl,rfl⟩,⟨rfl,rfl⟩⟩,rfl⟩:=hc;exact G0 C6O rfl rfl h
 ·cases h)
theorem C14(hb:HB I):∀d,D4 Aw U6 I 44 (sGB (B1U ((R44 d))))
 |0=>by
  exact⟨Ds,λls cs rs aR h=>by
   unfold sGB B1U at h;split at h
   ·obtain⟨_,h⟩:=E8 h;cases h
   ·cases h⟩
 |d+1=>by
  have uM:=C14 hb d;exact G2 (E44 ((R44 d))) hb rfl ⟨(B6q hb),trivial⟩ ⟨(P9 hb),uM,(B0m hb),trivial⟩ Tryz.func44 rfl Ds (λls cs r h=>by
   unfold sGB B1U at h;split at h
   ·obtain⟨hc,h⟩:=E8 h;simp only[Ax,F0]at hc;obtain⟨⟨⟨rfl,rfl⟩,⟨rfl,rfl⟩⟩,rfl⟩:=hc;exact G0 (B4U NN ((R44 d))) rfl rfl h
   ·cases h)
theorem A8M(hb:HB I):D4 Aw U6 I 44 (sGB S44):=(C14 hb DD)
end Go.Aev
namespace Go.Aev
open Go.Proofs
variable {I:Inv}
theorem C1c(hb:HB I):D4 Aw U6 I 142 (sGB B1T):=G2 A5u hb rfl trivial ⟨(P9 hb),(A8M hb),(B0m hb),trivial⟩ Tryz.func142 rfl Eg (λls cs r h=>by
 unfold sGB B1T at h;split at h
 ·obtain⟨hc,h⟩:=E8 h;simp only[Ax,F0]at hc;obtain⟨⟨⟨rfl,rfl⟩,⟨rfl,rfl⟩⟩,rfl⟩:=hc;exact G0 (C6c NN) rfl rfl h
 ·cases h)
theorem A8u(hb:HB I):D4 Aw U6 I 68 (sGB S68):=G2 E68 hb rfl trivial ⟨(P9 hb),(C1c hb),trivial⟩ Tryz.func68 rfl Do (λls cs r h=>by
 unfold sGB S68 at h;split at h
 ·obtain⟨hc,h⟩:=E8 h;simp only[Ax,F0]at hc;obtain⟨⟨⟨rfl,rfl⟩,⟨rfl,rfl⟩⟩,rfl⟩:=hc;exact G0 (D2O NN) rfl rfl h
 ·cases h)
theorem D1b(hb:HB I):Sound Aw U6 I 66 (sG S66):=F2 E66 hb rfl trivial trivial Tryz.func66 rfl Dp (λls r h=>by
 unfold sG S66 at h;split at h
 ·exact D8 D1d rfl h
 ·cases h)
theorem C8G(hb:HB I):D4 Aw U6 I 264 (sGB B2Y):=G2 B7H hb rfl ⟨(D1b hb),trivial⟩ ⟨(P9 hb),trivial⟩ Tryz.func264 rfl Cg (λls cs r h=>by
 unfold sGB B2Y at h;split at h
 ·obtain⟨hc,h⟩:=E8 h;simp only[Ax,F0]at hc;obtain⟨⟨⟨rfl,rfl⟩,⟨rfl,rfl⟩⟩,rfl⟩:=hc;exact G0 D30 rfl rfl h
 ·cases h)
theorem B6m(hb:HB I):Sound Aw U6 I 18 (sG S18):=F2 E18 hb rfl ⟨hb.s47,hb.s48,trivial⟩ trivial Tryz.func18 rfl Tryz.call18 (λls r h=>by
 unfold sG S18 at h;split at h
 ·exact D8 D1y rfl h
 ·cases h)
theorem D0I(hb:HB I):D4 Aw U6 I 141 (sGB B6d):=G2 C1o hb rfl trivial ⟨(P9 hb),(A8M hb),trivial⟩ Tryz.func141 rfl Eh (λls cs r h=>by
 unfold sGB B6d at h;split at h
 ·obtain⟨hc,h⟩:=E8 h;simp only[Ax,F0]at hc;obtain⟨⟨⟨rfl,rfl⟩,⟨rfl,rfl⟩⟩,rfl⟩:=hc;exact G0 C5Q rfl rfl h
 ·cases h)
theorem C2b(hb:HB I):D4 Aw U6 I 157 (sGB B1g):=G2 B8m hb rfl ⟨(B6m hb),trivial⟩ ⟨(P9 hb),(A8u hb),(D0I hb),trivial⟩ Tryz.func157 rfl Ea (λls cs r h=>by
 unfold sGB B1g at h;split at h
 ·obtain⟨hc,h⟩:=E8 h;simp only[Ax,F0]at hc;obtain⟨⟨⟨rfl,rfl⟩,⟨rfl,rfl⟩⟩,rfl⟩:=hc;exact G0 D7Z rfl rfl h
 ·cases h)
end Go.Aev
namespace Go.Aev
open Go.Proofs
def lvF:List Az:=[7,8,9,11,12,14,15,17,26,28,35,36,37,38,41,42,43,46,56,59,60,61,63,64,66,67,68,77,78,79,80,81,82,83,84,85,87,88,89,94,95,96,97,98,99,100,103,104,132,133,134,135,136,137,139,141,142,150,151,152,153,154,157,160,161,162,184,185,186,187,189,215,263,264,265,266,267,268]
def psV(f:Az):Option Aj:=bif mem f [26,28,36,37,38,41,42,43,46,59,60,61,63,67,68,78,79,80,82,83,84,87,88,94,96,97,98,99,100,103,104,132,133,134,135,136,137,139,141,142,150,151,152,153,157,160,161,162,184,185,186,187,215,266,27,29,44,101]then some [0]else bif mem f [85,154]then some [0,1]else bif mem f [263,264,265,267,268]then some [1]else none
def roV:List Az:=[26,59,60,61,132,133,134,135,136,137,184,185,186,187,215]
def nfV:List (Nat×Aj×Aj×List (Nat×Nat)):=[(7,[1,2,4,5,6,7,8],[],[]),(8,[4,5,7,33],[4,5],[(33,105)]),(9,[5,6,7],[],[(6,107)]),(11,[5,8,33,34,54],[5],[(33,134),(54,105)]),(12,[5,6,7],[],[(6,107)]),(14,[6,7,11],[],[]),(15,[4,5],[],[(4,105)]),(17,[4,5],[],[]),(26,[2,3,4],[2,3],[]),(28,[37,38],[],[(37,138)]),(36,[2,3],[2,3],[]),(41,[4,8,9,11,12,39,75,90,115,121,144],[],[]),(43,[2,9],[2],[(9,102)]),(46,[2,8],[],[]),(59,[4,8,12],[4],[]),(67,[5],[],[]),(78,[2,3],[],[]),(80,[2],[],[]),(82,[8],[8],[]),(84,[6,19],[],[(19,106)]),(87,[7],[],[]),(88,[5],[],[]),(97,[4],[],[]),(99,[4,5,6],[],[]),(132,[4],[],[]),(133,[6],[],[]),(134,[4],[],[]),(137,[4,7],[4],[]),(142,[5],[],[]),(150,[5],[],[]),(151,[2,3],[],[]),(152,[2,3],[],[]),(153,[2,4,6,23,30,41,47,62],[2],[(23,102),(30,102),(41,102),(47,104),(62,106)]),(154,[9,72],[],[(72,109)]),(160,[7],[],[]),(162,[4,6],[],[]),(184,[4,10],[4],[]),(185,[6],[],[]),(186,[4,5],[],[]),(187,[4,6,14],[4],[(14,106)]),(189,[2,12,17,22],[2],[(12,102),(17,102),(22,102)]),(215,[4],[4],[]),(40,[10,11],[],[(10,111)])]
def lkV:List (Nat×Aj×Aj×List (Nat×Nat))->Nat->Aj×Aj×List (Nat×Nat)
 |[],_=>([],[],[])
 |(g,x)::r,f=>bif Bb f g then x else lkV r f
def stT:List (Az×S1T):=[(18,S18),(24,S24),(25,S25),(33,S33),(34,S34),(47,S47),(65,S65),(86,S86)]
def stB:List (Az×S2T):=[(27,S27),(29,S29),(44,S44),(101,A6P)]
abbrev VT:=Az->Ae->Ad
abbrev VBT:=Az->Ae->Ao->Option (Ae×Ao)
deriving instance DecidableEq for A7,A0,G1
def B6Z:L6->L6->Bool
 | .sl .node x none,.sl .node y none=>decide ((show List G1 from x)=y)
 | .sl .tok x none,.sl .tok y none=>decide ((show Ah from x)=y)
 |_,_=>false
def B1r:Ae->Ae->Bool
 |[],[]=>true
 |x::r,y::s=>B6Z x y&&B1r r s
 |_,_=>false
def A8W:Ao->Ao->Bool
 |[],[]=>true
 |x::r,y::s=>B1r x y&&A8W r s
 |_,_=>false
theorem D4e{x y:L6}(h:B6Z x y=true):x=y:=by
 unfold B6Z at h;split at h
 ·rw[Av h]
 ·rw[Av h]
 ·cases h
theorem B8G:∀{x y:Ae},B1r x y=true->x=y
 |[],[],_=>rfl
 |x::r,y::s,h=>by simp only[B1r,Ax]at h;rw[D4e h.1,B8G h.2]
 |[],_::_,h=>by cases h
 |_::_,[],h=>by cases h
theorem B73:∀{x y:Ao},A8W x y=true->x=y
 |[],[],_=>rfl
 |x::r,y::s,h=>by simp only[A8W,Ax]at h;rw[B8G h.1,B73 h.2]
 |[],_::_,h=>by cases h
 |_::_,[],h=>by cases h
def tiV(VB:VBT):String->Ae->Ao->Option (Bool×Ae×Ao):=λnm ls cs=>
 match ls with
 |[.one1 .part x,.ptr d o,.int .i64 a]=>bif decide (nm= "pergola/printer.print")&&(Bb d 900000&&Bb o 0)then
  (match x with
   | .sel s=>VB 263 [.agg .sel s,.ptr 900000 0,.int .i64 a] cs
   | .root s=>VB 264 [.agg .rd s,.ptr 900000 0,.int .i64 a] cs
   | .field s=>VB 265 [.agg .fd s,.ptr 900000 0,.int .i64 a] cs
   | .value s=>VB 267 [.agg .vald s,.ptr 900000 0,.int .i64 a] cs
   | .input s=>VB 268 [.agg .iv s,.ptr 900000 0,.int .i64 a] cs:Option (Ae×Ao)).map λr=>(true,r.1,r.2)
  else none
 |_=>none
def tbV(f:Az)(t:Bm):TK Ty6:=bif Bb f 25 then(match t with
 |153=>.struct .node0 [(0,1),(1,1),(2,1)]
 |95=>.slice .node0 153
 |t=>tb6 t)else bif mem f [41,99]then(match t with
 |46=>.struct .lit0 [(0,1),(1,1),(2,1),(3,1),(4,1),(5,2)]
 |41=>.slice .lit0 46
 |t=>tb6 t)else tb6 t
def zrV(f:Az)(t:Bm):Option Ae:=bif Bb f 25 then(match t with
 |153=>some [.str [],.nils,.int .i64 0]
 |t=>zr6 t)else bif mem f [41,99]then(match t with
 |46=>some [.int .i64 0,.str [],.bool false,.nils,.nils,.int .i64 0,.int .i64 0]
 |t=>zr6 t)else zr6 t
theorem C8y(f:Az)(t:Bm):P8 Aw U6 t (tbV f t):=by
 unfold tbV;cases Bb f 25 with
 |true=>
  simp only[Ap];split
  ·exact B49 (by kernel_rfl) (by kernel_rfl)
  ·exact B34 (by kernel_rfl) (by kernel_rfl) (by kernel_rfl)
  ·exact A6v _
 |false=>
  simp only[Aq];cases mem f [41,99]with
  |true=>
   simp only[Ap];split
   ·exact B49 (by kernel_rfl) (by kernel_rfl)
   ·exact B34 (by kernel_rfl) (by kernel_rfl) (by kernel_rfl)
   ·exact A6v _
  |false=>exact A6v _
theorem C6s(f:Az)(t:Bm)(zs:Ae)(h:zrV f t=some zs):A2h Aw U6 t zs:=by
 unfold zrV at h;cases h1:Bb f 25 with
 |true=>
  rw[h1]at h;simp only[Ap]at h;split at h
  ·cases h;exact B4Z (by kernel_rfl)
  ·exact A6B _ _ h
 |false=>
  rw[h1]at h;simp only[Aq]at h;cases h2:mem f [41,99]with
  |true=>
   rw[h2]at h;simp only[Ap]at h;split at h
   ·cases h;exact B4Z (by kernel_rfl)
   ·exact A6B _ _ h
  |false=>rw[h2]at h;exact A6B _ _ h
abbrev VNT:=Az->Ae->Option Ae
def lvE(V:VT)(VB:VBT)(VN:VNT)(f:Az)(fn:Func):Env Ty6 A4:=
 {U:=U6,tb:=tbV f,zr:=zrV f,cons:=λ_=>none,drop:=λ_=>[],nt:=fn.ntmps,mb:=λd=>mem d (lkV nfV f).1,np:=match psV f with|none=>0|some [0]=>1|_=>2,oz:=λd=>mem d (lkV nfV f).2.1,bn:=lkN (lkV nfV f).2.2,bp:=psV,ro:=λg=>mem g roV,rw:=mem f [14,17,25,33,41],rm:=λd=>mem d (bif Bb f 25 then [20,22,70,100]else bif Bb f 33 then [19,64]else [6,106]),fzs:=bif Bb f 25 then [1000020]else [],nw:=λg=>Bb g 40,fty:=λt=>bif Bb f 25&&Bb t 95 then some .node else bif Bb f 41&&Bb t 46 then some .lit else none,TNg:=λg ls=>(VN g ls).map λr=>(true,r),T:=λg ls=>match lkT stT g ls with|some r=>some r|none=>(V g ls).map λr=>(true,r),TBg:=λg ls cs=>match lkB stB g ls cs with|some r=>some r|none=>(VB g ls cs:Option (Ae×Ao)).map λr=>(true,r.1,r.2),TRg:=λg ls cs=>(VB g ls cs).map λr=>(A8W r.2 cs,r.1),TIg:=tiV VB,bi:=λ_=>[1]}
def VV(jD:Az->Option Func):Nat->VT×VBT×VNT
 |0=>(λ_ _=>none,λ_ _ _=>none,λ_ _=>none)
 |n+1=>(λf ls=>bif mem f lvF then match jD f with|some fn=>A3 (lvE (VV jD n).1 (VV jD n).2.1 (VV jD n).2.2 f fn) NN fn ls|none=>none else none,
  λf ls cs=>bif mem f lvF then match jD f,psV f with|some fn,some ps=>C8 (lvE (VV jD n).1 (VV jD n).2.1 (VV jD n).2.2 f fn) NN fn ps ls cs|_,_=>none else none,
  λf ls=>bif Bb f 40&& !O0 ls then match jD f with|some fn=>B4c (lvE (VV jD n).1 (VV jD n).2.1 (VV jD n).2.2 f fn) NN fn ls|none=>none else none)
abbrev EnT(f:Az):Prop:=∀args w,(callFunc f args).run Aw w=.ok (.enter f args) w
theorem C1U:∀f,mem f lvF=true->EnT f:=by
 have h:∀{l:List Az},(∀f∈l,EnT f)->∀f,mem f l=true->EnT f:=λ{l} hl f hf=>hl f (by
  induction l with
  |nil=>cases hf
  |cons a r ih=>
   unfold mem at hf;cases hb:Bb a f with
   |true=>exact Bg.2 (.inl (Nat.eq_of_beq_eq_true hb).symm)
   |false=>rw[hb]at hf;exact Ep _ (ih (λf h=>hl f (Ep _ h)) hf))
 refine h λf hf=>?_;have:∀{a:Az}{l:List Az},EnT a->(∀f∈l,EnT f)->∀f∈a::l,EnT f:=λh1 h2 f hf=>by
  rcases Bg.1 hf with rfl|h
  ·exact h1
  ·exact h2 f h
 exact(this Cp (this Tryz.call8 (this Tryz.call9 (this Ek (this Ej (this Tryz.call14 (this Tryz.call15 (this Tryz.call17 (this Tryz.call26 (this Tryz.call28 (this Dx (this Dw (this Dv (this Du (this Tryz.call41 (this Tryz.call42 (this Tryz.call43 (this Tryz.call46 (this Tryz.call56 (this Tryz.call59 (this Tryz.call60 (this Tryz.call61 (this Cq (this Dq (this Dp (this Tryz.call67 (this Do (this Tryz.call77 (this Dn (this Dm (this Dl (this Dk (this Dj (this Di (this Dh (this Dg (this Df (this De (this Dd (this Tryz.call94 (this Tryz.call95 (this Tryz.call96 (this Tryz.call97 (this Tryz.call98 (this Tryz.call99 (this Tryz.call100 (this Tryz.call103 (this Tryz.call104 (this Tryz.call132 (this Tryz.call133 (this Tryz.call134 (this Tryz.call135 (this Tryz.call136 (this Tryz.call137 (this Ei (this Eh (this Eg (this Ed (this Ec (this Cs (this Cr (this Eb (this Ea (this Tryz.call160 (this Tryz.call161 (this Tryz.call162 (this Tryz.call184 (this Tryz.call185 (this Tryz.call186 (this Tryz.call187 (this Dz (this Tryz.call215 (this Bz (this Cg (this Cf (this Dy (this Ce (this Cd (λf h=>absurd h Bi))))))))))))))))))))))))))))))))))))))))))))))))))))))))))))))))))))))))))))))) f hf
structure SV(I:Inv)(V:VT×VBT×VNT):Prop where
 p:∀f ls r,V.1 f ls=some r->EnT f/\A1U Aw U6 I f ls r
 b:∀f ls cs rs aR,V.2.1 f ls cs=some (rs,aR)->EnT f/\Z1 Aw U6 I f ls cs rs aR
 n:∀f ls cs,V.2.2 f ls=some cs->EnT f/\A7a Aw U6 I f ls cs
theorem D1c{I:Inv}(hb:HB I){V:VT×VBT×VNT}(hv:SV I V)(w:World)(m:Nat->Nat)(hI:I w m)(nm:String)(ls:Ae)(cs:Ao)(rs:Ae)(aR:Ao)(h:M9 (tiV V.2.1 nm ls cs)=some (rs,aR)):A49 Aw U6 ⟨w,m,λ_=>False,0,λ_=>undef⟩ nm ls cs rs aR:=by
 have hm:∀{o:Option (Ae×Ao)},M9 (o.map λr=>(true,r.1,r.2))=some (rs,aR)->o=some (rs,aR):=λ{o} h=>by
  cases o with
  |none=>cases h
  |some p=>exact h
 unfold tiV at h;split at h
 ·rename_i x d o a;cases hc:(decide (nm= "pergola/printer.print")&&(Bb d 900000&&Bb o 0))with
  |false=>rw[hc]at h;cases h
  |true=>
   rw[hc]at h;simp only[Ax,F0,decide_eq_true_eq]at hc;obtain⟨rfl,rfl,rfl⟩:=hc;have h:=hm h;cases x with
   |sel s=>exact A1I hb hI rfl (λv v1 v2 w=>A1u (f:=263) (by kernel_rfl:Tryz.prog.info? 238=some Tryz.t238) rfl rfl rfl rfl (by kernel_rfl) Bz) (hv.b _ _ _ _ _ h).2
   |root s=>exact A1I hb hI rfl (λv v1 v2 w=>A1u (f:=264) (by kernel_rfl:Tryz.prog.info? 254=some Tryz.t254) rfl rfl rfl rfl (by kernel_rfl) Cg) (hv.b _ _ _ _ _ h).2
   |field s=>exact A1I hb hI rfl (λv v1 v2 w=>A1u (f:=265) (by kernel_rfl:Tryz.prog.info? 255=some Tryz.t255) rfl rfl rfl rfl (by kernel_rfl) Cf) (hv.b _ _ _ _ _ h).2
   |value s=>exact A1I hb hI rfl (λv v1 v2 w=>A1u (f:=267) (by kernel_rfl:Tryz.prog.info? 258=some Tryz.t258) rfl rfl rfl rfl (by kernel_rfl) Ce) (hv.b _ _ _ _ _ h).2
   |input s=>exact A1I hb hI rfl (λv v1 v2 w=>A1u (f:=268) (by kernel_rfl:Tryz.prog.info? 259=some Tryz.t259) rfl rfl rfl rfl (by kernel_rfl) Cd) (hv.b _ _ _ _ _ h).2
 ·cases h
theorem B4N{I:Inv}(hb:HB I){V:VT×VBT×VNT}(hv:SV I V)(f:Az)(fn:Func):EnvI Aw (lvE V.1 V.2.1 V.2.2 f fn) I:=by
 have hT:A3A I stT:=⟨B6m hb,C4S hb,C93 hb,A87 hb,B0f hb,hb.s47,hb.s65,B6q hb,trivial⟩;have hB:A3m I stB:=⟨P9 hb,hb.s29,A8M hb,B0m hb,trivial⟩;refine⟨u6_ok,C8y f,C6s f,λg ls r h=>?_,λg ls cs rs aR h=>?_,λw m hI nm ls cs rs aR h=>D1c hb hv w m hI nm ls cs rs aR h,λg ls cs rs h=>?_,hb.mono,B0g,λg ls cs h=>?_⟩
 ·change (match lkT stT g ls with|some r=>some r|none=>(V.1 g ls).map λr=>(true,r))=some (true,r)at h;split at h
  ·rename_i r' e;cases h;exact A9z hT e
  ·cases hc:V.1 g ls with
   |none=>rw[hc]at h;cases h
   |some x=>rw[hc]at h;cases h;exact hv.p _ _ _ hc
 ·change M9 (match lkB stB g ls cs with|some r=>some r|none=>(V.2.1 g ls cs:Option (Ae×Ao)).map λr=>(true,r.1,r.2))=some (rs,aR)at h;split at h
  ·rename_i r' e;exact B0F hB (by rw[e];exact h)
  ·cases hc:V.2.1 g ls cs with
   |none=>rw[hc]at h;cases h
   |some x=>rw[hc]at h;exact hv.b _ _ _ _ _ (hc.trans h)
 ·change M9 ((V.2.1 g ls cs).map λr=>(A8W r.2 cs,r.1))=some rs at h;cases hc:V.2.1 g ls cs with
  |none=>rw[hc]at h;cases h
  |some x=>
   rw[hc]at h;obtain⟨h1,h2⟩:=A3r h;have:=B73 h1;exact hv.b _ _ _ _ _ (by rw[hc, <-h2, <-this])
 ·change (V.2.2 g ls).map _=some (true,cs)at h;obtain⟨x,hx,e⟩:=Option.map_eq_some_iff.1 h;cases e;exact hv.n _ _ _ hx
theorem svV{I:Inv}(hb:HB I):∀n,SV I (VV (λf=>Tryz.prog.funcs[f]?) n)
 |0=>⟨λ_ _ _ h=>(by cases h),λ_ _ _ _ _ h=>(by cases h),λ_ _ _ h=>(by cases h)⟩
 |n+1=>by
  have ih:=svV hb n;refine⟨λf ls r h=>?_,λf ls cs rs aR h=>?_,λf ls cs h=>?_⟩
  ·change (bif mem f lvF then _ else _)=_ at h;cases hm:mem f lvF with
   |false=>rw[hm]at h;cases h
   |true=>
    rw[hm,Ap]at h;split at h
    ·rename_i fn hf;have:=A9j (B4N hb ih f fn) hf rfl (C1U f hm) (S:=λls=>A3 (lvE _ _ _ f fn) NN fn ls) λls r h=>⟨NN,h⟩;exact⟨this.enter,this.ok _ _ h⟩
    ·cases h
  ·change (bif mem f lvF then _ else _)=_ at h;cases hm:mem f lvF with
   |false=>rw[hm]at h;cases h
   |true=>
    rw[hm,Ap]at h;split at h
    ·rename_i fn ps hf fa;have:=B2J (B4N hb ih f fn) hf rfl (C1U f hm) (S:=λls cs=>C8 (lvE _ _ _ f fn) NN fn ps ls cs) λls cs r h=>⟨NN,h⟩;exact⟨this.enter,this.ok _ _ _ _ h⟩
    ·cases h
  ·obtain⟨hc,h⟩:=B8 (show(bif Bb f 40&& !O0 ls then _ else none)=some cs from h);simp only[Ax,F0,Bool.not_eq_true']at hc;obtain⟨rfl,ho⟩:=hc;split at h
   ·rename_i fn hf;exact⟨Tryz.call40,D3p (B4N hb ih 40 fn) hf rfl h ho⟩
   ·cases h
def V0(P:Program):VT:=(VV (λf=>P.funcs[f]?) 70).1
theorem D45{I:Inv}(hb:HB I)(f:Az)(hf:mem f lvF=true)(he:EnT f):Sound Aw U6 I f (V0 Aw f):=⟨he,λls r h=>((svV hb 70).p f ls r h).2⟩
theorem C7c:V0 Aw 7 []=some (.one (.bool true)):=by kernel_rfl
theorem D65{I:Inv}(hb:HB I):Sound Aw U6 I 7 (sG S7):=by
 have h0:=D45 hb 7 (by kernel_rfl) Cp;refine⟨Cp,λls r h=>?_⟩;unfold sG S7 at h;split at h
 ·have e:r=.one (.bool true):=by
   have:=D8 (X:=F7) rfl rfl h;exact(Ct this).symm
  subst e;exact h0.ok _ _ C7c
 ·cases h
end Go.Aev
namespace Go.Aev
open Go.Proofs
variable {I:Inv}
theorem B9P(hb:HB I):D4 Aw U6 I 88 (sGB S88):=G2 E88 hb rfl trivial ⟨(P9 hb),(A8o hb),(B0m hb),(C2b hb),trivial⟩ Tryz.func88 rfl De (λls cs r h=>by
 unfold sGB S88 at h;split at h
 ·obtain⟨hc,h⟩:=E8 h;simp only[Ax,F0]at hc;obtain⟨⟨⟨rfl,rfl⟩,⟨rfl,rfl⟩⟩,rfl⟩:=hc;exact G0 (D5T NN) rfl rfl h
 ·cases h)
theorem B7e(hb:HB I):D4 Aw U6 I 266 (sGB A8r):=G2 C5k hb rfl trivial ⟨(A8o hb),(C4Y hb),trivial⟩ Tryz.func266 rfl Dy (λls cs r h=>by
 unfold sGB A8r at h;split at h
 ·obtain⟨hc,h⟩:=E8 h;simp only[Ax,F0]at hc;obtain⟨⟨⟨rfl,rfl⟩,⟨rfl,rfl⟩⟩,rfl⟩:=hc;exact G0 D64 rfl rfl h
 ·cases h)
theorem D66(hb:HB I):D4 Aw U6 I 265 (sGB B4q):=G2 B71 hb rfl ⟨(B6m hb),trivial⟩ ⟨(P9 hb),(A8u hb),(B9P hb),(B7e hb),trivial⟩ Tryz.func265 rfl Cf (λls cs r h=>by
 unfold sGB B4q at h;split at h
 ·obtain⟨hc,h⟩:=E8 h;simp only[Ax,F0]at hc;obtain⟨⟨⟨rfl,rfl⟩,⟨rfl,rfl⟩⟩,rfl⟩:=hc;exact G0 C78 rfl rfl h
 ·cases h)
theorem D6b(hb:HB I):D4 Aw U6 I 267 (sGB B6c):=G2 C05 hb rfl trivial ⟨(P9 hb),(A8u hb),(B7e hb),trivial⟩ Tryz.func267 rfl Ce (λls cs r h=>by
 unfold sGB B6c at h;split at h
 ·obtain⟨hc,h⟩:=E8 h;simp only[Ax,F0]at hc;obtain⟨⟨⟨rfl,rfl⟩,⟨rfl,rfl⟩⟩,rfl⟩:=hc;exact G0 D50 rfl rfl h
 ·cases h)
theorem D7n(hb:HB I):D4 Aw U6 I 268 (sGB B3m):=G2 B7U hb rfl trivial ⟨(C2b hb),(B7e hb),trivial⟩ Tryz.func268 rfl Cd (λls cs r h=>by
 unfold sGB B3m at h;split at h
 ·obtain⟨hc,h⟩:=E8 h;simp only[Ax,F0]at hc;obtain⟨⟨⟨rfl,rfl⟩,⟨rfl,rfl⟩⟩,rfl⟩:=hc;exact G0 D24 rfl rfl h
 ·cases h)
end Go.Aev
namespace Go.Aev
open Go.Proofs
variable {I:Inv}
theorem inv{I:Inv}(hb:HB I){bC:SelT->Int->Aa->Option (Ae×Ao)}(uN:D4 Aw U6 I 263 (sGB (B0W bC)))(uO:D4 Aw U6 I 264 (sGB B2Y))(uP:D4 Aw U6 I 265 (sGB B4q))(uQ:D4 Aw U6 I 267 (sGB B6c))(uR:D4 Aw U6 I 268 (sGB B3m))
  (w:World)(m:Nat->Nat)(hI:I w m)(nm:String)(ls:Ae)(cs:Ao)(rs:Ae)(aR:Ao)(h:M9 (TI bC nm ls cs)=some (rs,aR)):A49 Aw U6 ⟨w,m,λ_=>False,0,λ_=>undef⟩ nm ls cs rs aR:=by
 unfold TI at h;split at h
 ·rename_i x d0 o0 a2 p0 q0 b n0;obtain⟨hc,h⟩:=E8 h;simp only[Ax,F0,decide_eq_true_eq]at hc;obtain⟨rfl,⟨rfl,rfl⟩,⟨rfl,rfl⟩,rfl⟩:=hc;cases x with
  |sel s=>exact A1I hb hI rfl (λv v1 v2 w=>A1u (f:=263) (by kernel_rfl:Tryz.prog.info? 238=some Tryz.t238) rfl rfl rfl rfl (by kernel_rfl) Bz) (uN.ok _ _ _ _ h)
  |root s=>exact A1I hb hI rfl (λv v1 v2 w=>A1u (f:=264) (by kernel_rfl:Tryz.prog.info? 254=some Tryz.t254) rfl rfl rfl rfl (by kernel_rfl) Cg) (uO.ok _ _ _ _ h)
  |field s=>exact A1I hb hI rfl (λv v1 v2 w=>A1u (f:=265) (by kernel_rfl:Tryz.prog.info? 255=some Tryz.t255) rfl rfl rfl rfl (by kernel_rfl) Cf) (uP.ok _ _ _ _ h)
  |value s=>exact A1I hb hI rfl (λv v1 v2 w=>A1u (f:=267) (by kernel_rfl:Tryz.prog.info? 258=some Tryz.t258) rfl rfl rfl rfl (by kernel_rfl) Ce) (uQ.ok _ _ _ _ h)
  |input s=>exact A1I hb hI rfl (λv v1 v2 w=>A1u (f:=268) (by kernel_rfl:Tryz.prog.info? 259=some Tryz.t259) rfl rfl rfl rfl (by kernel_rfl) Cd) (uR.ok _ _ _ _ h)
 ·cases h
theorem B92(hb:HB I):∀d,D4 Aw U6 I 63 (sGB (B17 ((S8 d).1)))/\D4 Aw U6 I 263 (sGB (B0W ((S8 d).2)))
 |0=>by
  exact⟨⟨Cq,λls cs rs aR h=>by
   unfold sGB B17 at h;split at h
   ·obtain⟨_,h⟩:=E8 h;cases h
   ·cases h⟩,⟨Bz,λls cs rs aR h=>by
   unfold sGB B0W at h;split at h
   ·obtain⟨_,h⟩:=E8 h;cases h
   ·cases h⟩⟩
 |d+1=>by
  obtain⟨uS,q8⟩:=B92 hb d;exact⟨D4J (E63 ((S8 d).1) ((S8 d).2)) hb rfl trivial ⟨(P9 hb),(C4Y hb),trivial⟩ (inv hb q8 (C8G hb) (D66 hb) (D6b hb) (D7n hb)) Tryz.func63 rfl Cq (λls cs r h=>by
   unfold sGB B17 at h;split at h
   ·obtain⟨hc,h⟩:=E8 h;simp only[Ax,F0]at hc;obtain⟨⟨⟨rfl,rfl⟩,⟨rfl,rfl⟩⟩,rfl⟩:=hc;exact G0 (D4X NN ((S8 d).1) ((S8 d).2)) rfl rfl h
   ·cases h),G2 (B7i ((S8 d).1) ((S8 d).2)) hb rfl ⟨(C8m hb),trivial⟩ ⟨(P9 hb),uS,(A8u hb),(C1c hb),trivial⟩ Tryz.func263 rfl Bz (λls cs r h=>by
   unfold sGB B0W at h;split at h
   ·obtain⟨hc,h⟩:=E8 h;simp only[Ax,F0]at hc;obtain⟨⟨⟨rfl,rfl⟩,⟨rfl,rfl⟩⟩,rfl⟩:=hc;exact G0 (C8H ((S8 d).1) ((S8 d).2)) rfl rfl h
   ·cases h)⟩
theorem D4T(hb:HB I):D4 Aw U6 I 63 (sGB S63):=(B92 hb DD).1
theorem D7t(hb:HB I):D4 Aw U6 I 87 (sGB S87):=G2 E87 hb rfl trivial ⟨(P9 hb),trivial⟩ Tryz.func87 rfl Df (λls cs r h=>by
 unfold sGB S87 at h;split at h
 ·obtain⟨hc,h⟩:=E8 h;simp only[Ax,F0]at hc;obtain⟨⟨⟨rfl,rfl⟩,⟨rfl,rfl⟩⟩,rfl⟩:=hc;exact G0 (D3f NN) rfl rfl h
 ·cases h)
end Go.Aev
namespace Go.Aev
open Go.Proofs
variable {I:Inv}
theorem C7q(hb:HB I):Sound Aw U6 I 89 (sG S89):=F2 E89 hb rfl trivial trivial Tryz.func89 rfl Dd (λls r h=>by
 unfold sG S89 at h;split at h
 ·exact D8 (D4y NN) rfl h
 ·cases h)
theorem B3W(hb:HB I):D4 Aw U6 I 38 (sGB S38):=G2 E38 hb rfl ⟨(C7q hb),trivial⟩ ⟨(P9 hb),(D4T hb),(A8u hb),(D7t hb),(B9P hb),trivial⟩ Tryz.func38 rfl Du (λls cs r h=>by
 unfold sGB S38 at h;split at h
 ·obtain⟨hc,h⟩:=E8 h;simp only[Ax,F0]at hc;obtain⟨⟨⟨rfl,rfl⟩,⟨rfl,rfl⟩⟩,rfl⟩:=hc;exact G0 B2r rfl rfl h
 ·cases h)
end Go.Aev
namespace Go.Aev
open Go.Proofs
variable {I:Inv}
theorem D6E(hb:HB I):Sound Aw U6 I 12 (sG S12):=F2 E12 hb rfl trivial ⟨(P9 hb),hb.s29,(A8o hb),(B3W hb),trivial⟩ Tryz.func12 rfl Ej (λls r h=>by
 unfold sG S12 at h;split at h
 ·exact D8 (D8M NN) rfl h
 ·cases h)
theorem W2(hb:HB I):D4 Aw U6 I 32 (sGB S32):=G2 E32 hb rfl trivial trivial Tryz.func32 rfl Tryz.call32 (λls cs r h=>by
 unfold sGB S32 at h;split at h
 ·obtain⟨hc,h⟩:=E8 h;simp only[Ax,F0]at hc;obtain⟨⟨rfl,rfl⟩,rfl⟩:=hc;exact G0 B6E rfl rfl h
 ·cases h)
theorem A3j(hb:HB I):D4 Aw U6 I 30 (sGB S30):=G2 E30 hb rfl trivial ⟨(W2 hb),trivial⟩ Tryz.func30 rfl Tryz.call30 (λls cs r h=>by
 unfold sGB S30 at h;split at h
 ·obtain⟨hc,h⟩:=E8 h;simp only[Ax,F0]at hc;obtain⟨⟨rfl,rfl⟩,rfl⟩:=hc;exact G0 B3X rfl rfl h
 ·cases h)
theorem B9u(hb:HB I):D4 Aw U6 I 102 (sGB B02):=G2 C30 hb rfl ⟨hb.s163,hb.s164,trivial⟩ ⟨(W2 hb),trivial⟩ Tryz.func102 rfl Tryz.call102 (λls cs r h=>by
 unfold sGB B02 at h;split at h
 ·obtain⟨hc,h⟩:=E8 h;simp only[Ax,F0]at hc;obtain⟨⟨rfl,rfl⟩,rfl⟩:=hc;exact G0 D7s rfl rfl h
 ·cases h)
end Go.Aev
namespace Go.Aev
open Go.Proofs
variable {I:Inv}
theorem C4b(hb:HB I):∀d,D4 Aw U6 I 45 (sGB (A9m ((R45 d))))
 |0=>by
  exact⟨Dr,λls cs rs aR h=>by
   unfold sGB A9m at h;split at h
   ·obtain⟨_,h⟩:=E8 h;cases h
   ·cases h⟩
 |d+1=>by
  have uT:=C4b hb d;exact G2 (E45 ((R45 d))) hb rfl trivial ⟨(A3j hb),(W2 hb),uT,(B9u hb),trivial⟩ Tryz.func45 rfl Dr (λls cs r h=>by
   unfold sGB A9m at h;split at h
   ·obtain⟨hc,h⟩:=E8 h;simp only[Ax,F0]at hc;obtain⟨⟨rfl,rfl⟩,rfl⟩:=hc;exact G0 (B4m NN ((R45 d))) rfl rfl h
   ·cases h)
theorem B0M(hb:HB I):D4 Aw U6 I 45 (sGB S45):=(C4b hb DD)
theorem C69(hb:HB I):D4 Aw U6 I 145 (sGB B4C):=G2 A5z hb rfl trivial ⟨(A3j hb),(W2 hb),(B0M hb),trivial⟩ Tryz.func145 rfl Tryz.call145 (λls cs r h=>by
 unfold sGB B4C at h;split at h
 ·obtain⟨hc,h⟩:=E8 h;simp only[Ax,F0]at hc;obtain⟨⟨rfl,rfl⟩,rfl⟩:=hc;exact G0 (D8g NN) rfl rfl h
 ·cases h)
end Go.Aev
namespace Go.Aev
open Go.Proofs
variable {I:Inv}
theorem B5Q(hb:HB I):D4 Aw U6 I 72 (sGB S72):=G2 E72 hb rfl trivial ⟨(W2 hb),(C69 hb),trivial⟩ Tryz.func72 rfl Tryz.call72 (λls cs r h=>by
 unfold sGB S72 at h;split at h
 ·obtain⟨hc,h⟩:=E8 h;simp only[Ax,F0]at hc;obtain⟨⟨rfl,rfl⟩,rfl⟩:=hc;exact G0 (D1Y NN) rfl rfl h
 ·cases h)
theorem B6R(hb:HB I):D4 Aw U6 I 90 (sGB S90):=G2 E90 hb rfl trivial ⟨(B9u hb),trivial⟩ Tryz.func90 rfl Tryz.call90 (λls cs r h=>by
 unfold sGB S90 at h;split at h
 ·obtain⟨hc,h⟩:=E8 h;simp only[Ax,F0]at hc;obtain⟨⟨rfl,rfl⟩,rfl⟩:=hc;exact G0 C7W rfl rfl h
 ·cases h)
theorem B0u(hb:HB I):D4 Aw U6 I 49 (sGB S49):=G2 E49 hb rfl trivial ⟨(W2 hb),trivial⟩ Tryz.func49 rfl Tryz.call49 (λls cs r h=>by
 unfold sGB S49 at h;split at h
 ·obtain⟨hc,h⟩:=E8 h;simp only[Ax,F0]at hc;obtain⟨⟨rfl,rfl⟩,rfl⟩:=hc;exact G0 (B4x NN) rfl rfl h
 ·cases h)
theorem B7o(hb:HB I):D4 Aw U6 I 158 (sGB A9R):=G2 C0W hb rfl trivial ⟨(W2 hb),(B0M hb),(B0u hb),(B5Q hb),trivial⟩ Tryz.func158 rfl Tryz.call158 (λls cs r h=>by
 unfold sGB A9R at h;split at h
 ·obtain⟨hc,h⟩:=E8 h;simp only[Ax,F0]at hc;obtain⟨⟨rfl,rfl⟩,rfl⟩:=hc;exact G0 D0e rfl rfl h
 ·cases h)
theorem B8z(hb:HB I):D4 Aw U6 I 91 (sGB S91):=G2 E91 hb rfl trivial ⟨(A3j hb),(W2 hb),(B6R hb),(B7o hb),trivial⟩ Tryz.func91 rfl Tryz.call91 (λls cs r h=>by
 unfold sGB S91 at h;split at h
 ·obtain⟨hc,h⟩:=E8 h;simp only[Ax,F0]at hc;obtain⟨⟨rfl,rfl⟩,rfl⟩:=hc;exact G0 (D7r NN) rfl rfl h
 ·cases h)
end Go.Aev
namespace Go.Aev
open Go.Proofs
variable {I:Inv}
theorem C5E(hb:HB I):D4 Aw U6 I 92 (sGB S92):=G2 E92 hb rfl trivial ⟨(A3j hb),(W2 hb),trivial⟩ Tryz.func92 rfl Tryz.call92 (λls cs r h=>by
 unfold sGB S92 at h;split at h
 ·obtain⟨hc,h⟩:=E8 h;simp only[Ax,F0]at hc;obtain⟨⟨rfl,rfl⟩,rfl⟩:=hc;exact G0 (D7D NN) rfl rfl h
 ·cases h)
theorem D8i(hb:HB I):Sound Aw U6 I 70 (sG S70):=F2 E70 hb rfl trivial trivial Tryz.func70 rfl Tryz.call70 (λls r h=>by
 unfold sG S70 at h;split at h
 ·exact D8 D3V rfl h
 ·cases h)
theorem C2g(hb:HB I):D4 Aw U6 I 143 (sGB A9U):=G2 A7e hb rfl trivial ⟨(W2 hb),trivial⟩ Tryz.func143 rfl Tryz.call143 (λls cs r h=>by
 unfold sGB A9U at h;split at h
 ·obtain⟨hc,h⟩:=E8 h;simp only[Ax,F0]at hc;obtain⟨⟨rfl,rfl⟩,rfl⟩:=hc;exact G0 (D6x NN) rfl rfl h
 ·cases h)
theorem C80(hb:HB I):D4 Aw U6 I 159 (sGB B6l):=G2 C1e hb rfl trivial ⟨(B6R hb),(C2g hb),trivial⟩ Tryz.func159 rfl Tryz.call159 (λls cs r h=>by
 unfold sGB B6l at h;split at h
 ·obtain⟨hc,h⟩:=E8 h;simp only[Ax,F0]at hc;obtain⟨⟨rfl,rfl⟩,rfl⟩:=hc;exact G0 D3j rfl rfl h
 ·cases h)
end Go.Aev
namespace Go.Aev
open Go.Proofs
variable {I:Inv}
theorem C6S(hb:HB I):D4 Aw U6 I 93 (sGB S93):=G2 E93 hb rfl ⟨(D8i hb),trivial⟩ ⟨(W2 hb),(B0u hb),(B5Q hb),(B8z hb),(C2g hb),(B7o hb),(C80 hb),trivial⟩ Tryz.func93 rfl Tryz.call93 (λls cs r h=>by
 unfold sGB S93 at h;split at h
 ·obtain⟨hc,h⟩:=E8 h;simp only[Ax,F0]at hc;obtain⟨⟨rfl,rfl⟩,rfl⟩:=hc;exact G0 (D44 NN) rfl rfl h
 ·cases h)
theorem B0i(hb:HB I):D4 Aw U6 I 39 (sGB S39):=G2 E39 hb rfl trivial ⟨(W2 hb),(B5Q hb),(B6R hb),(B8z hb),(C5E hb),(C6S hb),trivial⟩ Tryz.func39 rfl Tryz.call39 (λls cs r h=>by
 unfold sGB S39 at h;split at h
 ·obtain⟨hc,h⟩:=E8 h;simp only[Ax,F0]at hc;obtain⟨⟨rfl,rfl⟩,rfl⟩:=hc;exact G0 B4G rfl rfl h
 ·cases h)
end Go.Aev
namespace Go.Aev
open Go.Proofs
variable {I:Inv}
theorem D1H(hb:HB I):Sound Aw U6 I 13 (sG S13):=F2 E13 hb rfl trivial ⟨(A3j hb),(W2 hb),(B0i hb),trivial⟩ Tryz.func13 rfl Tryz.call13 (λls r h=>by
 unfold sG S13 at h;split at h
 ·exact D8 (C8s NN) rfl h
 ·cases h)
end Go.Aev
namespace Go.Aev
open Go.Proofs
variable {I:Inv}
theorem D7e(hb:HB I):Sound Aw U6 I 4 (sG S4):=F2 E4 hb rfl ⟨(D65 hb),(C6U hb),(D6E hb),(D1H hb),trivial⟩ trivial Cn rfl Tryz.call4 (λls r h=>by
 unfold sG S4 at h;split at h
 ·exact D8 ev4 rfl h
 ·cases h)
end Go.Aev
namespace Go.Proofs.YtolabkginnkhgaaGreatDoor.printerSystems
open Go.ChangeShapes Go.ChangeMaps Go.WideShapes Go.ChangeAt Go.RowKit Go.Aev
theorem own:ownKnob Tryz.prog.godebug=none:=by kernel_rfl
theorem C7Q{H:Type}{enc:Bm×Value->H}(W:World)(n:Int){a1:Option Addr}{l1 c1:Nat}{d':DataW H}{qH:List MemPlace}(hI:Bv.IB W (wm0 W))
  (h':DataW.Trod enc Aw W 0 (λ_=>true) true 22 (.slice a1 l1 c1) d' qH)(gM:Rows.uptoBulk d'<=1048576):
  Calls Aw 4 #[.slice a1 l1 c1,.int .i64 n] W λe w'=>e=.returned (.bool true)/\Below W.heap.size W w':=by
 obtain⟨m,q9,hB,zg⟩:=D6L h';have hF:=D6F hB (El zg gM) n;have hc:=(D7e hbI).ok [.sl .u8 m none,.int .i64 n] (.one (.bool true)) (by
  show M9 (some (okR [.bool] (F4 m n),M1 [.bool] (F4 m n)))=_;rw[hF];rfl)
 have:=hc W ⟨wm0 W,λ_=>.int .i64 0,λ_=>0,λ_=>0⟩ [.slice a1 l1 c1,.int .i64 n] hI (D1l W) ⟨⟨q9,λ_ _ _ e=>(by cases e),λ_ _ e=>(by cases e)⟩,⟨.int _ _,λ_ _ _ e=>(by cases e),λ_ _ e=>(by cases e)⟩,trivial⟩ (λe=>by cases e) (λlf dc d hd=>by
  rcases Bg.1 dc with rfl|dc
  ·cases hd
  ·rcases Ca.1 dc with rfl;cases hd)
 refine this.mono λe w' ⟨v,g',he,hp⟩=>?_;have hv:v=.bool true:=CRep.bool_inv hp.rep.1;subst hv;exact⟨he,hp.os,hp.tape,hp.output,hp.size,λb hb=>(hp.frame b hb (λe=>by cases e.1)).1⟩
set_option maxRecDepth 100000 in
theorem D83(H:Type)(enc:Bm×Value->H)(W:World)(base:Nat)(args:Array Value)(ds gs:List (DataW H))(iB:List MemPlace)
  (rc:∀(j:Nat) t v,Tryz.f4.params[j]?=some t->args[j]?=some v->Da Aw W .any base t v)
  (hW:DataW.Whole enc Aw Tryz.f4.params.toList Rows.printerSystemsSpec.vars false W args.toList ds gs iB)(hL:laidMetH Aw Rows.printerSystemsUptoRow.laid W)(hk:Rows.uptoSmall H (ds++gs)=true):
  Calls Aw 4 args W λe W'=>∃v,e=.returned v/\Rows.printerSystemsSpec.post enc Aw By false true false false W args v W':=by
 have bh:∀(j:Nat) t v,Tryz.f4.params[j]?=some t->args[j]?=some v->Da Aw W .any base t v:=rc;have wD:=hW;obtain⟨p,q,zh,hV,rfl,lX,ly⟩:=hW;have hA:Fa enc Aw W 0 (λ_=>true) true Tryz.f4.params.toList args.toList ds p:=zh;rw[Dc]at hA bh;obtain⟨v0,zK,d0,oB,p0,q0,au,rfl,rfl,h0,r0⟩:=trodAll_cons hA;obtain⟨v1,iR,d1,zL,p1,q1,uU,rfl,rfl,h1,r1⟩:=trodAll_cons r0;obtain⟨rfl,rfl,rfl⟩:=trodAll_nil r1;obtain⟨rfl,rfl⟩:=trodVars_none hV;have oo:args= #[v0,v1]:=by
  cases args
  simp_all
 subst oo;obtain⟨a1,uV,qg,rfl⟩:=okWide_slice Tryz.underlying22 (bh 0 22 v0 rfl rfl);obtain⟨n,rfl,rfl,rfl,qA⟩:=open_int Db (bh 1 3 v1 rfl rfl) h1;have hb:=D8a hk;have tB:Rows.uptoBulk d0<=1048576:=El (D2U (by simp)) hb;have uW:∀x∈p0,x.block<W.heap.size:=λx hx=>wD.lt x (by simp[hx]);refine(C7Q W n (D8O hL) h0 tB).mono λe W' ⟨he,hb⟩=>?_;subst he;refine⟨_,rfl,[d0,.lit (.int .i64 n)],[],(p0++([]++[]))++[],[],p0++([]++[]),[],wD,?_,?_,?_,hb.frame _,λh=>by cases h⟩
 ·exact Cm (shut_bool Tryz.underlying4 _) trodAll_mk0
 ·have:Fa enc Aw W' 0 (λb=>decide (b<W.heap.size)) true [22,3] [.slice a1 uV qg,.int .i64 n] [d0,.lit (.int .i64 n)] (p0++([]++[])):=
   Cm (Below.trod D3y (by kernel_rfl) (Av (by kernel_rfl)) h0 hb uW) (Cm (shut_int Db qA) trodAll_mk0)
  exact this
 ·exact rfl
theorem reads(os:Os){H:Type}(enc:Bm×Value->H):∃places,DataW.whole enc Aw ((B4M (Cz Aw os ⟨#[], #[],[]⟩)).forCall (λ_ _=>0) ⟨#[], #[.slice none 0 0,.int .i64 0],[]⟩).memory Tryz.f4.params.toList Rows.printerSystemsSpec.vars false #[Br none 0 0,Value.int .i64 0].toList 8=some ([.nil,.lit (.int .i64 0)],[],places):=
 ⟨[],by kernel_rfl⟩
set_option maxRecDepth 100000 in
theorem D7j(os:Os)(fJ:os.Started)(H:Type)(enc:Bm×Value->H)(F:Stop.Interp):
  ReturnsInHanded {} Co os 4 .any ((Rows.OpenSpec.upto Rows.printerSystemsSpec).preRow enc Aw By Rows.printerSystemsUptoRow.domain false Rows.printerSystemsUptoRow.laid) (((Rows.OpenSpec.upto Rows.printerSystemsSpec).at F).post enc Aw By false true false false):=by
 obtain⟨places,hx⟩:=reads os enc;refine returnsInHanded_of_row (C:=Co) (s:=Rows.OpenSpec.upto Rows.printerSystemsSpec) own fJ (by kernel_rfl) Cn
  (witness_row_at (enc:=enc) (C:=Co) false (B4M (Cz Aw os ⟨#[], #[],[]⟩)) #[.slice none 0 0,.int .i64 0] rfl (by kernel_rfl) (by kernel_rfl) (by kernel_rfl)
   (OpenSpec.preRow_of_cond 8 hx (by kernel_rfl) (λk hk=>by cases hk;kernel_rfl) (by kernel_rfl) (D6s os _))) ?_
 intro W base args ds gs iB bh hW _ re _ hL _ _;exact D83 H enc W base args ds gs iB bh hW hL (re _ rfl)
theorem D4k:Rows.PrinterSystemsUptoSaid:=
 OpenClaim.holds_of_cond 4 By rfl rfl rfl rfl rfl rfl rfl ⟨rfl,rfl,rfl,rfl,rfl⟩ rfl rfl rfl rfl rfl (by kernel_rfl) Cn (by kernel_rfl)
  (Av (by kernel_rfl)) (by unfold Func.isWrapper;first|(rw[Au (by decide+kernel)];kernel_rfl)|(rw[At (by decide+kernel)];exact⟨rfl,rfl⟩))
  (λos fJ H enc _ F=>by rw[OpenClaim.pre_eq_preRow];exact D7j os fJ H enc F)
theorem plain(f:Az)(fn:Func)(hf:Tryz.pinned.checked.prog.funcNamed "pergola/pergolalaw11.PrinterSystems" =some f)(zi:Tryz.pinned.checked.prog.funcs[f]?=some fn):
  false=Tryz.pinned.checked.prog.looks []/\∀(j:Nat) t,fn.params[j]?=some t->Tryz.pinned.checked.prog.wantsStandIn t=false:=by
 obtain rfl:f=4:=Ct ((show Tryz.prog.funcNamed "pergola/pergolalaw11.PrinterSystems" =some 4 by kernel_rfl).symm.trans hf)|>.symm
 obtain rfl:fn=By:=(Ct (Tryz.func4.symm.trans zi)).symm;refine⟨by kernel_rfl,λj t ht=>?_⟩;rw[Dc]at ht;obtain h|h:t=22\/t=3:=by simpa using Array.mem_of_getElem? ht
 ·subst h;exact(show Tryz.prog.wantsStandIn 22=false by kernel_rfl)
 ·subst h;exact(show Tryz.prog.wantsStandIn 3=false by kernel_rfl)
theorem card:Rows.PrinterSystemsUptoCardSaid:=
 Claim7.holds_tied_plain_at .later [] _ _ _ _ D4k (λ_ h=>by cases h) (by kernel_rfl) (λ_ h=>by cases h) printerSystemsUpto_row_tie rfl ⟨rfl,rfl⟩ (by kernel_rfl) rfl plain (by kernel_rfl)
end Go.Proofs.YtolabkginnkhgaaGreatDoor.printerSystems
