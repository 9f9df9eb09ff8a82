/- Proved here: PrinterEnds, that the law answers true, for every two sources up to the size that the statement sets. Conditions: the statement's own, that the two tables of unicode/utf8 hold what the program's own text gives them. -/
import Derived.Test.YtolabkginnkhgaaGreatDoorCards
import Derived.Test.YtolabkginnkhgaaGreatDoorTie
import Derived.Test.YtolabkginnkhgaaGreatDoorX4
set_option maxRecDepth 100000
set_option linter.unusedVariables false
set_option linter.unusedSimpArgs false
set_option linter.defProp false
open Option renaming some->J,none->O
open Bool renaming true->Z,false->V
open Go.Proofs.Tryz
open Go.Proofs.Tryz renaming prog->Aaa,f33->Aah,f6->Aai,call263->Aaj,call268->Aal,call267->Aam,call265->Aan,call264->Aao,func6->Aar,checked->Aas,call7->Aat,call63->Aau,call153->Aav,call152->Aaw,underlying22->Aa0,params6->Aa1,call9->Aa2,call89->Aa3,call88->Aa4,call87->Aa5,call85->Aa6,call84->Aa7,call83->Aa8,call82->Aa9,call81->Aba,call80->Abb,call79->Abc,call78->Abd,call68->Abe,call67->Abf,call66->Abg,call44->Abh,call38->Abi,call37->Abj,call36->Abk,call35->Abl,call28->Abm,call266->Abn,call21->Abo,call189->Abp,call157->Abq,call154->Abr,call151->Abs,call150->Abt,call15->Abu,call142->Abv,call141->Abw,call12->Abx,call114->Aby,call11->Abz
open Go renaming FuncId->Aab,wpList_plain->Aad,wpList_nil->Aae,TypeId->Aaf,trodAll_cons_mk->Aaq
open Nat renaming beq->Aac,blt->Aax
open Go.World renaming cell?->Aag,holding->Aay
open Go.Value renaming slice->Aak,okWide->Aaz
open Go.IntKind renaming wrap->Aap
open Go.Exit renaming inBlock->Ab0
open Go.DataW renaming TrodAll->Ab1,Trod->Ab2
open Go.RowKit.Below renaming trod->Ab3
namespace Go.Aev
open Go.Proofs
def C9v{w:World}{sv:Value}{de:rg}{ao:Gy}(h:ArrN w 1 sv (de::ao).length ((de::ao).reverse.map F3)):
  ∃b cap,sv=.slice (J ⟨b,0,O⟩) (ao.length+1) cap/\ao.length+1<=cap/\w.cell? ⟨b,0+ao.length*1,O⟩=J (F3 de):=by
 obtain⟨b,cap,hv,_,_,bw,hc⟩:=h.blk GN;refine⟨b,cap,hv,bw,?_⟩;rw[HL,JB];exact(hc ao.length _ GN).1
structure RunI(w0:World)(m0:Nat->Nat)(w:World)(m:Nat->Nat)(ρ:Nat->Nat)(sv:Value)(st:Gy)(bz:Nat):Prop where
 sys:Sys w0 m0 (λ_=>False) w m ρ
 arr:ArrN w 1 sv st.length (st.reverse.map F3)
 role:∀b,G1 sv=J b->ρ b=3
 z:Bk w bz [.int .i64 0,.int .i64 0]
 zr:ρ bz=1
def RunI.z0{w0 w:World}{m0 m ρ:Nat->Nat}{sv:Value}{st:Gy}{bz:Nat}(h:RunI w0 m0 w m ρ sv st bz):∀b,w.heap.size<=b->m b=0:=h.sys.z
def RunI.step{w0 w w':World}{m0 m m' ρ:Nat->Nat}{sv:Value}{st:Gy}{bz:Nat}{S:Nat->Prop}(h:RunI w0 m0 w m ρ sv st bz)(k:KM w m w' m' S)(hS:∀b, ¬S b)(r:Nat)(hr:r≠0->m'=m):RunI w0 m0 w' m' (G0 ρ w.heap.size r) sv st bz:=by
 refine⟨h.sys.step k (λb _ hs=>(hS b hs).elim) (λb _ hs=>(hS b hs).elim) r (λh0 b hb=>by rw[hr h0];exact h.z0 b hb),k.arr h.arr λb _=>hS b,λb hb=>?_,k.bk h.z (hS bz),?_⟩;rw[I0 (h.arr.lt hb)];exact h.role b hb;rw[I0 h.z.lt];exact h.zr
def RunI.tok{w0 w w':World}{m0 m ρ:Nat->Nat}{sv:Value}{st:Gy}{bz bt:Nat}(h:RunI w0 m0 w m ρ sv st bz)(k:KM w m w' m (λb=>b=bt))(ht:ρ bt=2):RunI w0 m0 w' m ρ sv st bz:=by
 refine⟨h.sys.stay k (λb _ hs=>by rw[hs,ht];decide),k.arr h.arr λb hb hs=>?_,h.role,k.bk h.z λhs=>?_,h.zr⟩;have:=h.role b hb;rw[hs,ht]at this;cases this;have:=h.zr;rw[hs,ht]at this;cases this
def C5x(w0:World)(m0:Nat->Nat)(k:Int)(p:A4)(Q:Exit->Act->World->Prop):Prop:=
 ∀e a w m,(e=.normal\/e=.ret)->a.defers=[]->(results Aah a.tmps).run Aaa w=.ok (.tuple #[.int .i64 k,.agg (H7 p).toArray]) w->KM w0 m0 w m (λ_=>False)->Q e a w
def B3R{w0 w:World}{m0 m:Nat->Nat}{k:Int}{p:A4}{Q:Exit->Act->World->Prop}(hQ:C5x w0 m0 k p Q){e:Exit}{a:Act}{bz:Nat}(he:e=.normal\/e=.ret)(tm:Tm a 93 [(8,.int .i64 k),(9,.pointer (J ⟨bz,0,O⟩))])(hb:Bk w bz (H7 p))(hk:KM w0 m0 w m (λ_=>False)):Q e a w:=by
 refine hQ e a w m he tm.dfr ?_ hk;have h8:=tm.get 8 _ rfl;have h9:=tm.get 9 _ rfl;have:=VS Aaa Aah a w [.tmp 8,.cell 9 44] GM (vs:=[.int .i64 k,.agg (H7 p).toArray]) (λf hf=>by
  have hl:(loadVar 44 ⟨bz,0,O⟩).run Aaa w=.ok (.agg (H7 p).toArray) w:=Yf A8w Lh rfl (λj u hj=>by rw[HL];exact hb.cell hj);simp[hf.tmp,hf.cell,h8,h9,asAddr,hl])
 exact this
def D6H{w0:World}{m0:Nat->Nat}{Q:Exit->Act->World->Prop}{vr vt vc:Value}{depth op:Int}{at_ bz:Nat}{c ao:Gy}{a:Act}{w:World}{m ρ:Nat->Nat}{sv:Value}
  (aA:c.length+ao.length<=1099511627776)(hi:RunI w0 m0 w m ρ sv ao bz)(mA:CRep U6 w m (.sl .str c O) vc)(tm:Tm a 93 [(0,vr),(2,vt),(3,.int .i64 depth),(9,.pointer (J ⟨bz,0,O⟩)),(10,sv),(11,.int .i64 op),(12,.int .i64 (at_:Int)),(15,vc),(17,.int .i64 ((c.length:Int) - 1))])
  (hk:∀a w m ρ sv,Tm a 93 [(0,vr),(2,vt),(3,.int .i64 depth),(9,.pointer (J ⟨bz,0,O⟩)),(10,sv),(11,.int .i64 op),(12,.int .i64 (at_:Int))]->RunI w0 m0 w m ρ sv (c++ao) bz->Ext w0 m0 w m->Q .normal a w):
  (C0 Aah [1,1,1,1,0,0,0,1,0,1,1,1,0,1,0,1,1,0,1]).wp Aaa Q a w:=by
 refine wbl 2 rfl ?_;refine wlp rfl (λn a w=>∃m ρ sv,n<=c.length/\Tm a 93 [(0,vr),(2,vt),(3,.int .i64 depth),(9,.pointer (J ⟨bz,0,O⟩)),(10,sv),(11,.int .i64 op),(12,.int .i64 (at_:Int)),(15,vc),(17,.int .i64 ((n:Int) - 1))]/\RunI w0 m0 w m ρ sv (c.drop n++ao) bz/\CRep U6 w m (.sl .str c O) vc) c.length ⟨m,ρ,sv,GU _,tm,by rw[IL,Hj];exact hi,mA⟩ ?_;clear tm hi mA m ρ sv a w;rintro n a w ⟨m,ρ,sv,hn,tm,hi,mA⟩;refine wsq rfl ?_;refine wsq rfl ?_;refine C5 13 2 rfl rfl ?_;refine Pm tm λa tm=>?_;refine Pv tm (B5y tm) λa tm=>?_;refine Wn ?_;refine wcn tm rfl _ rfl ?_;cases n with
 |zero=>
  rw[GI GN];refine Si 2 rfl ?_;simp only[Exit.then,Ab0,if_true];have tm:=tm.keep [0,2,3,9,10,11,12];exact hk a w m ρ sv tm hi hi.sys.km.ext
 |succ n=>
  rw[GJ GN];refine M2 rfl ?_;show(C0 _ _).wp _ _ _ _;have tm:=tm.keep [0,2,3,9,10,11,12,15,17];have po:(((n+1:Nat):Int) - 1)=(n:Int):=FK;rw[po]at tm;have jS:c[n]?=J c[n]:=GE FK;obtain⟨b,off,cap,hv,aH⟩:=B9K mA jS;refine wsq rfl ?_;refine wbl 3 rfl ?_;refine C5 15 8 rfl rfl ?_;refine Pm tm λa tm=>?_;refine Pm tm λa tm=>?_;refine Pm tm λa tm=>?_;refine Pv tm (Ly tm W4 tz9 rfl rfl hv rfl rfl FK) λa tm=>?_;refine Pv tm (LD tm pl9 rfl rfl (aH)) λa tm=>?_;refine Aad rfl λK hK=>OQ tm W4 tz9 rfl rfl rfl rfl rfl (us:=[F3 c[n]]) rfl rfl rfl GO GO λa tm=>hK _ _ ?_;have hz:=hi.z0;have eR:=Y1 w m (.cells [F3 c[n]].toArray 9) hz;have cD:=hi.step eR (λ_ h=>h) 0 (λh=>absurd rfl h);have zV:Bk (w.alloc (.cells [F3 c[n]].toArray 9)) w.heap.size [F3 c[n]]:=Sk;have fc:ArrN (w.alloc (.cells [F3 c[n]].toArray 9)) 1 (.slice (J ⟨w.heap.size,0,O⟩) 1 1) 1 [F3 c[n]]:=QY (w:=w) rfl rfl (GU _) GN (λj x hj=>by simpa using hj);obtain⟨ie,z,e1,e2,e3,e4,e5⟩:=Lw tz9;have eZ:(c.drop (n+1)++ao).length<=1099511627776:=by rw[Fd,IR];omega
  obtain⟨pL,w2,af,ct,cK,dM⟩:=B3j (P:=Aaa) (t:=122) (u:=122) (ty:=122) (e:=9) (y:=.slice (J ⟨w.heap.size,0,O⟩) 1 1) (k:=1) (ys:=[F3 c[n]]) (m:=m) W4 (.inl ⟨9,W4⟩) e1 e2 e4 (by rw[e5];rfl) cD.arr (by simp[Builtin.lenOf]) (fc.first _) rfl (λx hx=>by rcases HW.1 hx with rfl;rfl) (λb hb=>cD.sys.zr b (by rw[cD.role b hb];decide)) cD.z0 (by rw[e3];omega) (by rw[e3];decide);refine Aad rfl λK hK=>B02 tm rfl rfl rfl rfl rfl rfl rfl rfl af λa tm=>hK _ _ ?_;refine Pa tm λa tm=>?_;refine Aae ?_;show(C0 _ _).wp _ _ _ _;refine C5 14 3 rfl rfl ?_;refine Pm tm λa tm=>?_;refine Pv tm (OP tm) λa tm=>?_;refine Pa tm λa tm=>?_;refine Aae ?_;have cL:RunI w0 m0 w2 m (G0 (G0 ρ w.heap.size 0) (w.alloc (.cells [F3 c[n]].toArray 9)).heap.size 3) pL (c.drop n++ao) bz:=by
   have jZ:c.drop n=c[n]::c.drop (n+1):=(Ht FK);refine⟨cD.sys.stepM cK (λb _ hs=>by rw[cD.role b hs];decide) 3,?_,λb hb=>?_,cK.bk cD.z λhs=>?_,?_⟩;rw[jZ,IZ,Fr,JK,Ic];exact ct;rcases dM b hb with h|h;rw[I0 (cD.arr.lt h)];exact cD.role b h;rw[LE h];have:=cD.role bz hs;rw[cD.zr]at this;cases this;rw[I0 cD.z.lt];exact cD.zr
  have hw:Aap .i64 ((n:Int) - 1)=(n:Int) - 1:=Pn FK FK;rw[hw]at tm;refine⟨n,HX n,m,_,pL,FK,?_,cL,(mA.mono u6_ok eR.ext).mono u6_ok cK.ext⟩;exact tm.sub (by repeat' constructor)
def B93{I:Inv}(hb:HB I){w0:World}{m0:Nat->Nat}(hI:I w0 m0)(hz:∀b,w0.heap.size<=b->m0 b=0){bS:List D4}{toks:Gu}{depth op br:Int}{k:Int}{p:A4}{Q:Exit->Act->World->Prop}{vr vt vf:Value}{n at_ bz bt:Nat}{de:rg}{ao:Gy}{t:A0}{m ρ:Nat->Nat}
  (iN:toks.length<=1099511627776)(dt:CRep U6 w0 m0 (.sl .rule bS O) vr)(oH:CRep U6 w0 m0 (.sl .tok toks O) vt)
  (af:N9 bS toks depth n ao (bif Aax (at_+1) toks.length then at_+1 else at_) (Aap .i64 (op+br))=J (k,p))(h5:okR [.int .i64] (Kp de)=Z)(vg:lI (gL (Kp de) 0)=br)(so:ao.length<=1099511627776)(jJ:at_<toks.length)
  {a:Act}{w:World}(tm:Tm a 93 [(0,vr),(2,vt),(3,.int .i64 depth),(9,.pointer (J ⟨bz,0,O⟩)),(10,vf),(11,.int .i64 op),(12,.int .i64 (at_:Int)),(13,F3 de),(14,.pointer (J ⟨bt,0,O⟩))])(hi:RunI w0 m0 w m ρ vf ao bz)(df:Bk w bt (P7 t))(fM:ρ bt=2)
  (hk:∀a w n',n'<n+1/\(∃st at_ op m ρ sv,N9 bS toks depth n' st at_ op=J (k,p)/\Tm a 93 [(0,vr),(2,vt),(3,.int .i64 depth),(9,.pointer (J ⟨bz,0,O⟩)),(10,sv),(11,.int .i64 op),(12,.int .i64 (at_:Int))]/\RunI w0 m0 w m ρ sv st bz/\st.length<=1099511627776)->Q .normal a w):(C0 Aah [1,1,1,1,0,0,0,1,0,1,1,1,1,1,1]).wp Aaa Q a w:=by
 refine wsq rfl ?_;refine C5 20 5 rfl rfl ?_;refine Pm tm λa tm=>?_;refine Pm tm λa tm=>?_;refine Aad rfl λK hK=>MA tm rfl rfl rfl (B3a hb).enter rfl (Vh tm rfl rfl) (Mr (B3a hb) (ls:=[.str de]) (Nz (r:=.one (.int .i64 (lI (gL (Kp de) 0)))) rfl h5) (hb.mono _ _ _ _ hI hi.sys.km.ext) hi.z0 ⟨.str _,trivial⟩ rfl) ?_;rintro e w1 ⟨v1,m1,rfl,k1,e1⟩;have fM:=(I0 (r:=0) df.lt).trans fM;have df:=k1.bk df (λh=>h);have hi:=hi.step k1 (λ_ h=>h) 0 (λh=>absurd rfl h);obtain rfl:=CRep.int_inv e1;rw[vg];refine⟨_,rfl,λa tm=>hK _ _ ?_⟩;refine Pv tm (QZ tm) λa tm=>?_;refine Pa tm λa tm=>?_;refine Aae ?_;have tm:=tm.keep [0,2,3,9,10,11,12,13,14];show(C0 _ _).wp _ _ _ _;refine wsq rfl ?_;obtain⟨tb,nj,rH,nV,_⟩:=Xn oH (GE jJ);refine C5 21 5 rfl rfl ?_;refine Pm tm λa tm=>?_;refine Pv tm (QZ tm) λa tm=>?_;refine Pm tm λa tm=>?_;refine Pv tm (Lx tm B1M rfl rfl rfl rfl rfl nV) λa tm=>?_;refine Pv tm (C2k tm) λa tm=>?_;refine Wn ?_;rw[B2Z FK]at tm;refine wcn tm rfl _ rfl ?_;have tm:=tm.keep [0,2,3,9,10,11,12,13,14];by_cases aE:at_+1<toks.length
 rw[GJ (by simpa using (FK:((at_:Int)+1<(toks.length:Int))))];rw[show Aax (at_+1) toks.length=Z by rw[HU];exact aE,GD]at af;refine C5 22 3 rfl rfl ?_;refine Pm tm λa tm=>?_;refine Pv tm (QZ tm) λa tm=>?_;refine Pa tm λa tm=>?_;refine Aae ?_;rw[B2Z FK]at tm;exact hk _ _ n ⟨HX n,ao,at_+1,_,_,_,vf,af,tm.sub ⟨rfl,rfl,rfl,rfl,rfl,rfl,rfl,trivial⟩,hi,so⟩
 rw[GI (by simpa using (FK:((toks.length:Int)<=(at_:Int)+1)))];rw[show Aax (at_+1) toks.length=V by rw[Bool.eq_false_iff];intro h;rw[HU]at h;exact aE h,GF]at af;refine M2 rfl ?_;exact hk _ _ n ⟨HX n,ao,at_,_,_,_,vf,af,tm.sub ⟨rfl,rfl,rfl,rfl,rfl,rfl,rfl,trivial⟩,hi,so⟩
def D1T{I:Inv}(hb:HB I){w0:World}{m0:Nat->Nat}(hI:I w0 m0)(hz:∀b,w0.heap.size<=b->m0 b=0){bS:List D4}{first:rg}{toks:Gu}{depth:Int}{k:Int}{p:A4}{Q:Exit->Act->World->Prop}{vr vt:Value}{N:Nat}
  (af:N9 bS toks depth N [first] 0 0=J (k,p))(iN:toks.length<=1099511627776)(dt:CRep U6 w0 m0 (.sl .rule bS O) vr)(oH:CRep U6 w0 m0 (.sl .tok toks O) vt)(hQ:C5x w0 m0 k p Q){a:Act}(tm:Tm a 93 [(0,vr),(1,F3 first),(2,vt),(3,.int .i64 depth)]):
  (C0 Aah []).wp Aaa Q a w0:=by
 refine wsq rfl ?_;refine C5 0 2 rfl rfl ?_;refine Pa tm λa tm=>?_;refine Aad rfl λK hK=>Qa tm Lh rfl rfl rfl λa tm=>hK _ _ ?_;refine Wn ?_;refine wsq rfl ?_;refine C5 1 3 rfl rfl ?_;refine Pm tm λa tm=>?_;refine Aad rfl λK hK=>OQ tm W4 tz9 rfl rfl rfl rfl rfl (us:=[F3 first]) rfl rfl rfl GO GO λa tm=>hK _ _ ?_;refine Pa tm λa tm=>?_;refine Wn ?_;refine wsq rfl ?_;refine C5 2 1 rfl rfl ?_;refine Pa tm λa tm=>?_;refine Wn ?_;refine wsq rfl ?_;refine C5 3 1 rfl rfl ?_;refine Pa tm λa tm=>?_;refine Aae ?_;have hi:∃ρ sv,sv=Aak (J ⟨(w0.alloc (.cells [.int .i64 0,.int .i64 0].toArray 44)).heap.size,0,O⟩) 1 1/\RunI w0 m0 ((w0.alloc (.cells [.int .i64 0,.int .i64 0].toArray 44)).alloc (.cells [F3 first].toArray 9)) m0 ρ sv [first] w0.heap.size:=by
  have s0:Sys w0 m0 (λ_=>False) w0 m0 (λ_=>0):=⟨KM.refl _ _ _ hz,λb h=>absurd rfl h,λb _ h=>absurd rfl h⟩;have k1:=Y1 w0 m0 (.cells [.int .i64 0,.int .i64 0].toArray 44) hz;have s1:=s0.stepM k1 (λ_ _ h=>h.elim) 1;have b1:Bk (w0.alloc (.cells [.int .i64 0,.int .i64 0].toArray 44)) w0.heap.size [.int .i64 0,.int .i64 0]:=Sk;have k2:=Y1 (w0.alloc (.cells [.int .i64 0,.int .i64 0].toArray 44)) m0 (.cells [F3 first].toArray 9) s1.z;refine⟨_,_,rfl,s1.stepM k2 (λ_ _ h=>h.elim) 3,QY rfl rfl (GU _) GN (λj x hj=>by simpa using hj),λb hb=>?_,k2.bk b1 (λh=>h),?_⟩;rw[X7 GO]at hb;cases hb;exact LE (GU _);rw[I0 b1.lt];exact LE (GU _)
 obtain⟨ρ,sv,jO,hi⟩:=hi;rw[<-jO]at tm;generalize zb:w0.heap.size=bz at hi tm;generalize ((w0.alloc (.cells [.int .i64 0,.int .i64 0].toArray 44)).alloc (.cells [F3 first].toArray 9))=w at hi ⊢;clear jO zb;show(C0 _ _).wp _ _ _ _;refine wsq rfl ?_;refine wbl 0 rfl ?_;refine wlp rfl (λn a w=>∃st at_ op m ρ sv,N9 bS toks depth n st at_ op=J (k,p)/\Tm a 93 [(0,vr),(2,vt),(3,.int .i64 depth),(9,.pointer (J ⟨bz,0,O⟩)),(10,sv),(11,.int .i64 op),(12,.int .i64 (at_:Int))]/\RunI w0 m0 w m ρ sv st bz/\st.length<=1099511627776) N ⟨[first],0,0,m0,ρ,sv,af,tm.sub ⟨rfl,rfl,rfl,rfl,rfl,rfl,rfl,trivial⟩,hi,GN⟩ ?_;clear tm hi ρ sv a w af;rintro n a w ⟨st,at_,op,m,ρ,sv,af,tm,hi,so⟩;cases n with
 |zero=>cases af
 |succ n=>
  obtain⟨pa,cap,jO⟩:=hi.arr.len;refine wsq rfl ?_;refine wsq rfl ?_;refine C5 4 3 rfl rfl ?_;refine Pm tm λa tm=>?_;refine Pv tm (Lx tm W4 rfl rfl rfl rfl rfl jO) λa tm=>?_;refine Pv tm (B2c tm) λa tm=>?_;refine Wn ?_;refine wcn tm rfl _ rfl ?_;cases st with
 |nil=>
  simp only[N9,GX,He]at af;obtain⟨rfl,rfl⟩:=af;rw[GI GN];refine Si 0 rfl ?_;simp only[Exit.then,Ab0,if_true];show(C0 _ _).wp _ _ _ _;refine wsq rfl ?_;obtain⟨q1,q2,q3⟩:=hi.z.store (m:=m) Aaa (off:=0) (vs:=[.int .i64 0,.int .i64 0]) GO (λv hv=>by rcases HC.1 hv with rfl|hv;rfl;rcases HC.1 hv with rfl|hv;rfl;cases hv) (hi.sys.zr bz (by rw[hi.zr];decide)) hi.z0;refine C5 23 3 rfl rfl ?_;refine Pv tm (Sh tm rfl rfl (cs:= #[.int .i64 0,.int .i64 0]) GM) λa tm=>?_;refine Pa tm λa tm=>?_;refine Ps tm Lh q1 ?_;refine Wn ?_;refine Mq rfl ?_;exact B3R hQ (.inr rfl) (tm.sub ⟨rfl,rfl,trivial⟩) q2 (hi.sys.stay q3 (λb _ hs=>by rw[hs,hi.zr];decide)).km
 |cons de ao=>
  rw[GJ GN];refine M2 rfl ?_;show(C0 _ _).wp _ _ _ _;refine wbl 1 rfl ?_;simp only[N9]at af;split at af;cases af;rename_i t nf;obtain⟨sb,ng,jI,nh,iy⟩:=C9v hi.arr;rw[jI]at jO tm;rw[Fr]at so;have jk:Aap .i64 (((ao.length+1:Nat):Int) - 1)=(ao.length:Int):=by rw[Pn FK FK];omega
  have tm:=tm.keep [0,2,3,9,10,11,12];refine wsq rfl ?_;refine C5 5 7 rfl rfl ?_;refine Pm tm λa tm=>?_;refine Pm tm λa tm=>?_;refine Pv tm (Lx tm W4) λa tm=>?_;refine Pv tm (OP tm) λa tm=>?_;refine Pv tm (Ly tm W4 tz9 rfl rfl rfl rfl jk FK) λa tm=>?_;refine Pv tm (LD tm pl9 rfl rfl (iy)) λa tm=>?_;refine Pa tm λa tm=>?_;refine Wn ?_;refine wsq rfl ?_;refine C5 6 6 rfl rfl ?_;refine Pm tm λa tm=>?_;refine Pm tm λa tm=>?_;refine Pv tm (Lx tm W4) λa tm=>?_;refine Pv tm (OP tm) λa tm=>?_;refine Pv tm (C1q tm W4 tz9 rfl rfl rfl rfl jk FK nh) λa tm=>?_;refine Pa tm λa tm=>?_;refine Wn ?_;refine wsq rfl ?_;have cV:=hi.arr;rw[jI]at cV;have ct:=cV.cut (k:=ao.length) GN;have ni:((de::ao).reverse.map F3).take (ao.length*1)=ao.reverse.map F3:=by
   rw[JB,JK,Ic,Jl GN];exact Iw GN
  rw[ni]at ct;have hi:RunI w0 m0 w m ρ (.slice (J ⟨sb,0,O⟩) ao.length ng) ao bz:=⟨hi.sys,ct,λb hb=>hi.role b (by rw[jI];exact(B4M (m:=ao.length)).trans hb),hi.z,hi.zr⟩;generalize yY:(Aak (J ⟨sb,0,O⟩) ao.length ng)=vf at hi tm;obtain⟨tb,nj,rH,nV,sp⟩:=Xn (oH.mono u6_ok hi.sys.km.ext) nf;have jJ:=(HN.1 nf).1;have tm:=tm.keep [0,2,3,9,10,11,12,13];refine C5 7 6 rfl rfl ?_;refine Pm tm λa tm=>?_;refine Pm tm λa tm=>?_;refine Pv tm (Ly tm B1M Z3 rfl rfl nV rfl rfl jJ) λa tm=>?_;refine Pv tm (Lz tm Xl Z3 rfl rfl rfl sp) λa tm=>?_;refine Aad rfl λK hK=>Qa tm Z3 rfl rfl rfl λa tm=>hK _ _ ?_;have eR:=Y1 w m (.cells [.int .i64 0,.int .i64 0,.int .i64 0,.int .i64 0,.int .i64 0,.string ⟨[].toArray⟩,.string ⟨[].toArray⟩].toArray 102) hi.z0;have hi:=hi.step eR (λ_ h=>h) 2 (λ_=>rfl);have df:Bk (w.alloc (.cells [.int .i64 0,.int .i64 0,.int .i64 0,.int .i64 0,.int .i64 0,.string ⟨[].toArray⟩,.string ⟨[].toArray⟩].toArray 102)) w.heap.size _:=Sk;have fM:G0 ρ w.heap.size 2 w.heap.size=2:=LE (GU _);generalize yZ:w.heap.size=bt at hi df fM tm;obtain⟨q1,q2,q3⟩:=df.store (m:=m) Aaa (off:=0) (vs:=P7 t) (by simp[P7]) (λv hv=>by simp only[P7,HC,Hh,or_false]at hv;rcases hv with rfl|rfl|rfl|rfl|rfl|rfl|rfl<;>rfl) (hi.sys.zr bt (by rw[fM];decide)) hi.z0;refine Ps tm Z3 q1 ?_;refine Aae ?_;have hi:=hi.tok q3 fM;have df:Bk _ bt (P7 t):=q2;generalize (C7 _ bt 0 (P7 t))=w at hi df ⊢;generalize G0 ρ bt 2=ρ at hi fM;have tm:=tm.keep [0,2,3,9,10,11,12,13,14];show(C0 _ _).wp _ _ _ _;refine wsq rfl ?_;refine wsq rfl ?_;cases h1:okR [.bool] (Ki de)with
  |false=>rw[h1]at af;cases af
  |true=>
   rw[h1]at af;simp only[GD]at af;refine C5 8 2 rfl rfl ?_;refine Pm tm λa tm=>?_;refine Aad rfl λK hK=>MA tm rfl rfl rfl (B38 hb).enter rfl (Vh tm rfl rfl) (Mr (B38 hb) (ls:=[.str de]) (Nz (r:=.one (.bool (lB (gL (Ki de) 0)))) rfl h1) (hb.mono _ _ _ _ hI hi.sys.km.ext) hi.z0 ⟨.str _,trivial⟩ rfl) ?_;rintro e w1 ⟨v1,m1,rfl,k1,e1⟩;have fM:=(I0 (r:=0) df.lt).trans fM;have df:=k1.bk df (λh=>h);have hi:=hi.step k1 (λ_ h=>h) 0 (λh=>absurd rfl h);obtain rfl:=CRep.bool_inv e1;refine⟨_,rfl,λa tm=>hK _ _ ?_⟩;refine Wn ?_;refine wcn tm rfl _ rfl ?_;have tm:=tm.keep [0,2,3,9,10,11,12,13,14]
   skip
   cases h2:lB (gL (Ki de) 0)with
  |true=>
   rw[h2]at af;simp only[GD]at af;rw[GJ rfl];cases h3:okR [.slc .str,.bool] (Kr bS de t)with
   |false=>rw[h3]at af;cases af
   |true=>
    rw[h3]at af;simp only[GD]at af;refine wsq rfl ?_;refine C5 9 9 rfl rfl ?_;refine Pm tm λa tm=>?_;refine Pm tm λa tm=>?_;refine Pv tm (Lz tm Xl Z3 rfl rfl rfl (λj u hj=>by rw[HL];exact df.cell hj)) λa tm=>?_;refine Aad rfl λK hK=>MA tm rfl rfl rfl (B82 hb).enter rfl (C81 tm rfl rfl rfl rfl) (Mr (B82 hb) (ls:=[.sl .rule bS O,.str de,.agg .tok t]) (Nz (r:=.tup [.sl .str (lL .str (gL (Kr bS de t) 0)) O,.bool (lB (gL (Kr bS de t) 1))]) rfl h3) (hb.mono _ _ _ _ hI hi.sys.km.ext) hi.z0 ⟨dt.mono u6_ok hi.sys.km.ext,.str _,B2i t,trivial⟩ rfl) ?_;rintro e w1 ⟨v1,m1,rfl,k1,e1⟩;have fM:=(I0 (r:=0) df.lt).trans fM;have df:=k1.bk df (λh=>h);have hi:=hi.step k1 (λ_ h=>h) 0 (λh=>absurd rfl h);obtain⟨j8,rfl,e1⟩:=e1;obtain⟨vc,rfl,mA⟩:∃vc,j8=[vc,.bool (lB (gL (Kr bS de t) 1))]/\CRep U6 w1 m1 (.sl .str (F0 (gL (Kr bS de t) 0)) O) vc:=by
     match j8,e1 with
     |[x,y],⟨e2,e3,_⟩=>exact⟨x,by rw[CRep.bool_inv e3],e2⟩
    refine⟨_,rfl,λa tm=>hK _ _ ?_⟩;refine Pm tm λa tm=>?_;refine Pv tm (Ye tm) λa tm=>?_;refine Pv tm (Ye tm) λa tm=>?_;refine Pa tm λa tm=>?_;refine Pa tm λa tm=>?_;refine Aae ?_;have tm:=tm.keep [0,2,3,9,10,11,12,13,14,15,16];show(C0 _ _).wp _ _ _ _;refine wsq rfl ?_;refine wsq rfl ?_;refine C5 10 2 rfl rfl ?_;refine Pm tm λa tm=>?_;refine Pv tm (B2q tm) λa tm=>?_;refine Wn ?_;refine wcn tm rfl _ rfl ?_;cases h4:lB (gL (Kr bS de t) 1)with
   |false=>
    rw[h4]at af;simp only[GF,GX,He]at af;obtain⟨rfl,rfl⟩:=af;rw[GJ (show(!V)=Z from rfl)];refine wsq rfl ?_;have vh:∀(j:Nat) u,(H7 t.pos)[j]?=J u->Aag _ ⟨bt,0+1+j,O⟩=J u:=λj u hj=>df.cell (j:=0+1+j) (u:=u) (by match j,hj with|0,hj=>exact hj|1,hj=>exact hj);refine B3V (S:=λw'=>∀(j:Nat) u,(H7 t.pos)[j]?=J u->w'.cell? ⟨bt,0+1+j,O⟩=J u) rfl 11 4 rfl rfl ?_;have jf:=Vi hi.z0;obtain⟨q1,q2,q3⟩:=(jf.bk hi.z (λh=>h)).store (m:=_) Aaa (off:=0) (vs:=H7 t.pos) (by simp[H7]) (λv hv=>by simp only[H7,HC,Hh,or_false]at hv;rcases hv with rfl|rfl<;>rfl) (hi.sys.zr bz (by rw[hi.zr];decide)) jf.zero;have aP:bt≠bz:=λe=>by have h9:=hi.zr;rw[<-e]at h9;rw[fM]at h9;cases h9
    have HS:∀(j:Nat) u,(H7 t.pos)[j]?=J u->Aag _ ⟨bt,0+1+j,O⟩=J u:=vh;refine Dt tm 0 rfl (by exact HS) (λw hS=>U7 tm B2o) λa tm=>?_;refine Dt tm 1 rfl (by exact HS) (λw hS=>Lz tm A8w Lh rfl rfl rfl hS) λa tm=>?_;refine Dt tm 2 rfl (by exact HS) (λw hS=>B3l tm) λa tm=>?_;refine Sj (i:=3) GM rfl rfl λK hK=>?_;refine OR tm Lh rfl rfl rfl rfl (us:=H7 t.pos) rfl rfl q1 (hK _ _ (λj u hj=>?_) ?_)
    exact(q3.bk (jf.bk df (λh=>h)) aP).cell (j:=0+1+j) (u:=u) (by match j,hj with|0,hj=>exact hj|1,hj=>exact hj);refine Yg GM ?_ _;show(C0 _ _).wp _ _ _ _;refine Mq rfl ?_;exact B3R hQ (.inr rfl) (tm.sub ⟨rfl,rfl,trivial⟩) q2 ((hi.sys.stay jf (λb _ hs=>hs.elim)).stay q3 (λb _ hs=>by rw[hs,hi.zr];decide)).km
   |true=>
    rw[h4]at af;simp only[GD]at af;rw[GI GN];refine M2 rfl ?_;generalize gD:F0 (gL (Kr bS de t) 0)=c at af mA;cases h5:smN (c.length+ao.length)with
   |false=>rw[h5]at af;cases af
   |true=>
    rw[h5]at af;simp only[GD]at af;have cE:c.length+ao.length<=1099511627776:=by simpa [smN]using h5
    show(C0 _ _).wp _ _ _ _;refine wsq rfl ?_;refine wsq rfl ?_;obtain⟨ca,Fs,zi⟩:=mA.sl_inv;refine C5 12 4 rfl rfl ?_;refine Pm tm λa tm=>?_;refine Pv tm (Lx tm W4 rfl rfl rfl rfl rfl zi) λa tm=>?_;refine Pv tm (OP tm) λa tm=>?_;refine Pa tm λa tm=>?_;refine Aae ?_;have za:Aap .i64 ((c.length:Int) - 1)=(c.length:Int) - 1:=Pn FK FK;rw[za]at tm;show(C0 _ _).wp _ _ _ _;refine D6H cE hi mA (tm.sub ⟨rfl,rfl,rfl,rfl,rfl,rfl,rfl,rfl,rfl,trivial⟩) λa w m ρ sv tm hi _=>?_;show(C0 _ _).wp _ _ _ _;refine Si 1 rfl ?_;exact⟨n,HX n,c++ao,at_,op,m,ρ,sv,af,tm,hi,by rw[Fd];exact cE⟩
  |false=>
   rw[h2]at af;simp only[GF]at af;rw[GI GN];refine M2 rfl ?_;show(C0 _ _).wp _ _ _ _;refine wsq rfl ?_;refine wsq rfl ?_;cases h3:okR [.bool] (Kq de t)with
   |false=>rw[h3]at af;cases af
   |true=>
    rw[h3]at af;simp only[GD]at af;refine C5 16 4 rfl rfl ?_;refine Pm tm λa tm=>?_;refine Pv tm (Lz tm Xl Z3 rfl rfl rfl (λj u hj=>by rw[HL];exact df.cell hj)) λa tm=>?_;refine Aad rfl λK hK=>MA tm rfl rfl rfl (B7Q hb).enter rfl (B1t tm rfl rfl rfl) (Mr (B7Q hb) (ls:=[.str de,.agg .tok t]) (Nz (r:=.one (.bool (lB (gL (Kq de t) 0)))) rfl h3) (hb.mono _ _ _ _ hI hi.sys.km.ext) hi.z0 ⟨.str _,B2i t,trivial⟩ rfl) ?_;rintro e w1 ⟨v1,m1,rfl,k1,e1⟩;have fM:=(I0 (r:=0) df.lt).trans fM;have df:=k1.bk df (λh=>h);have hi:=hi.step k1 (λ_ h=>h) 0 (λh=>absurd rfl h);obtain rfl:=CRep.bool_inv e1;refine⟨_,rfl,λa tm=>hK _ _ ?_⟩;refine Pv tm (B2q tm) λa tm=>?_;refine Wn ?_;refine wcn tm rfl _ rfl ?_;have tm:=tm.keep [0,2,3,9,10,11,12,13,14];cases h4:lB (gL (Kq de t) 0)with
   |false=>
    rw[h4]at af;simp only[GF,GX,He]at af;obtain⟨rfl,rfl⟩:=af;rw[GJ (show(!V)=Z from rfl)];refine wsq rfl ?_;have vh:∀(j:Nat) u,(H7 t.pos)[j]?=J u->Aag _ ⟨bt,0+1+j,O⟩=J u:=λj u hj=>df.cell (j:=0+1+j) (u:=u) (by match j,hj with|0,hj=>exact hj|1,hj=>exact hj);refine B3V (S:=λw'=>∀(j:Nat) u,(H7 t.pos)[j]?=J u->w'.cell? ⟨bt,0+1+j,O⟩=J u) rfl 17 4 rfl rfl ?_;have jf:=Vi hi.z0;obtain⟨q1,q2,q3⟩:=(jf.bk hi.z (λh=>h)).store (m:=_) Aaa (off:=0) (vs:=H7 t.pos) (by simp[H7]) (λv hv=>by simp only[H7,HC,Hh,or_false]at hv;rcases hv with rfl|rfl<;>rfl) (hi.sys.zr bz (by rw[hi.zr];decide)) jf.zero;have aP:bt≠bz:=λe=>by have h9:=hi.zr;rw[<-e]at h9;rw[fM]at h9;cases h9
    have HS:∀(j:Nat) u,(H7 t.pos)[j]?=J u->Aag _ ⟨bt,0+1+j,O⟩=J u:=vh;refine Dt tm 0 rfl (by exact HS) (λw hS=>U7 tm B2o) λa tm=>?_;refine Dt tm 1 rfl (by exact HS) (λw hS=>Lz tm A8w Lh rfl rfl rfl hS) λa tm=>?_;refine Dt tm 2 rfl (by exact HS) (λw hS=>B3l tm) λa tm=>?_;refine Sj (i:=3) GM rfl rfl λK hK=>?_;refine OR tm Lh rfl rfl rfl rfl (us:=H7 t.pos) rfl rfl q1 (hK _ _ (λj u hj=>?_) ?_)
    exact(q3.bk (jf.bk df (λh=>h)) aP).cell (j:=0+1+j) (u:=u) (by match j,hj with|0,hj=>exact hj|1,hj=>exact hj);refine Yg GM ?_ _;show(C0 _ _).wp _ _ _ _;refine Mq rfl ?_;exact B3R hQ (.inr rfl) (tm.sub ⟨rfl,rfl,trivial⟩) q2 ((hi.sys.stay jf (λb _ hs=>hs.elim)).stay q3 (λb _ hs=>by rw[hs,hi.zr];decide)).km
   |true=>
    rw[h4]at af;simp only[GD]at af;rw[GI GN];refine M2 rfl ?_;cases h5:okR [.int .i64] (Kp de)with
   |false=>rw[h5]at af;cases af
   |true=>
    rw[h5]at af;simp only[GD]at af;generalize vg:lI (gL (Kp de) 0)=br at af;show(C0 _ _).wp _ _ _ _;refine wsq rfl ?_;refine wsq rfl ?_;refine C5 18 8 rfl rfl ?_;refine Pm tm λa tm=>?_;refine Aad rfl λK hK=>MA tm rfl rfl rfl (B3a hb).enter rfl (Vh tm rfl rfl) (Mr (B3a hb) (ls:=[.str de]) (Nz (r:=.one (.int .i64 (lI (gL (Kp de) 0)))) rfl h5) (hb.mono _ _ _ _ hI hi.sys.km.ext) hi.z0 ⟨.str _,trivial⟩ rfl) ?_;rintro e w1 ⟨v1,m1,rfl,k1,e1⟩;have fM:=(I0 (r:=0) df.lt).trans fM;have df:=k1.bk df (λh=>h);have hi:=hi.step k1 (λ_ h=>h) 0 (λh=>absurd rfl h);obtain rfl:=CRep.int_inv e1;rw[vg];refine⟨_,rfl,λa tm=>hK _ _ ?_⟩;refine Pv tm (C6T tm) λa tm=>?_;refine Pm tm λa tm=>?_;cases hq:br==1 with
   |true=>
    rw[hq]at tm af;simp only[Bool.true_and]at af;refine Pg tm 3 74 (Z9 tm) λa tm=>?_;refine Pg tm 3 74 (Z9 tm) λa tm=>?_;refine Pg tm 3 74 (B5y tm) λa tm=>?_;refine Pv tm (D59 tm) λa tm=>?_;refine Wn ?_;refine wcn tm rfl _ rfl ?_;have tm:=tm.keep [0,2,3,9,10,11,12,13,14];cases hd:decide (depth<=op)with
    |true=>
     rw[hd]at af;simp only[GD,GX,He]at af;obtain⟨rfl,rfl⟩:=af;rw[GJ rfl];refine wsq rfl ?_;have vh:∀(j:Nat) u,(H7 t.pos)[j]?=J u->Aag _ ⟨bt,0+1+j,O⟩=J u:=λj u hj=>df.cell (j:=0+1+j) (u:=u) (by match j,hj with|0,hj=>exact hj|1,hj=>exact hj);refine B3V (S:=λw'=>∀(j:Nat) u,(H7 t.pos)[j]?=J u->w'.cell? ⟨bt,0+1+j,O⟩=J u) rfl 19 4 rfl rfl ?_;have jf:=Vi hi.z0;obtain⟨q1,q2,q3⟩:=(jf.bk hi.z (λh=>h)).store (m:=_) Aaa (off:=0) (vs:=H7 t.pos) (by simp[H7]) (λv hv=>by simp only[H7,HC,Hh,or_false]at hv;rcases hv with rfl|rfl<;>rfl) (hi.sys.zr bz (by rw[hi.zr];decide)) jf.zero;have aP:bt≠bz:=λe=>by have h9:=hi.zr;rw[<-e]at h9;rw[fM]at h9;cases h9
     have HS:∀(j:Nat) u,(H7 t.pos)[j]?=J u->Aag _ ⟨bt,0+1+j,O⟩=J u:=vh;refine Dt tm 0 rfl (by exact HS) (λw hS=>U7 tm B2o) λa tm=>?_;refine Dt tm 1 rfl (by exact HS) (λw hS=>Lz tm A8w Lh rfl rfl rfl hS) λa tm=>?_;refine Dt tm 2 rfl (by exact HS) (λw hS=>B3l tm) λa tm=>?_;refine Sj (i:=3) GM rfl rfl λK hK=>?_;refine OR tm Lh rfl rfl rfl rfl (us:=H7 t.pos) rfl rfl q1 (hK _ _ (λj u hj=>?_) ?_)
     exact(q3.bk (jf.bk df (λh=>h)) aP).cell (j:=0+1+j) (u:=u) (by match j,hj with|0,hj=>exact hj|1,hj=>exact hj);refine Yg GM ?_ _;show(C0 _ _).wp _ _ _ _;refine Mq rfl ?_;exact B3R hQ (.inr rfl) (tm.sub ⟨rfl,rfl,trivial⟩) q2 ((hi.sys.stay jf (λb _ hs=>hs.elim)).stay q3 (λb _ hs=>by rw[hs,hi.zr];decide)).km
    |false=>
     rw[hd]at af;simp only[GF]at af;rw[GI GN];refine M2 rfl ?_;refine B93 hb hI hz iN dt oH af h5 vg FK jJ tm hi df fM λa w n' h=>⟨n',h⟩
   |false=>
    rw[hq]at tm af;simp only[Jt,GF]at af;refine B53 tm (j:=3) (g:=74) (d:=75) (b:=V) rfl rfl rfl rfl rfl rfl rfl λa tm=>?_;refine B53 tm (j:=3) (g:=74) (d:=76) (b:=V) rfl rfl rfl rfl rfl rfl rfl λa tm=>?_;refine B53 tm (j:=3) (g:=74) (d:=77) (b:=V) rfl rfl rfl rfl rfl rfl rfl λa tm=>?_;refine Pv tm (C8x tm) λa tm=>?_;refine Wn ?_;refine wcn tm rfl _ rfl ?_;have tm:=tm.keep [0,2,3,9,10,11,12,13,14];rw[GI GN];refine M2 rfl ?_;refine B93 hb hI hz iN dt oH af h5 vg FK jJ tm hi df fM λa w n' h=>⟨n',h⟩
def D4L{n:Nat}{vs:Gw}(hn:vs.length<=n){fr:List (Nat×Value)}(h:∀i v,T2 fr i=J v->vs[i]?=J v):Tm {tmps:=vs.toArray++Array.replicate (n - vs.toArray.size) undef,defers:=[]} n fr:=by
 refine⟨GQ,rfl,λi v hv=>?_⟩;have h1:=h i v hv;have h2:=(HN.1 h1).1;rw[HE,Hf (by simpa using h2)];simp[h1]
def C0r{I:Inv}(hb:HB I):Sound Aaa U6 I 33 (sG S33):=by
 refine⟨call33,λls r hr=>?_⟩;unfold sG at hr;unfold S33 at hr;split at hr;rename_i bS first toks depth
 obtain⟨h1,h2⟩:=ON hr;unfold MR at h1 h2;cases iN:smN toks.length with
 |false=>rw[iN]at h1;cases h1
 |true=>
  rw[iN]at h1 h2;simp only[GD]at h1 h2;split at h2;rename_i k p af;intro w0 g vs hI hz anq _ _
  match vs,anq with
  |[vr,v1,vt,vd],⟨e1,e2,e3,e4,_⟩=>
   obtain rfl:=CRep.str_inv e2.1;obtain rfl:=CRep.int_inv e4.1;refine calls_of_wp func33 (show f33.body=J (C0 Aah [])from GM) ?_;refine D1T hb hI hz af (by simpa [smN]using iN) e1.1 e3.1 (λe a w m he hd hv hk=>?_) (D4L (show 4<=93 from GO) λi v h=>?_);have cI:∃v g',Ending.returned (.tuple #[.int .i64 k,.agg (H7 p).toArray])=.returned v/\Post U6 ⟨w0,g.wm,λb=>L2 [.sl .rule bS O,.str first,.sl .tok toks O,(.int .i64 depth:L6)]=Z/\spare (g.G 0)=J b,0,λ_=>undef⟩ g' r v w:=by
    refine⟨_,{g with wm:=m},rfl,?_⟩;rw[<-h2];exact B4S (ls:=[.int .i64 k,.agg .pos p]) (vs:=[.int .i64 k,.agg (H7 p).toArray]) hk (λ_ h=>h.elim) ⟨.int _ _,C9T p,trivial⟩ rfl _ rfl
   rcases he with rfl|rfl<;>exact⟨hd,_,hv,cI⟩;unfold T2 at h
   match i,h with
   |0,h=>cases h;rfl
   |1,h=>cases h;rfl
   |2,h=>cases h;rfl
   |3,h=>cases h;rfl
  rename_i hn;rw[hn]at h1;cases h1
 cases hr
end Go.Aev
namespace Go.Aev
open Go.Proofs
variable {I:Inv}
def B4b(hb:HB I):SP I 194 A9I:=A8 D2Q hb rfl trivial trivial func194 call194 (λls r h=>by
 unfold A9I at h;split at h;exact pF h;cases h)
def C7m(hb:HB I):SP I 237 B5r:=A8 C4p hb rfl ⟨B4b hb,trivial⟩ trivial func237 call237 (λls r h=>by
 unfold B5r at h;split at h;exact pG (B7l · _) h λnn=>by unfold B7l;simp(disch:=exact krl)only[lc1 kF (C8G ..)];kernel_rfl
 cases h)
def C7J(hb:HB I):SP I 219 B4y:=A8 C6c hb rfl ⟨C7m hb,trivial⟩ trivial func219 call219 (λls r h=>by
 unfold B4y at h;split at h;exact pF h;cases h)
def C7X(hb:HB I):SP I 193 B4l:=A8 C0x hb rfl ⟨B4b hb,C7J hb,trivial⟩ trivial func193 call193 (λls r h=>by
 unfold B4l at h;split at h;exact pG (B3M · _) h λnn=>by unfold B3M;simp(disch:=exact krl)only[lc2 kF (C63 ..)];kernel_rfl
 cases h)
def D5P(hb:HB I):SP I 195 B6e:=A8 D2c hb rfl trivial trivial func195 call195 (λls r h=>by
 unfold B6e at h;split at h;exact pF h;cases h)
def D1d(hb:HB I):SP I 220 B7M:=A8 D0H hb rfl trivial trivial func220 call220 (λls r h=>by
 unfold B7M at h;split at h;exact pF h;cases h)
def D06(hb:HB I):SP I 238 B4u:=A8 C8b hb rfl trivial trivial func238 call238 (λls r h=>by
 unfold B4u at h;split at h;exact pF h;cases h)
def C51(hb:HB I):SP I 221 B72:=A8 D67 hb rfl ⟨D06 hb,trivial⟩ trivial func221 call221 (λls r h=>by
 unfold B72 at h;split at h;exact pF h;cases h)
def C5L(hb:HB I):SP I 196 B0H:=A8 C5r hb rfl ⟨D1d hb,C51 hb,trivial⟩ trivial func196 call196 (λls r h=>by
 unfold B0H at h;split at h;exact pG (B2A · _) h λnn=>by unfold B2A;simp(disch:=exact krl)only[lc2 kF (D5O ..)];kernel_rfl
 cases h)
def D6u(hb:HB I):SP I 155 B5u:=A8 B6V hb rfl ⟨C42 hb,C9X hb,C6Y hb,C7X hb,B4b hb,D5P hb,C5L hb,trivial⟩ trivial func155 call155 (λls r h=>by
 unfold B5u at h;split at h;exact pG (B09 · _) h λnn=>by unfold B09;simp(disch:=exact krl)only[lc2 kF (D7r ..),lc1 kF (D5H ..)];kernel_rfl
 cases h)
end Go.Aev
namespace Go.Aev
open Go.Proofs
variable {I:Inv}
def D2w(hb:HB I):SP I 222 B8D:=A8 D5q hb rfl trivial trivial func222 call222 (λls r h=>by
 unfold B8D at h;split at h;exact pF h;cases h)
def D2Z(hb:HB I):SP I 223 B4r:=A8 C2n hb rfl trivial trivial func223 call223 (λls r h=>by
 unfold B4r at h;split at h;exact pG (B2n · _ _) h λnn=>by unfold B2n;simp(disch:=exact krl)only[lc1 kF (D2v ..)];kernel_rfl
 cases h)
def D3X(hb:HB I):SP I 197 B6p:=A8 C7p hb rfl ⟨D2w hb,D2Z hb,trivial⟩ trivial func197 call197 (λls r h=>by
 unfold B6p at h;split at h;exact pF h;cases h)
def C6j(hb:HB I):SP I 156 B5K:=A8 C1S hb rfl ⟨C42 hb,C5L hb,D3X hb,trivial⟩ trivial func156 call156 (λls r h=>by
 unfold B5K at h;split at h;exact pG (B3C · _) h λnn=>by unfold B3C;simp(disch:=exact krl)only[lc1 kF (D0v ..)];kernel_rfl
 cases h)
def B7f(hb:HB I):SP I 86 Zh:=A8 E86 hb rfl ⟨D6u hb,C6j hb,trivial⟩ trivial func86 call86 (λls r h=>by
 unfold Zh at h;split at h;exact pF h;cases h)
def A87(hb:HB I):SB I 101 Ts:=H4 D1y hb rfl trivial ⟨M7 hb,trivial⟩ func101 call101 (λls cs r h=>by
 unfold Ts at h;split at h;exact fP (ps:=[0]) h;cases h)
def C3b(hb:HB I):∀d,SB I 44 (B0W (Ou d))
 |0=>by
  exact⟨Abh,λls cs rs ay h=>by
   unfold sGB B0W at h;split at h;obtain⟨_,h⟩:=H8 h;cases h;cases h⟩
 |d+1=>by
  have zj:=C3b hb d;exact H4 (E44 (Ou d)) hb rfl ⟨B7f hb,trivial⟩ ⟨M7 hb,zj,A87 hb,trivial⟩ func44 Abh (λls cs r h=>by
   unfold B0W at h;split at h;exact fP h (C59 NN (Ou d));cases h)
def B3e(hb:HB I):SB I 44 Zi:=(C3b hb DD)
def C13(hb:HB I):SB I 142 B0Q:=H4 B5E hb rfl trivial ⟨M7 hb,B3e hb,A87 hb,trivial⟩ func142 Abv (λls cs r h=>by
 unfold B0Q at h;split at h;exact fP h (C5U NN);cases h)
end Go.Aev
namespace Go.Aev
open Go.Proofs
variable {I:Inv}
def Ut(hb:HB I):SB I 68 Oz:=H4 E68 hb rfl trivial ⟨M7 hb,C13 hb,trivial⟩ func68 Abe (λls cs r h=>by
 unfold Oz at h;split at h;exact fP h (D0d NN);cases h)
def B9B(hb:HB I):SP I 66 S66:=A8 E66 hb rfl trivial trivial func66 Abg (λls r h=>by
 unfold S66 at h;split at h;exact pF h;cases h)
def A8C(hb:HB I):SP I 18 Tx:=A8 E18 hb rfl ⟨hb.s47,hb.s48,trivial⟩ trivial func18 call18 (λls r h=>by
 unfold Tx at h;split at h;exact pF h;cases h)
def B5R(hb:HB I):SB I 37 Zk:=H4 E37 hb rfl ⟨B7f hb,trivial⟩ ⟨M7 hb,trivial⟩ func37 Abj (λls cs r h=>by
 unfold Zk at h;split at h;exact fP (ps:=[0]) h;cases h)
def C32(hb:HB I):SB I 141 B3o:=H4 D2o hb rfl trivial ⟨M7 hb,B3e hb,trivial⟩ func141 Abw (λls cs r h=>by
 unfold B3o at h;split at h;exact fP (ps:=[0]) h;cases h)
def B9G(hb:HB I):SB I 157 B1j:=H4 C8E hb rfl ⟨A8C hb,trivial⟩ ⟨M7 hb,Ut hb,C32 hb,trivial⟩ func157 Abq (λls cs r h=>by
 unfold B1j at h;split at h;exact fP (ps:=[0]) h;cases h)
def C2T(hb:HB I):SB I 88 S88:=H4 E88 hb rfl trivial ⟨M7 hb,B5R hb,A87 hb,B9G hb,trivial⟩ func88 Aa4 (λls cs r h=>by
 unfold S88 at h;split at h;exact fP h (C97 NN);cases h)
def B4p(hb:HB I):SB I 266 Zu:=H4 C72 hb rfl trivial ⟨B5R hb,C0I hb,trivial⟩ func266 Abn (λls cs r h=>by
 unfold Zu at h;split at h;exact fP (ps:=[0]) h;cases h)
def C9p(hb:HB I):SB I 265 B58:=H4 C24 hb rfl ⟨A8C hb,trivial⟩ ⟨M7 hb,Ut hb,C2T hb,B4p hb,trivial⟩ func265 Aan (λls cs r h=>by
 unfold B58 at h;split at h;obtain⟨hc,h⟩:=H8 h;simp only[Fn,I3]at hc;obtain⟨⟨⟨rfl,rfl⟩,⟨rfl,rfl⟩⟩,rfl⟩:=hc;exact L3 C9b rfl rfl h;cases h)
end Go.Aev
namespace Go.Aev
open Go.Proofs
def lvF:List Aab:=[7,8,9,11,12,14,15,17,26,28,35,36,37,38,41,42,43,46,56,59,60,61,63,64,66,67,68,77,78,79,80,81,82,83,84,85,87,88,89,94,95,96,97,98,99,100,103,104,132,133,134,135,136,137,139,141,142,150,151,152,153,154,157,160,161,162,184,185,186,187,189,215,263,264,265,266,267,268]
def psV(f:Aab):Option Gv:=bif mem f [26,28,36,37,38,41,42,43,46,59,60,61,63,67,68,78,79,80,82,83,84,87,88,94,96,97,98,99,100,103,104,132,133,134,135,136,137,139,141,142,150,151,152,153,157,160,161,162,184,185,186,187,215,266,27,29,44,101]then J [0]else bif mem f [85,154]then J [0,1]else bif mem f [263,264,265,267,268]then J [1]else O
def roV:List Aab:=[26,59,60,61,132,133,134,135,136,137,184,185,186,187,215]
def nfV:List (Nat×Gv×Gv×List (Nat×Nat)):=[(7,[1,2,4,5,6,7,8],[],[]),(8,[4,5,7,33],[4,5],[(33,105)]),(9,[5,6,7],[],[(6,107)]),(11,[5,8,33,34,54],[5],[(33,134),(54,105)]),(12,[5,6,7],[],[(6,107)]),(14,[6,7,11],[],[]),(15,[4,5],[],[(4,105)]),(17,[4,5],[],[]),(26,[2,3,4],[2,3],[]),(28,[37,38],[],[(37,138)]),(36,[2,3],[2,3],[]),(41,[4,8,9,11,12,39,75,90,115,121,144],[],[]),(43,[2,9],[2],[(9,102)]),(46,[2,8],[],[]),(59,[4,8,12],[4],[]),(67,[5],[],[]),(78,[2,3],[],[]),(80,[2],[],[]),(82,[8],[8],[]),(84,[6,19],[],[(19,106)]),(87,[7],[],[]),(88,[5],[],[]),(97,[4],[],[]),(99,[4,5,6],[],[]),(132,[4],[],[]),(133,[6],[],[]),(134,[4],[],[]),(137,[4,7],[4],[]),(142,[5],[],[]),(150,[5],[],[]),(151,[2,3],[],[]),(152,[2,3],[],[]),(153,[2,4,6,23,30,41,47,62],[2],[(23,102),(30,102),(41,102),(47,104),(62,106)]),(154,[9,72],[],[(72,109)]),(160,[7],[],[]),(162,[4,6],[],[]),(184,[4,10],[4],[]),(185,[6],[],[]),(186,[4,5],[],[]),(187,[4,6,14],[4],[(14,106)]),(189,[2,12,17,22],[2],[(12,102),(17,102),(22,102)]),(215,[4],[4],[]),(40,[10,11],[],[(10,111)])]
def lkV:List (Nat×Gv×Gv×List (Nat×Nat))->Nat->Gv×Gv×List (Nat×Nat)
 |[],_=>([],[],[])
 |(g,x)::r,f=>bif Aac f g then x else lkV r f
def stT:List (Aab×KY):=[(18,Tx),(24,S24),(25,S25),(33,S33),(34,S34),(47,Vd),(65,Yc),(86,Zh)]
def stB:List (Aab×Ka):=[(27,Kk),(29,QX),(44,Zi),(101,Ts)]
abbrev VT:=Aab->Gt->Gq
abbrev VBT:=Aab->Gt->Gz->Option (Gt×Gz)
deriving instance DecidableEq for A4,A0,A1
def B4e:L6->L6->Bool
 | .sl .node x O,.sl .node y O=>decide ((show Gx from x)=y)
 | .sl .tok x O,.sl .tok y O=>decide ((show Gu from x)=y)
 |_,_=>V
def B2W:Gt->Gt->Bool
 |[],[]=>Z
 |x::r,y::s=>B4e x y&&B2W r s
 |_,_=>V
def A83:Gz->Gz->Bool
 |[],[]=>Z
 |x::r,y::s=>B2W x y&&A83 r s
 |_,_=>V
def D4q{x y:L6}(h:B4e x y=Z):x=y:=by
 unfold B4e at h;split at h;rw[GK h];rw[GK h];cases h
def C4g:∀{x y:Gt},B2W x y=Z->x=y
 |[],[],_=>rfl
 |x::r,y::s,h=>by simp only[B2W,Fn]at h;rw[D4q h.1,C4g h.2]
 |[],_::_,h=>by cases h
 |_::_,[],h=>by cases h
def C4n:∀{x y:Gz},A83 x y=Z->x=y
 |[],[],_=>rfl
 |x::r,y::s,h=>by simp only[A83,Fn]at h;rw[C4g h.1,C4n h.2]
 |[],_::_,h=>by cases h
 |_::_,[],h=>by cases h
def tiV(VB:VBT):String->Gt->Gz->Option (Bool×Gt×Gz):=λnm ls cs=>
 match ls with
 |[.one1 .part x,.ptr d o,.int .i64 a]=>bif decide (nm= "pergola/printer.print")&&(Aac d 900000&&Aac o 0)then
  (match x with
   | .sel s=>VB 263 [.agg .sel s,.ptr 900000 0,.int .i64 a] cs
   | .root s=>VB 264 [.agg .rd s,.ptr 900000 0,.int .i64 a] cs
   | .field s=>VB 265 [.agg .fd s,.ptr 900000 0,.int .i64 a] cs
   | .value s=>VB 267 [.agg .vald s,.ptr 900000 0,.int .i64 a] cs
   | .input s=>VB 268 [.agg .iv s,.ptr 900000 0,.int .i64 a] cs:Option (Gt×Gz)).map λr=>(Z,r.1,r.2)
  else O
 |_=>O
def tbV(f:Aab)(t:Aaf):TK Ty6:=bif Aac f 25 then(match t with
 |153=>.struct .node0 [(0,1),(1,1),(2,1)]
 |95=>.slice .node0 153
 |t=>tb6 t)else bif mem f [41,99]then(match t with
 |46=>.struct .lit0 [(0,1),(1,1),(2,1),(3,1),(4,1),(5,2)]
 |41=>.slice .lit0 46
 |t=>tb6 t)else tb6 t
def zrV(f:Aab)(t:Aaf):Option Gt:=bif Aac f 25 then(match t with
 |153=>J [.str [],.nils,.int .i64 0]
 |t=>zr6 t)else bif mem f [41,99]then(match t with
 |46=>J [.int .i64 0,.str [],.bool V,.nils,.nils,.int .i64 0,.int .i64 0]
 |t=>zr6 t)else zr6 t
def D4N(f:Aab)(t:Aaf):M4 Aaa U6 t (tbV f t):=by
 unfold tbV;cases Aac f 25 with
 |true=>
  simp only[GD];split;exact YW GM GM;exact B45 GM GM GM;exact QS _
 |false=>
  simp only[GF];cases mem f [41,99]with
  |true=>
   simp only[GD];split;exact YW GM GM;exact B45 GM GM GM;exact QS _
  |false=>exact QS _
def D4R(f:Aab)(t:Aaf)(zs:Gt)(h:zrV f t=J zs):Ky Aaa U6 t zs:=by
 unfold zrV at h;cases h1:Aac f 25 with
 |true=>
  rw[h1]at h;simp only[GD]at h;split at h;cases h;exact YX GM;exact QT _ _ h
 |false=>
  rw[h1]at h;simp only[GF]at h;cases h2:mem f [41,99]with
  |true=>
   rw[h2]at h;simp only[GD]at h;split at h;cases h;exact YX GM;exact QT _ _ h
  |false=>rw[h2]at h;exact QT _ _ h
abbrev VNT:=Aab->Gt->Option Gt
def lvE(t7:VT)(VB:VBT)(VN:VNT)(f:Aab)(fn:Func):Env Ty6 A2:=
 {U:=U6,tb:=tbV f,zr:=zrV f,cons:=λ_=>O,qeq:=B1N,drop:=λ_=>[],nt:=fn.ntmps,mb:=λd=>mem d (lkV nfV f).1,np:=match psV f with|O=>0|J [0]=>1|_=>2,oz:=λd=>mem d (lkV nfV f).2.1,bn:=lkN (lkV nfV f).2.2,bp:=psV,ro:=λg=>mem g roV,rw:=mem f [14,17,25,33,41],rm:=λd=>mem d (bif Aac f 25 then [20,22,70,100]else bif Aac f 33 then [19,64]else [6,106]),fzs:=bif Aac f 25 then [1000020]else [],nw:=λg=>Aac g 40,fty:=λt=>bif Aac f 25&&Aac t 95 then J .node else bif Aac f 41&&Aac t 46 then J .lit else O,TNg:=λg ls=>(VN g ls).map λr=>(Z,r),T:=λg ls=>match lkT stT g ls with|J r=>J r|O=>(t7 g ls).map λr=>(Z,r),TBg:=λg ls cs=>match lkB stB g ls cs with|J r=>J r|O=>(VB g ls cs:Option (Gt×Gz)).map λr=>(Z,r.1,r.2),TRg:=λg ls cs=>(VB g ls cs).map λr=>(A83 r.2 cs,r.1),TIg:=tiV VB,bi:=λ_=>[1]}
def VV(l9:Aab->Option Func):Nat->VT×VBT×VNT
 |0=>(λ_ _=>O,λ_ _ _=>O,λ_ _=>O)
 |n+1=>(λf ls=>bif mem f lvF then match l9 f with|J fn=>P4 (lvE (VV l9 n).1 (VV l9 n).2.1 (VV l9 n).2.2 f fn) NN fn ls|O=>O else O,
  λf ls cs=>bif mem f lvF then match l9 f,psV f with|J fn,J ps=>D7 (lvE (VV l9 n).1 (VV l9 n).2.1 (VV l9 n).2.2 f fn) NN fn ps ls cs|_,_=>O else O,
  λf ls=>bif Aac f 40&& !L2 ls then match l9 f with|J fn=>B5s (lvE (VV l9 n).1 (VV l9 n).2.1 (VV l9 n).2.2 f fn) NN fn ls|O=>O else O)
abbrev EnT(f:Aab):Prop:=∀args w,(callFunc f args).run Aaa w=.ok (.enter f args) w
def B9a:∀f,mem f lvF=Z->EnT f:=by
 have h:∀{l:List Aab},(∀f∈l,EnT f)->∀f,mem f l=Z->EnT f:=λ{l} hl f hf=>hl f (by
  induction l with
  |nil=>cases hf
  |cons a r ih=>
   unfold mem at hf;cases hb:Aac a f with
   |true=>exact HC.2 (.inl (HZ hb).symm)
   |false=>rw[hb]at hf;exact Ha _ (ih (λf h=>hl f (Ha _ h)) hf))
 refine h λf hf=>?_;have:∀{a:Aab}{l:List Aab},EnT a->(∀f∈l,EnT f)->∀f∈a::l,EnT f:=λh1 h2 f hf=>by
  rcases HC.1 hf with rfl|h;exact h1;exact h2 f h
 exact(this Aat (this call8 (this Aa2 (this Abz (this Abx (this call14 (this Abu (this call17 (this call26 (this Abm (this Abl (this Abk (this Abj (this Abi (this call41 (this call42 (this call43 (this call46 (this call56 (this call59 (this call60 (this call61 (this Aau (this call64 (this Abg (this Abf (this Abe (this call77 (this Abd (this Abc (this Abb (this Aba (this Aa9 (this Aa8 (this Aa7 (this Aa6 (this Aa5 (this Aa4 (this Aa3 (this call94 (this call95 (this call96 (this call97 (this call98 (this call99 (this call100 (this call103 (this call104 (this call132 (this call133 (this call134 (this call135 (this call136 (this call137 (this call139 (this Abw (this Abv (this Abt (this Abs (this Aaw (this Aav (this Abr (this Abq (this call160 (this call161 (this call162 (this call184 (this call185 (this call186 (this call187 (this Abp (this call215 (this Aaj (this Aao (this Aan (this Abn (this Aam (this Aal (λf h=>absurd h Hh))))))))))))))))))))))))))))))))))))))))))))))))))))))))))))))))))))))))))))))) f hf
structure SV(I:Inv)(t7:VT×VBT×VNT):Prop where
 p:∀f ls r,t7.1 f ls=J r->EnT f/\QP Aaa U6 I f ls r
 b:∀f ls cs rs ay,t7.2.1 f ls cs=J (rs,ay)->EnT f/\T3 Aaa U6 I f ls cs rs ay
 n:∀f ls cs,t7.2.2 f ls=J cs->EnT f/\VW Aaa U6 I f ls cs
def D3Y{I:Inv}(hb:HB I){t7:VT×VBT×VNT}(hv:SV I t7)(w:World)(m:Nat->Nat)(hI:I w m)(nm:String)(ls:Gt)(cs:Gz)(rs:Gt)(ay:Gz)(h:G6 (tiV t7.2.1 nm ls cs)=J (rs,ay)):SO Aaa U6 ⟨w,m,λ_=>False,0,λ_=>undef⟩ nm ls cs rs ay:=by
 have hm:∀{o:Option (Gt×Gz)},G6 (o.map λr=>(Z,r.1,r.2))=J (rs,ay)->o=J (rs,ay):=λ{o} h=>by
  cases o with
  |none=>cases h
  |some p=>exact h
 unfold tiV at h;split at h;rename_i x d o a;cases hc:(decide (nm= "pergola/printer.print")&&(Aac d 900000&&Aac o 0))with
 |false=>rw[hc]at h;cases h
 |true=>
  rw[hc]at h;simp only[Fn,I3,decide_eq_true_eq]at hc;obtain⟨rfl,rfl,rfl⟩:=hc;have h:=hm h;cases x with
  |sel s=>exact OB hb hI rfl (λv v1 v2 w=>OA (f:=263) (GM:prog.info? 238=J t238) rfl rfl rfl rfl GM Aaj) (hv.b _ _ _ _ _ h).2
  |root s=>exact OB hb hI rfl (λv v1 v2 w=>OA (f:=264) (GM:prog.info? 254=J t254) rfl rfl rfl rfl GM Aao) (hv.b _ _ _ _ _ h).2
  |field s=>exact OB hb hI rfl (λv v1 v2 w=>OA (f:=265) (GM:prog.info? 255=J t255) rfl rfl rfl rfl GM Aan) (hv.b _ _ _ _ _ h).2
  |value s=>exact OB hb hI rfl (λv v1 v2 w=>OA (f:=267) (GM:prog.info? 258=J t258) rfl rfl rfl rfl GM Aam) (hv.b _ _ _ _ _ h).2
  |input s=>exact OB hb hI rfl (λv v1 v2 w=>OA (f:=268) (GM:prog.info? 259=J t259) rfl rfl rfl rfl GM Aal) (hv.b _ _ _ _ _ h).2
 cases h
def B8b{I:Inv}(hb:HB I){t7:VT×VBT×VNT}(hv:SV I t7)(f:Aab)(fn:Func):EnvI Aaa (lvE t7.1 t7.2.1 t7.2.2 f fn) I:=by
 have hT:MC I stT:=⟨A8C hb,B2D hb,B4f hb,C0r hb,C3A hb,hb.s47,hb.s65,B7f hb,trivial⟩;have hB:P5 I stB:=⟨M7 hb,hb.s29,B3e hb,A87 hb,trivial⟩;refine⟨u6_ok,D4N f,D4R f,λg ls r h=>?_,λg ls cs rs ay h=>?_,λw m hI nm ls cs rs ay h=>D3Y hb hv w m hI nm ls cs rs ay h,λg ls cs rs h=>?_,hb.mono,VZ,λg ls cs h=>?_,qe6 rfl rfl,Va⟩;change (match lkT stT g ls with|J r=>J r|O=>(t7.1 g ls).map λr=>(Z,r))=J (Z,r)at h;split at h;rename_i r' e;cases h;exact Sn hT e;cases hc:t7.1 g ls with
 |none=>rw[hc]at h;cases h
 |some x=>rw[hc]at h;cases h;exact hv.p _ _ _ hc
 change G6 (match lkB stB g ls cs with|J r=>J r|O=>(t7.2.1 g ls cs:Option (Gt×Gz)).map λr=>(Z,r.1,r.2))=J (rs,ay)at h;split at h;rename_i r' e;exact So hB (by rw[e];exact h);cases hc:t7.2.1 g ls cs with
 |none=>rw[hc]at h;cases h
 |some x=>rw[hc]at h;exact hv.b _ _ _ _ _ (hc.trans h)
 change G6 ((t7.2.1 g ls cs).map λr=>(A83 r.2 cs,r.1))=J rs at h;cases hc:t7.2.1 g ls cs with
 |none=>rw[hc]at h;cases h
 |some x=>
  rw[hc]at h;obtain⟨h1,h2⟩:=ON h;have:=C4n h1;exact hv.b _ _ _ _ _ (by rw[hc, <-h2, <-this])
 change (t7.2.2 g ls).map _=J (Z,cs)at h;obtain⟨x,hx,e⟩:=Hi.1 h;cases e;exact hv.n _ _ _ hx
def svV{I:Inv}(hb:HB I):∀n,SV I (VV (λf=>prog.funcs[f]?) n)
 |0=>⟨λ_ _ _ h=>(by cases h),λ_ _ _ _ _ h=>(by cases h),λ_ _ _ h=>(by cases h)⟩
 |n+1=>by
  have ih:=svV hb n;refine⟨λf ls r h=>?_,λf ls cs rs ay h=>?_,λf ls cs h=>?_⟩;change (bif mem f lvF then _ else _)=_ at h;cases hm:mem f lvF with
  |false=>rw[hm]at h;cases h
  |true=>
   rw[hm,GD]at h;split at h;rename_i fn hf;have:=B2h (B8b hb ih f fn) hf rfl (B9a f hm) (S:=λls=>P4 (lvE _ _ _ f fn) NN fn ls) λls r h=>⟨NN,h⟩;exact⟨this.enter,this.ok _ _ h⟩
   cases h
  change (bif mem f lvF then _ else _)=_ at h;cases hm:mem f lvF with
  |false=>rw[hm]at h;cases h
  |true=>
   rw[hm,GD]at h;split at h;rename_i fn ps hf gz;have:=YV (B8b hb ih f fn) hf rfl (B9a f hm) (S:=λls cs=>D7 (lvE _ _ _ f fn) NN fn ps ls cs) λls cs r h=>⟨NN,h⟩;exact⟨this.enter,this.ok _ _ _ _ h⟩
   cases h
  obtain⟨hc,h⟩:=A5 (show(bif Aac f 40&& !L2 ls then _ else O)=J cs from h);simp only[Fn,I3,Hs]at hc;obtain⟨rfl,ho⟩:=hc;split at h;rename_i fn hf;exact⟨call40,C6m (B8b hb ih 40 fn) hf rfl h ho⟩;cases h
def V0(P:Program):VT:=(VV (λf=>P.funcs[f]?) 70).1
def C8A{I:Inv}(hb:HB I)(f:Aab)(hf:mem f lvF=Z)(he:EnT f):Sound Aaa U6 I f (V0 Aaa f):=⟨he,λls r h=>((svV hb 70).p f ls r h).2⟩
def C8c:V0 Aaa 7 []=J (.one (.bool Z)):=GM
def C9W{I:Inv}(hb:HB I):Sound Aaa U6 I 7 (sG S7):=by
 have h0:=C8A hb 7 GM Aat;refine⟨Aat,λls r h=>?_⟩;unfold sG S7 at h;split at h;have e:r=.one (.bool Z):=by
  have:=Ve (X:=F7) rfl rfl h;exact(Hb this).symm
 subst e;exact h0.ok _ _ C8c;cases h
end Go.Aev
namespace Go.Aev
open Go.Proofs
variable {I:Inv}
def D0D(hb:HB I):SB I 267 B7p:=H4 B9m hb rfl trivial ⟨M7 hb,Ut hb,B4p hb,trivial⟩ func267 Aam (λls cs r h=>by
 unfold B7p at h;split at h;obtain⟨hc,h⟩:=H8 h;simp only[Fn,I3]at hc;obtain⟨⟨⟨rfl,rfl⟩,⟨rfl,rfl⟩⟩,rfl⟩:=hc;exact L3 C8B rfl rfl h;cases h)
def D07(hb:HB I):SB I 268 B8z:=H4 C2d hb rfl trivial ⟨B9G hb,B4p hb,trivial⟩ func268 Aal (λls cs r h=>by
 unfold B8z at h;split at h;obtain⟨hc,h⟩:=H8 h;simp only[Fn,I3]at hc;obtain⟨⟨⟨rfl,rfl⟩,⟨rfl,rfl⟩⟩,rfl⟩:=hc;exact L3 C7C rfl rfl h;cases h)
end Go.Aev
namespace Go.Aev
open Go.Proofs
variable {I:Inv}
def inv{I:Inv}(hb:HB I){g263:SelT->Int->Gp->Option (Gt×Gz)}(zk:SB I 263 (B1C g263))(zl:SB I 264 B5o)(zn:SB I 265 B58)(zo:SB I 267 B7p)(zp:SB I 268 B8z)
  (w:World)(m:Nat->Nat)(hI:I w m)(nm:String)(ls:Gt)(cs:Gz)(rs:Gt)(ay:Gz)(h:G6 (TI g263 nm ls cs)=J (rs,ay)):SO Aaa U6 ⟨w,m,λ_=>False,0,λ_=>undef⟩ nm ls cs rs ay:=by
 unfold TI at h;split at h;rename_i x d0 o0 a2 p0 q0 b n0;obtain⟨hc,h⟩:=H8 h;simp only[Fn,I3,decide_eq_true_eq]at hc;obtain⟨rfl,⟨rfl,rfl⟩,⟨rfl,rfl⟩,rfl⟩:=hc;cases x with
 |sel s=>exact OB hb hI rfl (λv v1 v2 w=>OA (f:=263) (GM:prog.info? 238=J t238) rfl rfl rfl rfl GM Aaj) (zk.ok _ _ _ _ h)
 |root s=>exact OB hb hI rfl (λv v1 v2 w=>OA (f:=264) (GM:prog.info? 254=J t254) rfl rfl rfl rfl GM Aao) (zl.ok _ _ _ _ h)
 |field s=>exact OB hb hI rfl (λv v1 v2 w=>OA (f:=265) (GM:prog.info? 255=J t255) rfl rfl rfl rfl GM Aan) (zn.ok _ _ _ _ h)
 |value s=>exact OB hb hI rfl (λv v1 v2 w=>OA (f:=267) (GM:prog.info? 258=J t258) rfl rfl rfl rfl GM Aam) (zo.ok _ _ _ _ h)
 |input s=>exact OB hb hI rfl (λv v1 v2 w=>OA (f:=268) (GM:prog.info? 259=J t259) rfl rfl rfl rfl GM Aal) (zp.ok _ _ _ _ h)
 cases h
def D6I(hb:HB I):SB I 264 B5o:=H4 C5j hb rfl ⟨B9B hb,trivial⟩ ⟨M7 hb,trivial⟩ func264 Aao (λls cs r h=>by
 unfold B5o at h;split at h;obtain⟨hc,h⟩:=H8 h;simp only[Fn,I3]at hc;obtain⟨⟨⟨rfl,rfl⟩,⟨rfl,rfl⟩⟩,rfl⟩:=hc;exact L3 D5G rfl rfl h;cases h)
end Go.Aev
namespace Go.Aev
open Go.Proofs
variable {I:Inv}
def C1l(hb:HB I):∀d,SB I 63 (B15 ((M5 d).1))/\SB I 263 (B1C ((M5 d).2))
 |0=>by
  exact⟨⟨Aau,λls cs rs ay h=>by
   unfold sGB B15 at h;split at h;obtain⟨_,h⟩:=H8 h;cases h;cases h⟩,⟨Aaj,λls cs rs ay h=>by
   unfold sGB B1C at h;split at h;obtain⟨_,h⟩:=H8 h;cases h;cases h⟩⟩
 |d+1=>by
  obtain⟨zq,vi⟩:=C1l hb d;exact⟨D2s (E63 ((M5 d).1) ((M5 d).2)) hb rfl trivial ⟨M7 hb,C0I hb,trivial⟩ (inv hb vi (D6I hb) (C9p hb) (D0D hb) (D07 hb)) func63 Aau (λls cs r h=>by
   unfold B15 at h;split at h;exact fP h (C73 NN ((M5 d).1) ((M5 d).2));cases h),H4 (C2h ((M5 d).1) ((M5 d).2)) hb rfl ⟨B9F hb,trivial⟩ ⟨M7 hb,zq,Ut hb,C13 hb,trivial⟩ func263 Aaj (λls cs r h=>by
   unfold B1C at h;split at h;obtain⟨hc,h⟩:=H8 h;simp only[Fn,I3]at hc;obtain⟨⟨⟨rfl,rfl⟩,⟨rfl,rfl⟩⟩,rfl⟩:=hc;exact L3 (D1J ((M5 d).1) ((M5 d).2)) rfl rfl h;cases h)⟩
def B99(hb:HB I):SB I 63 S63:=(C1l hb DD).1
def C53(hb:HB I):SB I 67 S67:=H4 E67 hb rfl ⟨A8C hb,trivial⟩ ⟨M7 hb,Ut hb,A87 hb,C32 hb,trivial⟩ func67 Abf (λls cs r h=>by
 unfold S67 at h;split at h;exact fP h (D4j NN);cases h)
def D4i(hb:HB I):SB I 28 S28:=H4 E28 hb rfl ⟨B9F hb,hb.s65,B9B hb,trivial⟩ ⟨M7 hb,hb.s29,B99 hb,C53 hb,Ut hb,trivial⟩ func28 Abm (λls cs r h=>by
 unfold S28 at h;split at h;exact fP (ps:=[0]) h;cases h)
def D6E(hb:HB I):SP I 9 S9:=A8 E9 hb rfl trivial ⟨M7 hb,D4i hb,hb.s29,trivial⟩ func9 Aa2 (λls r h=>by
 unfold S9 at h;split at h;exact pG (F9n · _) h λnn=>by unfold F9n;simp(disch:=exact krl)only[lc1 kF (C7q ..)];kernel_rfl
 cases h)
end Go.Aev
namespace Go.Aev
open Go.Proofs
variable {I:Inv}
def D5I(hb:HB I):SP I 35 S35:=A8 E35 hb rfl trivial trivial func35 Abl (λls r h=>by
 unfold S35 at h;split at h;exact pF h;cases h)
def B7D(hb:HB I):SB I 78 S78:=H4 E78 hb rfl trivial trivial func78 Abd (λls cs r h=>by
 unfold S78 at h;split at h;obtain⟨hc,h⟩:=H8 h;simp only[Fn,I3]at hc;obtain⟨rfl,rfl⟩:=hc;exact L3 D3W rfl rfl h;cases h)
def C3C(hb:HB I):SB I 150 B3K:=H4 C12 hb rfl trivial trivial func150 Abt (λls cs r h=>by
 unfold B3K at h;split at h;obtain⟨hc,h⟩:=H8 h;simp only[Fn,I3]at hc;obtain⟨rfl,rfl⟩:=hc;exact L3 C7b rfl rfl h;cases h)
def Rl(hb:HB I):SB I 79 Nf:=H4 E79 hb rfl trivial ⟨C3C hb,trivial⟩ func79 Abc (λls cs r h=>by
 unfold Nf at h;split at h;obtain⟨hc,h⟩:=H8 h;simp only[Fn,I3]at hc;obtain⟨rfl,rfl⟩:=hc;exact L3 D45 rfl rfl h;cases h)
def A8D(hb:HB I):SB I 151 UI:=H4 C3K hb rfl trivial trivial func151 Abs (λls cs r h=>by
 unfold UI at h;split at h;obtain⟨hc,h⟩:=H8 h;simp only[Fn,I3]at hc;obtain⟨rfl,rfl⟩:=hc;exact L3 C7h rfl rfl h;cases h)
def Xo(hb:HB I):SB I 80 RA:=H4 E80 hb rfl trivial ⟨A8D hb,trivial⟩ func80 Abb (λls cs r h=>by
 unfold RA at h;split at h;obtain⟨hc,h⟩:=H8 h;simp only[Fn,I3]at hc;obtain⟨rfl,rfl⟩:=hc;exact L3 D6n rfl rfl h;cases h)
def D3H(hb:HB I):SP I 81 S81:=A8 E81 hb rfl ⟨B6n hb,trivial⟩ trivial func81 Aba (λls r h=>by
 unfold S81 at h;split at h;exact pG (B8C · _) h λnn=>by unfold B8C;simp(disch:=exact krl)only[lc2 kF (D1Q ..)];kernel_rfl
 cases h)
def D0i(hb:HB I):SP I 189 B5q:=A8 D5p hb rfl trivial trivial func189 Abp (λls r h=>by
 unfold B5q at h;split at h;exact pF h;cases h)
end Go.Aev
namespace Go.Aev
open Go.Proofs
variable {I:Inv}
def C0c(hb:HB I):∀d,SB I 153 (B2t (Pd d))
 |0=>by
  exact⟨Aav,λls cs rs ay h=>by
   unfold sGB B2t at h;split at h;obtain⟨_,h⟩:=H8 h;cases h;cases h⟩
 |d+1=>by
  have vj:=C0c hb d;exact H4 (B1A (Pd d)) hb rfl ⟨D0i hb,trivial⟩ ⟨Rl hb,Xo hb,A8D hb,vj,trivial⟩ func153 Aav (λls cs r h=>by
   unfold B2t at h;split at h;obtain⟨hc,h⟩:=H8 h;simp only[Fn,I3]at hc;obtain⟨rfl,rfl⟩:=hc;exact L3 (C9I NN (Pd d)) rfl rfl h;cases h)
def B9b(hb:HB I):SB I 153 B60:=(C0c hb DD)
def B7i(hb:HB I):SB I 84 S84:=H4 E84 hb rfl trivial ⟨Rl hb,Xo hb,C3C hb,A8D hb,B9b hb,trivial⟩ func84 Aa7 (λls cs r h=>by
 unfold S84 at h;split at h;obtain⟨hc,h⟩:=H8 h;simp only[Fn,I3]at hc;obtain⟨rfl,rfl⟩:=hc;exact L3 (C7M NN) rfl rfl h;cases h)
def B8X(hb:HB I):∀d,SB I 152 (B2K (UX d))
 |0=>by
  exact⟨Aaw,λls cs rs ay h=>by
   unfold sGB B2K at h;split at h;obtain⟨_,h⟩:=H8 h;cases h;cases h⟩
 |d+1=>by
  have vk:=B8X hb d;exact H4 (C49 (UX d)) hb rfl trivial ⟨Rl hb,A8D hb,vk,trivial⟩ func152 Aaw (λls cs r h=>by
   unfold B2K at h;split at h;obtain⟨hc,h⟩:=H8 h;simp only[Fn,I3]at hc;obtain⟨rfl,rfl⟩:=hc;exact L3 (C77 (UX d)) rfl rfl h;cases h)
def C2w(hb:HB I):SB I 152 B5j:=(B8X hb DD)
def B4q(hb:HB I):SB I 82 S82:=H4 E82 hb rfl trivial ⟨B7D hb,Rl hb,Xo hb,B7i hb,C2w hb,B9b hb,trivial⟩ func82 Aa9 (λls cs r h=>by
 unfold S82 at h;split at h;obtain⟨hc,h⟩:=H8 h;simp only[Fn,I3]at hc;obtain⟨rfl,rfl⟩:=hc;exact L3 (C6U NN) rfl rfl h;cases h)
end Go.Aev
namespace Go.Aev
open Go.Proofs
variable {I:Inv}
def D3s(hb:HB I):SB I 83 S83:=H4 E83 hb rfl trivial ⟨Rl hb,Xo hb,trivial⟩ func83 Aa8 (λls cs r h=>by
 unfold S83 at h;split at h;obtain⟨hc,h⟩:=H8 h;simp only[Fn,I3]at hc;obtain⟨rfl,rfl⟩:=hc;exact L3 (D2V NN) rfl rfl h;cases h)
def D3L(hb:HB I):SB I 154 B6Z:=H4 C4H hb rfl trivial ⟨B7D hb,Rl hb,Xo hb,B4q hb,B7i hb,A8D hb,C2w hb,trivial⟩ func154 Abr (λls cs r h=>by
 unfold B6Z S2S at h;split at h;obtain⟨hc,h⟩:=H8 h;simp only[Fn,I3]at hc;obtain⟨⟨rfl,rfl⟩,rfl,rfl⟩:=hc;split at h;rename_i d hd;rw[C0f hd];exact L3 D5Z rfl rfl h;cases h;cases h)
def D1Y(hb:HB I):SB I 85 S85:=H4 E85 hb rfl trivial ⟨Rl hb,B4q hb,D3L hb,trivial⟩ func85 Aa6 (λls cs r h=>by
 unfold S85 S2S at h;split at h;obtain⟨hc,h⟩:=H8 h;simp only[Fn,I3]at hc;obtain⟨⟨rfl,rfl⟩,rfl,rfl⟩:=hc;split at h;rename_i d hd;rw[C0f hd];exact L3 (D2F NN) rfl rfl h;cases h;cases h)
def D3f(hb:HB I):SB I 36 S36:=H4 E36 hb rfl ⟨D3H hb,trivial⟩ ⟨B7D hb,Rl hb,Xo hb,B4q hb,D3s hb,B7i hb,D1Y hb,trivial⟩ func36 Abk (λls cs r h=>by
 unfold S36 at h;split at h;obtain⟨hc,h⟩:=H8 h;simp only[Fn,I3]at hc;obtain⟨rfl,rfl⟩:=hc;exact L3 D6m rfl rfl h;cases h)
def D1t(hb:HB I):SP I 11 YF:=Vk Xa hb rfl ⟨B2D hb,C0r hb,C3A hb,D5I hb,trivial⟩ ⟨D3f hb,trivial⟩ func11 Abz (λls r h=>by
 unfold YF at h;split at h;exact mF h (D2r NN);cases h)
def C8l(hb:HB I):SB I 87 S87:=H4 E87 hb rfl trivial ⟨M7 hb,trivial⟩ func87 Aa5 (λls cs r h=>by
 unfold S87 at h;split at h;obtain⟨hc,h⟩:=H8 h;simp only[Fn,I3]at hc;obtain⟨⟨⟨rfl,rfl⟩,⟨rfl,rfl⟩⟩,rfl⟩:=hc;exact L3 (D48 NN) rfl rfl h;cases h)
end Go.Aev
namespace Go.Aev
open Go.Proofs
variable {I:Inv}
def C76(hb:HB I):SP I 89 S89:=A8 E89 hb rfl trivial trivial func89 Aa3 (λls r h=>by
 unfold S89 at h;split at h;exact pG (B4Z · _) h λnn=>by unfold B4Z;simp(disch:=exact krl)only[lc1 kF (D5F ..),lc1 kF (D0j ..),lc1 kF (D5L ..),lc1 kF (C9i ..)];kernel_rfl
 cases h)
def D3h(hb:HB I):SB I 38 S38:=H4 E38 hb rfl ⟨C76 hb,trivial⟩ ⟨M7 hb,B99 hb,Ut hb,C8l hb,C2T hb,trivial⟩ func38 Abi (λls cs r h=>by
 unfold S38 at h;split at h;obtain⟨hc,h⟩:=H8 h;simp only[Fn,I3]at hc;obtain⟨⟨⟨rfl,rfl⟩,⟨rfl,rfl⟩⟩,rfl⟩:=hc;exact L3 D6e rfl rfl h;cases h)
def C8Z(hb:HB I):SP I 12 S12:=A8 E12 hb rfl trivial ⟨M7 hb,hb.s29,B5R hb,D3h hb,trivial⟩ func12 Abx (λls r h=>by
 unfold S12 at h;split at h;exact pG (B6R · _) h λnn=>by unfold B6R;simp(disch:=exact krl)only[lc1 kF (D0N ..)];kernel_rfl
 cases h)
def C6S(hb:HB I):SP I 15 S15:=A8 E15 hb rfl trivial ⟨hb.s29,B3e hb,trivial⟩ func15 Abu (λls r h=>by
 unfold S15 at h;split at h;exact pF h;cases h)
def C2y(hb:HB I):∀d,SP I 21 (B1l (Lc d))
 |0=>by
  exact⟨Abo,λls r h=>by
   unfold sG B1l at h;split at h<;>cases h⟩
 |d+1=>by
  have zt:=C2y hb d;exact A8 (E21 (Lc d)) hb rfl ⟨zt,trivial⟩ trivial func21 Abo (λls r h=>by
   unfold B1l at h;split at h;exact pF h (D4x NN (Lc d));cases h)
def B28(hb:HB I):SP I 21 S21:=(C2y hb DD)
def C5P(hb:HB I):SP I 170 B30:=A8 C5w hb rfl ⟨B28 hb,trivial⟩ trivial func170 call170 (λls r h=>by
 unfold B30 at h;split at h;exact pG (B2R · _ _ _) h λnn=>by unfold B2R;simp(disch:=exact krl)only[lc2 kF (D0S ..)];kernel_rfl
 cases h)
def Uu(hb:HB I):SP I 113 Pj:=A8 C5l hb rfl ⟨C5P hb,trivial⟩ trivial func113 call113 (λls r h=>by
 unfold Pj at h;split at h;exact pG (B1c · _ _ _) h λnn=>by unfold B1c;simp(disch:=exact krl)only[lc2 kF (C8s ..)];kernel_rfl
 cases h)
def C7P(hb:HB I):SP I 112 B4n:=A8 C3x hb rfl ⟨B28 hb,Uu hb,trivial⟩ trivial func112 call112 (λls r h=>by
 unfold B4n at h;split at h;exact pG (B29 · _ _ _) h λnn=>by unfold B29;simp(disch:=exact krl)only[lc2 kF (D4w ..)];kernel_rfl
 cases h)
end Go.Aev
namespace Go.Aev
open Go.Proofs
variable {I:Inv}
def C0g(hb:HB I):∀d,SP I 114 (B1v (Rh d))
 |0=>by
  exact⟨Aby,λls r h=>by
   unfold sG B1v at h;split at h<;>cases h⟩
 |d+1=>by
  have vm:=C0g hb d;exact A8 (B4m (Rh d)) hb rfl ⟨Uu hb,vm,C5P hb,trivial⟩ trivial func114 Aby (λls r h=>by
   unfold B1v at h;split at h;exact pF h (D3e NN (Rh d));cases h)
def C8i(hb:HB I):SP I 114 C4B:=(C0g hb DD)
def D7g(hb:HB I):SP I 50 S50:=A8 E50 hb rfl ⟨C7P hb,Uu hb,C8i hb,trivial⟩ trivial func50 call50 (λls r h=>by
 unfold S50 at h;split at h;exact pG (B08 · _ _ _) h λnn=>by unfold B08;simp(disch:=exact krl)only[lc2 kF (D7a ..)];kernel_rfl
 cases h)
def D6k(hb:HB I):SP I 22 S22:=A8 E22 hb rfl ⟨D7g hb,trivial⟩ trivial func22 call22 (λls r h=>by
 unfold S22 at h;split at h;exact pF h;cases h)
def D3p(hb:HB I):SP I 115 B7c:=A8 C25 hb rfl trivial trivial func115 call115 (λls r h=>by
 unfold B7c at h;split at h;exact pG (B3X · _ _ _) h λnn=>by unfold B3X;simp(disch:=exact krl)only[lc2 kF (D2J ..)];kernel_rfl
 cases h)
def C3I(hb:HB I):SP I 117 B21:=A8 C27 hb rfl ⟨B28 hb,Uu hb,trivial⟩ trivial func117 call117 (λls r h=>by
 unfold B21 at h;split at h;exact pG (B3z · _ _ _) h λnn=>by unfold B3z;simp(disch:=exact krl)only[lc2 kF (D1s ..)];kernel_rfl
 cases h)
def D1B(hb:HB I):SP I 116 B67:=A8 B9Z hb rfl ⟨Uu hb,C3I hb,trivial⟩ trivial func116 call116 (λls r h=>by
 unfold B67 at h;split at h;exact pG (B1b · _ _ _) h λnn=>by unfold B1b;simp(disch:=exact krl)only[lc2 kF (D5n ..)];kernel_rfl
 cases h)
def D3Q(hb:HB I):SP I 118 B54:=A8 B80 hb rfl ⟨Uu hb,trivial⟩ trivial func118 call118 (λls r h=>by
 unfold B54 at h;split at h;exact pG (B05 · _ _ _) h λnn=>by unfold B05;simp(disch:=exact krl)only[lc2 kF (D7w ..)];kernel_rfl
 cases h)
def D04(hb:HB I):SP I 119 B5p:=A8 C2q hb rfl trivial trivial func119 call119 (λls r h=>by
 unfold B5p at h;split at h;exact pG (B3b · _ _ _) h λnn=>by unfold B3b;simp(disch:=exact krl)only[lc2 kF (D6V ..)];kernel_rfl
 cases h)
end Go.Aev
namespace Go.Aev
open Go.Proofs
variable {I:Inv}
def D3w(hb:HB I):SP I 51 S51:=A8 E51 hb rfl ⟨Uu hb,D3p hb,D1B hb,C3I hb,D3Q hb,D04 hb,trivial⟩ trivial func51 call51 (λls r h=>by
 unfold S51 at h;split at h;exact pF h;cases h)
def C6I(hb:HB I):SP I 23 S23:=A8 E23 hb rfl ⟨D3w hb,trivial⟩ trivial func23 call23 (λls r h=>by
 unfold S23 at h;split at h;exact pG (B1u · _ _ _) h λnn=>by unfold B1u;simp(disch:=exact krl)only[lc2 kF (D49 ..)];kernel_rfl
 cases h)
end Go.Aev
namespace Go.Aev
open Go.Proofs
variable {I:Inv}
def C8Y(hb:HB I):SP I 6 S06:=A8 E06 hb rfl ⟨C9W hb,C8X hb,D6E hb,D1t hb,C8Z hb,C6S hb,A8C hb,D55 hb,B28 hb,D6k hb,C6I hb,trivial⟩ trivial Aar call6 (λls r h=>by
 unfold S06 at h;split at h;exact pF h;cases h)
end Go.Aev
namespace Go.Proofs.YtolabkginnkhgaaGreatDoor.printerEnds
open Go.ChangeShapes Go.ChangeMaps Go.WideShapes Go.ChangeAt Go.RowKit Go.Aev
def own:ownKnob prog.godebug=O:=GM
def D05{H:Type}{enc:Aaf×Value->H}(W:World){a1 a2:Option Addr}{l1 c1 l2 c2:Nat}{d1 d2:DataW H}{p1 p2:List MemPlace}(hI:Bv.IB W (wm0 W))
  (h1:Ab2 enc Aaa W 0 (λ_=>Z) Z 22 (.slice a1 l1 c1) d1 p1)(eR:Rows.uptoBulk d1<=1048576)(h2:Ab2 enc Aaa W 0 (λ_=>Z) Z 22 (.slice a2 l2 c2) d2 p2)(cK:Rows.uptoBulk d2<=1048576):
  Calls Aaa 6 #[.slice a1 l1 c1,.slice a2 l2 c2] W λe w'=>e=.returned (.bool Z)/\Below W.heap.size W w':=by
 obtain⟨m,dG,hB,hm⟩:=C16 h1;obtain⟨m',gp,_,oM⟩:=C16 h2;have hF:=D3G hB (HT hm eR) (HT oM cK);have hc:=(C8Y hbI).ok [.sl .u8 m O,.sl .u8 m' O] (.one (.bool Z)) (by
  show G6 (J (okR [.bool] (F06 m m'),O9 [.bool] (F06 m m')))=_;rw[hF];rfl)
 have:=hc W ⟨wm0 W,λ_=>.int .i64 0,λ_=>0,λ_=>0⟩ [.slice a1 l1 c1,.slice a2 l2 c2] hI (D0F W) ⟨⟨dG,λ_ _ _ e=>(by cases e),λ_ _ e=>(by cases e)⟩,⟨gp,λ_ _ _ e=>(by cases e),λ_ _ e=>(by cases e)⟩,trivial⟩ (λe=>by cases e) (λlf dw d hd=>by
  rcases HC.1 dw with rfl|dw;cases hd;rcases HW.1 dw with rfl;cases hd)
 refine this.mono λe w' ⟨v,g',he,hp⟩=>?_;have hv:v=.bool Z:=CRep.bool_inv hp.rep.1;subst hv;exact⟨he,hp.os,hp.tape,hp.output,hp.size,λb hb=>(hp.frame b hb (λe=>by cases e.1)).1⟩
set_option maxRecDepth 100000 in
def D1M(H:Type)(enc:Aaf×Value->H)(W:World)(base:Nat)(args:Array Value)(ds gs:List (DataW H))(jK:List MemPlace)
  (vn:∀(j:Nat) t v,Tryz.f6.params[j]?=J t->args[j]?=J v->Aaz Aaa W .any base t v)
  (hW:DataW.Whole enc Aaa Tryz.f6.params.toList Rows.printerEndsSpec.vars V W args.toList ds gs jK)(hL:laidMetH Aaa Rows.printerEndsUptoRow.laid W)(hk:Rows.uptoSmall H (ds++gs)=Z):
  Calls Aaa 6 args W λe W'=>∃v,e=.returned v/\Rows.printerEndsSpec.post enc Aaa Aai V Z V V W args v W':=by
 have bW:∀(j:Nat) t v,Tryz.f6.params[j]?=J t->args[j]?=J v->Aaz Aaa W .any base t v:=vn;have zu:=hW;obtain⟨p,q,Ft,hV,rfl,oL,gE⟩:=hW;have hA:Ab1 enc Aaa W 0 (λ_=>Z) Z Tryz.f6.params.toList args.toList ds p:=Ft;rw[Aa1]at hA bW;obtain⟨v0,Gm,d0,rQ,p0,q0,aC,rfl,rfl,h0,r0⟩:=trodAll_cons hA;obtain⟨v1,j8,d1,Gn,p1,q1,zv,rfl,rfl,h1,r1⟩:=trodAll_cons r0;obtain⟨rfl,rfl,rfl⟩:=trodAll_nil r1;obtain⟨rfl,rfl⟩:=trodVars_none hV;have rK:args= #[v0,v1]:=by
  cases args;simp_all
 subst rK;obtain⟨a1,zw,uv,rfl⟩:=okWide_slice Aa0 (bW 0 22 v0 rfl rfl);obtain⟨a2,su,sM,rfl⟩:=okWide_slice Aa0 (bW 1 22 v1 rfl rfl);have hb:=C7T hk;have ut:Rows.uptoBulk d0<=1048576:=HT (C3q GN) hb;have fe:Rows.uptoBulk d1<=1048576:=HT (C3q GN) hb;have zx:∀x∈p1,x.block<W.heap.size:=λx hx=>zu.lt x (by simp[hx]);have zy:∀x∈p0,x.block<W.heap.size:=λx hx=>zu.lt x (by simp[hx]);refine(D05 W (D3O hL) h0 ut h1 fe).mono λe W' ⟨he,hb⟩=>?_;subst he;refine⟨_,rfl,[d0,d1],[],(p0++(p1++[]))++[],[],p0++(p1++[]),[],zu,?_,?_,?_,hb.frame _,λh=>by cases h⟩
 exact Aaq (shut_bool underlying4 _) trodAll_mk0;have:Ab1 enc Aaa W' 0 (λb=>decide (b<W.heap.size)) Z [22,22] [.slice a1 zw uv,.slice a2 su sM] [d0,d1] (p0++(p1++[])):=
  Aaq (Ab3 C5t GM (GK GM) h0 hb zy) (Aaq (Ab3 C5t GM (GK GM) h1 hb zx) trodAll_mk0)
 exact this;exact rfl
def reads(os:Os){H:Type}(enc:Aaf×Value->H):∃places,DataW.whole enc Aaa ((B5M (Aay Aaa os ⟨#[], #[],[]⟩)).forCall (λ_ _=>0) ⟨#[], #[.slice O 0 0,.slice O 0 0],[]⟩).memory Tryz.f6.params.toList Rows.printerEndsSpec.vars V #[Aak O 0 0,Aak O 0 0].toList 8=J ([.nil,.nil],[],places):=
 ⟨[],GM⟩
set_option maxRecDepth 100000 in
def D6T(os:Os)(iz:os.Started)(H:Type)(enc:Aaf×Value->H)(F:Stop.Interp):
  ReturnsInHanded {} Aas os 6 .any ((Rows.OpenSpec.upto Rows.printerEndsSpec).preRow enc Aaa Aai Rows.printerEndsUptoRow.domain V Rows.printerEndsUptoRow.laid) (((Rows.OpenSpec.upto Rows.printerEndsSpec).at F).post enc Aaa Aai V Z V V):=by
 obtain⟨places,hx⟩:=reads os enc;refine returnsInHanded_of_row (C:=Aas) (s:=Rows.OpenSpec.upto Rows.printerEndsSpec) own iz GM Aar
  (witness_row_at (enc:=enc) (C:=Aas) V (B5M (Aay Aaa os ⟨#[], #[],[]⟩)) #[.slice O 0 0,.slice O 0 0] rfl GM GM GM
   (OpenSpec.preRow_of_cond 8 hx GM (λk hk=>by cases hk;kernel_rfl) GM (D1g os _))) ?_
 intro W base args ds gs jK bW hW _ vo _ hL _ _;exact D1M H enc W base args ds gs jK bW hW hL (vo _ rfl)
theorem D4h:Rows.PrinterEndsUptoSaid:=
 OpenClaim.holds_of_cond 6 Aai rfl rfl rfl rfl rfl rfl rfl ⟨rfl,rfl,rfl,rfl,rfl⟩ rfl rfl rfl rfl rfl GM Aar GM
  (GK GM) (by unfold Func.isWrapper;first|(rw[GJ (by decide+kernel)];kernel_rfl)|(rw[GI (by decide+kernel)];exact⟨rfl,rfl⟩))
  (λos iz H enc _ F=>by rw[OpenClaim.pre_eq_preRow];exact D6T os iz H enc F)
def plain(f:Aab)(fn:Func)(hf:Tryz.pinned.checked.prog.funcNamed "pergola/pergolalaw11.PrinterEnds" =J f)(Fu:Tryz.pinned.checked.prog.funcs[f]?=J fn):
  V=Tryz.pinned.checked.prog.looks []/\∀(j:Nat) t,fn.params[j]?=J t->Tryz.pinned.checked.prog.wantsStandIn t=V:=by
 obtain rfl:f=6:=Hb ((show prog.funcNamed "pergola/pergolalaw11.PrinterEnds" =J 6 from GM).symm.trans hf)|>.symm;obtain rfl:fn=Aai:=(Hb (func6.symm.trans Fu)).symm;refine⟨GM,λj t ht=>?_⟩;rw[Aa1]at ht;obtain h:t=22:=by simpa using Array.mem_of_getElem? ht
 subst h;exact(show prog.wantsStandIn 22=V from GM)
theorem card:Rows.PrinterEndsUptoCardSaid:=
 Claim7.holds_tied_plain_at .later [] _ _ _ _ D4h (λ_ h=>by cases h) GM (λ_ h=>by cases h) printerEndsUpto_row_tie rfl ⟨rfl,rfl⟩ GM rfl plain GM
end Go.Proofs.YtolabkginnkhgaaGreatDoor.printerEnds
