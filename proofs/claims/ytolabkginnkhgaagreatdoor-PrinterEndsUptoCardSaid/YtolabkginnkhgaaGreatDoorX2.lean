/- Proved here: lemmas that the claim's text uses. Conditions: those that each lemma states. -/
import Derived.OrdersHeld
import Derived.Deep.LoopGhost
import Derived.Shelf.Strings.Builder1
import Derived.Shelf.Strings.Builder2
import Derived.Shelf.Small.Utf8
import Derived.Shelf.Strings.BuilderF
import Derived.Shelf.Strings.BuilderK
import Derived.Shelf.Utf8.AppendRune
import Derived.Shelf.Utf8.RuneCount
import Derived.Shelf.Strings.Builder2Cap
import Derived.Shelf.Strings.Search1
import Derived.Shelf.Strings.Search2
import Derived.Shelf.Strings.Search3
import Derived.Shelf.Strings.Count
import Derived.Shelf.LaysM
import Derived.Shelf.Strings.Shaped
import Derived.Shelf.Strings.Prefix
import Derived.Shelf.Strings.Split
import Derived.Shelf.Unicode.Decode
import Derived.Shelf.Strings.RuneCount
import Derived.Shelf.Bits.Mul64
import Derived.Shelf.Strings.Repeat
import Derived.Shelf.Unicode.DecodeSlow
import Derived.Shelf.Unicode.DecodeAny
import Derived.Test.YtolabkginnkhgaaGreatDoorProg
import Derived.DeepKeys
import Derived.Test.YtolabkginnkhgaaGreatDoorX1
set_option maxRecDepth 100000
set_option linter.unusedVariables false
set_option linter.unusedSimpArgs false
set_option linter.defProp false
open Option renaming some->J,none->O
open Bool renaming true->Z,false->V
open Go.Proofs.Tryz
open Go.IntKind renaming wrap->Aaa
open List renaming length->Aab
open Go.Proofs.Tryz renaming prog->Aac,zeroValue9->Aat,zeroValue5->Aau,zeroValue3->Aav,underlying9->Aaw,underlying5->Aax,underlying3->Aay,sizeOf9->Aaz,sizeOf5->Aa0,sizeOf3->Aa1,isAgg9->Aa2,isAgg5->Aa3,isAgg3->Aa4,zeroValue4->Aa7,zeroValue0->Aa8,underlying4->Aa9,underlying0->Aba,sizeOf4->Abb,sizeOf0->Abc,isAgg4->Abd,isAgg0->Abe,f59->Abj,zeroValue203->Abp,underlying203->Abq,sizeOf203->Abr,isAgg203->Abs,zeroValue22->Abz,zeroValue107->Ab0,zeroValue105->Ab1,underlying22->Ab2,underlying107->Ab3,underlying105->Ab4,sizeOf22->Ab5,sizeOf107->Ab6,sizeOf105->Ab7,isAgg22->Ab8,isAgg107->Ab9,isAgg105->Aca,f216->Acb,f148->Acd,f147->Ace,zeroValue319->Acl,zeroValue318->Acm,zeroValue281->Acn,zeroValue265->Aco,zeroValue264->Acp,zeroValue21->Acq,zeroValue20->Acr,zeroValue172->Acs,underlying319->Acu,underlying318->Acv,underlying316->Acw,underlying281->Acx,underlying265->Acy,underlying264->Acz,underlying21->Ac0,underlying20->Ac1,underlying172->Ac2,sizeOf319->Ac3,sizeOf318->Ac4,sizeOf316->Ac5,sizeOf281->Ac6,sizeOf265->Ac7,sizeOf264->Ac8,sizeOf21->Ac9,sizeOf20->Ada,sizeOf172->Adb,isAgg319->Adc,isAgg318->Ade,isAgg316->Adf,isAgg281->Adg,isAgg265->Adh,isAgg264->Adi,isAgg21->Adj,isAgg20->Adk,isAgg172->Adl
open Go renaming execOp->Aad,TypeId->Aae,Operand->Aaf,FuncId->Aag,run_underlying->Aai,Program->Aaj,callFunc->Aak,IntKind->Aan,sizeOf->Aao,typeInfo->Aas,wpAnyH->Aa6,wpList->Abf,storeCells->Abg,liesAt->Abh,eqGuard->Abi,loadBytes->Abx,eqGuard_at_string->Acj
open Nat renaming beq->Aah,blt->Aal
open UInt8 renaming toNat->Aam,ofNat->Ack
open Go.Shelf renaming Ren->Aap
open Go.World renaming cell?->Aaq,shape?->Aby
open Int renaming tdiv->Aar,tmod->Abm,toNat->Abv
open Go.Op renaming equalIn->Aa5,intCmp->Abk,eqFields->Abl
open Go.Instr renaming sureAddr->Abn,storeAt->Adu,loadAt->Adv
open Go.Proofs.Builder renaming Extra->Abo
open Go.Result renaming andThen->Abt
open Go.Region renaming wanted->Abu,ready->Acf
open Go.Addr renaming mk->Abw
open Go.Oper renaming wp->Acg,upon_value->Ach,upon_skip->Adp
open Go.Builtin renaming unsafeSliceData_->Aci,unsafeString_->Ady
open Go.Sem renaming run_bind->Adm
open Go.RowKit.Below renaming refl->Adn
open Prod.mk renaming inj->Ado
open Go.Lib renaming run_unsafeString_none->Adq,decodeGoB->Adr,decodeGo->Ads,Utf8Tabs->Adt
open Go.IntWalk renaming i32_in->Adw
open ByteArray renaming mk->Adx
open Go.Proofs.Body renaming n169_ntmps->Adz
open Go.Value.tuple renaming injEq->Ad0
open Go.Proofs.Lays renaming n260->Ad1,n197->Ad2,n169->Ad3,n165->Ad4,n138->Ad5,n105->Ad6,n101->Ad7
open Go.Extern.AbiNoEscape renaming same->Ad8
section
open Go.Lib
namespace Go.Aev
def T2:List (Nat×Value)->Nat->Option Value
 |[],_=>O
 |(j,v)::r,i=>bif Aah j i then J v else T2 r i
def evV(fr:List (Nat×Value)):Aaf->Option Value
 | .tmp t=>T2 fr t
 | .const v=>J v
 |_=>O
structure Tm(a:Act)(n:Nat)(fr:List (Nat×Value)):Prop where
 size:a.tmps.size=n
 dfr:a.defers=[]
 get:∀i v,T2 fr i=J v->a.tmps.getD i undef=v
def B6N(fr:List (Nat×Value)):List (Nat×Value)->Prop
 |[]=>True
 |p::r=>T2 fr p.1=J p.2/\B6N fr r
def N6(P:Aaj)(t:Aae):Option (Nat×Nat×Option Gw):=(P.info? t).map λi=>(i.size,i.bytes,i.zero.map λz=>z.cells.toList)
def Sd(P:Aaj)(t:Aae):Bool:=match P.underlying t with
 |some (.int _)=>Z
 |some .bool=>Z
 |some .string=>Z
 |some (.slice _)=>Z
 |_=>V
def OO(P:Aaj)(t:Aae):Bool:=match P.underlying t with
 |some (.struct _)=>Z
 |_=>V
def Se(P:Aaj)(t:Aae)(i:Nat):Option (Nat×Nat):=match P.underlying t with
 |some (.struct fs)=>(fs[i]?).bind λf=>(P.info? f.type).map λj=>(f.offset,j.size)
 |_=>O
def D5d{P:Aaj}{t:Aae}(h:Sd P t=Z)(w:World):(isAgg t).run P w=.ok V w:=by
 unfold Sd at h;split at h<;>first
  |(rename_i h1;simp[isAgg,Aai h1];done)
  |cases h
def D57{P:Aaj}{t:Aae}(h:OO P t=Z)(w:World):(isAgg t).run P w=.ok Z w:=by
 unfold OO at h;split at h;rename_i fs h1;simp[isAgg,Aai h1];cases h
def Lw{P:Aaj}{t:Aae}{sz hJ:Nat}{zc:Gw}(h:N6 P t=J (sz,hJ,J zc)):∃i z,P.info? t=J i/\i.size=sz/\i.bytes=hJ/\i.zero=J z/\z.cells=zc.toArray:=by
 unfold N6 at h;obtain⟨i,h1,h2⟩:=Hi.1 h;simp only[He]at h2;obtain⟨h3,h4,h5⟩:=h2;obtain⟨z,h6,h7⟩:=Hi.1 h5;exact⟨i,z,h1,h3,h4,h6,by rw[<-h7]⟩
section
variable {P:Aaj}{a:Act}{n:Nat}{fr xU:List (Nat×Value)}{w w':World}{o:Oper}{K:Act->World->Prop}{Q:Exit->Act->World->Prop}
def Tm.sub(tm:Tm a n fr)(h:B6N fr xU):Tm a n xU:=by
 refine⟨tm.size,tm.dfr,λi v hv=>tm.get i v ?_⟩
 induction xU with
 |nil=>cases hv
 |cons p r ih=>
  obtain⟨h1,h2⟩:=h;unfold T2 at hv;cases hb:Aah p.1 i with
  |true=>
   rw[hb]at hv;have:=(D5 _ _).1 hb;simp only[GD,GX]at hv;rw[<-this, <-hv];exact h1
  |false=>rw[hb]at hv;exact ih h2 hv
def Tm.ev(tm:Tm a n fr){x:Aaf}{v:Value}(h:evV fr x=J v):a.eval x=v:=by
 cases x with
 |tmp t=>exact tm.get t v h
 |const c=>simp only[evV,GX]at h;exact h
 |global g=>cases h
 |func f=>cases h
def Tm.put(tm:Tm a n fr){d:Nat}{v:Value}(hd:Aal d n=Z):Tm (a.put (J d) v) n ((d,v)::fr):=by
 have ek:d<n:=by simpa [HU]using hd
 refine⟨by rw[Y4];exact tm.size,by rw[B5A];exact tm.dfr,λi u hu=>?_⟩;have aE:d<a.tmps.size:=by rw[tm.size];exact ek
 have hg:(a.put (J d) v).tmps.getD i undef=if d=i then v else a.tmps.getD i undef:=B23 a d i v aE
 rw[hg];unfold T2 at hu;cases hb:Aah d i with
 |true=>
  rw[hb]at hu;simp only[GD,GX]at hu;rw[GJ ((D5 _ _).1 hb),hu]
 |false=>
  rw[hb]at hu;rw[GI λe=>by rw[(D5 _ _).2 e]at hb;cases hb];exact tm.get i u hu
def Tm.none(tm:Tm a n fr){v:Value}:Tm (a.put O v) n fr:=tm
def Sf(tm:Tm a n fr){d:Nat}{v:Value}(aV:o.dst=J d)(hd:Aal d n=Z)(af:(Aad a.eval o).run P w=.ok (.value v) w')(hk:∀a',Tm a' n ((d,v)::fr)->K a' w'):o.wp P a w K Q:=by
 refine K9 af ?_;rw[aV];exact hk _ (tm.put hd)
def Z9(tm:Tm a n fr){x:Aaf}{v:Value}(ag:o.op=.move x:=by rfl)(hx:evV fr x=J v:=by rfl):(Aad a.eval o).run P w=.ok (.value v) w:=by simp[Aad,ag,tm.ev hx]
def B3l(tm:Tm a n fr){x:Aaf}{v:Value}(ag:o.op=.assign x:=by rfl)(hx:evV fr x=J v:=by rfl):(Aad a.eval o).run P w=.ok (.value v) w:=by simp[Aad,ag,tm.ev hx]
def Ye(tm:Tm a n fr){x:Aaf}{i:Nat}{v u:Value}{vs:Gw}(ag:o.op=.extract x i:=by rfl)(hx:evV fr x=J u:=by rfl)(hu:u=.tuple vs.toArray:=by rfl)(hi:vs[i]?=J v:=by rfl):(Aad a.eval o).run P w=.ok (.value v) w:=by
 subst hu;have h1:vs.toArray[i]?=J v:=by simpa using hi
 simp[Aad,ag,tm.ev hx,Instr.extract,hi]
def Lx(tm:Tm a n fr){x:Aaf}{c:Call}{p:Option Addr}{l cp:Nat}{t e:Aae}(ht:P.underlying t=J (.slice e))(ag:o.op=.call c:=by rfl)(az:c.callee=.builtin .len:=by rfl)(aC:c.args= #[x]:=by rfl)(fy:c.argTypes= #[t]:=by rfl){vx:Value}(hx:evV fr x=J vx:=by rfl)(hv:vx=.slice p l cp:=by rfl):
  (Aad a.eval o).run P w=.ok (.value (.int .i64 l)) w:=by
 simp[Aad,ag,resolve,az,aC,fy,tm.ev hx,hv,invoke,builtin,Builtin.len_,Aai ht,goInt]
def Sg(tm:Tm a n fr){op:BinOp}{t yt:Aae}{x y:Aaf}{k0:Aan}{i j:Int}{v:Value}(ag:o.op=.binOp op t x y yt)(hx:evV fr x=J (.int k0 i))(hy:evV fr y=J (.int k0 j))
  (hv:(binOp op t (.int k0 i) (.int k0 j)).run P w=.ok v w):(Aad a.eval o).run P w=.ok (.value v) w:=by
 simp[Aad,ag,tm.ev hx,tm.ev hy,eqGuard_at_int,hv]
def C2k(tm:Tm a n fr){t yt:Aae}{x y:Aaf}{k0:Aan}{i j:Int}(ag:o.op=.binOp .lss t x y yt:=by rfl)(hx:evV fr x=J (.int k0 i):=by rfl)(hy:evV fr y=J (.int k0 j):=by rfl):(Aad a.eval o).run P w=.ok (.value (.bool (decide (i<j)))) w:=
 Sg tm ag hx hy (by simp[binOp,Abk])
def B2c(tm:Tm a n fr){t yt:Aae}{x y:Aaf}{k0:Aan}{i j:Int}(ag:o.op=.binOp .gtr t x y yt:=by rfl)(hx:evV fr x=J (.int k0 i):=by rfl)(hy:evV fr y=J (.int k0 j):=by rfl):(Aad a.eval o).run P w=.ok (.value (.bool (decide (j<i)))) w:=
 Sg tm ag hx hy (by simp[binOp,Abk])
def B5y(tm:Tm a n fr){t yt:Aae}{x y:Aaf}{k0:Aan}{i j:Int}(ag:o.op=.binOp .geq t x y yt:=by rfl)(hx:evV fr x=J (.int k0 i):=by rfl)(hy:evV fr y=J (.int k0 j):=by rfl):(Aad a.eval o).run P w=.ok (.value (.bool (decide (j<=i)))) w:=
 Sg tm ag hx hy (by simp[binOp,Abk])
def C6T(tm:Tm a n fr){t yt:Aae}{x y:Aaf}{k0:Aan}{i j:Int}(ag:o.op=.binOp .eql t x y yt:=by rfl)(hx:evV fr x=J (.int k0 i):=by rfl)(hy:evV fr y=J (.int k0 j):=by rfl):(Aad a.eval o).run P w=.ok (.value (.bool (i==j))) w:=
 Sg tm ag hx hy (by simp[binOp,Abk])
def D4P(tm:Tm a n fr){t yt:Aae}{x y:Aaf}{k0:Aan}{i j:Int}(ag:o.op=.binOp .neq t x y yt:=by rfl)(hx:evV fr x=J (.int k0 i):=by rfl)(hy:evV fr y=J (.int k0 j):=by rfl):(Aad a.eval o).run P w=.ok (.value (.bool (i !=j))) w:=
 Sg tm ag hx hy (by simp[binOp,Abk])
def Vg(tm:Tm a n fr){t yt:Aae}{x y:Aaf}{i j:rg}(ag:o.op=.binOp .eql t x y yt)(hx:evV fr x=J (.string ⟨i.toArray⟩))(hy:evV fr y=J (.string ⟨j.toArray⟩)):(Aad a.eval o).run P w=.ok (.value (.bool (i==j))) w:=by
 have h:(binOp .eql t (.string ⟨i.toArray⟩) (.string ⟨j.toArray⟩)).run P w=.ok (.bool (i==j)) w:=by simp[binOp,Op.stringOp]
 simp[Aad,ag,tm.ev hx,tm.ev hy,Acj,h]
def D22(tm:Tm a n fr){t yt:Aae}{x y:Aaf}{i j:rg}(ag:o.op=.binOp .neq t x y yt)(hx:evV fr x=J (.string ⟨i.toArray⟩))(hy:evV fr y=J (.string ⟨j.toArray⟩)):(Aad a.eval o).run P w=.ok (.value (.bool (!(i==j)))) w:=by
 have h:(binOp .neq t (.string ⟨i.toArray⟩) (.string ⟨j.toArray⟩)).run P w=.ok (.bool (!(i==j))) w:=by simp[binOp,Op.stringOp,bne]
 simp[Aad,ag,tm.ev hx,tm.ev hy,Acj,h]
def QZ(tm:Tm a n fr){t yt:Aae}{x y:Aaf}{k0:Aan}{i j:Int}(ag:o.op=.binOp .add t x y yt:=by rfl)(hx:evV fr x=J (.int k0 i):=by rfl)(hy:evV fr y=J (.int k0 j):=by rfl):(Aad a.eval o).run P w=.ok (.value (.int k0 (k0.wrap (i+j)))) w:=
 Sg tm ag hx hy (by simp[binOp,Op.intArith])
def OP(tm:Tm a n fr){t yt:Aae}{x y:Aaf}{k0:Aan}{i j:Int}(ag:o.op=.binOp .sub t x y yt:=by rfl)(hx:evV fr x=J (.int k0 i):=by rfl)(hy:evV fr y=J (.int k0 j):=by rfl):(Aad a.eval o).run P w=.ok (.value (.int k0 (k0.wrap (i - j)))) w:=
 Sg tm ag hx hy (by simp[binOp,Op.intArith])
def B2q(tm:Tm a n fr){t:Aae}{x:Aaf}{b:Bool}(ag:o.op=.unOp .not t x:=by rfl)(hx:evV fr x=J (.bool b):=by rfl):(Aad a.eval o).run P w=.ok (.value (.bool (!b))) w:=by simp[Aad,ag,tm.ev hx,Op.unary]
def D59(tm:Tm a n fr){c x y:Aaf}{v:Value}(ag:o.op=.pick c x y:=by rfl)(hc:evV fr c=J (.bool Z):=by rfl)(hx:evV fr x=J v:=by rfl):(Aad a.eval o).run P w=.ok (.value v) w:=by simp[Aad,ag,tm.ev hc,tm.ev hx,asBool]
def C8x(tm:Tm a n fr){c x y:Aaf}{v:Value}(ag:o.op=.pick c x y:=by rfl)(hc:evV fr c=J (.bool V):=by rfl)(hy:evV fr y=J v:=by rfl):(Aad a.eval o).run P w=.ok (.value v) w:=by simp[Aad,ag,tm.ev hc,tm.ev hy,asBool]
def Ly(tm:Tm a n fr){t e:Aae}{x i:Aaf}{b off l cp sz hJ:Nat}{zc:Gw}{j:Int}{m:Nat}(ht:P.underlying t=J (.slice e))(bO:N6 P e=J (sz,hJ,J zc))(ag:o.op=.indexAddr t x i)
  {vx:Value}(hx:evV fr x=J vx)(hv:vx=.slice (J ⟨b,off,O⟩) l cp)(hi:evV fr i=J (.int .i64 j))(hj:j=(m:Int))(hm:m<l):(Aad a.eval o).run P w=.ok (.value (.pointer (J ⟨b,off+m*sz,O⟩))) w:=by
 subst hj;obtain⟨ie,z,bO,aw,_⟩:=Lw bO;have cS:(Abw b off O).add (m*sz)=⟨b,off+m*sz,O⟩:=by rw[Hw]
 have h0:(0:Int)<=(m:Int):=FK;have h1:(m:Int)<(l:Int):=FK;simp[Aad,ag,tm.ev hx,hv,tm.ev hi,Instr.indexAt,asIntOf,Aai ht,h0,h1,Aao,Aas,bO,aw,h1,hm,Nat.not_le.2 hm];rw[<-cS]
def LD(tm:Tm a n fr){t:Aae}{x:Aaf}{ad:Addr}{v:Value}(iP:Sd P t=Z)(ag:o.op=.load t x)(hx:evV fr x=J (.pointer (J ad)))(hc:w.cell? ad=J v):(Aad a.eval o).run P w=.ok (.value v) w:=by
 have:=D5d iP;simp[Aad,ag,tm.ev hx,Adv,Abn,loadVar,this,hc]
def Yf{t:Aae}{b off sz hJ:Nat}{zc us:Gw}(iP:OO P t=Z)(bO:N6 P t=J (sz,hJ,J zc))(hl:us.length=sz)(hc:∀(j:Nat) u,us[j]?=J u->w.cell? ⟨b,off+j,O⟩=J u):
  (loadVar t ⟨b,off,O⟩).run P w=.ok (.agg us.toArray) w:=by
 have:=D57 iP;obtain⟨ie,z,bO,aw,_⟩:=Lw bO;have dk:(loadCells ⟨b,off,O⟩ sz).run P w=.ok us.toArray w:=by
  have h1:=run_loadCells (P:=P) w ⟨b,off,O⟩ sz (λj=>us.getD j undef) λj hj=>by
   rw[Hw];have h2:us[j]?=J (us[j]'FK):=GE FK;rw[hc j _ h2,HQ,h2];rfl
  have h3:(List.range sz).map (λj=>us.getD j undef)=us:=by
   apply List.ext_getElem?;intro j;rw[HG];by_cases hj:j<sz;rw[Ho hj,IJ,HQ,GE FK];rfl;rw[IF GQ,IF FK];rfl
  rw[h3]at h1;exact h1
 simp[loadVar,this,Aao,Aas,bO,aw,dk]
def Lz(tm:Tm a n fr){t:Aae}{x:Aaf}{b off sz hJ:Nat}{zc us:Gw}(iP:OO P t=Z)(bO:N6 P t=J (sz,hJ,J zc))(ag:o.op=.load t x)(hx:evV fr x=J (.pointer (J ⟨b,off,O⟩)))
  (hl:us.length=sz)(hc:∀(j:Nat) u,us[j]?=J u->w.cell? ⟨b,off+j,O⟩=J u):(Aad a.eval o).run P w=.ok (.value (.agg us.toArray)) w:=by
 have:=Yf (P:=P) iP bO hl hc;simp[Aad,ag,tm.ev hx,Adv,Abn,this]
def U7(tm:Tm a n fr){t:Aae}{x:Aaf}{i b off o' m:Nat}(hf:Se P t i=J (o',m+1))(ag:o.op=.fieldAddr t x i:=by rfl)(hx:evV fr x=J (.pointer (J ⟨b,off,O⟩)):=by rfl):(Aad a.eval o).run P w=.ok (.value (.pointer (J ⟨b,off+o',O⟩))) w:=by
 unfold Se at hf;split at hf;rename_i fs h1;obtain⟨f,h2,h3⟩:=JP.1 hf;obtain⟨BV,h4,h5⟩:=Hi.1 h3;simp only[He]at h5;have cS:(Abw b off O).add o'=⟨b,off+o',O⟩:=Hw _ _ _;have aw:(Aao f.type).run P w=.ok (m+1) w:=by simp[Aao,Aas,h4,h5.2]
 simp[Aad,ag,tm.ev hx,Instr.fieldAt,Aai h1,h2,Abn,fieldPlace,aw,h5.1,cS];cases hf
def C1q(tm:Tm a n fr){t e:Aae}{x hi:Aaf}{b l cp sz hJ:Nat}{zc:Gw}{k:Nat}{j:Int}(ht:P.underlying t=J (.slice e))(bO:N6 P e=J (sz,hJ,J zc))(ag:o.op=.slice t x O (J hi) O)
  {vx:Value}(hx:evV fr x=J vx)(hv:vx=.slice (J ⟨b,0,O⟩) l cp)(hh:evV fr hi=J (.int .i64 j))(hj:j=(k:Int))(hk:k<=l)(hl:l<=cp):(Aad a.eval o).run P w=.ok (.value (.slice (J ⟨b,0,O⟩) k cp)) w:=by
 subst hj;obtain⟨ie,z,bO,aw,_⟩:=Lw bO;have hb:=B1s P w Z l cp hl O (J (.int .i64 (k:Int))) O 0 k cp (.inl ⟨rfl,rfl⟩) (.inr ⟨.i64,rfl⟩) (.inl ⟨rfl,rfl⟩) (HH _) FK (GU _);have cS:(Abw b 0 O).add 0=⟨b,0,O⟩:=by rw[Hw]
 simp[Aad,ag,tm.ev hx,hv,tm.ev hh,Instr.sliceAt,Instr.slice,Aai ht,hb,Aao,Aas,bO,aw,cS]
def Sh(tm:Tm a n fr){t:Aae}{ps:Array (Nat×Aaf)}{cs:Array Value}(ag:o.op=.build t ps){qs:List (Nat×Value)}(hq:(ps.map λ(i,x)=>(i,a.eval x)).toList=qs)(hb:P.built t qs=J cs):(Aad a.eval o).run P w=.ok (.value (.agg cs)) w:=by
 rw[<-hq]at hb;simp[Aad,ag,run_build w t _ _ hb]
def C5c(tm:Tm a n fr){t:Aae}{i:Nat}{x:Aaf}{v:Value}{ps:Array (Nat×Aaf)}{cs:Array Value}(ag:o.op=.build t ps)(gz:ps= #[(i,x)])(hx:evV fr x=J v)(hb:P.built t [(i,v)]=J cs):(Aad a.eval o).run P w=.ok (.value (.agg cs)) w:=
 Sh tm ag (qs:=[(i,v)]) (by rw[gz];simp[tm.ev hx]) hb
def B7H(tm:Tm a n fr){t:Aae}{i j:Nat}{x y:Aaf}{v u:Value}{ps:Array (Nat×Aaf)}{cs:Array Value}(ag:o.op=.build t ps)(gz:ps= #[(i,x),(j,y)])(hx:evV fr x=J v)(hy:evV fr y=J u)(hb:P.built t [(i,v),(j,u)]=J cs):(Aad a.eval o).run P w=.ok (.value (.agg cs)) w:=
 Sh tm ag (qs:=[(i,v),(j,u)]) (by rw[gz];simp[tm.ev hx,tm.ev hy]) hb
def Qa(tm:Tm a n fr){d:Nat}{t:Aae}{sz hJ:Nat}{zc:Gw}(bO:N6 P t=J (sz,hJ,J zc))(aV:o.dst=J d)(ag:o.op=.alloc t)(hd:Aal d n=Z)(hk:∀a',Tm a' n ((d,.pointer (J ⟨w.heap.size,0,O⟩))::fr)->K a' (w.alloc (.cells zc.toArray t))):o.wp P a w K Q:=by
 obtain⟨ie,z,h1,h2,h3,h4,h5⟩:=Lw bO;refine Sf tm aV hd ?_ hk;simp[Aad,ag,Instr.alloc,zeroValue,Aas,h1,h4,newVar,newRow,h5]
def OQ(tm:Tm a n fr){d:Nat}{t e:Aae}{ps:Array (Nat×Aaf)}{x:Aaf}{sz hJ:Nat}{zc us:Gw}{v:Value}(ht:P.underlying t=J (.slice e))(bO:N6 P e=J (sz,hJ,J zc))(aV:o.dst=J d)(ag:o.op=.buildSlice t 1 ps)(gz:ps= #[(0,x)])(hd:Aal d n=Z)
  (hx:evV fr x=J v)(hv:v.cells=us.toArray)(hl:us.length=sz)(hz:zc.length=sz)(aw:0<sz)(tj:sz<65536)(hk:∀a',Tm a' n ((d,.slice (J ⟨w.heap.size,0,O⟩) 1 1)::fr)->K a' (w.alloc (.cells us.toArray e))):o.wp P a w K Q:=by
 obtain⟨ie,z,h1,h2,h3,h4,h5⟩:=Lw bO;have af:(Instr.buildSlice t 1 #[(0,v)]).run P w=.ok (.slice (J ⟨w.heap.size,0,O⟩) 1 1) (w.alloc (.cells us.toArray e)):=by
  refine run_buildSlice w t e 1 _ _ ie z ht h1 h4 (by rw[h2];omega) (by rw[h2];omega) ?_;have h6:=Great.fill_whole aw [v] ((Array.range (1*ie.size)).map (z.cells[· % z.cells.size]!)) (λu hu=>by rcases HW.1 hu with rfl;rw[hv];simpa using hl) (by simp[h2]);rw[h2]at h6 ⊢;simpa [hv]using h6
 refine Sf tm aV hd ?_ hk;simp[Aad,ag,gz,tm.ev hx,af]
def B8Y(tm:Tm a n fr){t:Aae}{x y:Aaf}{b off sz hJ:Nat}{zc:Gw}{v u:Value}(bO:N6 P t=J (1,hJ,J zc))(aV:o.dst=O)(ag:o.op=.store t x y)
  (hx:evV fr x=J (.pointer (J ⟨b,off,O⟩)))(hy:evV fr y=J v)(hv:v.cells= #[v])(bR:v.oneCell'=Z)(hc:w.cell? ⟨b,off,O⟩=J u)(hf:w.frozen? ⟨b,off,O⟩=V)(hk:K a (w.setCell ⟨b,off,O⟩ v)):o.wp P a w K Q:=by
 obtain⟨ie,z,h1,h2,h3,h4,h5⟩:=Lw bO;have dg:=run_store P w ⟨b,off,O⟩ v .plain bR;simp only[hc,hf]at dg;have cS:(Abw b off O).add 0=⟨b,off,O⟩:=by rw[Hw,Iv]
 have af:(Aad a.eval o).run P w=.ok .skip (w.setCell ⟨b,off,O⟩ v):=by
  have cA:(Aao t).run P w=.ok 1 w:=by simp[Aao,Aas,h1,h2]
  have cN:(Abg ⟨b,off,O⟩ [v]).run P w=.ok () (w.setCell ⟨b,off,O⟩ v):=by
   simp[Abg,cS,dg]
  simp[Aad,ag,tm.ev hx,tm.ev hy,Adu,Abn,storeVar,cA,hv,cN]
 unfold Acg;rw[af,Adp,aV];exact hk
def OR(tm:Tm a n fr){t:Aae}{x y:Aaf}{b off sz hJ:Nat}{zc us:Gw}{v:Value}(bO:N6 P t=J (sz,hJ,J zc))(aV:o.dst=O)(ag:o.op=.store t x y)
  (hx:evV fr x=J (.pointer (J ⟨b,off,O⟩)))(hy:evV fr y=J v)(hv:v.cells=us.toArray)(hl:us.length=sz)(dg:(Abg ⟨b,off,O⟩ us).run P w=.ok () w')(hk:K a w'):o.wp P a w K Q:=by
 obtain⟨ie,z,h1,h2,h3,h4,h5⟩:=Lw bO;have af:(Aad a.eval o).run P w=.ok .skip w':=by
  have cA:(Aao t).run P w=.ok sz w:=by simp[Aao,Aas,h1,h2]
  simp[Aad,ag,tm.ev hx,tm.ev hy,Adu,Abn,storeVar,cA,hv,hl,dg]
 unfold Acg;rw[af,Adp,aV];exact hk
def B02(tm:Tm a n fr){d:Nat}{c:Call}{t u:Aae}{x y:Aaf}{vx vy v':Value}(aV:o.dst=J d)(ag:o.op=.call c)(az:c.callee=.builtin .append)(aC:c.args= #[x,y])(fy:c.argTypes= #[t,u])(hd:Aal d n=Z)
  (hx:evV fr x=J vx)(hy:evV fr y=J vy)(af:(Builtin.append_ #[t,u] o.type #[vx,vy]).run P w=.ok v' w')(hk:∀a',Tm a' n ((d,v')::fr)->K a' w'):o.wp P a w K Q:=
 Sf tm aV hd (by simp[Aad,ag,resolve,az,aC,fy,invoke,builtin,tm.ev hx,tm.ev hy,af]) hk
def MA(tm:Tm a n fr){d:Nat}{c:Call}{f:Aag}{vs:Gw}{R:Ending->World->Prop}(aV:o.dst=J d)(ag:o.op=.call c)(az:c.callee=.value (.func f))(aK:∀args w,(Aak f args).run P w=.ok (.enter f args) w)
  (hd:Aal d n=Z)(aC:c.args.toList.map a.eval=vs)(hc:Calls P f vs.toArray w R)(hk:∀e w',R e w'->∃v,e=.returned v/\∀a',Tm a' n ((d,v)::fr)->K a' w'):o.wp P a w K Q:=by
 have gW:(Aad a.eval o).run P w=.ok (.enter f (c.args.toList.map a.eval).toArray) w:=by
  simp[Aad,ag,resolve,az,Act.eval,Deferred.ofValue,invoke,aK];apply It;simp
 unfold Acg;rw[gW,Oper.upon_enter,aC];refine hc.mono λe w' ff=>?_;obtain⟨v,rfl,hv⟩:=hk e w' ff;rw[aV];exact hv _ (tm.put hd)
def Vh(tm:Tm a n fr){c:Call}{x:Aaf}{v:Value}(h:c.args= #[x])(hx:evV fr x=J v):c.args.toList.map a.eval=[v]:=by rw[h];simp[tm.ev hx]
def B1t(tm:Tm a n fr){c:Call}{x y:Aaf}{v u:Value}(h:c.args= #[x,y])(hx:evV fr x=J v)(hy:evV fr y=J u):c.args.toList.map a.eval=[v,u]:=by rw[h];simp[tm.ev hx,tm.ev hy]
def C81(tm:Tm a n fr){c:Call}{x y z:Aaf}{v u t:Value}(h:c.args= #[x,y,z])(hx:evV fr x=J v)(hy:evV fr y=J u)(hz:evV fr z=J t):c.args.toList.map a.eval=[v,u,t]:=by rw[h];simp[tm.ev hx,tm.ev hy,tm.ev hz]
def C1K{ops:Array Oper}(tm:Tm a n fr){j g:Nat}{b:Bool}(hj:(ops[j]?).bind (·.dst)=J g)(hn:Aal g n=Z)(hv:T2 fr g=J (.bool b)):yielded ops a.tmps j=J b:=by
 have aE:g<a.tmps.size:=by rw[tm.size];simpa [HU]using hn
 have bW:=tm.get g _ hv;have aY:a.tmps[g]?=J (.bool b):=by
  rw[HE,Hc aE]at bW;rw[Hc aE];simpa using bW
 unfold yielded;rw[hj];simp[aY]
def C6k{ops:Array Oper}{ao:List Oper}(tm:Tm a n fr){j g:Nat}{aS:Bool}(hg:o.guard=J (j,aS))(hj:(ops[j]?).bind (·.dst)=J g)(hn:Aal g n=Z)(hv:T2 fr g=J (.bool aS))
  (h:∀K:Act->World->Prop,(∀a w,Abf P ops Q ao a w->K a w)->o.wp P a w K Q):Abf P ops Q (o::ao) a w:=by
 have hy:=C1K tm hj hn hv;refine wpList_step λK hK=>?_;simp only[Abu,hg,hy];simp;exact h K hK
def B53{ops:Array Oper}{ao:List Oper}(tm:Tm a n fr){j g d:Nat}{aS b:Bool}(hg:o.guard=J (j,aS))(aV:o.dst=J d)(hd:Aal d n=Z)(hj:(ops[j]?).bind (·.dst)=J g)(hn:Aal g n=Z)(hv:T2 fr g=J (.bool b))(aP:(b==aS)=V)
  (h:∀a',Tm a' n ((d,undef)::fr)->Abf P ops Q ao a' w):Abf P ops Q (o::ao) a w:=by
 have hy:=C1K tm hj hn hv;refine wpList_step λK hK=>?_;have Dg:(J b==J aS)=V:=by
  cases b<;>cases aS<;>first|rfl|cases aP
 simp only[Abu,hg,hy,Dg];rw[GI GN,aV];exact hK _ _ (h _ (tm.put hd))
end
def Mp:Code->Array Oper
 | .region _ ops _=>ops
 |_=> #[]
def opN(c:Code)(j:Nat):Oper:=((Mp c).toList[j]?).getD ⟨O,.move (.const undef),0, "", #[],O⟩
def B8g(c:Code):Nat->Nat->List Oper
 |_,0=>[]
 |j,m+1=>opN c j::B8g c (j+1) m
section
variable {P:Aaj}{Q:Exit->Act->World->Prop}{a:Act}{w w':World}{c:Code}{n:Nat}{fr:List (Nat×Value)}{o:Oper}{K:Act->World->Prop}
def C5(id m:Nat)(h:c=.region id (Mp c) V)(h2:(Mp c).toList=B8g c 0 m)(hw:Abf P (Mp c) Q (B8g c 0 m) a w):c.wp P Q a w:=by
 rw[h];refine wp_region_list ?_;rw[h2];exact hw
def M2(h:c=.skip)(hq:Q .normal a w):c.wp P Q a w:=by rw[h];exact wp_skip hq
def Si(id:Nat)(h:c=.exit id)(hq:Q (.exit id) a w):c.wp P Q a w:=by rw[h];exact wp_exit hq
def Mq(h:c=.ret)(hq:Q .ret a w):c.wp P Q a w:=by rw[h];exact wp_ret hq
def B3V{S:World->Prop}(hm:P.follows .mixedOrders=Z)(id m:Nat)(h:c=.region id (Mp c) Z)(hs:(Mp c).size=m)
  (hw:Aa6 P .any (Mp c) (H6 Q) S m (Array.replicate m V) a {w with drawn:=w.drawn+1}):c.wp P Q a w:=by
 rw[h];refine Code.wp_mono (Q:=H6 Q) (λe a w h=>by cases e<;>first|exact h|exact h.elim) ?_;subst hs;exact wp_region_held hm hw
def D4Q{ops:Array Oper}{S:World->Prop}{listed:Array Bool}{fuel i d:Nat}{v:Value}(tm:Tm a n fr)(hi:ops[i]?=J o)(hs:Region.noSelect ops=Z)(hf:Region.free .any ops listed i=Z)
  (hr:(Acf .any ops listed).contains i=Z)(hg:o.guard=O)(aV:o.dst=J d)(hd:Aal d n=Z)(hS:S w)(af:∀w,S w->(Aad a.eval o).run P w=.ok (.value v) w)
  (hk:∀a',Tm a' n ((d,v)::fr)->Aa6 P .any ops (H6 Q) S fuel (listed.setIfInBounds i Z) a' w):Aa6 P .any ops (H6 Q) S (fuel+1) listed a w:=by
 refine wpAnyH_take hi hs hf hr (λ_ _ _ h=>h.elim) (.inl ⟨by simp[Abu,hg],af⟩) hS ?_;rw[aV];exact hk _ (tm.put hd)
def Sj{ops:Array Oper}{S:World->Prop}{listed:Array Bool}{fuel i:Nat}(hr:Acf .any ops listed=[i])(hi:ops[i]?=J o)(hg:o.guard=O)
  (h:∀K:Act->World->Prop,(∀a' w',S w'->Aa6 P .any ops (H6 Q) S fuel (listed.setIfInBounds i Z) a' w'->K a' w')->o.wp P a w K (H6 Q)):Aa6 P .any ops (H6 Q) S (fuel+1) listed a w:=by
 refine wpAnyH_all hr GN λj hj=>?_;rcases HW.1 hj with rfl
 unfold Go.wpOp;simp only[hi];rw[GJ (by simp[Abu,hg])];exact .inl (h _ λa' w' h1 h2=>⟨h1,h2⟩)
def Yg{ops:Array Oper}{S:World->Prop}{listed:Array Bool}(hr:Acf .any ops listed=[])(h:Q .normal a w)(fuel:Nat):Aa6 P .any ops (H6 Q) S fuel listed a w:=wpAnyH_done (Q:=H6 Q) hr h fuel
end
def Bk(w:World)(b:Nat)(us:Gw):Prop:=
 ∃c e fz,w.heap[b]?=J (.cells c e fz)/\us.length<=c.size/\fz.2=0/\∀(j:Nat) u,us[j]?=J u->c[j]?=J u
section
variable {w w':World}{b:Nat}{us:Gw}{S:Nat->Prop}{m m':Nat->Nat}
def Bk.cell(h:Bk w b us){j:Nat}{u:Value}(hj:us[j]?=J u):w.cell? ⟨b,j,O⟩=J u:=by
 obtain⟨c,e,fz,h1,h2,h3,h4⟩:=h;simp[Aaq,h1,h4 j u hj]
def Bk.lt(h:Bk w b us):b<w.heap.size:=by
 obtain⟨c,e,fz,h1,_⟩:=h;exact(HJ.1 h1).1
def Bk.frame(h:Bk w b us)(hb:w'.heap[b]?=w.heap[b]?):Bk w' b us:=by
 obtain⟨c,e,fz,h1,h2⟩:=h;exact⟨c,e,fz,hb.trans h1,h2⟩
def KM.bk(k:KM w m w' m' S)(h:Bk w b us)(hS:¬S b):Bk w' b us:=h.frame (k.heap b h.lt hS).1
def Sk{zc:Gw}{t:Aae}:Bk (w.alloc (.cells zc.toArray t)) w.heap.size zc:=
 ⟨zc.toArray,t,(0,0),by show(w.heap.push _)[w.heap.size]?=_;simp,GN,rfl,λj u hj=>by simpa using hj⟩
def Bk.store(P:Aaj)(h:Bk w b us){off:Nat}{vs:Gw}(bw:off+vs.length<=us.length)(bR:∀v∈vs,v.oneCell'=Z)(hm:m b=0)(hz:∀b,w.heap.size<=b->m b=0):
  (Abg ⟨b,off,O⟩ vs).run P w=.ok () (C7 w b off vs)/\Bk (C7 w b off vs) b (P3 us off vs)/\KM w m (C7 w b off vs) m (λk=>k=b):=by
 obtain⟨c,e,fz,h1,h2,h3,h4⟩:=h;obtain⟨s1,⟨c',s2,s3,s4,s5⟩,s6,s7,s8,s9,jR⟩:=Px P b e fz vs off w c h1 FK (λj h5 h6=>FK) bR;obtain⟨o1,o2⟩:=B1R us off vs bw;refine⟨s1 _ 0 GN (HH _),⟨c',e,fz,s2,by rw[o1,s3];exact h2,h3,λj u hj=>?_⟩,⟨s8,s9,jR,by rw[s6];exact GU _,λk _ hk=>⟨s7 k hk,rfl⟩,⟨VJ h1 s2 s7,λk o ho=>?_,λ_=>GU _⟩,λk hk=>hz k (by rw[s6]at hk;exact hk)⟩⟩;rw[o2]at hj;by_cases dj:off<=j/\j<off+vs.length;rw[GJ dj]at hj;have:=s5 (j - off) u hj;rw[show off+(j - off)=j from FK]at this;exact this;rw[GI dj]at hj;rw[s4 j FK];exact h4 j u hj;have hk:k≠b:=λe=>by rw[e,hm]at ho;omega
 exact HK (a:=⟨k,o,O⟩) (s7 k hk)
def ArrN.store(P:Aaj){sz n:Nat}{v:Value}{xs vs:Gw}(h:ArrN w sz v n xs){cap off:Nat}(hv:v=.slice (J ⟨b,0,O⟩) n cap)(hb:G1 v=J b)(bw:off+vs.length<=xs.length)(bR:∀v∈vs,v.oneCell'=Z)(hm:m b=0)(hz:∀b,w.heap.size<=b->m b=0):
  (Abg ⟨b,off,O⟩ vs).run P w=.ok () (C7 w b off vs)/\ArrN (C7 w b off vs) sz v n (P3 xs off vs)/\KM w m (C7 w b off vs) m (λk=>k=b):=by
 obtain⟨hl,a,gu,dE,uq,hc⟩:=h;rw[hv]at dE;cases dE;have h0:cap≠0:=λh0=>by rw[hv,h0]at hb;simp[G1]at hb
 obtain⟨b',c,e,fz,ha,h1,h2,h3,h4⟩:=hc.resolve_left h0;cases ha;have dL:n*sz<=cap*sz:=Hq _ uq;have xV:Bk w b xs:=⟨c,e,fz,h1,FK,h3,h4⟩;obtain⟨s1,⟨c',s2,s3,s4,s5⟩,s6,s7,s8,s9,jR⟩:=Px P b e fz vs off w c h1 FK (λj h5 h6=>FK) bR;obtain⟨q1,q2,q3⟩:=xV.store P bw bR hm hz;obtain⟨c2,e2,sc,r1,r2,r3,r4⟩:=q2;obtain⟨o1,o2⟩:=B1R xs off vs bw;rw[s2]at r1;cases r1;exact⟨q1,⟨by rw[o1];exact hl,_,cap,hv,uq,.inr ⟨b,c',e,fz,rfl,s2,by rw[s3];exact h2,h3,r4⟩⟩,q3⟩
def Vi{w:World}{m:Nat->Nat}(hz:∀b,w.heap.size<=b->m b=0):KM w m {w with drawn:=w.drawn+1} m (λ_=>False):=
 ⟨rfl,rfl,rfl,GU _,λ_ _ _=>⟨rfl,rfl⟩,⟨VI rfl,λ_ _ _=>rfl,λ_=>GU _⟩,hz⟩
def G0(ρ:Nat->Nat)(n r:Nat):Nat->Nat:=λb=>if b<n then ρ b else r
structure Sys(w0:World)(m0:Nat->Nat)(M:Nat->Prop)(w:World)(m:Nat->Nat)(ρ:Nat->Nat):Prop where
 km:KM w0 m0 w m M
 zr:∀b,ρ b≠0->m b=0
 base:∀b,b<w0.heap.size->ρ b≠0->M b
variable {w0:World}{m0:Nat->Nat}{M:Nat->Prop}{ρ:Nat->Nat}
def Sys.z(h:Sys w0 m0 M w m ρ):∀b,w.heap.size<=b->m b=0:=h.km.zero
def Sys.step(h:Sys w0 m0 M w m ρ)(k:KM w m w' m' S)(hS:∀b,b<w.heap.size->S b->ρ b≠0)(Dh:∀b,b<w.heap.size->S b->m' b=0)(r:Nat)(hr:r≠0->∀b,w.heap.size<=b->m' b=0):Sys w0 m0 M w' m' (G0 ρ w.heap.size r):=by
 classical
 refine⟨h.km.trans (k.mono (T:=λb=>S b) λ_ _ h=>h) λb hb hs=>?_,λb hb=>?_,λb hb hr=>?_⟩;exact h.base b hb (hS b (t8 hb h.km.size) hs);unfold G0 at hb;by_cases aE:b<w.heap.size;rw[GJ aE]at hb;by_cases hs:S b;exact Dh b aE hs;rw[(k.heap b aE hs).2];exact h.zr b hb;rw[GI aE]at hb;exact hr hb b FK;unfold G0 at hr;rw[GJ (t8 hb h.km.size)]at hr;exact h.base b hb hr
def Sys.stepM(h:Sys w0 m0 M w m ρ)(k:KM w m w' m S)(hS:∀b,b<w.heap.size->S b->ρ b≠0)(r:Nat):Sys w0 m0 M w' m (G0 ρ w.heap.size r):=
 h.step k hS (λb hb hs=>h.zr b (hS b hb hs)) r (λ_ b hb=>h.z b hb)
def Sys.stay(h:Sys w0 m0 M w m ρ)(k:KM w m w' m S)(hS:∀b,b<w.heap.size->S b->ρ b≠0):Sys w0 m0 M w' m ρ:=by
 refine⟨h.km.trans k λb hb hs=>h.base b hb (hS b (t8 hb h.km.size) hs),h.zr,h.base⟩
def Sys.close(h:Sys w0 m0 M w m ρ)(k:KM w m w m' S)(hS:∀b,b<w.heap.size->S b->ρ b≠0){ρ':Nat->Nat}(h1:∀b,ρ' b≠0->ρ b≠0/\¬S b):Sys w0 m0 M w m' ρ':=by
 refine⟨h.km.trans k λb hb hs=>h.base b hb (hS b (t8 hb h.km.size) hs),λb hb=>?_,λb hb hr=>h.base b hb (h1 b hr).1⟩;by_cases aE:b<w.heap.size;rw[(k.heap b aE (h1 b hb).2).2];exact h.zr b (h1 b hb).1;exact k.zero b FK
def I0{n r b:Nat}(h:b<n):G0 ρ n r b=ρ b:=GJ h
def LE{n r b:Nat}(h:n<=b):G0 ρ n r b=r:=GI FK
end
end Go.Aev
end
namespace Go.Aev
variable {Ty:Type}{den:Ty->Type}
def LsC(U:UO Ty den)(w:World)(m:Nat->Nat):List (Leaf Ty den)->Gw->Prop
 |[],[]=>True
 |l::ls,v::vs=>CRep U w m l v/\LsC U w m ls vs
 |_,_=>False
def clL:Leaf Ty den->Bool
 | .sl _ _ (J _)=>V
 | .ptr _ _=>V
 |_=>Z
section
variable {P:Aaj}{U:UO Ty den}{I:Inv}{w w':World}{m m':Nat->Nat}
def LsC.mono(hU:U.Ok)(hx:Ext w m w' m'):∀{ls:List (Leaf Ty den)}{vs:Gw},LsC U w m ls vs->LsC U w' m' ls vs
 |[],[],_=>trivial
 |_::_,_::_,h=>⟨h.1.mono hU hx,LsC.mono hU hx h.2⟩
 |[],_::_,h=>h.elim
 |_::_,[],h=>h.elim
def LsC.len:∀{ls:List (Leaf Ty den)}{vs:Gw},LsC U w m ls vs->ls.length=vs.length
 |[],[],_=>rfl
 |_::_,_::_,h=>by simp[LsC.len h.2]
 |[],_::_,h=>h.elim
 |_::_,[],h=>h.elim
def LsC.get:∀{ls:List (Leaf Ty den)}{vs:Gw},LsC U w m ls vs->∀(j:Nat) lf,ls[j]?=J lf->∃v,vs[j]?=J v/\CRep U w m lf v
 |[],[],_,j,lf,h=>by simp at h
 |_::_,_::_,h,0,lf,hj=>by cases hj;exact⟨_,rfl,h.1⟩
 |_::_,_::_,h,j+1,lf,hj=>by
  obtain⟨v,h1,h2⟩:=LsC.get h.2 j lf (by simpa using hj);exact⟨v,by simpa using h1,h2⟩
 |[],_::_,h,_,_,_=>h.elim
 |_::_,[],h,_,_,_=>h.elim
def LsC.of_rep{g:Gh}:∀{ls:List (Leaf Ty den)}{vs:Gw},LsRep U w g ls vs->LsC U w g.wm ls vs
 |[],[],_=>trivial
 |_::_,_::_,h=>⟨h.1.1,LsC.of_rep h.2⟩
 |[],_::_,h=>h.elim
 |_::_,[],h=>h.elim
def D4b{lf:Leaf Ty den}{v:Value}{g:Gh}(h:clL lf=Z):Own w g U lf v:=by
 cases lf with
 |sl t l o=>
  cases o with
  |none=>exact⟨λt l d e=>(by cases e),λ_ _ e=>(by cases e)⟩
  |some e=>cases h
 |ptr d o=>cases h
 |_=>exact⟨λt l d e=>(by cases e),λ_ _ e=>(by cases e)⟩
def Yh{lf:Leaf Ty den}{d:Nat}(h:clL lf=Z):lf.has d=V:=by
 cases lf with
 |sl t l o=>
  cases o with
  |none=>rfl
  |some e=>cases h
 |ptr d o=>cases h
 |_=>rfl
def LsC.rep{g:Gh}(hg:g.wm=m):∀{ls:List (Leaf Ty den)}{vs:Gw},LsC U w m ls vs->ls.all clL=Z->LsRep U w g ls vs
 |[],[],_,_=>trivial
 |l::ls,_::_,h,hc=>by
  rw[JO,Fn]at hc;exact⟨⟨by rw[hg];exact h.1,D4b hc.1⟩,LsC.rep hg h.2 hc.2⟩
 |[],_::_,h,_=>h.elim
 |_::_,[],h,_=>h.elim
def B6G:∀{ls:List (Leaf Ty den)},ls.all clL=Z->L2 ls=V
 |[],_=>rfl
 |l::ls,h=>by
  rw[JO,Fn]at h;have ih:=B6G h.2;have h1:=h.1;cases l with
  |sl t x o=>
   cases o with
   |none=>exact ih
   |some e=>cases h1
  |ptr d o=>cases h1
  |_=>exact ih
def EC(U:UO Ty den)(w:World)(m:Nat->Nat)(e:Ent Ty den)(v:Value):Prop:=
 match e with
 | .one l=>CRep U w m l v
 | .tup ls=>∃vs:Gw,v=.tuple vs.toArray/\LsC U w m ls vs
 |_=>True
def Mr{f:Aag}{S:List (Leaf Ty den)->Option (Ent Ty den)}(xW:Sound P U I f S){ls:List (Leaf Ty den)}{r:Ent Ty den}{vs:Gw}(hS:S ls=J r)(hI:I w m)(hz:∀b,w.heap.size<=b->m b=0)(bu:LsC U w m ls vs)(hc:ls.all clL=Z):
  Calls P f vs.toArray w λe w'=>∃v m',e=.returned v/\KM w m w' m' (λ_=>False)/\EC U w' m' r v:=by
 refine(xW.ok ls r hS w ⟨m,λ_=>.int .i64 0,λ_=>0,λ_=>0⟩ vs hI hz (bu.rep rfl hc) (λe=>by rw[B6G hc]at e;cases e) (λlf dw d hd=>by
  rw[Yh ((HM.1 hc) lf dw)]at hd;cases hd)).mono λe w' ⟨v,g',he,p⟩=>⟨v,g'.wm,he,⟨p.os,p.tape,p.output,p.size,λb hb _=>p.frame b hb (λe=>by rw[B6G hc]at e;cases e.1),p.ext,p.zero⟩,?_⟩
 have:=p.rep;cases r with
 |one l=>exact this.1
 |tup ls=>obtain⟨vs,h1,h2⟩:=this;exact⟨vs,h1,LsC.of_rep h2⟩
 |_=>trivial
def C2s{g:Gh}:∀{asq bs:List (Leaf Ty den)}{us vs:Gw},asq.length=us.length->LsRep U w g (asq++bs) (us++vs)->LsRep U w g asq us/\LsRep U w g bs vs
 |[],bs,[],vs,_,h=>⟨trivial,h⟩
 |a::asq,bs,u::us,vs,hl,h=>by
  obtain⟨h1,h2⟩:=C2s (asq:=asq) (us:=us) (by simpa using hl) h.2;exact⟨⟨h.1,h1⟩,h2⟩
 |[],_,_::_,_,hl,_=>by cases hl
 |_::_,_,[],_,hl,_=>by cases hl
def D1p{f:Aag}{S:List (Leaf Ty den)->List (List (Leaf Ty den))->Option (List (Leaf Ty den)×List (List (Leaf Ty den)))}(xW:Mm P U I f S){ls c rs c':List (Leaf Ty den)}{vs us:Gw}{b:Nat}
  (hS:S (.ptr 900000 0::ls) [c]=J (rs,[c']))(hI:I w m)(hz:∀b,w.heap.size<=b->m b=0)(bu:LsC U w m ls vs)(cE:ls.all clL=Z)(xV:Bk w b us)(Di:∀u∈us,u.oneCell'=Z/\u.cells= #[u])(co:0<us.length)(hm:m b=0)(hc:LsC U w m c us)(gD:c.all clL=Z):
  Calls P f (.pointer (J ⟨b,0,O⟩)::vs).toArray w λe w'=>∃m' rv jo,e=.returned (R0 rv)/\KM w m w' m' (λk=>k=b)/\Bk w' b jo/\m' b=0/\jo.length=us.length/\(∀u∈jo,u.oneCell'=Z/\u.cells= #[u])/\LsC U w' m' c' jo/\LsC U w' m' rs rv:=by
 have aA:=hc.len;obtain⟨cc,e,fz,k1,k2,k3,k4⟩:=xV
 let g:Gh:=⟨m,λ_=>.slice (J ⟨b,0,O⟩) 0 us.length,λ_=>1,λ_=>0⟩
 have bc:spare (Value.slice (J ⟨b,0,O⟩) 0 us.length)=J b:=by
  simp only[spare];rw[GI FK]
 have ur:∀(d:Nat),J7 (D6 (Ty:=Ty) (den:=den) 0 [c]) d->d=900000:=λd ⟨lf,h1,h2⟩=>by
  simp only[D6,GY,HC]at h1;rcases h1 with rfl|h1;simp only[Leaf.has]at h2;exact((D5 _ _).1 h2).symm;rw[Yh ((HM.1 gD) lf h1)]at h2;cases h2
 have oh:∀(o:Nat),o=0->LRep U w g (.ptr 900000 o) (.pointer (J ⟨b,0,O⟩)):=λo ho=>by
  subst ho;exact⟨.pt _ _ _,λ_ _ _ e=>(by cases e),λd o e=>by cases e;exact⟨b,us.length,rfl,.inl ⟨rfl,GO⟩⟩⟩
 have hx:LsRep U w g (D6 0 [c]) (Q8 [(b,us)]):=by
  simp only[D6,Q8,GY];exact⟨oh 0 rfl,hc.rep rfl gD⟩
 refine(xW.ok _ _ _ _ hS w g (.pointer (J ⟨b,0,O⟩)::vs) [(b,us)] hI hz ⟨oh 0 rfl,bu.rep rfl cE⟩ hx ⟨⟨rfl,aA.symm,co,rfl,λj u hj=>⟨by simp[Aaq,k1,k4 j u hj],Di u (HI hj)⟩⟩,trivial⟩
  (λd _=>⟨_,0,us.length,rfl,HH _,.inr ⟨b,0,cc,e,fz,rfl,k1,by(show 0+us.length*1<=_;omega),by(show m b=0+0*1;rw[hm]),by rw[k3];exact HH _⟩⟩)
  (λd e' b' hd he aP=>absurd ((ur d hd).trans (ur e' he).symm) aP) (λlf dw d hd=>?_)).mono λe w' ⟨g',rv,dH,he,wH,p,px,itq⟩=>?_
 rcases HC.1 dw with rfl|dw;exact⟨.ptr 900000 0,by simp[D6,B2],hd⟩;rw[Yh ((HM.1 cE) lf dw)]at hd;cases hd
 
 have ob:∃jo,dH=[(b,jo)]/\jo.length=us.length:=by
  match dH,itq with
  |[(b',jo)],itq=>
   simp only[IN,KE,Ir,He,and_true]at itq;exact⟨jo,by rw[itq.1],itq.2⟩
  |[],itq=>simp at itq
  |_::_::_,itq=>simp at itq
 obtain⟨jo,rfl,qR⟩:=ob;obtain⟨⟨hG,oc,FO,dh,aH⟩,_⟩:=px;have anq:=p.rep;obtain⟨kQ,gm,gp⟩:=anq;have rM:kQ=rv++Q8 [(b,jo)]:=by
  simp only[Ad0]at gm;have:=congrArg Array.toList gm;simpa using this.symm
 subst rM;obtain⟨q1,q2⟩:=C2s wH gp;simp only[D6,Q8,GY]at q2;have cU:=p.tip 900000 (by simp[Ent.has,D6,B2,Leaf.has]);obtain⟨a0,len,cap,AK,Dj,rZ⟩:=cU;have my:g'.G 900000=.slice (J ⟨b,0,O⟩) 0 jo.length:=hG;have xX:g'.Gs 900000=1:=dh;rw[my]at AK;cases AK;obtain⟨b2,qg,c2,e2,sc,jW,dM,z1,z2,z3⟩:=rZ.resolve_left FK;cases jW;rw[xX]at z1 z2;have nq:g'.wm b=0:=by rw[z2]
 refine⟨g'.wm,rv,jo,he,⟨p.os,p.tape,p.output,p.size,λk hk aP=>p.frame k hk λ⟨d,hd,hs⟩=>aP ?_,p.ext,p.zero⟩,⟨c2,e2,sc,dM,FK,FK,λj u hj=>?_⟩,nq,qR,λu hu=>?_,LsC.of_rep q2.2,LsC.of_rep q1⟩;have:J b=J k:=by rw[<-bc];exact hs
 exact(Hb this).symm;obtain⟨h5,_⟩:=aH j u hj;simp only[Aaq,dM]at h5;simpa using h5;obtain⟨j,hj,rfl⟩:=II hu;exact(aH j _ (GE hj)).2
end
end Go.Aev
namespace Go.Proofs
open Go.Shelf
def lays169_ren:Aap:=⟨λ|169=>29|n=>n,λ|70=>105|9=>9|0=>0|72=>107|37=>22|127=>172|3=>3|5=>5|n=>n,λ|n=>n⟩
def lays169:Ad3 Aac lays169_ren:={
 mixed:=GM
 f169:=func29.trans (congrArg J GM)
 t0:=Aba
 a0:=Abe
 z0:=Abc
 v0:=Aa8
 t3:=Aay
 a3:=Aa4
 z3:=Aa1
 v3:=Aav
 t9:=Aaw
 a9:=Aa2
 z9:=Aaz
 v9:=Aat
 t37:=Ab2
 a37:=Ab8
 z37:=Ab5
 v37:=Abz
 t70:=Ab4
 a70:=Aca
 z70:=Ab7
 v70:=Ab1
 t72:=Ab3
 a72:=Ab9
 z72:=Ab6
 v72:=Ab0
 t127:=Ac2
 a127:=Adl
 z127:=Adb
 v127:=Acs}
def Builder_Extra_169:Abo Aac lays169_ren:={
 sizeBuilder:=GM
 liesBuilder:=GM
 t5:=Aax
 a5:=Aa3
 z5:=Aa0
 v5:=Aau
 infoByte:=GM
 cellsByte:=GM
 sizeByte:=GM
 neB5:=GO}
def lays165_ren:Aap:=⟨λ|165=>107|240=>138|241=>168|276=>188|277=>203|n=>n,λ|70=>105|3=>3|0=>0|4=>4|9=>9|20=>20|72=>107|37=>22|164=>281|5=>5|n=>n,λ|n=>n⟩
def lays165:Ad4 Aac lays165_ren:={
 mixed:=GM
 f165:=func107.trans (congrArg J GM)
 f240:=func138.trans (congrArg J GM)
 f241:=func168.trans (congrArg J GM)
 f276:=func188.trans (congrArg J GM)
 f277:=func203.trans (congrArg J GM)
 t0:=Aba
 a0:=Abe
 z0:=Abc
 v0:=Aa8
 t3:=Aay
 a3:=Aa4
 z3:=Aa1
 v3:=Aav
 t4:=Aa9
 a4:=Abd
 z4:=Abb
 v4:=Aa7
 t9:=Aaw
 a9:=Aa2
 z9:=Aaz
 v9:=Aat
 t20:=Ac1
 a20:=Adk
 z20:=Ada
 v20:=Acr
 t37:=Ab2
 a37:=Ab8
 z37:=Ab5
 v37:=Abz
 t70:=Ab4
 a70:=Aca
 z70:=Ab7
 v70:=Ab1
 t72:=Ab3
 a72:=Ab9
 z72:=Ab6
 v72:=Ab0
 t164:=Acx
 a164:=Adg
 z164:=Ac6
 v164:=Acn}
def Builder_Extra_165:Abo Aac lays165_ren:={
 sizeBuilder:=GM
 liesBuilder:=GM
 t5:=Aax
 a5:=Aa3
 z5:=Aa0
 v5:=Aau
 infoByte:=GM
 cellsByte:=GM
 sizeByte:=GM
 neB5:=GO}
def lays219_ren:Aap:=⟨λ|219=>169|217=>204|225=>205|224=>206|267=>207|266=>228|314=>229|n=>n,λ|9=>9|3=>3|4=>4|5=>5|46=>203|146=>265|51=>264|n=>n,λ|1=>0|n=>n⟩
def lays138_ren:Aap:=⟨λ|138=>48|195=>109|218=>110|143=>111|219=>169|217=>204|225=>205|224=>206|267=>207|266=>228|314=>229|n=>n,λ|9=>9|3=>3|4=>4|5=>5|0=>0|46=>203|146=>265|51=>264|n=>n,λ|1=>0|n=>n⟩
def lays138:Ad5 Aac lays138_ren:={
 mixed:=GM
 f138:=func48.trans (congrArg J GM)
 f143:=func111.trans (congrArg J GM)
 f195:=func109.trans (congrArg J GM)
 f217:=func204.trans (congrArg J GM)
 f218:=func110.trans (congrArg J GM)
 f219:=func169.trans (congrArg J GM)
 f224:=func206.trans (congrArg J GM)
 f225:=func205.trans (congrArg J GM)
 f266:=func228.trans (congrArg J GM)
 f267:=func207.trans (congrArg J GM)
 f314:=func229.trans (congrArg J GM)
 t0:=Aba
 a0:=Abe
 z0:=Abc
 v0:=Aa8
 t3:=Aay
 a3:=Aa4
 z3:=Aa1
 v3:=Aav
 t4:=Aa9
 a4:=Abd
 z4:=Abb
 v4:=Aa7
 t5:=Aax
 a5:=Aa3
 z5:=Aa0
 v5:=Aau
 t9:=Aaw
 a9:=Aa2
 z9:=Aaz
 v9:=Aat
 t46:=Abq
 a46:=Abs
 z46:=Abr
 v46:=Abp
 t51:=Acz
 a51:=Adi
 z51:=Ac8
 v51:=Acp
 t146:=Acy
 a146:=Adh
 z146:=Ac7
 v146:=Aco
 g1:=GM}
open Go.RowKit Go.Lib in
def strings_Count_one(s:ByteArray)(c:UInt8)(w:World):
 Calls Aac 48 #[.string s,.string ⟨#[c]⟩] w λe w'=>e=.returned (.int .i64 (Lib.countByte s.data.toList c))/\w'=w:=Any.strings_Count_one lays138 s c w
def lays206_ren:Aap:=⟨λ|206=>167|n=>n,λ|9=>9|4=>4|3=>3|n=>n,λ|n=>n⟩
def lays101_ren:Aap:=⟨λ|101=>65|208=>140|206=>167|n=>n,λ|9=>9|4=>4|3=>3|n=>n,λ|n=>n⟩
def lays101:Ad7 Aac lays101_ren:={
 mixed:=GM
 f101:=func65.trans (congrArg J GM)
 f206:=func167.trans (congrArg J GM)
 f208:=func140.trans (congrArg J GM)
 t3:=Aay
 a3:=Aa4
 z3:=Aa1
 v3:=Aav
 t4:=Aa9
 a4:=Abd
 z4:=Abb
 v4:=Aa7
 t9:=Aaw
 a9:=Aa2
 z9:=Aaz
 v9:=Aat}
open Go.RowKit Go.Lib in
def strings_TrimPrefix(s p:ByteArray)(w:World):
 Calls Aac 65 #[.string s,.string p] w λe w'=>e=.returned (.string ⟨(Lib.trimPrefix s.data.toList p.data.toList).toArray⟩)/\w'=w:=Any.strings_TrimPrefix lays101 s p w
def lays197_ren:Aap:=⟨λ|197=>217|260=>236|n=>n,λ|9=>9|21=>21|3=>3|4=>4|5=>5|105=>217|119=>316|0=>0|46=>203|139=>319|138=>318|n=>n,λ|3=>1|4=>2|n=>n⟩
def lays197:Ad2 Aac lays197_ren:={
 mixed:=GM
 f197:=func217.trans (congrArg J GM)
 f260:=func236.trans (congrArg J GM)
 t0:=Aba
 a0:=Abe
 z0:=Abc
 v0:=Aa8
 t3:=Aay
 a3:=Aa4
 z3:=Aa1
 v3:=Aav
 t4:=Aa9
 a4:=Abd
 z4:=Abb
 v4:=Aa7
 t5:=Aax
 a5:=Aa3
 z5:=Aa0
 v5:=Aau
 t9:=Aaw
 a9:=Aa2
 z9:=Aaz
 v9:=Aat
 t21:=Ac0
 a21:=Adj
 z21:=Ac9
 v21:=Acq
 t46:=Abq
 a46:=Abs
 z46:=Abr
 v46:=Abp
 t105:=underlying217
 a105:=isAgg217
 z105:=sizeOf217
 v105:=zeroValue217
 t119:=Acw
 a119:=Adf
 z119:=Ac5
 t138:=Acv
 a138:=Ade
 z138:=Ac4
 v138:=Acm
 t139:=Acu
 a139:=Adc
 z139:=Ac3
 v139:=Acl
 g3:=GM
 g4:=GM}
def lays105_ren:Aap:=⟨λ|105=>47|212=>105|99=>106|165=>107|166=>62|170=>108|169=>29|263=>165|264=>166|206=>167|240=>138|241=>168|276=>188|277=>203|n=>n,λ|9=>9|3=>3|4=>4|20=>20|0=>0|46=>203|109=>204|5=>5|72=>107|76=>163|51=>264|146=>265|53=>267|148=>268|70=>105|37=>22|75=>162|127=>172|164=>281|80=>112|n=>n,λ|n=>n⟩
def lays105:Ad6 Aac lays105_ren:={
 mixed:=GM
 f99:=func106.trans (congrArg J GM)
 f105:=func47.trans (congrArg J GM)
 f165:=func107.trans (congrArg J GM)
 f166:=func62.trans (congrArg J GM)
 f169:=func29.trans (congrArg J GM)
 f170:=func108.trans (congrArg J GM)
 f206:=func167.trans (congrArg J GM)
 f212:=func105.trans (congrArg J GM)
 f240:=func138.trans (congrArg J GM)
 f241:=func168.trans (congrArg J GM)
 f263:=func165.trans (congrArg J GM)
 f264:=func166.trans (congrArg J GM)
 f276:=func188.trans (congrArg J GM)
 f277:=func203.trans (congrArg J GM)
 t0:=Aba
 a0:=Abe
 z0:=Abc
 v0:=Aa8
 t3:=Aay
 a3:=Aa4
 z3:=Aa1
 v3:=Aav
 t4:=Aa9
 a4:=Abd
 z4:=Abb
 v4:=Aa7
 t5:=Aax
 a5:=Aa3
 z5:=Aa0
 v5:=Aau
 t9:=Aaw
 a9:=Aa2
 z9:=Aaz
 v9:=Aat
 t20:=Ac1
 a20:=Adk
 z20:=Ada
 v20:=Acr
 t37:=Ab2
 a37:=Ab8
 z37:=Ab5
 v37:=Abz
 t46:=Abq
 a46:=Abs
 z46:=Abr
 v46:=Abp
 t51:=Acz
 a51:=Adi
 z51:=Ac8
 v51:=Acp
 t53:=underlying267
 a53:=isAgg267
 z53:=sizeOf267
 v53:=zeroValue267
 t70:=Ab4
 a70:=Aca
 z70:=Ab7
 v70:=Ab1
 t72:=Ab3
 a72:=Ab9
 z72:=Ab6
 v72:=Ab0
 t75:=underlying162
 a75:=isAgg162
 z75:=sizeOf162
 v75:=zeroValue162
 t76:=underlying163
 a76:=isAgg163
 z76:=sizeOf163
 v76:=zeroValue163
 t109:=underlying204
 a109:=isAgg204
 z109:=sizeOf204
 v109:=zeroValue204
 t127:=Ac2
 a127:=Adl
 z127:=Adb
 v127:=Acs
 t146:=Acy
 a146:=Adh
 z146:=Ac7
 v146:=Aco
 t148:=underlying268
 a148:=isAgg268
 z148:=sizeOf268
 v148:=zeroValue268
 t164:=Acx
 a164:=Adg
 z164:=Ac6
 v164:=Acn}
def Builder_Extra_105:Abo Aac lays105_ren:={
 sizeBuilder:=GM
 liesBuilder:=GM
 t5:=Aax
 a5:=Aa3
 z5:=Aa0
 v5:=Aau
 infoByte:=GM
 cellsByte:=GM
 sizeByte:=GM
 neB5:=GO}
open Go.RowKit Go.Lib in
def strings_Repeat(s:ByteArray)(c:Nat)(w:World)(hc:c<=9223372036854775807)(aA:s.size*c<=140737488355328):
 Calls Aac 47 #[.string s,.int .i64 c] w λe w'=>e=.returned (.string ⟨(Lib.repeatL s.data.toList c).toArray⟩)/\Below w.heap.size w w':=Any.strings_Repeat lays105 Builder_Extra_105 s c w hc aA
def lays260_ren:Aap:=⟨λ|260=>236|n=>n,λ|9=>9|21=>21|3=>3|4=>4|5=>5|119=>316|0=>0|46=>203|139=>319|138=>318|n=>n,λ|3=>1|4=>2|n=>n⟩
def lays260:Ad1 Aac lays260_ren:={
 mixed:=GM
 f260:=func236.trans (congrArg J GM)
 t0:=Aba
 a0:=Abe
 z0:=Abc
 v0:=Aa8
 t3:=Aay
 a3:=Aa4
 z3:=Aa1
 v3:=Aav
 t4:=Aa9
 a4:=Abd
 z4:=Abb
 v4:=Aa7
 t5:=Aax
 a5:=Aa3
 z5:=Aa0
 v5:=Aau
 t9:=Aaw
 a9:=Aa2
 z9:=Aaz
 v9:=Aat
 t21:=Ac0
 a21:=Adj
 z21:=Ac9
 v21:=Acq
 t46:=Abq
 a46:=Abs
 z46:=Abr
 v46:=Abp
 t119:=Acw
 a119:=Adf
 z119:=Ac5
 t138:=Acv
 a138:=Ade
 z138:=Ac4
 v138:=Acm
 t139:=Acu
 a139:=Adc
 z139:=Ac3
 v139:=Acl
 g3:=GM
 g4:=GM}
open Go.RowKit Go.Lib in
def utf8_DecodeRuneInString(s:ByteArray)(w:World)(hT:Adt 1 2 w):
 Calls Aac 217 #[.string s] w λe w'=>e=.returned (.tuple #[.int .i32 (Ads s).1,.int .i64 (Ads s).2])/\Below w.heap.size w w':=Any.utf8_DecodeRuneInString lays197 s w hT
end Go.Proofs
namespace Go.Proofs
open Go.Shelf Go.RowKit
variable {P:Aaj}{ρ:Ren}
set_option maxHeartbeats 2000000 in
set_option maxRecDepth 100000 in
def B5Q(L:Lays.n169 P ρ)(X:Abo P ρ)(w w2:World)(b cap:Nat)(q:Option Addr)(n:Nat)(s:ByteArray)(c1:w.drew.cell? ⟨b,1,O⟩=J (.slice q n cap))
  (vM:(Aci #[(ρ.t 37)] (ρ.t 127) #[.slice q n cap]).run P w.drew=.ok (.pointer q) w.drew)
  (Dk:(Ady #[(ρ.t 127),(ρ.t 3)] (ρ.t 9) #[.pointer q,.int .i64 n]).run P w.drew=.ok (.string s) w2):
  Calls P (ρ.f 169) #[.pointer (J ⟨b,0,O⟩)] w λe w'=>e=.returned (.string s)/\w'=w2:=by
 have mixed:=L.mixed;have t72:=L.t72;have a72:=L.a72;have z72:=L.z72;have v72:=L.v72;have AL:=Aai L.t72;have t70:=L.t70;have a70:=L.a70;have z70:=L.z70;have v70:=L.v70;have AM:=Aai L.t70;have t37:=L.t37;have a37:=L.a37;have z37:=L.z37;have v37:=L.v37;have Dl:=Aai L.t37;have t127:=L.t127;have a127:=L.a127;have z127:=L.z127;have v127:=L.v127;have xY:=Aai L.t127;have t3:=L.t3;have a3:=L.a3;have z3:=L.z3;have v3:=L.v3;have u3:=Aai L.t3;have t9:=L.t9;have a9:=L.a9;have z9:=L.z9;have v9:=L.v9;have u9:=Aai L.t9;have t5:=X.t5;have a5:=X.a5;have z5:=X.z5;have v5:=X.v5;have u5:=Aai X.t5
 go_enter L.f169,Adz ρ
 go_wp2
 go_region_o
 all_goals(go_wp2;go_ret;exact⟨rfl,rfl⟩)
set_option maxHeartbeats 2000000 in
set_option maxRecDepth 100000 in
def D2Y(L:Lays.n169 P ρ)(X:Abo P ρ)(w:World)(b:Nat)(q:Addr)(sh:Aae×Nat)(aE:b<w.heap.size)(c0:w.cell? ⟨b,1,O⟩=J (.slice (J q) 0 0))(lH:w.shape? q.block=J sh):
  Calls P (ρ.f 169) #[.pointer (J ⟨b,0,O⟩)] w λe w'=>e=.returned (.string .empty)/\w'=(w.drew.alloc (.view q (ρ.t 5))):=by
 have Dk:=Any.unsafeString_none L X;have c1:w.drew.cell? ⟨b,1,O⟩=J (.slice (J q) 0 0):=c0;have vM:(Aci #[(ρ.t 37)] (ρ.t 127) #[.slice (J q) 0 0]).run P w.drew=.ok (.pointer (J ⟨w.drew.heap.size,0,O⟩)) (w.drew.alloc (.view q (ρ.t 5))):=
  Lib.run_unsafeSliceData_zero w.drew _ _ (ρ.t 5) L.t127 q 0 sh lH
 have c2:(w.drew.alloc (.view q (ρ.t 5))).cell? ⟨b,1,O⟩=J (.slice (J q) 0 0):=
  (World.cell?_of_block (a:=⟨b,1,O⟩) (Lib.alloc_old w.drew _ b aE)).trans c0
 have c3:(w.alloc (.view q (ρ.t 5))).drew.cell? ⟨b,1,O⟩=J (.slice (J q) 0 0):=c2;have mixed:=L.mixed;have t72:=L.t72;have a72:=L.a72;have z72:=L.z72;have v72:=L.v72;have AL:=Aai L.t72;have t70:=L.t70;have a70:=L.a70;have z70:=L.z70;have v70:=L.v70;have AM:=Aai L.t70;have t37:=L.t37;have a37:=L.a37;have z37:=L.z37;have v37:=L.v37;have Dl:=Aai L.t37;have t127:=L.t127;have a127:=L.a127;have z127:=L.z127;have v127:=L.v127;have xY:=Aai L.t127;have t3:=L.t3;have a3:=L.a3;have z3:=L.z3;have v3:=L.v3;have u3:=Aai L.t3;have t9:=L.t9;have a9:=L.a9;have z9:=L.z9;have v9:=L.v9;have u9:=Aai L.t9;have t5:=X.t5;have a5:=X.a5;have z5:=X.z5;have v5:=X.v5;have u5:=Aai X.t5
 go_enter L.f169,Adz ρ
 go_wp2
 go_region_o
 all_goals(go_wp2;go_ret;exact⟨rfl,rfl⟩)
set_option maxHeartbeats 2000000 in
set_option maxRecDepth 100000 in
def D3l(L:Lays.n240 P ρ)(X:Builder.X72 P ρ)(b:Nat)(w:World)(h0:w.cell? ⟨b,0,O⟩=J (.pointer O))(T:Aae)(n:Nat)(lH:w.shape? b=J (T,n))(hn:0<n)
  (mL:Abh P P.depth T (n / P.cellsOf T) 0 (ρ.t 72) 1=Z)(oL:w.frozen? ⟨b,0,O⟩=V):
  Calls P (ρ.f 240) #[.pointer (J ⟨b,0,O⟩)] w λe w'=>e=.returned (.tuple #[])/\w'=w.setCell ⟨b,0,O⟩ (.pointer (J ⟨b,0,O⟩)):=by
 obtain⟨j,hj,nD⟩:=Option.map_eq_some_iff.1 X.sizeBuilder;have mixed:=L.mixed;have t72:=L.t72;have a72:=L.a72;have z72:=L.z72;have v72:=L.v72;have AL:=Aai L.t72;have t70:=L.t70;have a70:=L.a70;have z70:=L.z70;have v70:=L.v70;have AM:=Aai L.t70;have t9:=L.t9;have a9:=L.a9;have z9:=L.z9;have v9:=L.v9;have u9:=Aai L.t9;have t4:=L.t4;have a4:=L.a4;have z4:=L.z4;have v4:=L.v4;have u4:=Aai L.t4;have t164:=L.t164;have a164:=L.a164;have z164:=L.z164;have v164:=L.v164;have Dm:=Aai L.t164
 go_enter L.f240,Body.n240_ntmps ρ
 go_wp2
 rw[Lib.run_to_unsafe w ⟨b,0,O⟩ L.t70 L.t164 hj (by rw[nD];decide) lH hn];simp only[Abt];rw[Ach]
 go_wp2
 rw[run_callFunc_extern L.f276 GM GM GM (e:=Ad8) GM];rw[Lib.run_noEscape];simp only[Abt];rw[Ach]
 go_wp2
 rw[Lib.run_from_unsafe w ⟨b,0,O⟩ L.t164 L.t70 hj lH mL];simp only[Abt];rw[Ach]
 go_wp2
 go_end0
 exact⟨rfl,rfl⟩
end Go.Proofs
namespace Go.Aev
open Go.Proofs
structure BB(w:World)(g:Gh)(b:Nat)(u0 u1:Value)(l:Gp):Prop where
 G:g.G 900000=.slice (J ⟨b,0,O⟩) 0 2
 Gs:g.Gs 900000=1
 c0:w.cell? ⟨b,0,O⟩=J u0
 c1:w.cell? ⟨b,1,O⟩=J u1
 s0:B2V U6 w b/\(u0=.pointer O\/u0=.pointer (J ⟨b,0,O⟩))
 r1:LRep U6 w g (.sl .u8 l (J 92000001)) u1
 t0:Tip w g.wm (g.G 900000) (g.Gs 900000)
 t1:Tip w g.wm (g.G 92000001) (g.Gs 92000001)
 dis:∀k,spare (g.G 92000001)=J k->k≠b
def nm2{l:Gp}{d:Nat}:J7 (Ty:=Ty6) (den:=A2) (D6 0 [[.ptr 900000 A9,.sl .u8 l (J 92000001)]]) d↔d=900000\/d=92000001:=by
 constructor;rintro⟨lf,h1,h2⟩;simp only[D6,GY,HC,Hh,or_false]at h1;rcases h1 with rfl|rfl|rfl;exact .inl ((D5 _ _).1 h2).symm;exact .inl ((D5 _ _).1 h2).symm;exact .inr ((D5 _ _).1 h2).symm;rintro(rfl|rfl);exact⟨.ptr 900000 0,by simp[D6,B2],rfl⟩;exact⟨.sl .u8 l (J 92000001),by simp[D6,B2],rfl⟩
def C2L{P:Aaj}{I:Inv}{f:Aag}{l:Gp}{rs:Gt}(cE:rs.all clL=Z)
  (h:∀(w:World)(g:Gh)(b:Nat)(u0 u1:Value),(∀k,w.heap.size<=k->g.wm k=0)->BB w g b u0 u1 l->Calls P f #[.pointer (J ⟨b,0,O⟩)] w λe w'=>
   ∃rv nG,e=.returned (R0 rv)/\LsC U6 w' g.wm rs rv/\BB w' g b nG u1 l/\KM w g.wm w' g.wm (λk=>k=b\/spare (g.G 92000001)=J k)):
  T3 P U6 I f [.ptr 900000 0] [[.ptr 900000 A9,.sl .u8 l (J 92000001)]] rs [[.ptr 900000 A9,.sl .u8 l (J 92000001)]]:=by
 intro w g vs cn hI hz bu hx px cU xZ dP
 match vs,cn,bu,px,hx with
 |[v0],[(b,us)],⟨zF,_⟩,px,hx=>?_
 obtain⟨⟨hG,qR,co,dh,aH⟩,_⟩:=px
 match us,qR,hG,hx,aH with
 |[u0,u1],_,hG,hx,aH=>?_
 obtain⟨hp,q0,q1,_⟩:=hx;obtain⟨b1,n1,e1,e2⟩:=zF.2.2 900000 0 rfl;obtain⟨b2,n2,e3,e4⟩:=q0.2.2 900000 A9 rfl;have my:g.G 900000=.slice (J ⟨b,0,O⟩) 0 2:=hG;rw[my]at e1 e3;cases e1;cases e3;have hv:v0=.pointer (J ⟨b,0,O⟩):=e2.at GO;subst hv;have ut:B2V U6 w b/\(u0=.pointer O\/u0=.pointer (J ⟨b,0,O⟩)):=by
  rcases e4 with⟨_,h⟩|⟨_,h1,h2⟩|⟨h,_⟩;exact absurd h GO;exact⟨h1,h2⟩;exact absurd h GO
 have gZ:spare (g.G 900000)=J b:=by rw[my];rfl
 have bb:BB w g b u0 u1 l:=⟨my,dh,(aH 0 u0 rfl).1,(aH 1 u1 rfl).1,ut,q1,cU 900000 (nm2.2 (.inl rfl)),cU 92000001 (nm2.2 (.inr rfl)),λk hk e=>by
  subst e;exact xZ 900000 92000001 k (nm2.2 (.inl rfl)) (nm2.2 (.inr rfl)) GO gZ hk⟩
 refine(h w g b u0 u1 hz bb).mono ?_;rintro e w' ⟨rv,nG,he,nA,mM,km⟩;have bR:∀{u:Value},u=nG\/u=u1->u.oneCell'=Z/\u.cells= #[u]:=λ{u} hu=>by
  rcases hu with rfl|rfl;rcases mM.s0.2 with h|h<;>(rw[h];exact⟨rfl,rfl⟩);obtain⟨a,cap,h⟩:=mM.r1.1.sl_inv;rw[h];exact⟨rfl,rfl⟩
 have hM:∀k,(∃d,J7 (Ty:=Ty6) (den:=A2) (D6 0 [[.ptr 900000 A9,.sl .u8 l (J 92000001)]]) d/\spare (g.G d)=J k)↔(k=b\/spare (g.G 92000001)=J k):=λk=>by
  constructor;rintro⟨d,h1,h2⟩;rcases nm2.1 h1 with rfl|rfl;rw[gZ]at h2;cases h2;exact .inl rfl;exact .inr h2;rintro(rfl|h);exact⟨900000,nm2.2 (.inl rfl),gZ⟩;exact⟨92000001,nm2.2 (.inr rfl),h⟩
 have io:∀d,(Ent.tup (rs++D6 0 [[.ptr 900000 A9,.sl .u8 l (J 92000001)]]):E6).has d=Z->d=900000\/d=92000001:=λd hd=>by
  simp only[Ent.has,Hm,Hg]at hd;obtain⟨lf,h1|h1,h2⟩:=hd;rw[Yh ((HM.1 cE) lf h1)]at h2;cases h2;exact nm2.1 ⟨lf,h1,h2⟩
 have qC:∀{l1:Gt}{us:Gw}{bs:Gt}{vs:Gw},LsRep U6 w' g l1 us->LsRep U6 w' g bs vs->LsRep U6 w' g (l1++bs) (us++vs):=λ{l1 us}=>by
  induction l1 generalizing us with
  |nil=>intro bs vs h1 h2;cases us with
   |nil=>exact h2
   |cons _ _=>cases h1
  |cons x l1 ih=>intro bs vs h1 h2;cases us with
   |nil=>cases h1
   |cons u us=>exact⟨h1.1,ih h1.2 h2⟩
 refine⟨g,rv,[(b,[nG,u1])],he,nA.len,{os:=km.os,tape:=km.tape,output:=km.output,size:=km.size,frame:=λk hk hn=>km.heap k hk (λh=>hn ((hM k).2 h)),ext:=km.ext,zero:=km.zero,rep:=?_,nit:=rfl,tip:=λd hd=>?_,disj:=λd e k hd he aP h1 h2=>?_,mine:=λd k hd hk=>.inr ?_},⟨⟨my,rfl,Nat.zero_lt_succ _,dh,λj u hj=>?_⟩,trivial⟩,rfl⟩;refine⟨_,rfl,?_⟩;rw[Q8];exact qC (nA.rep rfl cE) ⟨⟨.pt _ _ _,λ_ _ _ e=>(by cases e),λd o e=>by cases e;exact⟨b,2,my,.inl ⟨rfl,GO⟩⟩⟩,⟨(by rcases mM.s0.2 with h|h<;>(rw[h];exact .pt _ _ _)),λ_ _ _ e=>(by cases e),λd o e=>by cases e;exact⟨b,2,my,.inr (.inl ⟨rfl,mM.s0⟩)⟩⟩,mM.r1,trivial⟩;rcases io d hd with rfl|rfl;exact mM.t0;exact mM.t1;rcases io d hd with rfl|rfl<;>rcases io e he with rfl|rfl
 exact aP rfl;rw[gZ]at h1;cases h1;exact mM.dis _ h2 rfl;rw[gZ]at h2;cases h2;exact mM.dis _ h1 rfl;exact aP rfl;rcases io d hd with rfl|rfl;exact⟨900000,nm2.2 (.inl rfl),hk⟩;exact⟨92000001,nm2.2 (.inr rfl),hk⟩
 match j,hj with
 |0,hj=>cases hj;exact⟨mM.c0,bR (.inl rfl)⟩
 |1,hj=>cases hj;exact⟨mM.c1,bR (.inr rfl)⟩
def D0z:(λ(k:Nat)=>Abh Aac prog.depth 109 (k+1) 0 107 1)=(λ_=>Z):=GM
def C7U:prog.cellsOf 109=2:=GM
def B98:prog.cellsOf 5=1:=GM
def C9d{n:Nat}(h:2<=n):Abh Aac prog.depth 109 (n / prog.cellsOf 109) 0 107 1=Z:=by
 rw[C7U];obtain⟨k,hk⟩:∃k,n / 2=k+1:=⟨n / 2 - 1,FK⟩;rw[hk];exact congrFun D0z k
def BB.blk{w:World}{g:Gh}{b:Nat}{u0 u1:Value}{l:Gp}(h:BB w g b u0 u1 l):∃c fz,w.heap[b]?=J (.cells c 109 fz)/\2<=c.size/\fz.2=0/\g.wm b=0:=by
 obtain⟨c,fz,h1⟩:=h.s0.1;obtain⟨a0,len,cap,hv,bw,hc⟩:=h.t0;rw[h.G]at hv;cases hv;obtain⟨b',off,c',e',jy,ha,hb,h2,h3,h4⟩:=hc.resolve_left GO;cases ha;rw[h1]at hb;cases hb;rw[h.Gs]at h2 h3;have hm:g.wm b=0:=by rw[h3]
 exact⟨c,fz,h1,FK,FK,hm⟩
def Sl{w w':World}{m:Nat->Nat}{v:Value}{sz:Nat}(h:Tip w m v sz)(hb:∀k c e fz,spare v=J k->w.heap[k]?=J (.cells c e fz)->∃c',w'.heap[k]?=J (.cells c' e fz)/\c'.size=c.size):Tip w' m v sz:=by
 obtain⟨a0,len,cap,rfl,bw,hc⟩:=h;by_cases h0:cap=0;exact⟨_,_,_,rfl,bw,.inl h0⟩;obtain⟨b,off,c,e,fz,ha,h1,h2,h3,h4⟩:=hc.resolve_left h0;subst ha;obtain⟨c',h5,h6⟩:=hb b c e fz (by simp[spare,h0]) h1;exact⟨_,_,_,rfl,bw,.inr ⟨b,off,c',e,fz,rfl,h5,by rw[h6];exact h2,h3,h4⟩⟩
def D3V{w:World}{g:Gh}{b:Nat}{u0 u1:Value}{l:Gp}(hz:∀k,w.heap.size<=k->g.wm k=0)(h:BB w g b u0 u1 l):Calls Aac 138 #[.pointer (J ⟨b,0,O⟩)] w λe w'=>
   ∃rv nG,e=.returned (R0 rv)/\LsC U6 w' g.wm [] rv/\BB w' g b nG u1 l/\KM w g.wm w' g.wm (λk=>k=b\/spare (g.G 92000001)=J k):=by
 obtain⟨c,fz,hb,fF,oL,hm⟩:=h.blk;rcases h.s0.2 with rfl|rfl;refine(D3l (ρ:=lays165_ren) {lays165 with} Builder_Extra_165.toX72 b w h.c0 109 c.size (by simp[Aby,hb]) FK (C9d fF) (by
  simp only[World.frozen?,hb];simp;omega)).mono ?_
 rintro e w' ⟨rfl,rfl⟩;have bZ:=B1p w b 0 (.pointer (J ⟨b,0,O⟩)) c 109 fz hb;have cy:∀k,k≠b->(w.setCell ⟨b,0,O⟩ (.pointer (J ⟨b,0,O⟩))).heap[k]?=w.heap[k]? :=λk hk=>Xz w b 0 k _ hk;generalize hw:w.setCell ⟨b,0,O⟩ (.pointer (J ⟨b,0,O⟩))=w' at*;have aw:w'.heap.size=w.heap.size:=by rw[<-hw];simp[World.setCell]
 have hx:Ext w g.wm w' g.wm:=⟨VJ hb bZ cy,λk o ho=>HK (a:=⟨k,o,O⟩) (cy k (λe=>by rw[e,hm]at ho;omega)),λ_=>GU _⟩;have gN:=h.c1;refine⟨[],_,rfl,trivial,{G:=h.G,Gs:=h.Gs,c0:=?_,c1:=?_,s0:=⟨⟨_,_,bZ⟩,.inr rfl⟩,r1:=h.r1.same u6_ok hx rfl rfl,t0:=?_,t1:=?_,dis:=h.dis},
  ⟨by rw[<-hw];rfl,by rw[<-hw];rfl,by rw[<-hw];rfl,by rw[aw];exact GU _,λk hk hn=>⟨cy k (λe=>hn (.inl e)),rfl⟩,hx,λk hk=>hz k (by rw[aw]at hk;exact hk)⟩⟩
 simp[Aaq,bZ,show 0<c.size from FK];simp only[Aaq,hb]at gN;simp[Aaq,bZ];simpa using gN;refine Sl h.t0 λk c1 e1 iE hk h1=>?_;rw[h.G]at hk;cases hk;rw[hb]at h1;cases h1;exact⟨_,bZ,GN⟩
 refine Sl h.t1 λk c1 e1 iE hk h1=>?_;exact⟨c1,by rw[cy k (h.dis k hk)];exact h1,rfl⟩
 refine(Any.Builder_copyCheck_used (ρ:=lays165_ren) {lays165 with} Builder_Extra_165.toX72 b w h.c0).mono ?_;rintro e w' ⟨rfl,rfl⟩;exact⟨[],_,rfl,trivial,h,⟨rfl,rfl,rfl,GU _,λ_ _ _=>⟨rfl,rfl⟩,Ext.refl _ _,hz⟩⟩
def C9u:∀args w,(Aak 138 args).run Aac w=.ok (.enter 138 args) w:=enters_of func138 GM rfl
def D6B:∀args w,(Aak 29 args).run Aac w=.ok (.enter 29 args) w:=enters_of func29 GM rfl
def C4x(l:Gp)(rs:Gt)(n:Nat):csR [[.ptr 900000 A9,.sl .u8 (J n)]] (J (rs,[[.ptr 900000 A9,.sl .u8 l (J n)]]))=[[.ptr 900000 A9,.sl .u8 l (J n)]]:=by
 simp only[csR,Yb,Ya,V3,gC,HQ];simp[B1G]
def D4y{I:Inv}:Mm Aac U6 I 138 (sGB B2d):=by
 refine⟨C9u,λls cs rs ay h=>?_⟩;unfold sGB B2d at h;split at h;rename_i d0 o0 p0 q0 l n;obtain⟨h1,h2⟩:=H8 h;obtain⟨h3,h4⟩:=ON h2;simp only[Fn,I3]at h1;obtain⟨⟨⟨rfl,rfl⟩,rfl,rfl⟩,rfl⟩:=h1;rw[show Sa l=J ([],[[.ptr 900000 A9,.sl .u8 l (J 92000001)]])from rfl,C4x]at h4;cases h4;exact C2L (rs:=[]) rfl λw g b u0 u1 hz bb=>D3V hz bb
 cases h
def C2b{P:Aaj}{w:World}:∀(l:Gp)(a:Addr)(a7:ByteArray),(∀(j:Nat)(x:Int),l[j]?=J x->w.cell? (a.add j)=J (.int .u8 x))->
  (Abx a a7 l.length).run P w=.ok ⟨a7.data++(toB l).toArray⟩ w
 |[],a,a7,_=>by simp[Abx,toB]
 |x::l,a,a7,h=>by
  have h0:w.cell? a=J (.int .u8 x):=by
   have:=h 0 x rfl;simpa [Addr.add]using this
  have ih:=C2b (P:=P) l (a.add 1) (a7.push (x.toNat).toUInt8) (λj y hy=>by
   have:=h (j+1) y (by simpa using hy);have e:(a.add 1).add j=a.add (j+1):=by
    unfold Addr.add;by_cases hj:j=0;subst hj;simp;simp[hj];omega
   rw[e];exact this)
  simp only[Fr,Abx,Adm,run_load,h0,Abt];rw[ih];congr 1;apply ByteArray.ext;simp[ByteArray.push,toB]
def D7v{count off n:Nat}(h:off+n<=count):Abh Aac prog.depth 5 count off 5 n=Z:=by
 have hd:prog.depth=(2*(prog.types.size+Made.depth)+1)+1:=rfl;rw[hd];simp only[Abh,Hx];left;rw[hd];simp[rowAt,B98,h,sameLayout,Nat.mod_one]
def D6K{w:World}{b off:Nat}{l:Gp}{c:Array Value}{fz:Nat×Nat}(hp:prog.underlying 172=J (.pointer 5))(hb:w.heap[b]?=J (.cells c 5 fz))(hn:off+l.length<=c.size)(hl:l≠[])(vV:l.length<=140737488355328)
  (hc:∀(j:Nat)(x:Int),l[j]?=J x->w.cell? ⟨b,off+j,O⟩=J (.int .u8 x)):
  (Ady #[172,3] 9 #[.pointer (J ⟨b,off,O⟩),.int .i64 (l.length:Int)]).run Aac w=.ok (.string ⟨(toB l).toArray⟩) (w.freeze ⟨b,off,O⟩ l.length):=by
 have h0:l.length≠0:=by simpa using hl
 have oA:=C2b (P:=Aac) (w:=w) l ⟨b,off,O⟩ .empty (λj x hj=>by rw[Hw];exact hc j x hj);have mL:=D7v (count:=c.size) (off:=off) (n:=l.length) hn;have pP:¬(9223372036854775807:Int)<(l.length:Int):=FK;have ya:IntKind.i64.max=9223372036854775807:=rfl;have yb:¬(l.length:Int)<0:=FK;have lH:w.shape? b=J (5,c.size):=by simp[Aby,hb]
 show(Bind.bind (asInt (.int .i64 (l.length:Int))) _).run Aac w=_;simp[asInt,asIntOf,ya,pP,yb,h0,variablesAt,lH,elemOf,Aai hp,B98,mL,oA]
def D64{w:World}{b off n:Nat}{c:Array Value}{e:Aae}{fz:Nat×Nat}(hn:n≠0)(hb:w.heap[b]?=J (.cells c e fz)):
  (w.freeze ⟨b,off,O⟩ n).heap[b]?=J (.cells c e (if fz.1==fz.2 then(off,off+n)else(min fz.1 off,max fz.2 (off+n))))/\(∀k,k≠b->(w.freeze ⟨b,off,O⟩ n).heap[k]?=w.heap[k]?)/\(w.freeze ⟨b,off,O⟩ n).heap.size=w.heap.size/\
  (w.freeze ⟨b,off,O⟩ n).os=w.os/\(w.freeze ⟨b,off,O⟩ n).tape=w.tape/\(w.freeze ⟨b,off,O⟩ n).output=w.output:=by
 unfold World.freeze;rw[GI hn];refine⟨?_,λk hk=>?_,GN,rfl,rfl,rfl⟩;simp only[IM,hb,if_true,IJ];simp only[IM];rw[GI (λe=>hk e.symm)]
def D4D{w:World}{g:Gh}{b:Nat}{u0 u1:Value}{l:Gp}(vV:l.length<=140737488355328)(hz:∀k,w.heap.size<=k->g.wm k=0)(h:BB w g b u0 u1 l):Calls Aac 29 #[.pointer (J ⟨b,0,O⟩)] w λe w'=>
   ∃rv nG,e=.returned (R0 rv)/\LsC U6 w' g.wm [.str (toB l)] rv/\BB w' g b nG u1 l/\KM w g.wm w' g.wm (λk=>k=b\/spare (g.G 92000001)=J k):=by
 obtain⟨c,fz,hb,fF,oL,hm⟩:=h.blk;obtain⟨yc,Dn,er⟩:=h.r1.2.1 .u8 l 92000001 rfl;obtain⟨a0,len,cap,hv,bw,hc⟩:=h.t1;rw[<-yc]at hv;obtain⟨a1,uv,fU⟩:=h.r1.1.sl_inv;rw[hv]at fU;cases fU;have gN:w.cell? ⟨b,1,O⟩=J (.slice a0 l.length cap):=by rw[<-hv];exact h.c1
 have stay:∀{w':World},w'.heap=w.heap->w'.os=w.os->w'.tape=w.tape->w'.output=w.output->BB w' g b u0 u1 l/\KM w g.wm w' g.wm (λk=>k=b\/spare (g.G 92000001)=J k):=λ{w'} hh h1 h2 h3=>by
  have hx:Ext w g.wm w' g.wm:=⟨VI hh,λk o _=>HK (a:=⟨k,o,O⟩) (by rw[hh]),λ_=>GU _⟩;refine⟨{G:=h.G,Gs:=h.Gs,c0:=?_,c1:=?_,s0:=⟨⟨c,fz,by rw[hh];exact hb⟩,h.s0.2⟩,r1:=h.r1.same u6_ok hx rfl rfl,t0:=Sl h.t0 λk c1 e1 iE hk h1=>⟨c1,by rw[hh];exact h1,rfl⟩,t1:=Sl h.t1 λk c1 e1 iE hk h1=>⟨c1,by rw[hh];exact h1,rfl⟩,dis:=h.dis},⟨h1,h2,h3,by rw[hh];exact GU _,λk _ _=>⟨by rw[hh],rfl⟩,hx,λk hk=>hz k (by rw[hh]at hk;exact hk)⟩⟩;rw[<-h.c0];exact HK (a:=⟨b,0,O⟩) (by rw[hh]);rw[<-h.c1];exact HK (a:=⟨b,1,O⟩) (by rw[hh])
 have Do:∀{l:Gp},l=[]->LsC U6 w g.wm [.str (toB l)] [.string .empty]:=λ{l} hl=>by subst hl;exact⟨.str [],trivial⟩
 by_cases h0:cap=0
 
 have dq:l=[]:=Hr FK;cases a0 with
 |none=>
  have hr:=B5Q (ρ:=lays169_ren) lays169 Builder_Extra_169 w w.drew b cap O l.length .empty gN (Lib.run_unsafeSliceData_nil _ _ _ _ _) (by subst dq;exact Adq w.drew _ _ _ O);refine hr.mono ?_;rintro e w' ⟨rfl,rfl⟩;obtain⟨q1,q2⟩:=stay (w':=w.drew) rfl rfl rfl rfl;exact⟨[.string .empty],u0,rfl,by subst dq;exact⟨.str [],trivial⟩,q1,q2⟩
 |some q=>
  obtain⟨c2,sc,hq⟩:=er 5 q l.length cap rfl hv;have yd:w.cell? ⟨b,1,O⟩=J (.slice (J q) 0 0):=by rw[gN,dq,h0];rfl
  have aE:=(HJ.1 hb).1;refine(D2Y (ρ:=lays169_ren) lays169 Builder_Extra_169 w b q (5,c2.size) aE yd (by simp[Aby,hq])).mono ?_;rintro e w' ⟨rfl,rfl⟩;have hw:(w.drew.alloc (.view q 5)).heap=w.heap.push (.view q 5):=rfl;have eb:∀k,k<w.heap.size->(w.drew.alloc (.view q 5)).heap[k]?=w.heap[k]? :=λk hk=>by rw[hw,Hp,GI FK]
  have hx:Ext w g.wm (w.drew.alloc (.view q 5)) g.wm:=⟨Lo hw,λk o ho=>HK (a:=⟨k,o,O⟩) (eb k (by
   rcases Hv k w.heap.size with h2|h2;exact h2;rw[hz k h2]at ho;omega)),λ_=>GU _⟩
  have aw:(w.drew.alloc (.view q 5)).heap.size=w.heap.size+1:=by rw[hw];simp
  show ∃rv nG,_/\LsC U6 (w.drew.alloc (.view q 5)) g.wm _ rv/\BB (w.drew.alloc (.view q 5)) g b nG u1 l/\KM w g.wm (w.drew.alloc (.view q 5)) g.wm _;have iX:∀(k:Nat)(c1:Array Value)(e1:Aae)(iE:Nat×Nat),w.heap[k]?=J (.cells c1 e1 iE)->(w.drew.alloc (.view q 5)).heap[k]?=J (.cells c1 e1 iE):=λk c1 e1 iE h1=>by
   rw[eb k (HJ.1 h1).1];exact h1
  refine⟨[.string .empty],u0,rfl,by subst dq;exact⟨.str [],trivial⟩,{G:=h.G,Gs:=h.Gs,c0:=?_,c1:=?_,s0:=⟨⟨c,fz,iX _ _ _ _ hb⟩,h.s0.2⟩,r1:=h.r1.same u6_ok hx rfl rfl,t0:=Sl h.t0 λk c1 e1 iE hk h1=>⟨c1,iX _ _ _ _ h1,rfl⟩,t1:=Sl h.t1 λk c1 e1 iE hk h1=>⟨c1,iX _ _ _ _ h1,rfl⟩,dis:=h.dis},
   ⟨rfl,rfl,rfl,by rw[aw];omega,λk hk _=>⟨eb k hk,rfl⟩,hx,λk hk=>hz k (by rw[aw]at hk;omega)⟩⟩
  rw[<-h.c0];exact HK (a:=⟨b,0,O⟩) (eb b aE);rw[<-h.c1];exact HK (a:=⟨b,1,O⟩) (eb b aE)
 obtain⟨b2,off,c2,e2,sc,ha,dM,k2,k3,k4⟩:=hc.resolve_left h0;subst ha;obtain⟨c3,vC,hq⟩:=er 5 _ l.length cap rfl hv;have AN:w.heap[b2]?=J (.cells c3 5 vC):=hq;rw[dM]at AN;cases AN;have dh:g.Gs 92000001=1:=Dn.symm;rw[dh]at k2 k3;have gZ:spare (g.G 92000001)=J b2:=by rw[<-yc,hv];simp[spare,h0]
 have aP:b2≠b:=h.dis b2 gZ;have vM:(Aci #[22] 172 #[.slice (J ⟨b2,off,O⟩) l.length cap]).run Aac w.drew=.ok (.pointer (J ⟨b2,off,O⟩)) w.drew:=Lib.run_unsafeSliceData_row _ _ _ _ _ _ h0;by_cases dq:l=[];refine(B5Q (ρ:=lays169_ren) lays169 Builder_Extra_169 w w.drew b cap (J ⟨b2,off,O⟩) l.length .empty gN vM (by rw[dq];exact Adq w.drew _ _ _ _)).mono ?_;rintro e w' ⟨rfl,rfl⟩;obtain⟨q1,q2⟩:=stay (w':=w.drew) rfl rfl rfl rfl;exact⟨[.string .empty],u0,rfl,by rw[dq];exact⟨.str [],trivial⟩,q1,q2⟩;have vB:l.length≠0:=by simpa using dq
 have aQ:∀(j:Nat)(x:Int),l[j]?=J x->w.drew.cell? ⟨b2,off+j,O⟩=J (.int .u8 x):=λj x hj=>by
  rcases h.r1.1.sl_cells u6_ok with⟨bJ,_⟩|⟨b3,Dp,Dq,cs,rM,_,ba,cN,nA⟩;exact absurd bJ dq;rw[hv]at rM;cases rM;have eK:(flat U6 .u8 l)[j]?=J (.int .u8 x):=by
   have:flat U6 .u8 l=l.map λn=>.int .u8 n:=B0M l;rw[this,HG,hj];rfl
  have h5:=cN j _ eK;have h6:=nA j _ eK;have h7:cs j=.int .u8 x:=by
   generalize cs j=z at h6;cases h6;rfl
  rw[show w.drew.cell? ⟨b2,off+j,O⟩=w.cell? ⟨b2,off+j,O⟩from rfl,h5,h7]
 refine(B5Q (ρ:=lays169_ren) lays169 Builder_Extra_169 w (w.drew.freeze ⟨b2,off,O⟩ l.length) b cap (J ⟨b2,off,O⟩) l.length ⟨(toB l).toArray⟩ gN vM (D6K GM dM FK dq vV aQ)).mono ?_;rintro e w' ⟨rfl,rfl⟩;obtain⟨f1,f2,f3,f4,f5,f6⟩:=D64 (w:=w.drew) (off:=off) vB dM;generalize hw:w.drew.freeze ⟨b2,off,O⟩ l.length=w' at*;have cX:∀(k:Nat)(c1:Array Value)(e1:Aae)(iE:Nat×Nat),w.heap[k]?=J (.cells c1 e1 iE)->∃jy,w'.heap[k]?=J (.cells c1 e1 jy):=λk c1 e1 iE h1=>by
  by_cases hk:k=b2;subst hk;rw[dM]at h1;cases h1;exact⟨_,f1⟩;exact⟨iE,by rw[f2 k hk];exact h1⟩
 have aH:∀k o,w'.cell? ⟨k,o,O⟩=w.cell? ⟨k,o,O⟩:=λk o=>by
  by_cases hk:k=b2;subst hk;simp[Aaq,f1,dM];exact HK (a:=⟨k,o,O⟩) (f2 k hk)
 have hx:Ext w g.wm w' g.wm:=⟨λk c1 e1 iE h1=>by obtain⟨jy,h2⟩:=cX k c1 e1 iE h1;exact⟨c1,jy,h2⟩,λk o _=>aH k o,λ_=>GU _⟩;have AO:w'.heap[b]?=w.heap[b]? :=f2 b (IC aP);refine⟨[.string ⟨(toB l).toArray⟩],u0,rfl,⟨.str _,trivial⟩,{G:=h.G,Gs:=h.Gs,c0:=by rw[aH];exact h.c0,c1:=by rw[aH];exact h.c1,s0:=⟨⟨c,fz,by rw[AO];exact hb⟩,h.s0.2⟩,r1:=h.r1.same u6_ok hx rfl rfl,t0:=Sl h.t0 λk c1 e1 iE hk h1=>?_,t1:=?_,dis:=h.dis},
  ⟨f4,f5,f6,by rw[f3];exact GU _,λk _ hn=>⟨f2 k (λe=>hn (.inr (by rw[e];exact gZ))),rfl⟩,hx,λk hk=>hz k (by rw[f3]at hk;exact hk)⟩⟩
 rw[h.G]at hk;cases hk;exact⟨c1,by rw[AO];exact h1,rfl⟩;rw[<-yc,hv,dh];refine⟨_,_,_,rfl,bw,.inr ⟨b2,off,c2,5,_,rfl,f1,k2,k3,?_⟩⟩;rw[JB]at k3;split;rename_i gy;simp only;omega;rename_i gy;have Dr:sc.1≠sc.2:=by simpa using gy
 simp only;omega
def D65{I:Inv}:Mm Aac U6 I 29 (sGB QX):=by
 refine⟨D6B,λls cs rs ay h=>?_⟩;unfold sGB QX at h;split at h;rename_i d0 o0 p0 q0 l n;obtain⟨h1,h2⟩:=H8 h;obtain⟨h3,h4⟩:=ON h2;simp only[Fn,I3]at h1;obtain⟨⟨⟨rfl,rfl⟩,rfl,rfl⟩,rfl⟩:=h1;unfold Kl at h3 h4;cases hd:decide (l.length<=140737488355328)with
 |false=>rw[hd]at h3;cases h3
 |true=>
  rw[hd]at h4;simp only[GD]at h4;rw[C4x]at h4;cases h4;exact C2L (rs:=[.str (toB l)]) rfl λw g b u0 u1 hz bb=>D4D (GK hd) hz bb
 cases h
end Go.Aev
section
namespace Go.Aev.Bv
open Go.Proofs Go.RowKit
def IB:Inv:=λw wm=>Adt 1 2 w/\(256<=wm 1/\32<=wm 2)
def IB_mono:∀w m w' m',IB w m->Ext w m w' m'->IB w' m':=by
 intro w m w' m' ⟨⟨h1,h2⟩,h3,h4⟩ hx;have l0:=hx.le 1;have l1:=hx.le 2;refine⟨⟨λc hc=>?_,λi hi=>⟨?_,?_⟩⟩,FK,FK⟩;rw[hx.cell 1 c FK];exact h1 c hc;rw[hx.cell 2 _ FK];exact(h2 i hi).1;rw[hx.cell 2 _ FK];exact(h2 i hi).2
def and1{a b:Bool}(h:(a&&b)=Z):a=Z:=(Fn _ _ ▸ h).1
def and2{a b:Bool}(h:(a&&b)=Z):b=Z:=(Fn _ _ ▸ h).2
def dec1{p:Prop} [Decidable p] (h:decide p=Z):p:=GK h
def sound_ext{P:Aaj}{f:Aag}{S:Gt->Gq}{I:Inv}(gf:∀args w,(Aak f args).run P w=.ok (.enter f args) w)
  (h:∀ls r,S ls=J r->L2 ls=V/\r.isIter=V/\(∀d,r.has d=V)/\∀(w:World)(g:Gh)(vs:Gw),I w g.wm->LsRep U6 w g ls vs->
   ∃v,(∀(w':World)(g':Gh),ERep U6 w' g' r v)/\Calls P f vs.toArray w λe w'=>e=.returned v/\Below w.heap.size w w'):Sound P U6 I f S:=by
 refine⟨gf,λls r hS w g vs hI hz anq _ _=>?_⟩;obtain⟨h1,h2,h3,h4⟩:=h ls r hS;obtain⟨v,hv,hc⟩:=h4 w g vs hI anq;refine hc.mono λe w' ⟨he,hb⟩=>⟨v,g,he,?_⟩;rw[h1];refine{os:=hb.os,tape:=hb.tape,output:=hb.output,size:=hb.size,frame:=λb bC _=>⟨hb.block b bC,rfl⟩,ext:=⟨λb c e0 fz h0=>⟨c,fz,by rw[hb.block b (HJ.1 h0).1];exact h0⟩,λb off ho=>?_,λ_=>GU _⟩,zero:=λb bC=>hz b (HT hb.size bC),rep:=hv _ _,nit:=h2,tip:=λd hd=>?_,disj:=λd e b hd=>?_,mine:=λd b hd=>?_}
 have iT:off<g.wm b:=ho;have aE:b<w.heap.size:=by
  rcases Hv b w.heap.size with h5|h5;exact h5;have:=hz b h5;omega
 simp only[Aaq,hb.block b aE];rw[h3]at hd;cases hd;rw[h3]at hd;cases hd;rw[h3]at hd;cases hd
def rep_str1{w:World}{g:Gh}{s:rg}{vs:Gw}(h:LsRep U6 w g [.str s] vs):vs=[.string ⟨s.toArray⟩]:=by
 match vs,h with
 |[v],h=>rw[CRep.str_inv h.1.1]
def rep_str2{w:World}{g:Gh}{s t:rg}{vs:Gw}(h:LsRep U6 w g [.str s,.str t] vs):vs=[.string ⟨s.toArray⟩,.string ⟨t.toArray⟩]:=by
 match vs,h with
 |[v,u],h=>rw[CRep.str_inv h.1.1,CRep.str_inv h.2.1.1]
def rep_strint{w:World}{g:Gh}{s:rg}{k:Aan}{n:Int}{vs:Gw}(h:LsRep U6 w g [.str s,.int k n] vs):vs=[.string ⟨s.toArray⟩,.int k n]:=by
 match vs,h with
 |[v,x],h=>rw[CRep.str_inv h.1.1,CRep.int_inv h.2.1.1]
def szB(s:rg):(Adx s.toArray).size=s.length:=by simp[ByteArray.size]
end Go.Aev.Bv
namespace Go.Aev
open Go.Proofs
def h47:Sound Aac U6 Bv.IB 47 (sG Vd):=by
 refine Bv.sound_ext call47 λls r h=>?_;unfold sG Vd at h;split at h
 rename_i a0 a1;have h:=Ve (X:=LC a0 a1) rfl rfl h;unfold LC at h;cases hd:decide (a0.length<=2)&&decide (0<=a1)&&decide (a1<=10000000)with
 |false=>rw[hd]at h;cases h
 |true=>
  rw[hd]at h;cases h;have c1:=Bv.dec1 (Bv.and1 (Bv.and1 hd));have c2:=Bv.dec1 (Bv.and2 (Bv.and1 hd));have c3:=Bv.dec1 (Bv.and2 hd);refine⟨rfl,rfl,λd=>rfl,λw g vs _ hr=>?_⟩;rw[Bv.rep_strint hr];have aw:(Adx a0.toArray).size*a1.toNat<=140737488355328:=by
   rw[Bv.szB];have:a0.length*a1.toNat<=2*10000000:=JV c1 FK;omega
  have:=strings_Repeat ⟨a0.toArray⟩ a1.toNat w FK aw;rw[show((a1.toNat:Nat):Int)=a1 from FK]at this;exact⟨_,λw' g'=>LRep.str _,this⟩
 cases h
def h48:Sound Aac U6 Bv.IB 48 (sG S48):=by
 refine Bv.sound_ext call48 λls r h=>?_;unfold sG S48 at h;split at h
 rename_i a0 a1;have h:=Ve (X:=SY a0 a1) rfl rfl h;unfold SY at h;cases hd:smS a0&&(a1==[93])with
 |false=>rw[hd]at h;cases h
 |true=>
  rw[hd]at h;cases h;have c2:a1=[93]:=by simpa using Bv.and2 hd
  subst c2;refine⟨rfl,rfl,λd=>rfl,λw g vs _ hr=>?_⟩;rw[Bv.rep_str2 hr];exact⟨_,λw' g'=>LRep.int _ _,(strings_Count_one ⟨a0.toArray⟩ 93 w).mono λe w' ⟨he,hw⟩=>⟨he,hw ▸ Adn _ _⟩⟩
 cases h
def h65:Sound Aac U6 Bv.IB 65 (sG Yc):=by
 refine Bv.sound_ext call65 λls r h=>?_;unfold sG Yc at h;split at h
 rename_i a0 a1;have h:=Ve (X:=SZ a0 a1) rfl rfl h;unfold SZ at h;cases h;refine⟨rfl,rfl,λd=>rfl,λw g vs _ hr=>?_⟩;rw[Bv.rep_str2 hr];exact⟨_,λw' g'=>LRep.str _,(strings_TrimPrefix ⟨a0.toArray⟩ ⟨a1.toArray⟩ w).mono λe w' ⟨he,hw⟩=>⟨he,hw ▸ Adn _ _⟩⟩;cases h
def C98:Sound Aac U6 Bv.IB 217 (sG B35):=by
 refine Bv.sound_ext call217 λls r h=>?_;unfold sG B35 at h;split at h
 rename_i a0;have h:=Ve (X:=Sb a0) rfl rfl h;unfold Sb at h;cases h;refine⟨rfl,rfl,λd=>rfl,λw g vs hI hr=>?_⟩;rw[Bv.rep_str1 hr];exact⟨_,λw' g'=>⟨[.int .i32 (Adr ⟨a0.toArray⟩).1,.int .i64 (Adr ⟨a0.toArray⟩).2],rfl,LRep.int _ _,LRep.int _ _,trivial⟩,utf8_DecodeRuneInString ⟨a0.toArray⟩ w hI.1⟩;cases h
def hbI:HB Bv.IB:=⟨Bv.IB_mono,D65,D4y,h47,h48,h65,C98⟩
end Go.Aev
end
namespace Go.Aev
open Go.Proofs
section
variable {P:Aaj}{w:World}{d:Nat}{xs ys:Array Value}{f:Field}{fs:List Field}{a b:Value}{r q:Bool}
def B8l:(Abl d xs ys []).run P w=.ok Z w:=rfl
def Sm(hr:(Aa5 d f.type a b).run P w=.ok r w)(hq:(Abl d xs ys fs).run P w=.ok q w)(hn:(f.name != "_")=Z)(ha:(part f.type xs f.offset).run P w=.ok a w)(hb:(part f.type ys f.offset).run P w=.ok b w):
  (Abl d xs ys (f::fs)).run P w=.ok (r&&q) w:=by
 have AP:f.name≠ "_" :=by simpa using hn
 simp only[Abl,GJ AP,Adm,ha,hb,hr,Result.andThen_ok];cases r;rfl;simpa using hq
def B5f{t:Aae}{X Y:Aaf}(hu:P.underlying t=J (.struct (P.fieldsOf t)))(hp:P.stoodInHeld t=V)(hg:P.eqGuardType P.depth t=V)(h:(Abl 9999 xs ys (P.fieldsOf t).toList).run P w=.ok r w):
  ((do Abi .neq t X Y (.agg xs) (.agg ys);binOp .neq t (.agg xs) (.agg ys)):Sem Value).run P w=.ok (.bool (!r)) w:=by
 have h1:=(run_equalIn_struct w 9999 t xs ys hu hp).trans h;have h2:(binOp .neq t (.agg xs) (.agg ys)).run P w=.ok (.bool (!r)) w:=by
  show(do pure (Value.bool (!(<-Op.equal t (.agg xs) (.agg ys)))):Sem Value).run P w=_;exact B6y h1 rfl
 refine B6y (v:=()) (w':=w) ?_ h2;simp[Abi,hg]
end
def eqI{d:Nat}{a b:Int}{w:World}{t:Aae}(ht:prog.underlying t=J (.int .i64)):(Aa5 (d+1) t (.int .i64 a) (.int .i64 b)).run Aac w=.ok (a==b) w:=by
 simp[Aa5,Aai ht]
def eqB{d:Nat}{a b:Bool}{w:World}{t:Aae}(ht:prog.underlying t=J .bool):(Aa5 (d+1) t (.bool a) (.bool b)).run Aac w=.ok (a==b) w:=by
 simp[Aa5,Aai ht]
def eqT{d:Nat}{a b:rg}{w:World}{t:Aae}(ht:prog.underlying t=J .string):(Aa5 (d+1) t (.string ⟨a.toArray⟩) (.string ⟨b.toArray⟩)).run Aac w=.ok (a==b) w:=by
 simp[Aa5,Aai ht];rw[beq_toListBytes,KR,KR]
def B1N(t:Aae):Option Ty6:=match t with|44=>J .pos|64=>J .note|51=>J .tref|_=>O
def D4I{a b c d:Int}{w:World}{X Y:Aaf}:((do Abi .neq 44 X Y (.agg #[.int .i64 a,.int .i64 b]) (.agg #[.int .i64 c,.int .i64 d]);binOp .neq 44 (.agg #[.int .i64 a,.int .i64 b]) (.agg #[.int .i64 c,.int .i64 d])):Sem Value).run Aac w=.ok (.bool (!((a==c)&&(b==d)))) w:=by
 refine B5f GM GM GM ?_;rw[show(a==c&&b==d)=(a==c&&(b==d&&Z))from GN];exact Sm (eqI GM) (Sm (eqI GM) B8l GM GM GM) GM GM GM
def C3c{a b:Bool}:(a&&b)=(a&&(b&&Z)):=GN
def C6x{a b c d:Bool}{x y:rg}{w:World}{X Y:Aaf}:((do Abi .neq 64 X Y (.agg #[.bool a,.bool b,.string ⟨x.toArray⟩]) (.agg #[.bool c,.bool d,.string ⟨y.toArray⟩]);binOp .neq 64 (.agg #[.bool a,.bool b,.string ⟨x.toArray⟩]) (.agg #[.bool c,.bool d,.string ⟨y.toArray⟩])):Sem Value).run Aac w=.ok (.bool (!((a==c)&&((b==d)&&(x==y))))) w:=by
 refine B5f GM GM GM ?_;rw[C3c (a:=b==d)];exact Sm (eqB GM) (Sm (eqB GM) (Sm (eqT GM) B8l GM GM GM) GM GM GM) GM GM GM
def D0m{a b c d:rg}{w:World}{X Y:Aaf}:((do Abi .neq 51 X Y (.agg #[.string ⟨a.toArray⟩,.string ⟨b.toArray⟩]) (.agg #[.string ⟨c.toArray⟩,.string ⟨d.toArray⟩]);binOp .neq 51 (.agg #[.string ⟨a.toArray⟩,.string ⟨b.toArray⟩]) (.agg #[.string ⟨c.toArray⟩,.string ⟨d.toArray⟩])):Sem Value).run Aac w=.ok (.bool (!((a==c)&&(b==d)))) w:=by
 refine B5f GM GM GM ?_;rw[C3c];exact Sm (eqT GM) (Sm (eqT GM) B8l GM GM GM) GM GM GM
section
variable {w:World}{m:Nat->Nat}{v c:Value}
def B2U{k:Aan}{n:Int}(h1:J v=J c)(h2:CRep U6 w m (.int k n) c):v=.int k n:=by cases h1;cases h2;rfl
def B3F{b:Bool}(h1:J v=J c)(h2:CRep U6 w m (.bool b) c):v=.bool b:=by cases h1;cases h2;rfl
def Vj{s:rg}(h1:J v=J c)(h2:CRep U6 w m (.str s) c):v=.string ⟨s.toArray⟩:=by cases h1;cases h2;rfl
end
def qe6{E:Env Ty6 A2}(hU:E.U=U6)(hq:E.qeq=B1N):B1L Aac E:=by
 intro t l m b h w wm vx vy hx hy X Y;unfold B6a at h;rw[hq]at h;split at h;rename_i u x u' y q he;split at h;rename_i e1 e2 b' _ _ hb;subst e1;subst e2;cases h;rw[hU]at hb hx hy;obtain⟨vs,rfl,hl,cs,h1,h2⟩:=SI hx;obtain⟨ny,rfl,dX,ay,gF,eH⟩:=SI hy;unfold B1N at he;split at he<;>cases he
 match vs,ny,hl,dX with
 |[v0,v1],[AQ,AR],_,_=>
  cases B2U (h1 0 _ rfl) (h2 0 _ rfl);cases B2U (h1 1 _ rfl) (h2 1 _ rfl);cases B2U (gF 0 _ rfl) (eH 0 _ rfl);cases B2U (gF 1 _ rfl) (eH 1 _ rfl);cases hb;exact D4I
 match vs,ny,hl,dX with
 |[v0,v1,v2],[AQ,AR,FP],_,_=>
  cases B3F (h1 0 _ rfl) (h2 0 _ rfl);cases B3F (h1 1 _ rfl) (h2 1 _ rfl);cases Vj (h1 2 _ rfl) (h2 2 _ rfl);cases B3F (gF 0 _ rfl) (eH 0 _ rfl);cases B3F (gF 1 _ rfl) (eH 1 _ rfl);cases Vj (gF 2 _ rfl) (eH 2 _ rfl);cases hb;exact C6x
 match vs,ny,hl,dX with
 |[v0,v1],[AQ,AR],_,_=>
  cases Vj (h1 0 _ rfl) (h2 0 _ rfl);cases Vj (h1 1 _ rfl) (h2 1 _ rfl);cases Vj (gF 0 _ rfl) (eH 0 _ rfl);cases Vj (gF 1 _ rfl) (eH 1 _ rfl);cases hb;exact D0m
 cases h;cases h
@[reducible] def gd{R:Type}(c:Bool)(x:Option R):Option R:=bif c then x else O
abbrev B6:=Gt×Gz
abbrev Gr:=Option B6
@[reducible] def kC:List (List KD):=[[.sl .tok O,.int .i64,.int .i64,.int .i64,.int .i64]]
@[reducible] def kP:List (List KD):=[[.ptr 900000 A9,.sl .u8 (J 92000001)]]
@[reducible] def kO:List (List KD):=[[.sl .u8 (J 92000000)]]
@[reducible] def kT:List KD:=[.sl .tok O,.int .i64]
def bxT(T:Gu)(q:Int):Gt:=[.sl .tok T O,.int .i64 q]
def B7(l:Gp):Gz:=[[.ptr 900000 A9,.sl .u8 l (J 92000001)]]
def zT(T:Gu)(q:Int):Nat×E6:=(1900000,.bx 900000 (bxT T q))
def zP(l:Gp):Nat×E6:=(1900000,.bx 900000 [.ptr 900000 A9,.sl .u8 l (J 92000001)])
@[reducible] def gT(r:Option (Gt×Gz)):Gu:=T8 (gC r 0 0)
@[reducible] def gQ(r:Option (Gt×Gz)):Int:=lI (gC r 0 1)
@[reducible] def gP(r:Option (Gt×Gz)):Gp:=B3 (gC r 0 1)
@[reducible] def bq(d o:Nat):Bool:=Aah d 900000&&Aah o 0
@[reducible] def pq(d o:Nat):Bool:=Aah d 900000&&Aah o A9
@[reducible] def pR(ks:List KD)(F:Gq):Option (Bool×E6):=J (okR ks F,O9 ks F)
@[reducible] def pB(ks:List KD)(fj:List (List KD))(F:Option (Gt×Gz)):Option (Bool×Gt×Gz):=J (okB ks fj F,rsR ks F,csR fj F)
abbrev KY:=Gt->Option (Bool×E6)
abbrev Ka:=Gt->Gz->Option (Bool×Gt×Gz)
def lkT:List (Aag×KY)->T6
 |[],_,_=>O
 |(g,S)::r,f,ls=>bif Aah f g then S ls else lkT r f ls
def lkB:List (Aag×Ka)->TB6
 |[],_,_,_=>O
 |(g,S)::r,f,ls,cs=>bif Aah f g then S ls cs else lkB r f ls cs
def rgD:Nat->Nat->Gv->Gv
 |_,0,l=>l
 |a,c+1,l=>a::rgD (a+1) c l
def lkR:List (Nat×Nat×Nat)->Nat->Gv
 |[],_=>[]
 |(g,a,c)::r,n=>bif Aah n g then rgD a c (lkR r n)else lkR r n
def noD:Nat->Gv:=λ_=>[]
def lkN:List (Nat×Nat)->Nat->Nat
 |[],n=>100+n
 |(a,b)::r,n=>bif Aah n a then b else lkN r n
def bpG(TB:List (Aag×Ka))(f:Aag):Option Gv:=bif TB.any (λp=>Aah p.1 f)then(bif Aah f 85||Aah f 154 then J [0,1]else bif Aah f 216 then J [0,3]else J [0])else O
def D5T(f:Aag):GA:=bif mem f [197,221,223,238]then J 0 else O
def mkE(T:List (Aag×KY))(TB:List (Aag×Ka))(dr:Nat->Gv)(nt:Nat)(mb:Gv)(np:Nat)(oz:Gv)(bn:List (Nat×Nat)):Env Ty6 A2:=
 {U:=U6,tb:=tb6,T:=lkT T,cons:=D5T,drop:=dr,nt:=nt,zr:=zr6,mb:=λd=>mem d mb,np:=np,oz:=λd=>mem d oz,bn:=lkN bn,bp:=bpG TB,TBg:=lkB TB,qeq:=B1N}
section
variable {R:Type}
abbrev Kt(R:Type):=Ex->S6->Option R
def bt:Nat->Nat->Gv
 |0,_=>[]
 |k+1,n=>bif Nat.ble n 1 then []else n % 2::bt k (n / 2)
def lc0(f:Func)(p:Nat):Code:=C0 f (bt 40 p)
def lh(f:Func)(p:Nat):Nat:=10000+Xw (lc0 f p)
def LP(E:Env Ty6 A2)(nn:Nat)(f:Func)(p n:Nat)(s:S6)(K:Kt R):Option R:=VD (lbN nn E (lc0 f p) (lh f p)) n s K
def sk(E:Env Ty6 A2)(nn:Nat)(f:Func)(p:Gv)(K:Kt R):Kt R:=B6q (J6 E nn (C0 f p)) K
def kAt(E:Env Ty6 A2)(nn:Nat):Code->Gv->Kt R->Kt R
 | .seq a b,0::p,k=>kAt E nn a p (B6q (J6 E nn b) k)
 | .seq _ b,_::p,k=>kAt E nn b p k
 | .cond _ a _,0::p,k=>kAt E nn a p k
 | .cond _ _ b,_::p,k=>kAt E nn b p k
 | .block id c,_::p,k=>kAt E nn c p (Mi id k)
 |_,_,k=>k
def kF(E:Env Ty6 A2)(nn:Nat)(f:Func)(p:Nat):Kt E6:=kAt E nn (body f) (bt 40 p) (VG E f.results.toList)
def kB(ps:Gv)(cs:Gz)(E:Env Ty6 A2)(nn:Nat)(f:Func)(p:Nat):Kt B6:=kAt E nn (body f) (bt 40 p) (VH E f.results.toList ps cs)
def kL(p0 m:Nat)(K:Kt R)(E:Env Ty6 A2)(nn:Nat)(f:Func)(p:Nat):Kt R:=kAt E nn (lc0 f p0) ((bt 40 p).drop (bt 40 p0).length) (B4E (E.drop (lh f p0)) (D3K (lbN nn E (lc0 f p0) (lh f p0)) m K))
def krl{p:Prop}(h:p:=by kernel_rfl):p:=h
variable {E:Env Ty6 A2}{nn p n:Nat}{f:Func}{s:S6}{κ:Type}
variable {κ' FQ:Type}(Kf:Env Ty6 A2->Nat->Func->Nat->Kt R)
def lc1{F:κ->Option R}{a b}(h:F a=LP E nn f p n s (Kf E nn f p))(hk:a=b):F b=LP E nn f p n s (Kf E nn f p):=hk ▸ h
def lc2{F:κ->κ'->Option R}{a b c d}(h:F a c=LP E nn f p n s (Kf E nn f p))(hk:a=b)(hl:c=d):F b d=LP E nn f p n s (Kf E nn f p):=hk ▸ hl ▸ h
end
@[reducible] def eI(k:Nat)(x:Int):Nat×E6:=(k,.one (.int .i64 x))
@[reducible] def eB(k:Nat)(x:Bool):Nat×E6:=(k,.one (.bool x))
@[reducible] def eP(k d:Nat):Nat×E6:=(k,.one (.ptr d 0))
@[reducible] def eL(k:Nat)(t:Ty6)(x:List (A2 t)):Nat×E6:=(k,.one (.sl t x O))
@[reducible] def eO(k:Nat)(t:Ty6)(x:List (A2 t))(d:Nat):Nat×E6:=(k,.one (.sl t x (J d)))
@[reducible] def eC(k:Nat)(x:Int):Nat×E6:=(k,.one (.int .i32 x))
@[reducible] def zN(N:Gx)(T:Gu):Nat×E6:=(1900000,.bx 900000 [.sl .node N O,.sl .tok T O])
@[reducible] def eS(k:Nat)(x:rg):Nat×E6:=(k,.one (.str x))
def C5h(e:Nat×E6):List (Nat×E6)->List (Nat×E6)
 |[]=>[e]
 |x::r=>bif Aal e.1 x.1 then e::x::r else x::C5h e r
def Q7(e:Nat×E6)(s:S6):S6:=⟨C5h e s.fr,s.live⟩
@[reducible] def pg(f:List (Nat×E6))(x:Gp):S6:=⟨eP 0 900000::f++[(1900000,.bx 900000 [.ptr 900000 A9,.sl .u8 x (J 92000001)])],[900000,900000,92000001]⟩
section
variable {I:Inv}
abbrev SP(I:Inv)(f:Aag)(S:KY):Prop:=Sound Aac U6 I f (sG S)
abbrev SB(I:Inv)(f:Aag)(S:Ka):Prop:=Mm Aac U6 I f (sGB S)
def MC(I:Inv):List (Aag×KY)->Prop
 |[]=>True
 |p::r=>Sound Aac U6 I p.1 (sG p.2)/\MC I r
def P5(I:Inv):List (Aag×Ka)->Prop
 |[]=>True
 |p::r=>Mm Aac U6 I p.1 (sGB p.2)/\P5 I r
def Sn{f:Aag}{ls:Gt}{r:E6}:∀{T:List (Aag×KY)},MC I T->lkT T f ls=J (Z,r)->(∀args w,(Aak f args).run Aac w=.ok (.enter f args) w)/\QP Aac U6 I f ls r
 |[],_,h=>by cases h
 |(g,S)::T,hT,h=>by
  obtain⟨h1,h2⟩:=hT;unfold lkT at h;cases hb:Aah f g with
  |true=>rw[hb]at h;cases HZ hb;exact C8J h1 h
  |false=>rw[hb]at h;exact Sn h2 h
def So{f:Aag}{ls:Gt}{cs:Gz}{rs:Gt}{ay:Gz}:∀{T:List (Aag×Ka)},P5 I T->G6 (lkB T f ls cs)=J (rs,ay)->(∀args w,(Aak f args).run Aac w=.ok (.enter f args) w)/\T3 Aac U6 I f ls cs rs ay
 |[],_,h=>by cases h
 |(g,S)::T,hT,h=>by
  obtain⟨h1,h2⟩:=hT;unfold lkB at h;cases hb:Aah f g with
  |true=>rw[hb]at h;cases HZ hb;exact C9c h1 h
  |false=>rw[hb]at h;exact So h2 h
variable {T:List (Aag×KY)}{TB:List (Aag×Ka)}{dr:Nat->Gv}{nt:Nat}{mb:Gv}{np:Nat}{oz:Gv}{bn:List (Nat×Nat)}{f:Aag}{fn:Func}
def B6m(hb:HB I)(hT:MC I T)(hB:P5 I TB):EnvI Aac (mkE T TB dr nt mb np oz bn) I:=
 ⟨u6_ok,QS,QT,λ_ _ _ h=>Sn hT h,λ_ _ _ _ _ h=>So hB h,λ_ _ _ _ _ _ _ _ h=>(by cases h),λf ls cs rs h=>(by cases h),hb.mono,VZ,λ_ _ _ h=>(by cases h),qe6 rfl rfl,Va⟩
def A8(E:Env Ty6 A2)(hb:HB I)(hE:E=mkE T TB dr nt mb np oz bn)(hT:MC I T)(hB:P5 I TB)(hf:prog.funcs[f]?=J fn)(he:∀args w,(Aak f args).run Aac w=.ok (.enter f args) w)
  {S:KY}(hS:∀ls r,G6 (S ls)=J r->P4 E NN fn ls=J r)(du:nt=fn.ntmps:=by rfl):SP I f S:=
 by subst hE;exact B2h (B6m hb hT hB) hf du he λls r h=>⟨NN,hS ls r h⟩
def H4(E:Env Ty6 A2)(hb:HB I)(hE:E=mkE T TB dr nt mb np oz bn)(hT:MC I T)(hB:P5 I TB)(hf:prog.funcs[f]?=J fn)(he:∀args w,(Aak f args).run Aac w=.ok (.enter f args) w){ps:Gv}
  {S:Ka}(hS:∀ls cs r,G6 (S ls cs)=J r->D7 E NN fn ps ls cs=J r)(du:nt=fn.ntmps:=by rfl):SB I f S:=
 by subst hE;exact YV (B6m hb hT hB) hf du he λls cs r h=>⟨NN,hS ls cs r h⟩
def D2s{ti:String->Gt->Gz->Option (Bool×Gt×Gz)}{bi:String->Gv}(E:Env Ty6 A2)(hb:HB I)(hE:E={mkE T TB dr nt mb np oz bn with TIg:=ti,bi:=bi})(hT:MC I T)(hB:P5 I TB)
  (hi:∀(w:World)(m:Nat->Nat),I w m->∀(nm:String)(ls:Gt)(cs:Gz)(rs:Gt)(ay:Gz),G6 (ti nm ls cs)=J (rs,ay)->SO Aac U6 ⟨w,m,λ_=>False,0,λ_=>undef⟩ nm ls cs rs ay)
  (hf:prog.funcs[f]?=J fn) (he:∀args w,(Aak f args).run Aac w=.ok (.enter f args) w) {ps:Gv}
  {S:Ka} (hS:∀ls cs r,G6 (S ls cs)=J r->D7 E NN fn ps ls cs=J r) (du:nt=fn.ntmps:=by rfl):SB I f S:=by
 subst hE;have hI:EnvI Aac {mkE T TB dr nt mb np oz bn with TIg:=ti,bi:=bi} I:=⟨u6_ok,QS,QT,λ_ _ _ h=>Sn hT h,λ_ _ _ _ _ h=>So hB h,hi,λf ls cs rs h=>(by cases h),hb.mono,VZ,λ_ _ _ h=>(by cases h),qe6 rfl rfl,Va⟩;exact YV hI hf du he λls cs r h=>⟨NN,hS ls cs r h⟩
def Vk(E:Env Ty6 A2)(hb:HB I)(hE:E=mkE T TB dr nt mb np oz bn)(hT:MC I T)(hB:P5 I TB)(hf:prog.funcs[f]?=J fn)(he:∀args w,(Aak f args).run Aac w=.ok (.enter f args) w)
  {S:KY}(hS:∀ls r,G6 (S ls)=J r->∃r0,P4 E NN fn ls=J r0/\r=Z4 r0/\(∀d ls,r0≠ .bx d ls)/\∀ls,r0≠ .st ls)(du:nt=fn.ntmps:=by rfl):SP I f S:=
 by subst hE;exact Sound.close (S0:=P4 (mkE T TB dr nt mb np oz bn) NN fn) (B2h (B6m hb hT hB) hf du he λls r h=>⟨NN,h⟩) hS
end
def pF{ks:List KD}{X F:Gq}{r:E6}(h:G6 (pR ks F)=J r)(he:X=F:=by kernel_rfl)(hx:Q6 ks=Z:=by rfl):X=J r:=Ve he hx h
def mF{ks:List KD}{X F:Gq}{r:E6}(h:G6 (pR ks F)=J r)(he:X=F:=by kernel_rfl)(hx:ks.all Vf=Z:=by rfl):∃r0,X=J r0/\r=Z4 r0/\(∀d ls,r0≠ .bx d ls)/\∀ls,r0≠ .st ls:=D0u he hx h
def pG{E:Env Ty6 A2}{f:Func}{ls:Gt}{ks:List KD}{r:E6}(F:Nat->Gq)(h:G6 (pR ks (F NN))=J r)(he:∀nn,P4 E nn f ls=F nn)(hx:Q6 ks=Z:=by rfl):P4 E NN f ls=J r:=pF h (he NN) hx
def mG{E:Env Ty6 A2}{f:Func}{ls:Gt}{ks:List KD}{r:E6}(F:Nat->Gq)(h:G6 (pR ks (F NN))=J r)(he:∀nn,P4 E nn f ls=F nn)(hx:ks.all Vf=Z:=by rfl):∃r0,P4 E NN f ls=J r0/\r=Z4 r0/\(∀d ls,r0≠ .bx d ls)/\∀ls,r0≠ .st ls:=mF h (he NN) hx
def fP{E:Env Ty6 A2}{nn:Nat}{fn:Func}{ps:Gv}{xs:Gt}{b:Gp}{ks:List KD}{F:Gr}{d o p q n:Nat}{r:B6}(h:G6 (bif bq d o&&pq p q&&(Aah n 92000001)then pB ks kP F else O)=J r)(he:D7 E nn fn ps (.ptr 900000 0::xs) [[.ptr 900000 A9,.sl .u8 b (J 92000001)]]=F:=by kernel_rfl)(hx:Q6 ks=Z:=by rfl):
  D7 E nn fn ps (.ptr d o::xs) [[.ptr p q,.sl .u8 b (J n)]]=J r:=by
 obtain⟨hc,h⟩:=H8 h;simp only[Fn,I3]at hc;obtain⟨⟨⟨rfl,rfl⟩,⟨rfl,rfl⟩⟩,rfl⟩:=hc;exact L3 he hx rfl h
def fN{E:Env Ty6 A2}{nn:Nat}{fn:Func}{ps:Gv}{xs:Gt}{c:Gz}{ks:List KD}{fj:List (List KD)}{F:Gr}{d o:Nat}{r:B6}(h:G6 (bif bq d o then pB ks fj F else O)=J r)(he:D7 E nn fn ps (.ptr 900000 0::xs) c=F:=by kernel_rfl)(hx:Q6 ks=Z:=by rfl)(hy:Sc fj=Z:=by rfl):
  D7 E nn fn ps (.ptr d o::xs) c=J r:=by
 obtain⟨hc,h⟩:=H8 h;simp only[Fn,I3]at hc;obtain⟨rfl,rfl⟩:=hc;exact L3 he hx hy h
@[reducible] def kN:List (List KD):=[[.sl .node O,.sl .tok O]]
@[reducible] def bxN(N:Gx)(T:Gu):Gz:=[[.sl .node N O,.sl .tok T O]]
def mkR(T:List (Aag×KY))(TB TR:List (Aag×Ka))(dr:Nat->Gv)(nt:Nat)(mb:Gv)(np:Nat)(oz:Gv)(bn:List (Nat×Nat)):Env Ty6 A2:=
 {mkE T (TB++TR) dr nt mb np oz bn with ro:=λf=>TR.any λp=>Aah p.1 f,TRg:=λf ls cs=>B7P (lkB TR f ls cs)}
def RoP(p:Gz->Prop)(o:Option (Gt×Gz)):Prop:=∀r,o=J r->p r.2
abbrev RoK(cs:Gz)(o:Option (Gt×Gz)):Prop:=RoP (· =cs) o
section
variable {p:Gz->Prop}{cs:Gz}{x y:Option (Gt×Gz)}
def H0:RoP p O:=λ_ h=>by cases h
def L5(l:Gt):RoK cs (J (l,cs)):=λ_ h=>by cases h;rfl
def B5w(l:Gt)(h:p cs):RoP p (J (l,cs)):=λ_ e=>by cases e;exact h
def J8{c:Bool}(h1:RoP p x)(h2:RoP p y):RoP p (bif c then x else y):=by cases c<;>assumption
def K0{c:Bool}(h1:RoP p x):RoP p (gd c x):=J8 h1 H0
def C8I{F:Option (Gt×Gz)}{ks:List KD}{fj:List (List KD)}(h:∀r,F=J r->RoP p x):RoP p (gd (okB ks fj F) x):=by
 cases F with
 |none=>exact H0
 |some r=>exact K0 (h r rfl)
def W7{F:Option (Gt×Gz)}{ks:List KD}{fj:List (List KD)}(hx:Q6 ks=Z)(hy:Sc fj=Z)(h:RoK cs F){rs:Gt}{ay:Gz}(e:J (okB ks fj F,rsR ks F,csR fj F)=J (Z,rs,ay)):ay=cs:=by
 obtain⟨h1,h2⟩:=Ado (Hb e);have h3:=h _ (C0k h1 hx hy);rw[<-(Ado h2).2];exact h3
end
def tbD(t:Aae):TK Ty6:=match t with
 |76=>.struct .dfn0 [(0,1),(1,1),(2,1),(3,1),(4,1),(5,1),(6,1),(7,2)]
 |t=>tb6 t
def zrD(t:Aae):Option Gt:=match t with
 |76=>J [.int .i64 0,.str [],.str [],.bool V,.nils,.sl .dir [] O,.sl .sel [] O,.int .i64 0,.int .i64 0]
 |t=>zr6 t
def ftD(t:Aae):Option Ty6:=match t with
 |76=>J .dfn
 |_=>O
def D0s(t:Aae):M4 Aac U6 t (tbD t):=by
 unfold tbD;split;exact YW GM GM;exact QS _
def D5D(t:Aae)(zs:Gt)(h:zrD t=J zs):Ky Aac U6 t zs:=by
 unfold zrD at h;split at h;cases h;exact YX GM;exact QT _ _ h
section
variable {I:Inv}
def Yi:List (Aag×Ka)->Prop
 |[]=>True
 |p::r=>(∀ls cs rs ay,p.2 ls cs=J (Z,rs,ay)->ay=cs)/\Yi r
def B7A{B:List (Aag×Ka)}:∀{A:List (Aag×Ka)},P5 I A->P5 I B->P5 I (A++B)
 |[],_,h=>h
 |_::_,h1,h2=>⟨h1.1,B7A h1.2 h2⟩
def B4w{f:Aag}{ls:Gt}{cs:Gz}{rs:Gt}:∀{T:List (Aag×Ka)},P5 I T->Yi T->G6 (B7P (lkB T f ls cs))=J rs->(∀args w,(Aak f args).run Aac w=.ok (.enter f args) w)/\T3 Aac U6 I f ls cs rs cs
 |[],_,_,h=>by cases h
 |(g,S)::T,hT,hR,h=>by
  obtain⟨h1,h2⟩:=hT;unfold lkB at h;cases hb:Aah f g with
  |true=>rw[hb]at h;cases HZ hb;exact D2P h1 hR.1 h
  |false=>rw[hb]at h;exact B4w h2 hR.2 h
variable {T:List (Aag×KY)}{TB TR:List (Aag×Ka)}{dr:Nat->Gv}{nt:Nat}{mb:Gv}{np:Nat}{oz:Gv}{bn:List (Nat×Nat)}{f:Aag}{fn:Func}
def C8H(hb:HB I)(hT:MC I T)(hB:P5 I TB)(hC:P5 I TR)(hR:Yi TR):EnvI Aac (mkR T TB TR dr nt mb np oz bn) I:=
 ⟨u6_ok,QS,QT,λ_ _ _ h=>Sn hT h,λ_ _ _ _ _ h=>So (B7A hB hC) h,λ_ _ _ _ _ _ _ _ h=>(by cases h),λf ls cs rs h=>B4w hC hR h,hb.mono,VZ,λ_ _ _ h=>(by cases h),qe6 rfl rfl,Va⟩
def LF(E:Env Ty6 A2)(hb:HB I)(hE:E=mkR T TB TR dr nt mb np oz bn)(hT:MC I T)(hB:P5 I TB)(hC:P5 I TR)(hR:Yi TR)(hf:prog.funcs[f]?=J fn)(he:∀args w,(Aak f args).run Aac w=.ok (.enter f args) w){ps:Gv}
  {S:Ka}(hS:∀ls cs r,G6 (S ls cs)=J r->D7 E NN fn ps ls cs=J r)(du:nt=fn.ntmps:=by rfl):SB I f S:=
 by subst hE;exact YV (C8H hb hT hB hC hR) hf du he λls cs r h=>⟨NN,hS ls cs r h⟩
def C6W(E:Env Ty6 A2)(hb:HB I)(hE:E={mkR T TB TR dr nt mb np oz bn with tb:=tbD,zr:=zrD,rw:=Z,fty:=ftD})(hT:MC I T)(hB:P5 I TB)(hC:P5 I TR)(hR:Yi TR)(hf:prog.funcs[f]?=J fn)(he:∀args w,(Aak f args).run Aac w=.ok (.enter f args) w){ps:Gv}
  {S:Ka} (hS:∀ls cs r,G6 (S ls cs)=J r->D7 E NN fn ps ls cs=J r) (du:nt=fn.ntmps:=by rfl):SB I f S:=by
 subst hE;have hI:EnvI Aac {mkR T TB TR dr nt mb np oz bn with tb:=tbD,zr:=zrD,rw:=Z,fty:=ftD} I:=
  ⟨u6_ok,D0s,D5D,λ_ _ _ h=>Sn hT h,λ_ _ _ _ _ h=>So (B7A hB hC) h,λ_ _ _ _ _ _ _ _ h=>(by cases h),λf ls cs rs h=>B4w hC hR h,hb.mono,VZ,λ_ _ _ h=>(by cases h),qe6 rfl rfl,Va⟩
 exact YV hI hf du he λls cs r h=>⟨NN,hS ls cs r h⟩
end
end Go.Aev
namespace Go.Aev
def inF(c:Int)(t:rg):Bool:=t.any λb=>((b.toNat:Nat):Int)==c
def btF(_:rg):Unit×Bool:=((),Z)
def P0{n:Int}(h1: -9223372036854775808<=n)(h2:n<9223372036854775808):Aaa .i64 n=n:=by
 exact Go.IntWalk.i64_in n ⟨h1,FK⟩
def sw{α:Type}(f:α->Nat):List α->Nat
 |[]=>0
 |x::r=>f x+sw f r
def B1d{α:Type}(f:α->Nat):∀(a b:List α),sw f (a++b)=sw f a+sw f b
 |[],b=>by simp[sw]
 |x::a,b=>by simp[sw,B1d f a b];omega
def Sp{α:Type}(f:α->Nat):∀(l:List α),(∀x∈l,1<=f x)->l.length<=sw f l
 |[],_=>by simp[sw]
 |x::l,h=>by
  have:=Sp f l (λy hy=>h y (Ha _ hy));have:=h x HO;simp[sw];omega
def Yj{α:Type}(f:α->Nat):∀(l:List α)(x:α),x∈l->f x<=sw f l
 |[],_,h=>by cases h
 |y::l,x,h=>by
  rcases HC.1 h with rfl|h;simp[sw];have:=Yj f l x h;simp[sw];omega
def Z6:rg:=[97,98,99,100,101,102,103,104,105,106,107,108,109,110,111,112,113,114,115,116,117,118,119,120,121,122,65,66,67,68,69,70,71,72,73,74,75,76,77,78,79,80,81,82,83,84,85,86,87,88,89,90,95]
def LG:rg:=[48,49,50,51,52,53,54,55,56,57]
def clI(c:Int):Int:=bif inF c Z6 then 3 else bif inF c LG||c==45 then 4 else 2
def cls:rg->Int
 |[]=>0
 |x::_=>clI x.toNat
def D3N(t:A0):Prop:=t.kind<6->cls t.text=0\/(2<=t.kind/\cls t.text=bif t.kind==5 then 4 else t.kind)
def LH(t:A0):Prop:=t.text.length<=8400000/\t.value.length<=8400000/\(t.kind=7->(btF t.value).2=Z)/\(D3N t/\0<=t.kind/\t.kind<=7)
structure TW(ts:Gu):Prop where
 ne:0<ts.length
 len:ts.length<=1100000
 ok:∀t∈ts,LH t
 lst:∀i t,ts[i]?=J t->2<=t.kind->i+1<ts.length
def F5:Nat->LitT->Prop
 |0,_=>False
 |d+1,v=>0<=v.kind/\v.kind<=11/\v.text.length<=8400000/\(v.kind=4->v.block=Z->(btF v.text).2=Z)/\(∀x∈v.items,F5 d x)/\∀f∈v.fields,f.name.length<=8400000/\F5 d f.value
def wt:Nat->LitT->Nat
 |0,_=>0
 |d+1,v=>1+sw (wt d) v.items+sw (λ(f:LfT)=>1+wt d f.value) v.fields
def B22{d:Nat}(h:0<d)(v:LitT):1<=wt d v:=by
 cases d with
 |zero=>omega
 |succ d=>simp only[wt];omega
def W(d:Nat)(v:LitT):Nat:=1+sw (wt d) v.items+sw (λ(f:LfT)=>1+wt d f.value) v.fields
def C6o{d:Nat}(hd:0<d)(v:LitT):v.items.length<=W d v:=by
 have:=Sp (wt d) v.items (λx _=>B22 hd x);unfold W;omega
def D17{d:Nat}(v:LitT):v.fields.length<=W d v:=by
 have:=Sp (λ(f:LfT)=>1+wt d f.value) v.fields (λx _=>FK);unfold W;omega
def NNv:NN=18446744073709551616:=rfl
def A7{α:Type}{P:α->Prop}{c:Bool}{a b:α}(h1:c=Z->P a)(h2:c=V->P b):P (bif c then a else b):=by
 cases c with
 |true=>exact h1 rfl
 |false=>exact h2 rfl
def MB:Nat:=140737488355328
def B8S{n:Nat}(h:n<=MB):A3 n 1=Z:=by
 unfold A3 MB at*;simp;exact h
def B1{α:Type}(l:List α)(i:Nat):idx l (i:Int)=l[i]? :=by
 unfold idx;simp
def E7{i:Nat}(h:i<=4611686018427387904):Aaa .i64 ((i:Int)+1)=((i+1:Nat):Int):=by
 rw[P0 FK FK];omega
def oS(s:rg)(b:Bool):okR [.str,.bool] (J (.tup [.str s,.bool b]))=Z:=rfl
def oSi(s:rg)(b:Int):okR [.str,.int .i64] (J (.tup [.str s,.int .i64 b]))=Z:=rfl
def gS(s:rg)(r:Gt):lS (gL (J (.tup (.str s::r))) 0)=s:=rfl
def gS1(s:rg):lS (gL (J (.one (.str s))) 0)=s:=rfl
def oS1(s:rg):okR [.str] (J (.one (.str s)))=Z:=rfl
def oI(k:Int):okR [.int .i64] (J (.one (.int .i64 k)):Gq)=Z:=rfl
def gI(k:Int):lI (gL (J (.one (.int .i64 k)):Gq) 0)=k:=rfl
def oB1(b:Bool):okR [.bool] (J (.one (.bool b)):Gq)=Z:=rfl
def gB1(b:Bool):lB (gL (J (.one (.bool b)):Gq) 0)=b:=rfl
def U0{i k:Nat}(h:i+k<=4611686018427387904):Aaa .i64 ((i:Int)+(k:Int))=((i+k:Nat):Int):=by
 rw[P0 FK FK];omega
end Go.Aev
namespace Go.Aev
open Go.Proofs
def E56:Env Ty6 A2:=mkE [] [] noD 23 [] 0 [] []
def Kh(a0:rg):Gq:=let j1:Bool->Gq:=λz2=>J (.one (.bool V));let j3:Bool->Gq:=λz4=>bif z4 then(J (.one (.bool Z)))else(j1 z4);let z5:=a0==[110,97,109,101];bif z5 then(j3 z5)else(let z6:=a0==[98,117,116,79,110];bif z6 then(j3 z6)else(let z7:=a0==[111,110];bif z7 then(j3 z7)else(let z8:=a0==[108,105,116];bif z8 then(j3 z8)else(let z9:=a0==[101,110,100];bif z9 then(j3 z9)else(let bP:=a0==[110,111,110,101];bif bP then(j3 bP)else(bif(a0==[123])then(j3 (a0==[123]))else(bif(a0==[125])then(j3 (a0==[125]))else(bif(a0==[40])then(j3 (a0==[40]))else(bif(a0==[41])then(j3 (a0==[41]))else(bif(a0==[91])then(j3 (a0==[91]))else(bif(a0==[93])then(j3 (a0==[93]))else(bif(a0==[36])then(j3 (a0==[36]))else(bif(a0==[58])then(j3 (a0==[58]))else(bif(a0==[61])then(j3 (a0==[61]))else(bif(a0==[33])then(j3 (a0==[33]))else(bif(a0==[64])then(j3 (a0==[64]))else(let bY:=(a0==[46,46,46]);bif bY then(J (.one (.bool Z)))else(J (.one (.bool V))))))))))))))))))))
def S56:KY
 |[.str a0]=>pR [.bool] (Kh a0)
 |_=>O
def C7l:Env Ty6 A2:=mkE [] [] noD 14 [] 0 [] []
def MD(a0:A0)(a1:rg):Gq:=bif(a0.kind==3)==Z then(J (.one (.bool (a0.text==a1))))else(J (.one (.bool V)))
def Yk:KY
 |[.agg .tok a0,.str a1]=>pR [.bool] (MD a0 a1)
 |_=>O
def C7W:Env Ty6 A2:=mkE [] [] noD 14 [] 0 [] []
def Z5(a0:A0)(a1:rg):Gq:=bif(a0.kind==2)==Z then(J (.one (.bool (a0.text==a1))))else(J (.one (.bool V)))
def Vl:KY
 |[.agg .tok a0,.str a1]=>pR [.bool] (Z5 a0 a1)
 |_=>O
def D7k:Env Ty6 A2:=mkE [(131,Vl)] [] noD 14 [] 0 [] []
def R1(a0:A0)(a1:rg)(a2 a3:Gy):Gq:=gd (okR [.bool] (Z5 a0 a1)) (bif(lB (gL (Z5 a0 a1) 0))then(J (.one (.sl .str a2 O)))else(J (.one (.sl .str a3 O))))
def Yl:KY
 |[.agg .tok a0,.str a1,.sl .str a2 O,.sl .str a3 O]=>pR [.sl .str O] (R1 a0 a1 a2 a3)
 |_=>O
def D2n:Env Ty6 A2:=mkE [(129,Yk),(131,Vl),(183,Yl)] [] noD 74 [] 0 [] []
def U9(a0:rg)(a1:A0):Gq:=bif(a0==[68,111,99,117,109,101,110,116])then(J (.tup [.sl .str [[68,101,102],[68,101,102,115],[101,110,100]] (J 1),.bool Z]))else(bif(a0==[68,101,102,115])then(bif(a1.kind==0)then(J (.tup [.sl .str [] (J 1),.bool Z]))else(J (.tup [.sl .str [[68,101,102],[68,101,102,115]] (J 1),.bool Z])))else(bif(a0==[68,101,102])then(let j1:Gq:=J (.tup [.sl .str [[110,111,110,101]] (J 1),.bool Z]);let r8:=Z5 a1 [123];gd (okR [.bool] r8) (bif(lB (gL r8 0))then(J (.tup [.sl .str [[83,101,116]] (J 1),.bool Z]))else(let r7:=MD a1 [113,117,101,114,121];gd (okR [.bool] r7) (bif(lB (gL r7 0))==V then(let r5:=MD a1 [109,117,116,97,116,105,111,110];gd (okR [.bool] r5) (bif(lB (gL r5 0))==V then(let r3:=MD a1 [115,117,98,115,99,114,105,112,116,105,111,110];gd (okR [.bool] r3) (bif(lB (gL r3 0))then(J (.tup [.sl .str [[110,97,109,101],[79,112,116,78,97,109,101],[79,112,116,86,97,114,115],[68,105,114,115],[83,101,116]] (J 1),.bool Z]))else(let r2:=MD a1 [102,114,97,103,109,101,110,116];gd (okR [.bool] r2) (bif(lB (gL r2 0))then(J (.tup [.sl .str [[110,97,109,101],[98,117,116,79,110],[111,110],[110,97,109,101],[68,105,114,115],[83,101,116]] (J 1),.bool Z]))else j1))))else(bif Z then(J (.tup [.sl .str [[110,97,109,101],[79,112,116,78,97,109,101],[79,112,116,86,97,114,115],[68,105,114,115],[83,101,116]] (J 1),.bool Z]))else(let r4:=MD a1 [102,114,97,103,109,101,110,116];gd (okR [.bool] r4) (bif(lB (gL r4 0))then(J (.tup [.sl .str [[110,97,109,101],[98,117,116,79,110],[111,110],[110,97,109,101],[68,105,114,115],[83,101,116]] (J 1),.bool Z]))else j1)))))else(bif Z then(J (.tup [.sl .str [[110,97,109,101],[79,112,116,78,97,109,101],[79,112,116,86,97,114,115],[68,105,114,115],[83,101,116]] (J 1),.bool Z]))else(let r6:=MD a1 [102,114,97,103,109,101,110,116];gd (okR [.bool] r6) (bif(lB (gL r6 0))then(J (.tup [.sl .str [[110,97,109,101],[98,117,116,79,110],[111,110],[110,97,109,101],[68,105,114,115],[83,101,116]] (J 1),.bool Z]))else j1)))))))else(bif(a0==[79,112,116,78,97,109,101])then(bif(a1.kind==3)then(J (.tup [.sl .str [[110,97,109,101]] (J 1),.bool Z]))else(J (.tup [.sl .str [] (J 1),.bool Z])))else(bif(a0==[79,112,116,86,97,114,115])then(let r9:=R1 a1 [40] [[40],[86,97,114],[86,97,114,115],[41]] [];gd (okR [.sl .str O] r9) (J (.tup [.sl .str (F0 (gL r9 0)) O,.bool Z])))else(bif(a0==[86,97,114,115])then(let cF:=R1 a1 [36] [[86,97,114],[86,97,114,115]] [];gd (okR [.sl .str O] cF) (J (.tup [.sl .str (F0 (gL cF 0)) O,.bool Z])))else(bif(a0==[86,97,114])then(J (.tup [.sl .str [[36],[110,97,109,101],[58],[84,121,112,101],[79,112,116,68,101,102,97,117,108,116],[67,68,105,114,115]] (J 1),.bool Z]))else(bif(a0==[79,112,116,68,101,102,97,117,108,116])then(let dz:=R1 a1 [61] [[61],[67,86,97,108,117,101]] [];gd (okR [.sl .str O] dz) (J (.tup [.sl .str (F0 (gL dz 0)) O,.bool Z])))else(bif(a0==[84,121,112,101])then(let cP:=R1 a1 [91] [[91],[84,121,112,101],[93],[66,97,110,103]] [[110,97,109,101],[66,97,110,103]];gd (okR [.sl .str O] cP) (J (.tup [.sl .str (F0 (gL cP 0)) O,.bool Z])))else(bif(a0==[66,97,110,103])then(let cg:=R1 a1 [33] [[33]] [];gd (okR [.sl .str O] cg) (J (.tup [.sl .str (F0 (gL cg 0)) O,.bool Z])))else(J (.tup [.sl .str [] (J 1),.bool V])))))))))))
def B6c:KY
 |[.str a0,.agg .tok a1]=>pR [.slc .str,.bool] (U9 a0 a1)
 |_=>O
def C7R:Env Ty6 A2:=mkE [(129,Yk),(183,Yl)] [] noD 43 [] 0 [] []
def ME(a0:rg)(a1:A0):Gq:=bif(a0==[83,101,116])then(J (.tup [.sl .str [[123],[83,101,108],[83,101,108,115],[125]] (J 1),.bool Z]))else(bif(a0==[83,101,108,115])then(let r1:=R1 a1 [125] [] [[83,101,108],[83,101,108,115]];gd (okR [.sl .str O] r1) (J (.tup [.sl .str (F0 (gL r1 0)) O,.bool Z])))else(bif(a0==[83,101,108])then(let r2:=R1 a1 [46,46,46] [[46,46,46],[82,101,115,116]] [[110,97,109,101],[65,108,105,97,115],[65,114,103,115],[68,105,114,115],[79,112,116,83,101,116]];gd (okR [.sl .str O] r2) (J (.tup [.sl .str (F0 (gL r2 0)) O,.bool Z])))else(bif(a0==[65,108,105,97,115])then(let r3:=R1 a1 [58] [[58],[110,97,109,101]] [];gd (okR [.sl .str O] r3) (J (.tup [.sl .str (F0 (gL r3 0)) O,.bool Z])))else(bif(a0==[79,112,116,83,101,116])then(let r4:=R1 a1 [123] [[83,101,116]] [];gd (okR [.sl .str O] r4) (J (.tup [.sl .str (F0 (gL r4 0)) O,.bool Z])))else(bif(a0==[82,101,115,116])then(let r5:=MD a1 [111,110];gd (okR [.bool] r5) (bif(lB (gL r5 0))then(J (.tup [.sl .str [[111,110],[110,97,109,101],[68,105,114,115],[83,101,116]] (J 1),.bool Z]))else(bif(a1.kind==3)then(J (.tup [.sl .str [[98,117,116,79,110],[68,105,114,115]] (J 1),.bool Z]))else(J (.tup [.sl .str [[68,105,114,115],[83,101,116]] (J 1),.bool Z])))))else(J (.tup [.sl .str [] (J 1),.bool V])))))))
def B8Q:KY
 |[.str a0,.agg .tok a1]=>pR [.slc .str,.bool] (ME a0 a1)
 |_=>O
def D43:Env Ty6 A2:=mkE [(131,Vl),(183,Yl)] [] noD 92 [] 0 [] []
def W9(a0 a1:rg)(a2:A0):Gq:=bif(a0==[68,105,114,115])then(gd (decide (Aab a1+Aab [65,114,103,115]<=9223372036854775807)) (gd (decide (Aab a1+Aab [68,105,114,115]<=9223372036854775807)) (let r1:=R1 a2 [64] [[64],[110,97,109,101],a1++[65,114,103,115],a1++[68,105,114,115]] [];gd (okR [.sl .str O] r1) (J (.one (.sl .str (F0 (gL r1 0)) O))))))else(bif(a0==[65,114,103,115])then(gd (decide (Aab a1+Aab [65,114,103]<=9223372036854775807)) (gd (decide (Aab a1+Aab [77,111,114,101]<=9223372036854775807)) (let r2:=R1 a2 [40] [[40],a1++[65,114,103],a1++[77,111,114,101],[41]] [];gd (okR [.sl .str O] r2) (J (.one (.sl .str (F0 (gL r2 0)) O))))))else(bif(a0==[77,111,114,101])then(gd (decide (Aab a1+Aab [65,114,103]<=9223372036854775807)) (gd (decide (Aab a1+Aab [77,111,114,101]<=9223372036854775807)) (let r3:=R1 a2 [41] [] [a1++[65,114,103],a1++[77,111,114,101]];gd (okR [.sl .str O] r3) (J (.one (.sl .str (F0 (gL r3 0)) O))))))else(bif(a0==[65,114,103])then(gd (decide (Aab a1+Aab [86,97,108,117,101]<=9223372036854775807)) (J (.one (.sl .str [[110,97,109,101],[58],a1++[86,97,108,117,101]] (J 1)))))else(bif(a0==[86,97,108,117,101])then(let j4:Gq:=J (.one (.sl .str [[108,105,116]] (J 1)));let r9:=Z5 a2 [36];gd (okR [.bool] r9) (bif(lB (gL r9 0))==Z then(bif(a1==[])then(J (.one (.sl .str [[36],[110,97,109,101]] (J 1))))else(let r6:=Z5 a2 [91];gd (okR [.bool] r6) (bif(lB (gL r6 0))then(gd (decide (Aab a1+Aab [73,116,101,109,115]<=9223372036854775807)) (J (.one (.sl .str [[91],a1++[73,116,101,109,115],[93]] (J 1)))))else(let r5:=Z5 a2 [123];gd (okR [.bool] r5) (bif(lB (gL r5 0))then(gd (decide (Aab a1+Aab [70,105,101,108,100,115]<=9223372036854775807)) (J (.one (.sl .str [[123],a1++[70,105,101,108,100,115],[125]] (J 1)))))else(bif(a2.kind==3)then(J (.one (.sl .str [[110,97,109,101]] (J 1))))else j4))))))else(bif V then(J (.one (.sl .str [[36],[110,97,109,101]] (J 1))))else(let r8:=Z5 a2 [91];gd (okR [.bool] r8) (bif(lB (gL r8 0))then(gd (decide (Aab a1+Aab [73,116,101,109,115]<=9223372036854775807)) (J (.one (.sl .str [[91],a1++[73,116,101,109,115],[93]] (J 1)))))else(let r7:=Z5 a2 [123];gd (okR [.bool] r7) (bif(lB (gL r7 0))then(gd (decide (Aab a1+Aab [70,105,101,108,100,115]<=9223372036854775807)) (J (.one (.sl .str [[123],a1++[70,105,101,108,100,115],[125]] (J 1)))))else(bif(a2.kind==3)then(J (.one (.sl .str [[110,97,109,101]] (J 1))))else j4))))))))else(bif(a0==[73,116,101,109,115])then(gd (decide (Aab a1+Aab [86,97,108,117,101]<=9223372036854775807)) (gd (decide (Aab a1+Aab [73,116,101,109,115]<=9223372036854775807)) (let cF:=R1 a2 [93] [] [a1++[86,97,108,117,101],a1++[73,116,101,109,115]];gd (okR [.sl .str O] cF) (J (.one (.sl .str (F0 (gL cF 0)) O))))))else(bif(a0==[70,105,101,108,100,115])then(gd (decide (Aab a1+Aab [70,105,101,108,100]<=9223372036854775807)) (gd (decide (Aab a1+Aab [70,105,101,108,100,115]<=9223372036854775807)) (let dz:=R1 a2 [125] [] [a1++[70,105,101,108,100],a1++[70,105,101,108,100,115]];gd (okR [.sl .str O] dz) (J (.one (.sl .str (F0 (gL dz 0)) O))))))else(bif(a0==[70,105,101,108,100])then(gd (decide (Aab a1+Aab [86,97,108,117,101]<=9223372036854775807)) (J (.one (.sl .str [[110,97,109,101],[58],a1++[86,97,108,117,101]] (J 1)))))else(J (.one (.sl .str [[110,111,110,101]] (J 1)))))))))))
def B8a:KY
 |[.str a0,.str a1,.agg .tok a2]=>pR [.slc .str] (W9 a0 a1 a2)
 |_=>O
def E57:Env Ty6 A2:=mkE [(126,B6c),(127,B8Q),(128,B8a)] [] noD 33 [] 0 [] []
def Ke(a0:rg)(a1:A0):Gq:=gd (okR [.slc .str,.bool] (U9 a0 a1)) (let z1:=(F0 (gL (U9 a0 a1) 0));bif(lB (gL (U9 a0 a1) 1))then(J (.one (.sl .str z1 O)))else(gd (okR [.slc .str,.bool] (ME a0 a1)) (let z2:=(F0 (gL (ME a0 a1) 0));bif(lB (gL (ME a0 a1) 1))then(J (.one (.sl .str z2 O)))else(match idx a0 0 with|O=>O|J y3=>(bif((Aam y3:Int)==67)then(match sub a0 1 (Aab a0:Int)with|O=>O|J y4=>(let r5:=W9 y4 [67] a1;gd (okR [.slc .str] r5) (J (.one (.sl .str (F0 (gL r5 0)) O)))))else(let r6:=W9 a0 [] a1;gd (okR [.slc .str] r6) (J (.one (.sl .str (F0 (gL r6 0)) O)))))))))
def S57:KY
 |[.str a0,.agg .tok a1]=>pR [.sl .str O] (Ke a0 a1)
 |_=>O
def D2i:Env Ty6 A2:=mkE [] [] noD 21 [] 0 [] []
def Qb(a0:A0):Gq:=bif(a0.kind==4)==V then(bif(a0.kind==5)==V then(bif(a0.kind==6)==V then(J (.one (.bool (a0.kind==7))))else(J (.one (.bool Z))))else(J (.one (.bool Z))))else(J (.one (.bool Z)))
def B7k:KY
 |[.agg .tok a0]=>pR [.bool] (Qb a0)
 |_=>O
def E58:Env Ty6 A2:=mkE [(129,Yk),(130,B7k),(131,Vl)] [] noD 39 [] 0 [] []
def Ko(a0:rg)(a1:A0):Gq:=bif(a0==[110,97,109,101])then(J (.one (.bool (a1.kind==3))))else(bif(a0==[98,117,116,79,110])then(bif(a1.kind==3)==Z then(J (.one (.bool (!(a1.text==[111,110])))))else(J (.one (.bool V))))else(bif(a0==[111,110])then(let r1:=MD a1 [111,110];gd (okR [.bool] r1) (J (.one (.bool (lB (gL r1 0))))))else(bif(a0==[108,105,116])then(gd (okR [.bool] (Qb a1)) (J (.one (.bool (lB (gL (Qb a1) 0))))))else(bif(a0==[101,110,100])then(J (.one (.bool (a1.kind==0))))else(bif(a0==[110,111,110,101])then(J (.one (.bool V)))else(gd (okR [.bool] (Z5 a1 a0)) (J (.one (.bool (lB (gL (Z5 a1 a0) 0)))))))))))
def S58:KY
 |[.str a0,.agg .tok a1]=>pR [.bool] (Ko a0 a1)
 |_=>O
def E73:Env Ty6 A2:=mkE [] [] noD 11 [] 0 [] []
def Ki(a0:rg):Gq:=match idx a0 0 with|O=>O|J y1=>(bif(decide ((Aam y1:Int)>=65))==Z then(match idx a0 0 with|O=>O|J y2=>(J (.one (.bool (decide ((Aam y2:Int)<=90))))))else(J (.one (.bool V))))
def S73:KY
 |[.str a0]=>pR [.bool] (Ki a0)
 |_=>O
def C3D:Env Ty6 A2:=mkE [] [] (lkR [(0,4,1),(2,6,3),(3,10,2),(3,18,1),(4,9,1),(4,12,6),(5,0,2),(5,5,1),(5,18,6),(6,0,2),(6,5,1),(6,9,1)]) 24 [] 0 [] []
def B18{R:Type}(nn:Nat)(a0:List D4)(a1:rg):Nat->Int->(List Gy->Option R)->(Int->Bool->Option R)->Option R
 |0,_,_,_=>O
 |n+1,x5,k1,k3=>let k2:=λx5=>B18 nn a0 a1 n x5 k1 k3;let z1:=decide (x5<(Aab a0:Int));bif z1 then(match idx a0 x5 with|O=>O|J y2=>(bif(y2.name==a1)then(match idx a0 x5 with|O=>O|J y3=>(k1 y3.choices))else(k2 (Aaa .i64 (x5+1)))))else(k3 x5 z1)
def D08{R}(nn a0 a1)(K:Kt R):∀n x5,B18 nn a0 a1 n x5 (λx4=>K .ret ⟨[eL 4 .strs x4],[]⟩) (λx5 x9=>K (.exit 0) ⟨[eL 0 .rule a0,eS 1 a1,eI 5 x5,eB 9 x9],[]⟩)=LP C3D nn f146 37 n ⟨[eL 0 .rule a0,eS 1 a1,eI 5 x5],[]⟩ K:=λn=>n.rec (by intros;rfl) λn i=>by
 intros;rw[B18];simp only[i];kernel_rfl
def B46(nn:Nat)(a0:List D4)(a1:rg):Gq:=B18 nn a0 a1 nn 0 (λz1=>J (.one (.sl .strs z1 O))) (λz2 z3=>J (.one (.sl .strs [] (J 1))))
def Ms(a0:List D4)(a1:rg):Gq:=B46 NN a0 a1
def Ym:KY
 |[.sl .rule a0 O,.str a1]=>pR [.slc .strs] (Ms a0 a1)
 |_=>O
def E77:Env Ty6 A2:=mkE [] [] (lkR [(0,2,1),(4,6,3),(5,10,2),(5,21,1),(6,9,1),(6,12,9),(7,21,3),(8,4,1),(8,24,8),(9,24,1),(9,32,2),(10,0,1),(10,3,3),(10,9,1),(10,34,1)]) 35 [] 0 [] []
def B2s{R:Type}(nn:Nat)(a0:rg):Nat->Gy->Int->Int->(Gy->Int->Int->Bool->Option R)->Option R
 |0,_,_,_,_=>O
 |n+1,x3,x4,x5,k2=>let k1:=λx3 x4 x5=>B2s nn a0 n x3 x4 x5 k2;let z1:=decide (x5<=(Aab a0:Int));bif z1 then(let j2:Gy->Int->Int->Bool->Option R:=λz3 z4 z5 z6=>k1 z3 z4 (Aaa .i64 (z5+1));let j7:Gy->Int->Int->Option R:=λz8 z9 bP=>k1 z8 z9 (Aaa .i64 (bP+1));let pz:Gy->Int->Int->Bool->Option R:=λcr cR cM cH=>let dD:=decide (cM>cR);bif dD then(match sub a0 cR cM with|O=>O|J nH=>(gd (A3 (Aab cr+1) 16) (j7 (cr++[nH]) (Aaa .i64 (cM+1)) cM)))else(j7 cr (Aaa .i64 (cM+1)) cM);bif(decide (x5<(Aab a0:Int)))==Z then(match idx a0 x5 with|O=>O|J qS=>(let eX:=(Aam qS:Int) !=32;bif eX then(j2 x3 x4 x5 eX)else(pz x3 x4 x5 eX)))else(bif V then(j2 x3 x4 x5 V)else(pz x3 x4 x5 V)))else(k2 x3 x4 x5 z1)
def D0n{R}(nn a0)(K:Kt R):∀n x3 x4 x5,B2s nn a0 n x3 x4 x5 (λx3 x4 x5 x9=>K (.exit 0) ⟨[eS 0 a0,eO 3 .str x3 103,eI 4 x4,eI 5 x5,eB 9 x9],[103]⟩)=LP E77 nn f77 151 n ⟨[eS 0 a0,eO 3 .str x3 103,eI 4 x4,eI 5 x5],[103]⟩ K:=λn=>n.rec (by intros;rfl) λn i=>by
 intros;rw[B2s];simp only[i];kernel_rfl
def B7U(nn:Nat)(a0:rg):Gq:=B2s nn a0 nn [] 0 0 (λz1 z2 z3 z4=>J (.one (.sl .str z1 (J 1))))
def Mt(a0:rg):Gq:=B7U NN a0
def Yn:KY
 |[.str a0]=>pR [.sl .str (J 1)] (Mt a0)
 |_=>O
def C2S:Env Ty6 A2:=mkE [(77,Yn)] [] (lkR [(0,4,1),(1,1,1),(1,7,2),(3,9,3),(4,13,2),(4,20,1),(5,12,1),(5,15,5),(6,0,1),(6,5,2),(6,20,1),(7,0,1),(7,5,2),(7,12,1)]) 21 [] 0 [] []
def Vm{R:Type}(nn:Nat)(a0 a1:rg):Nat->Gy->Int->Option R->(Gy->Int->Bool->Option R)->Option R
 |0,_,_,_,_=>O
 |n+1,x5,x6,k1,k3=>let k2:=λx5 x6=>Vm nn a0 a1 n x5 x6 k1 k3;let z1:=decide (x6<(Aab x5:Int));bif z1 then(match idx x5 x6 with|O=>O|J y2=>(bif(y2==a0)then k1 else(k2 x5 (Aaa .i64 (x6+1)))))else(k3 x5 x6 z1)
def D24{R}(nn a0 a1)(K:Kt R):∀n x5 x6,Vm nn a0 a1 n x5 x6 (K .ret ⟨[eB 4 Z],[]⟩) (λx5 x6 fK=>K (.exit 0) ⟨[eS 0 a0,eO 5 .str x5 1008,eI 6 x6,eB 12 fK],[1008]⟩)=LP C2S nn f149 75 n ⟨[eS 0 a0,eO 5 .str x5 1008,eI 6 x6],[1008]⟩ K:=λn=>n.rec (by intros;rfl) λn i=>by
 intros;rw[Vm];simp only[i];kernel_rfl
def B0F(nn:Nat)(a0 a1:rg):Gq:=gd (okR [.sl .str (J 1)] (Mt a1)) (Vm nn a0 a1 nn (F0 (gL (Mt a1) 0)) 0 (J (.one (.bool Z))) (λz1 z2 z3=>J (.one (.bool V))))
def OS(a0 a1:rg):Gq:=B0F NN a0 a1
def B8o:KY
 |[.str a0,.str a1]=>pR [.bool] (OS a0 a1)
 |_=>O
def E75:Env Ty6 A2:=mkE [(149,B8o)] [] noD 83 [] 0 [] []
def Kq(a0:rg)(a1:A0):Gq:=bif(a0==[46,110,97,109,101])then(J (.one (.bool (a1.kind==3))))else(bif(a0==[46,99,97,115,101])then(bif(a1.kind==3)==Z then(let r1:=OS a1.text [116,114,117,101,32,102,97,108,115,101,32,110,117,108,108];gd (okR [.bool] r1) (J (.one (.bool (!(lB (gL r1 0)))))))else(J (.one (.bool V))))else(bif(a0==[46,114,111,111,116])then(bif(a1.kind==3)==Z then(let r2:=OS a1.text [113,117,101,114,121,32,109,117,116,97,116,105,111,110,32,115,117,98,115,99,114,105,112,116,105,111,110];gd (okR [.bool] r2) (J (.one (.bool (lB (gL r2 0))))))else(J (.one (.bool V))))else(bif(a0==[46,112,108,97,99,101])then(bif(a1.kind==3)==Z then(let r3:=OS a1.text [81,85,69,82,89,32,77,85,84,65,84,73,79,78,32,83,85,66,83,67,82,73,80,84,73,79,78,32,70,73,69,76,68,32,70,82,65,71,77,69,78,84,95,68,69,70,73,78,73,84,73,79,78,32,70,82,65,71,77,69,78,84,95,83,80,82,69,65,68,32,73,78,76,73,78,69,95,70,82,65,71,77,69,78,84,32,86,65,82,73,65,66,76,69,95,68,69,70,73,78,73,84,73,79,78,32,83,67,72,69,77,65,32,83,67,65,76,65,82,32,79,66,74,69,67,84,32,70,73,69,76,68,95,68,69,70,73,78,73,84,73,79,78,32,65,82,71,85,77,69,78,84,95,68,69,70,73,78,73,84,73,79,78,32,73,78,84,69,82,70,65,67,69,32,85,78,73,79,78,32,69,78,85,77,32,69,78,85,77,95,86,65,76,85,69,32,73,78,80,85,84,95,79,66,74,69,67,84,32,73,78,80,85,84,95,70,73,69,76,68,95,68,69,70,73,78,73,84,73,79,78];gd (okR [.bool] r3) (J (.one (.bool (lB (gL r3 0))))))else(J (.one (.bool V))))else(bif(a0==[46,115,116,114])then(bif(a1.kind==6)==V then(J (.one (.bool (a1.kind==7))))else(J (.one (.bool Z))))else(bif(a0==[46,110,117,109])then(bif(a1.kind==4)==V then(J (.one (.bool (a1.kind==5))))else(J (.one (.bool Z))))else(bif(a0==[46,101,110,100])then(J (.one (.bool (a1.kind==0))))else(match idx a0 0 with|O=>O|J y4=>(bif((Aam y4:Int)==39)then(bif(a1.kind==3)==Z then(match sub a0 1 (Aab a0:Int)with|O=>O|J y5=>(J (.one (.bool (a1.text==y5)))))else(J (.one (.bool V))))else(bif(a1.kind==2)==Z then(J (.one (.bool (a1.text==a0))))else(J (.one (.bool V))))))))))))
def S75:KY
 |[.str a0,.agg .tok a1]=>pR [.bool] (Kq a0 a1)
 |_=>O
def B03(g:List D4->(rg)->Gq):KY
 |[.sl .rule a0 O,.str a1]=>pR [.bool] (g a0 a1)
 |_=>O
def B3y(dc:List D4->(rg)->Gq):Env Ty6 A2:=mkE [(73,S73),(146,Ym),(148,B03 dc)] [] (lkR [(0,4,1),(1,9,2),(2,0,2),(2,11,1),(3,1,1),(3,11,4),(5,15,3),(6,19,2),(6,42,1),(7,18,1),(9,21,6),(10,28,2),(11,27,1),(11,30,12),(12,7,2),(12,27,1),(13,0,1),(13,5,2),(13,42,1),(14,0,1),(14,5,2),(14,18,1)]) 43 [] 0 [] []
def B0S{R:Type}(nn:Nat)(dc:List D4->(rg)->Gq)(a0:List D4)(a1:rg):Nat->List Gy->Int->Bool->Int->(List Gy->Int->Bool->Int->Bool->Option R)->Option R
 |0,_,_,_,_,_=>O
 |n+1,x5,x6,x7,x8,k2=>let k1:=λx5 x6 x7 x8=>B0S nn dc a0 a1 n x5 x6 x7 x8 k2;match idx x5 x6 with|O=>O|J y1=>(let z2:=decide (x8<(Aab y1:Int));bif z2 then(let j3:List Gy->Int->Bool->Int->Option R:=λz4 z5 z6 z7=>k1 z4 z5 z6 (Aaa .i64 (z7+1));bif x7==Z then(match idx x5 x6 with|O=>O|J y8=>(match idx y8 x8 with|O=>O|J y9=>(gd (okR [.bool] (dc a0 y9)) (j3 x5 x6 (lB (gL (dc a0 y9) 0)) x8))))else(j3 x5 x6 V x8))else(k2 x5 x6 x7 x8 z2))
def D2m{R}(nn dc a0 a1)(K:Kt R):∀n x5 x6 x7 x8,B0S nn dc a0 a1 n x5 x6 x7 x8 (λx5 x6 x7 x8 jt=>K (.exit 2) ⟨[eL 0 .rule a0,eL 5 .strs x5,eI 6 x6,eB 7 x7,eI 8 x8,eB 27 jt],[]⟩)=LP (B3y dc) nn Acd 38039 n ⟨[eL 0 .rule a0,eL 5 .strs x5,eI 6 x6,eB 7 x7,eI 8 x8],[]⟩ K:=λn=>n.rec (by intros;rfl) λn i=>by
 intros;rw[B0S];simp only[i];kernel_rfl
def B1H{R:Type}(nn:Nat)(dc:List D4->(rg)->Gq)(a0:List D4)(a1:rg):Nat->List Gy->Int->Option R->(List Gy->Int->Bool->Option R)->Option R
 |0,_,_,_,_=>O
 |n+1,x5,x6,k1,k3=>let k2:=λx5 x6=>B1H nn dc a0 a1 n x5 x6 k1 k3;let z1:=decide (x6<(Aab x5:Int));bif z1 then(B0S nn dc a0 a1 nn x5 x6 Z 0 (λz2 z3 z4 z5 z6=>bif z4 then k1 else(k2 z2 (Aaa .i64 (z3+1)))))else(k3 x5 x6 z1)
def D4s{R}(nn dc a0 a1)(K:Kt R):∀n x5 x6,B1H nn dc a0 a1 n x5 x6 (K .ret ⟨[eB 4 Z],[]⟩) (λx5 x6 qT=>K (.exit 0) ⟨[eL 0 .rule a0,eL 5 .strs x5,eI 6 x6,eB 18 qT],[]⟩)=LP (B3y dc) nn Acd 151 n ⟨[eL 0 .rule a0,eL 5 .strs x5,eI 6 x6],[]⟩ K:=λn=>n.rec (by intros;rfl) λn i=>by
 intros;rw[B1H];simp only[i];simp(disch:=exact krl)only[lc1 (kL 151 n K) (D2m ..)];kernel_rfl
def B4t(nn:Nat)(dc:List D4->(rg)->Gq)(a0:List D4)(a1:rg):Gq:=gd (okR [.bool] (Ki a1)) (let z1:= !(lB (gL (Ki a1) 0));bif z1 then(J (.one (.bool V)))else(gd (okR [.slc .strs] (Ms a0 a1)) (B1H nn dc a0 a1 nn (B0V (gL (Ms a0 a1) 0)) 0 (J (.one (.bool Z))) (λz2 z3 z4=>J (.one (.bool V))))))
def C8D(dc:List D4->(rg)->Gq)(a0:List D4)(a1:rg):Gq:=B4t NN dc a0 a1
def C66(nn:Nat)(dc:List D4->(rg)->Gq){a0:List D4}{a1:rg}:P4 (B3y dc) nn Acd [.sl .rule a0 O,.str a1]=B4t nn dc a0 a1:=by
 unfold B4t;simp(disch:=exact krl)only[lc2 kF (D4s ..)];kernel_rfl
def Yo:Nat->List D4->(rg)->Gq
 |0,_,_=>O
 |d+1,a0,a1=>C8D (Yo d) a0 a1
def Mu(a0:List D4)(a1:rg):Gq:=Yo DD a0 a1
def B4i:KY
 |[.sl .rule a0 O,.str a1]=>pR [.bool] (Mu a0 a1)
 |_=>O
def B3t(g:List D4->Gy->A0->Gq):KY
 |[.sl .rule a0 O,.sl .str a1 O,.agg .tok a2]=>pR [.bool] (g a0 a1 a2)
 |_=>O
def B3J(dn:List D4->Gy->A0->Gq):Env Ty6 A2:=mkE [(73,S73),(75,S75),(146,Ym),(147,B3t dn),(148,B4i)] [] (lkR [(0,2,1),(0,6,1),(2,10,3),(3,14,2),(3,53,1),(4,13,1),(4,16,5),(5,0,2),(5,5,1),(5,7,1),(5,21,7),(5,1000105,1),(6,21,1),(6,28,6),(8,34,3),(9,38,2),(9,46,1),(10,37,1),(10,40,6),(11,0,2),(11,5,1),(11,7,3),(11,46,1),(11,1000105,1),(12,8,2),(12,37,1),(12,47,6),(13,0,2),(13,5,1),(13,7,1),(13,53,1),(13,1000105,1),(14,0,2),(14,5,1),(14,7,1),(14,13,1),(14,1000105,1)]) 54 [] 0 [] []
def Vn{R:Type}(nn:Nat)(dn:List D4->Gy->A0->Gq)(a0:List D4)(a1:Gy)(a2:A0):Nat->Int->List Gy->Int->Option R->(Int->List Gy->Int->Bool->Option R)->Option R
 |0,_,_,_,_,_=>O
 |n+1,x7,x8,x9,k1,k3=>let k2:=λx7 x8 x9=>Vn nn dn a0 a1 a2 n x7 x8 x9 k1 k3;let z1:=decide (x9<(Aab x8:Int));bif z1 then(match idx x8 x9 with|O=>O|J y2=>(let r4:=dn a0 y2 a2;gd (okR [.bool] r4) (let z3:=(lB (gL r4 0));bif z3 then k1 else(k2 x7 x8 (Aaa .i64 (x9+1))))))else(k3 x7 x8 x9 z1)
def D0l{R}(nn dn a0 a1 a2)(K:Kt R):∀n x7 x8 x9,Vn nn dn a0 a1 a2 n x7 x8 x9 (K .ret ⟨[eB 6 Z],[]⟩) (λx7 x8 x9 Ds=>K (.exit 2) ⟨[eL 0 .rule a0,eL 1 .str a1,(5,.one (.elem .tok a2 0)),eI 7 x7,eL 8 .strs x8,eI 9 x9,eB 37 Ds],[]⟩)=LP (B3J dn) nn Ace 19237 n ⟨[eL 0 .rule a0,eL 1 .str a1,(5,.one (.elem .tok a2 0)),eI 7 x7,eL 8 .strs x8,eI 9 x9],[]⟩ K:=λn=>n.rec (by intros;rfl) λn i=>by
 intros;rw[Vn];simp only[i];kernel_rfl
def Vo{R:Type}(nn:Nat)(dn:List D4->Gy->A0->Gq)(a0:List D4)(a1:Gy)(a2:A0):Nat->Int->(Bool->Option R)->(Int->Bool->Option R)->Option R
 |0,_,_,_=>O
 |n+1,x7,k1,k3=>let k2:=λx7=>Vo nn dn a0 a1 a2 n x7 k1 k3;let z1:=decide (x7<(Aab a1:Int));bif z1 then(match idx a1 x7 with|O=>O|J y2=>(gd (okR [.bool] (Ki y2)) (let z3:= !(lB (gL (Ki y2) 0));bif z3 then(match idx a1 x7 with|O=>O|J y4=>(gd (okR [.bool] (Kq y4 a2)) (k1 (lB (gL (Kq y4 a2) 0)))))else(match idx a1 x7 with|O=>O|J y5=>(gd (okR [.slc .strs] (Ms a0 y5)) (Vn nn dn a0 a1 a2 nn x7 (B0V (gL (Ms a0 y5) 0)) 0 (k1 Z) (λz6 z7 z8 z9=>match idx a1 z6 with|O=>O|J dT=>(let cP:=Mu a0 dT;gd (okR [.bool] cP) (let bY:= !(lB (gL cP 0));bif bY then(k1 V)else(k2 (Aaa .i64 (z6+1))))))))))))else(k3 x7 z1)
def D61{R}(nn dn a0 a1 a2)(K:Kt R):∀n x7,Vo nn dn a0 a1 a2 n x7 (λx6=>K .ret ⟨[eB 6 x6],[]⟩) (λx7 ck=>K (.exit 0) ⟨[eL 0 .rule a0,eL 1 .str a1,(5,.one (.elem .tok a2 0)),eI 7 x7,eB 13 ck],[]⟩)=LP (B3J dn) nn Ace 37 n ⟨[eL 0 .rule a0,eL 1 .str a1,(5,.one (.elem .tok a2 0)),eI 7 x7],[]⟩ K:=λn=>n.rec (by intros;rfl) λn i=>by
 intros;rw[Vo];simp only[i];simp(disch:=exact krl)only[lc2 (kL 37 n K) (D0l ..)];kernel_rfl
def B2E(nn:Nat)(dn:List D4->Gy->A0->Gq)(a0:List D4)(a1:Gy)(a2:A0):Gq:=Vo nn dn a0 a1 a2 nn 0 (λz1=>J (.one (.bool z1))) (λz2 z3=>J (.one (.bool V)))
def B9o(dn:List D4->Gy->A0->Gq)(a0:List D4)(a1:Gy)(a2:A0):Gq:=B2E NN dn a0 a1 a2
def D0f(nn:Nat)(dn:List D4->Gy->A0->Gq){a0:List D4}{a1:Gy}{a2:A0}:P4 (B3J dn) nn Ace [.sl .rule a0 O,.sl .str a1 O,.agg .tok a2]=B2E nn dn a0 a1 a2:=by
 unfold B2E;simp(disch:=exact krl)only[lc2 kF (D61 ..)];kernel_rfl
def OT:Nat->List D4->Gy->A0->Gq
 |0,_,_,_=>O
 |d+1,a0,a1,a2=>B9o (OT d) a0 a1 a2
def B7u(a0:List D4)(a1:Gy)(a2:A0):Gq:=OT DD a0 a1 a2
def C2p:KY
 |[.sl .rule a0 O,.sl .str a1 O,.agg .tok a2]=>pR [.bool] (B7u a0 a1 a2)
 |_=>O
def E74:Env Ty6 A2:=mkE [(146,Ym),(147,C2p),(148,B4i)] [] (lkR [(0,2,1),(0,6,2),(1,10,3),(3,13,3),(4,17,2),(4,25,1),(5,16,1),(5,19,6),(6,0,2),(6,5,1),(6,8,2),(6,25,5),(6,1000105,1),(7,0,2),(7,5,1),(7,8,2),(7,16,1),(7,30,3),(7,1000105,1)]) 33 [] 0 [] []
def Vp{R:Type}(nn:Nat)(a0:List D4)(a1:rg)(a2:A0):Nat->List Gy->Int->(Gy->Option R)->(List Gy->Int->Bool->Option R)->Option R
 |0,_,_,_,_=>O
 |n+1,x8,x9,k1,k3=>let k2:=λx8 x9=>Vp nn a0 a1 a2 n x8 x9 k1 k3;let z1:=decide (x9<(Aab x8:Int));bif z1 then(match idx x8 x9 with|O=>O|J y2=>(let r5:=B7u a0 y2 a2;gd (okR [.bool] r5) (let z3:=(lB (gL r5 0));bif z3 then(match idx x8 x9 with|O=>O|J y4=>(k1 y4))else(k2 x8 (Aaa .i64 (x9+1))))))else(k3 x8 x9 z1)
def D5g{R}(nn a0 a1 a2)(K:Kt R):∀n x8 x9,Vp nn a0 a1 a2 n x8 x9 (λx6=>K .ret ⟨[eL 6 .str x6,eB 7 Z],[]⟩) (λx8 x9 fk=>K (.exit 0) ⟨[eL 0 .rule a0,eS 1 a1,(5,.one (.elem .tok a2 0)),eL 8 .strs x8,eI 9 x9,eB 16 fk],[]⟩)=LP E74 nn f74 75 n ⟨[eL 0 .rule a0,eS 1 a1,(5,.one (.elem .tok a2 0)),eL 8 .strs x8,eI 9 x9],[]⟩ K:=λn=>n.rec (by intros;rfl) λn i=>by
 intros;rw[Vp];simp only[i];kernel_rfl
def B3B(nn:Nat)(a0:List D4)(a1:rg)(a2:A0):Gq:=gd (okR [.slc .strs] (Ms a0 a1)) (Vp nn a0 a1 a2 nn (B0V (gL (Ms a0 a1) 0)) 0 (λz1=>J (.tup [.sl .str z1 O,.bool Z])) (λz2 z3 z4=>gd (okR [.bool] (Mu a0 a1)) (J (.tup [.sl .str [] (J 1),.bool (lB (gL (Mu a0 a1) 0))]))))
def Kr(a0:List D4)(a1:rg)(a2:A0):Gq:=B3B NN a0 a1 a2
def S74:KY
 |[.sl .rule a0 O,.str a1,.agg .tok a2]=>pR [.slc .str,.bool] (Kr a0 a1 a2)
 |_=>O
def E76:Env Ty6 A2:=mkE [] [] noD 12 [] 0 [] []
def Kp(a0:rg):Gq:=let j1:Bool->Gq:=λz2=>J (.one (.int .i64 0));let j3:Bool->Gq:=λz4=>J (.one (.int .i64 0));let j5:Bool->Gq:=λz6=>bif z6 then(J (.one (.int .i64 1)))else(let j7:Bool->Gq:=λz8=>bif z8 then(J (.one (.int .i64 (-1))))else(j1 z8);bif(a0==[41])then(j7 (a0==[41]))else(bif(a0==[93])then(j7 (a0==[93]))else(bif(a0==[125])then(J (.one (.int .i64 (-1))))else(j3 (a0==[125])))));bif(a0==[40])then(j5 (a0==[40]))else(bif(a0==[91])then(j5 (a0==[91]))else(j5 (a0==[123])))
def S76:KY
 |[.str a0]=>pR [.int .i64] (Kp a0)
 |_=>O
def E34:Env Ty6 A2:=mkE [(77,Yn)] [] (lkR [(0,2,1),(0,1000106,1),(1,1000106,1),(2,1000106,1),(3,9,3),(3,1000106,1),(4,13,2),(4,1000106,1),(5,12,1),(5,15,5),(5,1000106,1),(6,20,4),(9,24,3),(10,28,2),(10,45,1),(11,27,1),(11,30,4),(12,7,1),(12,34,7),(14,34,1),(14,41,4),(15,45,8),(16,5,1),(16,7,2),(16,27,1),(16,53,6),(17,6,1),(17,59,4),(17,1000106,1),(18,0,1),(18,3,2),(18,12,1),(18,63,1),(18,1000106,1),(10003,1000106,1)]) 64 [6,23] 0 [] [(23,106)]
def B3Y{R:Type}(nn:Nat)(a0:Gy):Nat->List D4->Int->Gy->Gy->Int->(rg)->List Gy->(List D4->Int->Gy->Gy->Int->Bool->(rg)->List Gy->Option R)->Option R
 |0,_,_,_,_,_,_,_,_=>O
 |n+1,x3,x4,x5,x7,x8,aj,ai,k2=>let k1:=λx3 x4 x5 x7 x8 aj ai=>B3Y nn a0 n x3 x4 x5 x7 x8 aj ai k2;let z1:=decide (x8<(Aab x5:Int));bif z1 then(let j2:List D4->Int->Gy->Gy->Int->(rg)->List Gy->Option R:=λz3 z4 z5 z6 z7 z8 z9=>k1 z3 z4 z5 z6 (Aaa .i64 (z7+1)) z8 z9;match idx x5 x8 with|O=>O|J dT=>(bif(dT==[47])then(gd (A3 (Aab ai+1) 24) (j2 x3 x4 x5 [] x8 aj (ai++[x7])))else(match idx x5 x8 with|O=>O|J gq=>(bif(!(gq==[45]))then(match idx x5 x8 with|O=>O|J ic=>(gd (A3 (Aab x7+1) 16) (j2 x3 x4 x5 (x7++[ic]) x8 aj ai)))else(k1 x3 x4 x5 x7 (Aaa .i64 (x8+1)) aj ai)))))else(k2 x3 x4 x5 x7 x8 z1 aj ai)
def C8P{R}(nn a0)(K:Kt R):∀n x3 x4 x5 x7 x8 aj ai,B3Y nn a0 n x3 x4 x5 x7 x8 aj ai (λx3 x4 x5 x7 x8 jt aj ai=>K (.exit 2) ⟨[eL 0 .str a0,eO 3 .rule x3 103,eI 4 x4,eO 5 .str x5 1019,eP 6 106,eO 7 .str x7 107,eI 8 x8,eB 27 jt,(1000106,.bx 106 [.str aj,.sl .strs ai (J 2010601)])],[103,106,107,1019,2010601]⟩)=LP E34 nn f34 77387 n ⟨[eL 0 .str a0,eO 3 .rule x3 103,eI 4 x4,eO 5 .str x5 1019,eP 6 106,eO 7 .str x7 107,eI 8 x8,(1000106,.bx 106 [.str aj,.sl .strs ai (J 2010601)])],[103,106,107,1019,2010601]⟩ K:=λn=>n.rec (by intros;rfl) λn i=>by
 intros;rw[B3Y];simp only[i];kernel_rfl
def B0P{R:Type}(nn:Nat)(a0:Gy):Nat->List D4->Int->(List D4->Int->Bool->Option R)->Option R
 |0,_,_,_=>O
 |n+1,x3,x4,k2=>let k1:=λx3 x4=>B0P nn a0 n x3 x4 k2;let z1:=decide (x4<(Aab a0:Int));bif z1 then(match idx a0 x4 with|O=>O|J y2=>(gd (okR [.sl .str (J 1)] (Mt y2)) (let z3:=(F0 (gL (Mt y2) 0));match idx z3 0 with|O=>O|J y4=>(B3Y nn a0 nn x3 x4 z3 [] 2 y4 [] (λz5 z6 z7 z8 z9 bP bY cr=>gd (A3 (Aab cr+1) 24) (gd (A3 (Aab z5+1) 40) (k1 (z5++[(⟨bY,(cr++[z8])⟩:D4)]) (Aaa .i64 (z6+1)))))))))else(k2 x3 x4 z1)
def D5M{R}(nn a0)(K:Kt R):∀n x3 x4,B0P nn a0 n x3 x4 (λx3 x4 fK=>K (.exit 0) ⟨[eL 0 .str a0,eO 3 .rule x3 103,eI 4 x4,eB 12 fK],[103]⟩)=LP E34 nn f34 75 n ⟨[eL 0 .str a0,eO 3 .rule x3 103,eI 4 x4],[103]⟩ K:=λn=>n.rec (by intros;rfl) λn i=>by
 intros;rw[B0P];simp only[i];simp(disch:=exact krl)only[lc1 (kL 75 n K) (C8P ..)];kernel_rfl
def B8F(nn:Nat)(a0:Gy):Gq:=B0P nn a0 nn [] 0 (λz1 z2 z3=>J (.one (.sl .rule z1 (J 1))))
def F34(a0:Gy):Gq:=B8F NN a0
def S34:KY
 |[.sl .str a0 O]=>pR [.sl .rule (J 1)] (F34 a0)
 |_=>O
def E60:Env Ty6 A2:=mkE [] [] noD 18 [] 1 [] []
def KZ(a1 a2:Int)(ae:Gx)(aa:Gu):Gr:=match idx ae a1 with|O=>O|J y1=>(match idx y1.kids a2 with|O=>O|J y2=>(J ([.int .i64 y2],(bxN ae aa))))
def Ks:Ka
 |[.ptr d0 o0,.int .i64 a1,.int .i64 a2],[[.sl .node ae O,.sl .tok aa O]]=>bif bq d0 o0 then pB [.int .i64] kN (KZ a1 a2 ae aa)else O
 |_,_=>O
def D53{a1 a2:Int}{ae:Gx}{aa:Gu}:RoK (bxN ae aa) (KZ a1 a2 ae aa):=by
 unfold KZ
 try dsimp only
 repeat' first|exact H0|exact L5 _|apply K0|apply J8|split
def LI:∀ls cs rs ay,Ks ls cs=J (Z,rs,ay)->ay=cs:=λls cs rs ay h=>by
 unfold Ks at h;split at h;obtain⟨_,h⟩:=A5 h;exact W7 rfl rfl D53 h;cases h
def D0A:Env Ty6 A2:=mkE [] [] noD 15 [] 1 [] []
def K8(a1:Int)(ae:Gx)(aa:Gu):Gr:=match idx ae a1 with|O=>O|J y1=>(J ([.bool ((Aab y1.kids:Int)==0)],(bxN ae aa)))
def MF:Ka
 |[.ptr d0 o0,.int .i64 a1],[[.sl .node ae O,.sl .tok aa O]]=>bif bq d0 o0 then pB [.bool] kN (K8 a1 ae aa)else O
 |_,_=>O
def D7h{a1:Int}{ae:Gx}{aa:Gu}:RoK (bxN ae aa) (K8 a1 ae aa):=by
 unfold K8
 try dsimp only
 repeat' first|exact H0|exact L5 _|apply K0|apply J8|split
def Sq:∀ls cs rs ay,MF ls cs=J (Z,rs,ay)->ay=cs:=λls cs rs ay h=>by
 unfold MF at h;split at h;obtain⟨_,h⟩:=A5 h;exact W7 rfl rfl D7h h;cases h
def E61:Env Ty6 A2:=mkR [] [] [(60,Ks),(136,MF)] (lkR [(0,4,1),(2,6,3),(3,9,7),(4,16,3),(5,1,1),(5,5,1),(5,9,1),(5,19,1)]) 20 [] 1 [] []
def OU{R:Type}(nn:Nat)(a1:Int)(ae:Gx)(aa:Gu):Nat->Int->Gp->(Int->Gp->Bool->Option R)->Option R
 |0,_,_,_=>O
 |n+1,x1,x5,k2=>let k1:=λx1 x5=>OU nn a1 ae aa n x1 x5 k2;let r4:=K8 x1 ae aa;gd (okB [.bool] kN r4) (let z1:= !(lB (gB r4 0));bif z1 then(let r3:=KZ x1 0 ae aa;gd (okB [.int .i64] kN r3) (gd (A3 (Aab x5+1) 8) (let r2:=KZ x1 1 ae aa;gd (okB [.int .i64] kN r2) (k1 (lI (gB r2 0)) (x5++[(lI (gB r3 0))])))))else(k2 x1 x5 z1))
def C7x{R}(nn a1 ae aa)(K:Kt R):∀n x1 x5,OU nn a1 ae aa n x1 x5 (λx1 x5 x9=>K (.exit 0) ⟨[eP 0 900000,eI 1 x1,eO 5 .i64 x5 105,eB 9 x9,zN ae aa],[105,900000]⟩)=LP E61 nn f61 35 n ⟨[eP 0 900000,eI 1 x1,eO 5 .i64 x5 105,zN ae aa],[105,900000]⟩ K:=λn=>n.rec (by intros;rfl) λn i=>by
 intros;rw[OU];simp only[i];kernel_rfl
def B2p(nn:Nat)(a1:Int)(ae:Gx)(aa:Gu):Gr:=OU nn a1 ae aa nn a1 [] (λz1 z2 z3=>J ([.sl .i64 z2 (J 1)],(bxN ae aa)))
def Mv(a1:Int)(ae:Gx)(aa:Gu):Gr:=B2p NN a1 ae aa
def D3B(nn:Nat){a1:Int}{ae:Gx}{aa:Gu}:D7 E61 nn f61 [0] [.ptr 900000 0,.int .i64 a1] (bxN ae aa)=B2p nn a1 ae aa:=by
 unfold B2p;simp(disch:=exact krl)only[lc1 (kB [0] (bxN ae aa)) (C7x ..)];kernel_rfl
def OV:Ka
 |[.ptr d0 o0,.int .i64 a1],[[.sl .node ae O,.sl .tok aa O]]=>bif bq d0 o0 then pB [.sl .i64 (J 1)] kN (Mv a1 ae aa)else O
 |_,_=>O
def C28{nn:Nat}{a1:Int}{ae:Gx}{aa:Gu}{p:Gz->Prop}{k0:Int->Gp->Bool->Gr}(dK:∀y0 y1 y2,RoP p (k0 y0 y1 y2)):∀(n:Nat)(x0:Int)(x1:(Gp)),RoP p (OU nn a1 ae aa n x0 x1 k0)
 |0,_,_=>H0
 |n+1,_,_=>by
  unfold OU
  try dsimp only
  repeat' first|exact H0|exact L5 _|exact dK _ _ _|exact C28 dK n _ _|apply K0|apply J8|split
def D1D{a1:Int}{ae:Gx}{aa:Gu}:RoK (bxN ae aa) (Mv a1 ae aa):=by
 unfold Mv B2p
 try dsimp only
 repeat' first|exact H0|exact L5 _|(apply C28<;>intros)|apply K0|apply J8|split
def Yp:∀ls cs rs ay,OV ls cs=J (Z,rs,ay)->ay=cs:=λls cs rs ay h=>by
 unfold OV at h;split at h;obtain⟨_,h⟩:=A5 h;exact W7 rfl rfl D1D h;cases h
def C8W:Env Ty6 A2:=mkE [] [] noD 19 [4] 1 [] []
def J9(a1:Int)(ae:Gx)(aa:Gu):Gr:=match idx ae a1 with|O=>O|J y1=>(match idx aa y1.tok with|O=>O|J y2=>(J ([.agg .tok (⟨y2.kind,(⟨y2.pos.line,y2.pos.col⟩:A4),y2.from_,y2.to_,y2.text,y2.value⟩:A0)],(bxN ae aa))))
def LJ:Ka
 |[.ptr d0 o0,.int .i64 a1],[[.sl .node ae O,.sl .tok aa O]]=>bif bq d0 o0 then pB [.agg .tok] kN (J9 a1 ae aa)else O
 |_,_=>O
def D54{a1:Int}{ae:Gx}{aa:Gu}:RoK (bxN ae aa) (J9 a1 ae aa):=by
 unfold J9
 try dsimp only
 repeat' first|exact H0|exact L5 _|apply K0|apply J8|split
def Qc:∀ls cs rs ay,LJ ls cs=J (Z,rs,ay)->ay=cs:=λls cs rs ay h=>by
 unfold LJ at h;split at h;obtain⟨_,h⟩:=A5 h;exact W7 rfl rfl D54 h;cases h
def B4k:Env Ty6 A2:=mkR [(56,S56)] [] [(60,Ks),(134,LJ)] (lkR [(1,5,9),(2,14,4),(3,1,1),(3,14,1),(3,18,3)]) 21 [4] 1 [] []
def C2X(a1:Int)(ae:Gx)(aa:Gu)(x1:Int):S6:=⟨[eP 0 900000,eI 1 x1,eP 4 104,(1000104,.bx 104 [.int .i64 0,.int .i64 0,.int .i64 0,.int .i64 0,.int .i64 0,.str [],.str []]),zN ae aa],[104,900000]⟩
def D4o(a1:Int)(ae:Gx)(aa:Gu)(x1:Int)(cv:Bool):S6:=Q7 (eB 14 cv) (C2X a1 ae aa x1)
def OW{R:Type}(nn:Nat)(a1:Int)(ae:Gx)(aa:Gu):Nat->Int->(Int->Bool->Option R)->Option R
 |0,_,_=>O
 |n+1,x1,k2=>let k1:=λx1=>OW nn a1 ae aa n x1 k2;match idx ae x1 with|O=>O|J y1=>(gd (okR [.bool] (Kh y1.sym)) (let z2:= !(lB (gL (Kh y1.sym) 0));bif z2 then(let r3:=KZ x1 0 ae aa;gd (okB [.int .i64] kN r3) (k1 (lI (gB r3 0))))else(k2 x1 z2)))
def D0P{R}(nn a1 ae aa)(K:Kt R):∀n x1,OW nn a1 ae aa n x1 (λx1 cv=>K (.exit 0) (D4o a1 ae aa x1 cv))=LP B4k nn f132 17 n (C2X a1 ae aa x1) K:=λn=>n.rec (by intros;rfl) λn i=>by
 intros;rw[OW];simp only[i];kernel_rfl
def B3g(nn:Nat)(a1:Int)(ae:Gx)(aa:Gu):Gr:=OW nn a1 ae aa nn a1 (λz1 z2=>let r3:=J9 z1 ae aa;gd (okB [.agg .tok] kN r3) (J ([.agg .tok (⟨((G3 (gB r3 0)).kind),(⟨(((G3 (gB r3 0)).pos).line),(((G3 (gB r3 0)).pos).col)⟩:A4),((G3 (gB r3 0)).from_),((G3 (gB r3 0)).to_),((G3 (gB r3 0)).text),((G3 (gB r3 0)).value)⟩:A0)],(bxN ae aa))))
def Mw(a1:Int)(ae:Gx)(aa:Gu):Gr:=B3g NN a1 ae aa
def C8w(nn:Nat){a1:Int}{ae:Gx}{aa:Gu}:D7 B4k nn f132 [0] [.ptr 900000 0,.int .i64 a1] (bxN ae aa)=B3g nn a1 ae aa:=by
 unfold B3g;simp(disch:=exact krl)only[lc1 (kB [0] (bxN ae aa)) (D0P ..)];kernel_rfl
def Sr:Ka
 |[.ptr d0 o0,.int .i64 a1],[[.sl .node ae O,.sl .tok aa O]]=>bif bq d0 o0 then pB [.agg .tok] kN (Mw a1 ae aa)else O
 |_,_=>O
def B9U{nn:Nat}{a1:Int}{ae:Gx}{aa:Gu}{p:Gz->Prop}{k0:Int->Bool->Gr}(dK:∀y0 y1,RoP p (k0 y0 y1)):∀(n:Nat)(x0:Int),RoP p (OW nn a1 ae aa n x0 k0)
 |0,_=>H0
 |n+1,_=>by
  unfold OW
  try dsimp only
  repeat' first|exact H0|exact L5 _|exact dK _ _|exact B9U dK n _|apply K0|apply J8|split
def C8V{a1:Int}{ae:Gx}{aa:Gu}:RoK (bxN ae aa) (Mw a1 ae aa):=by
 unfold Mw B3g
 try dsimp only
 repeat' first|exact H0|exact L5 _|(apply B9U<;>intros)|apply K0|apply J8|split
def B5g:∀ls cs rs ay,Sr ls cs=J (Z,rs,ay)->ay=cs:=λls cs rs ay h=>by
 unfold Sr at h;split at h;obtain⟨_,h⟩:=A5 h;exact W7 rfl rfl C8V h;cases h
def Vq(g:Int->Gx->Gu->Gr):Ka
 |[.ptr d0 o0,.int .i64 a1],[[.sl .node ae O,.sl .tok aa O]]=>bif bq d0 o0 then pB [.agg .lit] kN (g a1 ae aa)else O
 |_,_=>O
def B0L(g:Int->A0->Gx->Gu->Int->(rg)->Bool->GB->List LfT->Int->Int->Gr):Ka
 |[.ptr d0 o0,.int .i64 a1,.agg .tok a2,.ptr d1 o1],[[.sl .node ae O,.sl .tok aa O],[.int .i64 ce,.str cj,.bool bf,.sl .lit bK (J qU),.sl .lf bL (J qV),.int .i64 bh,.int .i64 bj]]=>bif bq d0 o0&&(Aah d1 900001&&Aah o1 0)&&(Aah qU 92000103)&&(Aah qV 92000104)then pB [] [[.sl .node O,.sl .tok O],[.int .i64,.str,.bool,.sl .lit (J 92000103),.sl .lf (J 92000104),.int .i64,.int .i64]] (g a1 a2 ae aa ce cj bf bK bL bh bj)else O
 |_,_=>O
def C4l(g187:Int->Gx->Gu->Gr)(aZ:Int->A0->Gx->Gu->Int->(rg)->Bool->GB->List LfT->Int->Int->Gr):Env Ty6 A2:=mkR [] [(216,B0L aZ)] [(132,Sr)] noD 54 [4,6,14] 1 [4] [(14,106)]
def W5(g187:Int->Gx->Gu->Gr)(aZ:Int->A0->Gx->Gu->Int->(rg)->Bool->GB->List LfT->Int->Int->Gr)(a1:Int)(ae:Gx)(aa:Gu):Gr:=let AS:=Mw a1 ae aa;gd (okB [.agg .tok] kN AS) (let z1:=(G3 (gB AS 0));let j2:Int->(rg)->Bool->GB->List LfT->Int->Int->Gx->Gu->Gr:=λz3 z4 z5 z6 z7 z8 z9 bP bY=>J ([.agg .lit (LitT.mk z3 z4 z5 z6 z7 (⟨z8,z9⟩:A4))],[[.sl .node bP O,.sl .tok bY O]]);let vN:A0->(rg)->Int->Int->Gr:=λcR cM cH dD=>J ([.agg .lit (LitT.mk 0 cM V [] [] (⟨cH,dD⟩:A4))],(bxN ae aa));bif(z1.kind==4)then(j2 2 z1.text V [] [] z1.pos.line z1.pos.col ae aa)else(bif(z1.kind==5)then(j2 3 z1.text V [] [] z1.pos.line z1.pos.col ae aa)else(let sd:A0->Int->Bool->(rg)->Int->Int->Gr:=λdB eX z20 z21 fL fD=>bif z20 then(j2 4 dB.value (dB.kind==7) [] [] fL fD ae aa)else(bif(eX==3)then(let AT:(rg)->Bool->(rg)->Int->Int->Gr:=λig lc se uw lR=>bif lc then(j2 5 se V [] [] uw lR ae aa)else(bif(ig==[110,117,108,108])then(j2 6 [] V [] [] uw lR ae aa)else(j2 7 se V [] [] uw lR ae aa));let AU:=dB.text==[116,114,117,101];bif AU then(AT dB.text AU z21 fL fD)else(AT dB.text (dB.text==[102,97,108,115,101]) z21 fL fD))else(bif(eX==2)then(let lg:=aZ a1 dB ae aa 0 z21 V [] [] fL fD;gd (okB [] [[.sl .node O,.sl .tok O],[.int .i64,.str,.bool,.sl .lit (J 92000103),.sl .lf (J 92000104),.int .i64,.int .i64]] lg) (j2 (lI (gC lg 1 0)) (lS (gC lg 1 1)) (lB (gC lg 1 2)) (D1W (gC lg 1 3)) (D3o (gC lg 1 4)) (lI (gC lg 1 5)) (lI (gC lg 1 6)) (C0Q (gC lg 0 0)) (T8 (gC lg 0 1))))else(vN dB z21 fL fD)));bif(z1.kind==6)then(sd z1 z1.kind (z1.kind==6) z1.text z1.pos.line z1.pos.col)else(sd z1 z1.kind (z1.kind==7) z1.text z1.pos.line z1.pos.col))))
def D2l(g187:Int->Gx->Gu->Gr)(aZ:Int->A0->Gx->Gu->Int->(rg)->Bool->GB->List LfT->Int->Int->Gr){a1:Int}{ae:Gx}{aa:Gu}:D7 (C4l g187 aZ) NN f187 [0] [.ptr 900000 0,.int .i64 a1] (bxN ae aa)=W5 g187 aZ a1 ae aa:=GM
def C7D{g187:Int->Gx->Gu->Gr}{aZ:Int->A0->Gx->Gu->Int->(rg)->Bool->GB->List LfT->Int->Int->Gr}{a1:Int}{ae:Gx}{aa:Gu}(hg:∀a t N T k x b dU fs l c,RoP (λcs=>cs.head? =J [.sl .node N O,.sl .tok T O]) (aZ a t N T k x b dU fs l c)):RoK (bxN ae aa) (W5 g187 aZ a1 ae aa):=by
 unfold W5
 try dsimp only
 have bm:∀(F:Option (Gt×Gz))(X:Option (Gt×Gz)->Gt)(ks:List KD)(fj:List (List KD)),RoP (λcs=>cs.head? =J [.sl .node ae O,.sl .tok aa O]) F->RoK (bxN ae aa) (gd (okB ks fj F) (J (X F,[[.sl .node (C0Q (gC F 0 0)) O,.sl .tok (T8 (gC F 0 1)) O]]))):=λF X ks fj hF=>by
  apply C8I;intro r hr;have h:=hF r hr;obtain⟨l,cs⟩:=r;subst hr
  match cs,h with
  |row::ao,h=>cases h;exact L5 _
 repeat' first|exact H0|exact L5 _|exact bm _ (λ_=>_) _ _ (hg _ _ _ _ _ _ _ _ _ _ _)|apply K0|apply J8|split
def B1f(g187:Int->Gx->Gu->Gr)(aZ:Int->A0->Gx->Gu->Int->(rg)->Bool->GB->List LfT->Int->Int->Gr):Env Ty6 A2:=mkR [] [] [(60,Ks),(61,OV),(134,LJ),(187,Vq g187)] (lkR [(0,2,1),(0,1000108,1),(0,1000111,1),(0,1000114,2),(1,16,3),(1,1000108,1),(1,1000111,1),(1,1000114,2),(2,6,1),(2,19,1),(2,1000106,1),(2,1000108,1),(2,1000111,1),(2,1000114,2),(3,22,1),(3,1000106,1),(3,1000108,1),(3,1000111,1),(3,1000114,2),(4,1,1),(4,20,2),(4,23,5),(4,1000106,1),(4,1000111,1),(4,1000114,2),(5,28,3),(5,1000106,1),(5,1000111,1),(5,1000114,2),(6,8,1),(6,31,5),(6,1000106,1),(6,1000108,1),(6,1000111,1),(6,1000114,2),(7,21,1),(7,37,1),(7,1000106,1),(7,1000108,1),(7,1000111,1),(7,1000114,2),(8,20,1),(8,36,1),(8,38,3),(8,1000106,1),(8,1000108,1),(8,1000111,1),(8,1000114,2),(9,1,1),(9,41,5),(9,1000106,1),(9,1000108,1),(9,1000111,1),(9,1000114,2),(10,1000106,1),(10,1000108,1),(10,1000111,1),(10,1000114,2),(11,46,3),(11,1000106,1),(11,1000108,1),(11,1000111,1),(11,1000114,2),(12,50,2),(12,1000106,1),(12,1000108,1),(12,1000111,1),(12,1000114,2),(13,49,1),(13,52,6),(13,1000106,1),(13,1000108,1),(13,1000114,2),(14,11,1),(14,58,11),(14,1000106,1),(14,1000108,1),(14,1000111,1),(14,1000114,2),(15,20,1),(15,36,1),(15,70,1),(15,1000106,1),(15,1000108,1),(15,1000111,1),(15,1000114,2),(16,69,1),(16,71,3),(16,1000106,1),(16,1000108,1),(16,1000111,1),(16,1000114,2),(17,1,1),(17,74,5),(17,1000106,1),(17,1000108,1),(17,1000111,1),(17,1000114,2),(18,1000106,1),(18,1000108,1),(18,1000111,1),(18,1000114,2),(19,79,3),(19,1000106,1),(19,1000108,1),(19,1000111,1),(19,1000114,2),(20,83,2),(20,1000106,1),(20,1000108,1),(20,1000111,1),(20,1000114,2),(21,82,1),(21,85,8),(21,1000106,1),(21,1000108,1),(21,1000111,1),(21,1000115,1),(22,93,8),(22,1000106,1),(22,1000108,1),(22,1000111,1),(23,14,2),(23,101,16),(23,1000106,1),(23,1000108,1),(23,1000111,1),(23,1000114,2),(10011,1000106,1),(10011,1000108,1),(10011,1000111,1),(10011,1000114,2),(10019,1000106,1),(10019,1000108,1),(10019,1000111,1),(10019,1000114,2)]) 117 [] 4 [] []
def B10{R:Type}(nn:Nat)(g187:Int->Gx->Gu->Gr)(aZ:Int->A0->Gx->Gu->Int->(rg)->Bool->GB->List LfT->Int->Int->Gr)(a1:Int)(a2:A0)(ae:Gx)(aa:Gu)(ce:Int)(cj:rg)(bf:Bool)(bK:GB)(bL:List LfT)(bh bj:Int)(x9:Gp)(aI:Int)(aL:GB)(k1:Gp->Int->GB->Option R)(k2:Gp->Int->Bool->GB->Option R):Option R:=let z1:=decide (aI<(Aab x9:Int));bif z1 then(match idx x9 aI with|O=>O|J y2=>(let r3:=g187 y2 ae aa;gd (okB [.agg .lit] kN r3) (gd (decide ((Aab aL:Int)=(Aab aL:Int))&&A3 (Aab aL+1) 96) (k1 x9 (Aaa .i64 (aI+1)) (aL++[(G9 (gB r3 0))])))))else(k2 x9 aI z1 aL)
def MG{R:Type}(nn:Nat)(g187:Int->Gx->Gu->Gr)(aZ:Int->A0->Gx->Gu->Int->(rg)->Bool->GB->List LfT->Int->Int->Gr)(a1:Int)(a2:A0)(ae:Gx)(aa:Gu)(ce:Int)(cj:rg)(bf:Bool)(bK:GB)(bL:List LfT)(bh bj:Int):Nat->Gp->Int->GB->(Gp->Int->Bool->GB->Option R)->Option R
 |0,_,_,_,_=>O
 |n+1,x9,aI,aL,k2=>B10 nn g187 aZ a1 a2 ae aa ce cj bf bK bL bh bj x9 aI aL (λx9 aI aL=>MG nn g187 aZ a1 a2 ae aa ce cj bf bK bL bh bj n x9 aI aL k2) k2
def C83{R}(nn g187 aZ a1 a2 ae aa ce cj bf bK bL bh bj)(K:Kt R):∀n x9 aI aL,MG nn g187 aZ a1 a2 ae aa ce cj bf bK bL bh bj n x9 aI aL (λx9 aI kg aL=>K (.exit 1) ⟨[eP 0 900000,eP 3 900001,eL 9 .i64 x9,eI 10 aI,eB 49 kg,zN ae aa,(1900001,.bx 900001 [.int .i64 8,.str [],.bool bf,.sl .lit aL (J 92000103),.sl .lf bL (J 92000104),.int .i64 bh,.int .i64 bj])],[900000,900001,92000103,92000104]⟩)=LP (B1f g187 aZ) nn Acb 10103 n ⟨[eP 0 900000,eP 3 900001,eL 9 .i64 x9,eI 10 aI,zN ae aa,(1900001,.bx 900001 [.int .i64 8,.str [],.bool bf,.sl .lit aL (J 92000103),.sl .lf bL (J 92000104),.int .i64 bh,.int .i64 bj])],[900000,900001,92000103,92000104]⟩ K:=λn=>n.rec (by intros;rfl) λn i=>by
 intros;rw[MG];simp only[i];kernel_rfl
def B1Q{R:Type}(nn:Nat)(g187:Int->Gx->Gu->Gr)(aZ:Int->A0->Gx->Gu->Int->(rg)->Bool->GB->List LfT->Int->Int->Gr)(a1:Int)(a2:A0)(ae:Gx)(aa:Gu)(ce:Int)(cj:rg)(bf:Bool)(bK:GB)(bL:List LfT)(bh bj:Int)(fK:Gp)(ck:Int)(aM:List LfT)(k1:Gp->Int->List LfT->Option R)(k2:Gp->Int->Bool->List LfT->Option R):Option R:=let z1:=decide (ck<(Aab fK:Int));bif z1 then(match idx fK ck with|O=>O|J y2=>(let r9:=KZ y2 0 ae aa;gd (okB [.int .i64] kN r9) (let r8:=J9 (lI (gB r9 0)) ae aa;gd (okB [.agg .tok] kN r8) (let z3:=(G3 (gB r8 0));match idx fK ck with|O=>O|J y4=>(let r7:=KZ y4 2 ae aa;gd (okB [.int .i64] kN r7) (let r6:=g187 (lI (gB r7 0)) ae aa;gd (okB [.agg .lit] kN r6) (let z5:=(G9 (gB r6 0));gd (decide ((Aab aM:Int)=(Aab aM:Int))&&A3 (Aab aM+1) 128) (k1 fK (Aaa .i64 (ck+1)) (aM++[(⟨z3.text,(LitT.mk z5.kind z5.text z5.block z5.items z5.fields z5.pos),z3.pos⟩:LfT)])))))))))else(k2 fK ck z1 aM)
def MH{R:Type}(nn:Nat)(g187:Int->Gx->Gu->Gr)(aZ:Int->A0->Gx->Gu->Int->(rg)->Bool->GB->List LfT->Int->Int->Gr)(a1:Int)(a2:A0)(ae:Gx)(aa:Gu)(ce:Int)(cj:rg)(bf:Bool)(bK:GB)(bL:List LfT)(bh bj:Int):Nat->Gp->Int->List LfT->(Gp->Int->Bool->List LfT->Option R)->Option R
 |0,_,_,_,_=>O
 |n+1,fK,ck,aM,k2=>B1Q nn g187 aZ a1 a2 ae aa ce cj bf bK bL bh bj fK ck aM (λfK ck aM=>MH nn g187 aZ a1 a2 ae aa ce cj bf bK bL bh bj n fK ck aM k2) k2
def C91{R}(nn g187 aZ a1 a2 ae aa ce cj bf bK bL bh bj)(K:Kt R):∀n fK ck aM,MH nn g187 aZ a1 a2 ae aa ce cj bf bK bL bh bj n fK ck aM (λfK ck Du aM=>K (.exit 3) ⟨[eP 0 900000,eP 3 900001,eL 12 .i64 fK,eI 13 ck,eB 82 Du,zN ae aa,(1900001,.bx 900001 [.int .i64 9,.str [],.bool bf,.sl .lit bK (J 92000103),.sl .lf aM (J 92000104),.int .i64 bh,.int .i64 bj])],[900000,900001,92000103,92000104]⟩)=LP (B1f g187 aZ) nn Acb 40439 n ⟨[eP 0 900000,eP 3 900001,eL 12 .i64 fK,eI 13 ck,zN ae aa,(1900001,.bx 900001 [.int .i64 9,.str [],.bool bf,.sl .lit bK (J 92000103),.sl .lf aM (J 92000104),.int .i64 bh,.int .i64 bj])],[900000,900001,92000103,92000104]⟩ K:=λn=>n.rec (by intros;rfl) λn i=>by
 intros;rw[MH];simp only[i];kernel_rfl
def Su(nn:Nat)(g187:Int->Gx->Gu->Gr)(aZ:Int->A0->Gx->Gu->Int->(rg)->Bool->GB->List LfT->Int->Int->Gr)(a1:Int)(a2:A0)(ae:Gx)(aa:Gu)(ce:Int)(cj:rg)(bf:Bool)(bK:GB)(bL:List LfT)(bh bj:Int):Gr:=bif(a2.text==[36])then(let r2:=KZ a1 1 ae aa;gd (okB [.int .i64] kN r2) (let r1:=J9 (lI (gB r2 0)) ae aa;gd (okB [.agg .tok] kN r1) (J ([],[[.sl .node ae O,.sl .tok aa O],[.int .i64 1,.str ((G3 (gB r1 0)).text),.bool bf,.sl .lit bK (J 92000103),.sl .lf bL (J 92000104),.int .i64 bh,.int .i64 bj]]))))else(bif(a2.text==[91])then(let r8:=KZ a1 1 ae aa;gd (okB [.int .i64] kN r8) (let r7:=Mv (lI (gB r8 0)) ae aa;gd (okB [.sl .i64 (J 1)] kN r7) (MG nn g187 aZ a1 a2 ae aa ce cj bf bK bL bh bj nn (Mn (gB r7 0)) 0 bK (λz3 z4 z5 z6=>J ([],[[.sl .node ae O,.sl .tok aa O],[.int .i64 8,.str [],.bool bf,.sl .lit z6 (J 92000103),.sl .lf bL (J 92000104),.int .i64 bh,.int .i64 bj]])))))else(let z9:=a2.text==[123];bif z9 then(let ft:=KZ a1 1 ae aa;gd (okB [.int .i64] kN ft) (let eF:=Mv (lI (gB ft 0)) ae aa;gd (okB [.sl .i64 (J 1)] kN eF) (MH nn g187 aZ a1 a2 ae aa ce cj bf bK bL bh bj nn (Mn (gB eF 0)) 0 bL (λbP bY cr cR=>J ([],[[.sl .node ae O,.sl .tok aa O],[.int .i64 9,.str [],.bool bf,.sl .lit bK (J 92000103),.sl .lf cR (J 92000104),.int .i64 bh,.int .i64 bj]])))))else(J ([],[[.sl .node ae O,.sl .tok aa O],[.int .i64 ce,.str [],.bool bf,.sl .lit bK (J 92000103),.sl .lf bL (J 92000104),.int .i64 bh,.int .i64 bj]]))))
def OX(g187:Int->Gx->Gu->Gr)(aZ:Int->A0->Gx->Gu->Int->(rg)->Bool->GB->List LfT->Int->Int->Gr)(a1:Int)(a2:A0)(ae:Gx)(aa:Gu)(ce:Int)(cj:rg)(bf:Bool)(bK:GB)(bL:List LfT)(bh bj:Int):Gr:=Su NN g187 aZ a1 a2 ae aa ce cj bf bK bL bh bj
def D0w(nn:Nat)(g187:Int->Gx->Gu->Gr)(aZ:Int->A0->Gx->Gu->Int->(rg)->Bool->GB->List LfT->Int->Int->Gr){a1:Int}{a2:A0}{ae:Gx}{aa:Gu}{ce:Int}{cj:rg}{bf:Bool}{bK:GB}{bL:List LfT}{bh bj:Int}:D7 (B1f g187 aZ) nn Acb [0,3] [.ptr 900000 0,.int .i64 a1,.agg .tok a2,.ptr 900001 0] [[.sl .node ae O,.sl .tok aa O],[.int .i64 ce,.str cj,.bool bf,.sl .lit bK (J 92000103),.sl .lf bL (J 92000104),.int .i64 bh,.int .i64 bj]]=Su nn g187 aZ a1 a2 ae aa ce cj bf bK bL bh bj:=by
 unfold Su;simp(disch:=exact krl)only[lc1 (kB [0,3] [[.sl .node ae O,.sl .tok aa O],[.int .i64 ce,.str cj,.bool bf,.sl .lit bK (J 92000103),.sl .lf bL (J 92000104),.int .i64 bh,.int .i64 bj]]) (C83 ..),lc1 (kB [0,3] [[.sl .node ae O,.sl .tok aa O],[.int .i64 ce,.str cj,.bool bf,.sl .lit bK (J 92000103),.sl .lf bL (J 92000104),.int .i64 bh,.int .i64 bj]]) (C91 ..)];kernel_rfl
def B6Y{nn:Nat}{g187:Int->Gx->Gu->Gr}{aZ:Int->A0->Gx->Gu->Int->(rg)->Bool->GB->List LfT->Int->Int->Gr}{a1:Int}{a2:A0}{ae:Gx}{aa:Gu}{ce:Int}{cj:rg}{bf:Bool}{bK:GB}{bL:List LfT}{bh bj:Int}{p:Gz->Prop}{k0:Gp->Int->Bool->GB->Gr}(dK:∀y0 y1 y2 y3,RoP p (k0 y0 y1 y2 y3)):∀(n:Nat)(x0:(Gp))(x1:Int)(x2:(GB)),RoP p (MG nn g187 aZ a1 a2 ae aa ce cj bf bK bL bh bj n x0 x1 x2 k0)
 |0,_,_,_=>H0
 |n+1,_,_,_=>by
  unfold MG B10
  try dsimp only
  repeat' first|exact H0|exact B5w _ rfl|exact dK _ _ _ _|exact B6Y dK n _ _ _|apply K0|apply J8|split
def C3B{nn:Nat}{g187:Int->Gx->Gu->Gr}{aZ:Int->A0->Gx->Gu->Int->(rg)->Bool->GB->List LfT->Int->Int->Gr}{a1:Int}{a2:A0}{ae:Gx}{aa:Gu}{ce:Int}{cj:rg}{bf:Bool}{bK:GB}{bL:List LfT}{bh bj:Int}{p:Gz->Prop}{k0:Gp->Int->Bool->List LfT->Gr}(dK:∀y0 y1 y2 y3,RoP p (k0 y0 y1 y2 y3)):∀(n:Nat)(x0:(Gp))(x1:Int)(x2:(List LfT)),RoP p (MH nn g187 aZ a1 a2 ae aa ce cj bf bK bL bh bj n x0 x1 x2 k0)
 |0,_,_,_=>H0
 |n+1,_,_,_=>by
  unfold MH B1Q
  try dsimp only
  repeat' first|exact H0|exact B5w _ rfl|exact dK _ _ _ _|exact C3B dK n _ _ _|(apply B6Y<;>intros)|apply K0|apply J8|split
def D50{g187:Int->Gx->Gu->Gr}{aZ:Int->A0->Gx->Gu->Int->(rg)->Bool->GB->List LfT->Int->Int->Gr}{a1:Int}{a2:A0}{ae:Gx}{aa:Gu}{ce:Int}{cj:rg}{bf:Bool}{bK:GB}{bL:List LfT}{bh bj:Int}:RoP (λcs=>cs.head? =J [.sl .node ae O,.sl .tok aa O]) (OX g187 aZ a1 a2 ae aa ce cj bf bK bL bh bj):=by
 unfold OX Su
 try dsimp only
 repeat' first|exact H0|exact B5w _ rfl|(apply B6Y<;>intros)|(apply C3B<;>intros)|apply K0|apply J8|split
def G8:Nat->(Int->Gx->Gu->Gr)×(Int->A0->Gx->Gu->Int->(rg)->Bool->GB->List LfT->Int->Int->Gr)
 |0=>(λ_ _ _=>O,λ_ _ _ _ _ _ _ _ _ _ _=>O)
 |d+1=>(W5 (G8 d).1 (G8 d).2,OX (G8 d).1 (G8 d).2)
def B1Y(a1:Int)(ae:Gx)(aa:Gu):Gr:=(G8 DD).1 a1 ae aa
def D5l(a1:Int)(a2:A0)(ae:Gx)(aa:Gu)(ce:Int)(cj:rg)(bf:Bool)(bK:GB)(bL:List LfT)(bh:Int)(bj:Int):Gr:=(G8 DD).2 a1 a2 ae aa ce cj bf bK bL bh bj
def B3S:Ka
 |[.ptr d0 o0,.int .i64 a1],[[.sl .node ae O,.sl .tok aa O]]=>bif bq d0 o0 then pB [.agg .lit] kN (B1Y a1 ae aa)else O
 |_,_=>O
def D7x:Ka
 |[.ptr d0 o0,.int .i64 a1,.agg .tok a2,.ptr d1 o1],[[.sl .node ae O,.sl .tok aa O],[.int .i64 ce,.str cj,.bool bf,.sl .lit bK (J qU),.sl .lf bL (J qV),.int .i64 bh,.int .i64 bj]]=>bif bq d0 o0&&(Aah d1 900001&&Aah o1 0)&&(Aah qU 92000103)&&(Aah qV 92000104)then pB [] [[.sl .node O,.sl .tok O],[.int .i64,.str,.bool,.sl .lit (J 92000103),.sl .lf (J 92000104),.int .i64,.int .i64]] (D5l a1 a2 ae aa ce cj bf bK bL bh bj)else O
 |_,_=>O
def D6J:∀(d:Nat)(a1:Int)(ae:Gx)(aa:Gu),RoK (bxN ae aa) ((G8 d).1 a1 ae aa)
 |0,_,_,_=>H0
 |d+1,_,_,_=>C7D (g187:=(G8 d).1) λa t N T k x b dU fs l c=>match d with
  |0=>H0
  |d+1=>D50
def C4q(d:Nat):∀ls cs rs ay,Vq ((G8 d).1) ls cs=J (Z,rs,ay)->ay=cs:=λls cs rs ay h=>by
 unfold Vq at h;split at h;obtain⟨_,h⟩:=A5 h;exact W7 rfl rfl (D6J d _ _ _) h;cases h
def C4T:∀ls cs rs ay,B3S ls cs=J (Z,rs,ay)->ay=cs:=C4q DD
def D3Z:Env Ty6 A2:=mkR [] [] [(60,Ks),(134,LJ),(187,B3S)] noD 21 [4] 1 [4] []
def OY(a1:Int)(ae:Gx)(aa:Gu):Gr:=let r5:=KZ a1 0 ae aa;gd (okB [.int .i64] kN r5) (let r4:=J9 (lI (gB r5 0)) ae aa;gd (okB [.agg .tok] kN r4) (let z1:=(G3 (gB r4 0));let r3:=KZ a1 2 ae aa;gd (okB [.int .i64] kN r3) (let r2:=B1Y (lI (gB r3 0)) ae aa;gd (okB [.agg .lit] kN r2) (J ([.agg .arg (⟨z1.text,(LitT.mk ((G9 (gB r2 0)).kind) ((G9 (gB r2 0)).text) ((G9 (gB r2 0)).block) ((G9 (gB r2 0)).items) ((G9 (gB r2 0)).fields) (⟨(((G9 (gB r2 0)).pos).line),(((G9 (gB r2 0)).pos).col)⟩:A4)),(⟨z1.pos.line,z1.pos.col⟩:A4)⟩:E0)],(bxN ae aa))))))
def Yq:Ka
 |[.ptr d0 o0,.int .i64 a1],[[.sl .node ae O,.sl .tok aa O]]=>bif bq d0 o0 then pB [.agg .arg] kN (OY a1 ae aa)else O
 |_,_=>O
def D0o{a1:Int}{ae:Gx}{aa:Gu}:RoK (bxN ae aa) (OY a1 ae aa):=by
 unfold OY
 try dsimp only
 repeat' first|exact H0|exact L5 _|apply K0|apply J8|split
def D1z:∀ls cs rs ay,Yq ls cs=J (Z,rs,ay)->ay=cs:=λls cs rs ay h=>by
 unfold Yq at h;split at h;obtain⟨_,h⟩:=A5 h;exact W7 rfl rfl D0o h;cases h
def B7B:Env Ty6 A2:=mkR [] [] [(60,Ks),(61,OV),(136,MF),(215,Yq)] (lkR [(0,4,1),(0,1000106,1),(1,1000106,1),(2,9,2),(2,1000106,1),(3,1,1),(3,5,1),(3,11,1),(3,1000106,1),(4,11,6),(5,17,4),(6,1,1),(6,21,5),(8,26,3),(9,30,2),(10,29,1),(10,32,6),(11,38,4),(12,5,4),(12,29,1),(12,42,1),(12,1000106,1)]) 43 [6] 1 [] []
def OZ{R:Type}(nn:Nat)(a1:Int)(ae:Gx)(aa:Gu):Nat->List E0->Gp->Int->(rg)->Int->(rg)->Bool->GB->List LfT->Int->Int->Int->Int->(List E0->Gp->Int->Bool->(rg)->Int->(rg)->Bool->GB->List LfT->Int->Int->Int->Int->Option R)->Option R
 |0,_,_,_,_,_,_,_,_,_,_,_,_,_,_=>O
 |n+1,x5,x7,x8,aj,ai,ap,aq,ak,au,av,aF,aG,bX,k2=>let k1:=λx5 x7 x8 aj ai ap aq ak au av aF aG bX=>OZ nn a1 ae aa n x5 x7 x8 aj ai ap aq ak au av aF aG bX k2;let z1:=decide (x8<(Aab x7:Int));bif z1 then(match idx x7 x8 with|O=>O|J y2=>(let cg:=OY y2 ae aa;gd (okB [.agg .arg] kN cg) (let z3:=(N3 (gB cg 0)).name;let z4:=((N3 (gB cg 0)).value).kind;let z5:=((N3 (gB cg 0)).value).text;let z6:=((N3 (gB cg 0)).value).block;let z7:=((N3 (gB cg 0)).value).items;let z8:=((N3 (gB cg 0)).value).fields;let z9:=(((N3 (gB cg 0)).value).pos).line;let bP:=(((N3 (gB cg 0)).value).pos).col;let bY:=((N3 (gB cg 0)).pos).line;let cr:=((N3 (gB cg 0)).pos).col;gd (A3 (Aab x5+1) 128) (k1 (x5++[(⟨z3,(LitT.mk z4 z5 z6 z7 z8 (⟨z9,bP⟩:A4)),(⟨bY,cr⟩:A4)⟩:E0)]) x7 (Aaa .i64 (x8+1)) z3 z4 z5 z6 z7 z8 z9 bP bY cr))))else(k2 x5 x7 x8 z1 aj ai ap aq ak au av aF aG bX)
def D4U{R}(nn a1 ae aa)(K:Kt R):∀n x5 x7 x8 aj ai ap aq ak au av aF aG bX,OZ nn a1 ae aa n x5 x7 x8 aj ai ap aq ak au av aF aG bX (λx5 x7 x8 ye aj ai ap aq ak au av aF aG bX=>K (.exit 0) ⟨[eP 0 900000,eO 5 .arg x5 105,eP 6 106,eL 7 .i64 x7,eI 8 x8,eB 29 ye,(1000106,.bx 106 [.str aj,.int .i64 ai,.str ap,.bool aq,.sl .lit ak O,.sl .lf au O,.int .i64 av,.int .i64 aF,.int .i64 aG,.int .i64 bX]),zN ae aa],[105,106,900000]⟩)=LP B7B nn f185 1215 n ⟨[eP 0 900000,eO 5 .arg x5 105,eP 6 106,eL 7 .i64 x7,eI 8 x8,(1000106,.bx 106 [.str aj,.int .i64 ai,.str ap,.bool aq,.sl .lit ak O,.sl .lf au O,.int .i64 av,.int .i64 aF,.int .i64 aG,.int .i64 bX]),zN ae aa],[105,106,900000]⟩ K:=λn=>n.rec (by intros;rfl) λn i=>by
 intros;rw[OZ];simp only[i];kernel_rfl
def Vr(nn:Nat)(a1:Int)(ae:Gx)(aa:Gu):Gr:=let nI:=K8 a1 ae aa;gd (okB [.bool] kN nI) (let z1:=(lB (gB nI 0));bif z1 then(J ([.sl .arg [] (J 1)],(bxN ae aa)))else(let nJ:=KZ a1 1 ae aa;gd (okB [.int .i64] kN nJ) (let iL:=OY (lI (gB nJ 0)) ae aa;gd (okB [.agg .arg] kN iL) (let z2:=(N3 (gB iL 0)).name;let z3:=((N3 (gB iL 0)).value).kind;let z4:=((N3 (gB iL 0)).value).text;let z5:=((N3 (gB iL 0)).value).block;let z6:=((N3 (gB iL 0)).value).items;let z7:=((N3 (gB iL 0)).value).fields;let z8:=(((N3 (gB iL 0)).value).pos).line;let z9:=(((N3 (gB iL 0)).value).pos).col;let bP:=((N3 (gB iL 0)).pos).line;let bY:=((N3 (gB iL 0)).pos).col;gd (A3 (0+1) 128) (let kj:=KZ a1 2 ae aa;gd (okB [.int .i64] kN kj) (let lj:=Mv (lI (gB kj 0)) ae aa;gd (okB [.sl .i64 (J 1)] kN lj) (OZ nn a1 ae aa nn ([]++[(⟨z2,(LitT.mk z3 z4 z5 z6 z7 (⟨z8,z9⟩:A4)),(⟨bP,bY⟩:A4)⟩:E0)]) (Mn (gB lj 0)) 0 z2 z3 z4 z5 z6 z7 z8 z9 bP bY (λcr cR cM cH dD fu dB eX z20 z21 fL fD jE ig=>J ([.sl .arg cr (J 1)],(bxN ae aa))))))))))
def Qd(a1:Int)(ae:Gx)(aa:Gu):Gr:=Vr NN a1 ae aa
def C7H(nn:Nat){a1:Int}{ae:Gx}{aa:Gu}:D7 B7B nn f185 [0] [.ptr 900000 0,.int .i64 a1] (bxN ae aa)=Vr nn a1 ae aa:=by
 unfold Vr;simp(disch:=exact krl)only[lc1 (kB [0] (bxN ae aa)) (D4U ..)];kernel_rfl
def Vs:Ka
 |[.ptr d0 o0,.int .i64 a1],[[.sl .node ae O,.sl .tok aa O]]=>bif bq d0 o0 then pB [.sl .arg (J 1)] kN (Qd a1 ae aa)else O
 |_,_=>O
def C3V{nn:Nat}{a1:Int}{ae:Gx}{aa:Gu}{p:Gz->Prop}{k0:List E0->Gp->Int->Bool->(rg)->Int->(rg)->Bool->GB->List LfT->Int->Int->Int->Int->Gr}(dK:∀y0 y1 y2 y3 y4 y5 y6 y7 y8 y9 dT gq ic lT,RoP p (k0 y0 y1 y2 y3 y4 y5 y6 y7 y8 y9 dT gq ic lT)):∀(n:Nat)(x0:(List E0))(x1:(Gp))(x2:Int)(x3:(rg))(x4:Int)(x5:(rg))(x6:Bool)(x7:(GB))(x8:(List LfT))(x9:Int)(aI:Int)(cY:Int)(fK:Int),RoP p (OZ nn a1 ae aa n x0 x1 x2 x3 x4 x5 x6 x7 x8 x9 aI cY fK k0)
 |0,_,_,_,_,_,_,_,_,_,_,_,_,_=>H0
 |n+1,_,_,_,_,_,_,_,_,_,_,_,_,_=>by
  unfold OZ
  try dsimp only
  repeat' first|exact H0|exact L5 _|exact dK _ _ _ _ _ _ _ _ _ _ _ _ _ _|exact C3V dK n _ _ _ _ _ _ _ _ _ _ _ _ _|apply K0|apply J8|split
def D6j{a1:Int}{ae:Gx}{aa:Gu}:RoK (bxN ae aa) (Qd a1 ae aa):=by
 unfold Qd Vr
 try dsimp only
 repeat' first|exact H0|exact L5 _|(apply C3V<;>intros)|apply K0|apply J8|split
def C03:∀ls cs rs ay,Vs ls cs=J (Z,rs,ay)->ay=cs:=λls cs rs ay h=>by
 unfold Vs at h;split at h;obtain⟨_,h⟩:=A5 h;exact W7 rfl rfl D6j h;cases h
def B7g:Env Ty6 A2:=mkR [] [] [(60,Ks),(134,LJ),(136,MF),(185,Vs)] (lkR [(0,4,1),(0,1000106,2),(1,1000106,2),(2,8,3),(2,1000106,2),(3,11,6),(3,1000107,1),(4,17,5),(5,6,2),(5,22,13),(5,1000106,2),(6,35,3),(6,1000106,2),(7,1,1),(7,5,1),(7,11,1),(7,38,1),(7,1000106,2),(10002,1000106,2)]) 39 [] 1 [] []
def Oa{R:Type}(nn:Nat)(a1:Int)(ae:Gx)(aa:Gu):Nat->Int->List C3->(Int->List C3->Bool->Option R)->Option R
 |0,_,_,_=>O
 |n+1,x1,x5,k2=>let k1:=λx1 x5=>Oa nn a1 ae aa n x1 x5 k2;let r9:=K8 x1 ae aa;gd (okB [.bool] kN r9) (let z1:= !(lB (gB r9 0));bif z1 then(let r8:=KZ x1 0 ae aa;gd (okB [.int .i64] kN r8) (let r7:=J9 (lI (gB r8 0)) ae aa;gd (okB [.agg .tok] kN r7) (let r6:=KZ x1 1 ae aa;gd (okB [.int .i64] kN r6) (let r5:=J9 (lI (gB r6 0)) ae aa;gd (okB [.agg .tok] kN r5) (let r4:=KZ x1 2 ae aa;gd (okB [.int .i64] kN r4) (let r3:=Qd (lI (gB r4 0)) ae aa;gd (okB [.sl .arg (J 1)] kN r3) (gd (A3 (Aab x5+1) 56) (let r2:=KZ x1 3 ae aa;gd (okB [.int .i64] kN r2) (k1 (lI (gB r2 0)) (x5++[(⟨(G3 (gB r5 0)).text,(B8N (gB r3 0)),(G3 (gB r7 0)).pos⟩:C3)]))))))))))else(k2 x1 x5 z1))
def D6d{R}(nn a1 ae aa)(K:Kt R):∀n x1 x5,Oa nn a1 ae aa n x1 x5 (λx1 x5 cY=>K (.exit 0) ⟨[eP 0 900000,eI 1 x1,eO 5 .dir x5 105,eB 11 cY,zN ae aa],[105,900000]⟩)=LP B7g nn f135 35 n ⟨[eP 0 900000,eI 1 x1,eO 5 .dir x5 105,zN ae aa],[105,900000]⟩ K:=λn=>n.rec (by intros;rfl) λn i=>by
 intros;rw[Oa];simp only[i];kernel_rfl
def B2Y(nn:Nat)(a1:Int)(ae:Gx)(aa:Gu):Gr:=Oa nn a1 ae aa nn a1 [] (λz1 z2 z3=>J ([.sl .dir z2 (J 1)],(bxN ae aa)))
def Y6(a1:Int)(ae:Gx)(aa:Gu):Gr:=B2Y NN a1 ae aa
def D1U(nn:Nat){a1:Int}{ae:Gx}{aa:Gu}:D7 B7g nn f135 [0] [.ptr 900000 0,.int .i64 a1] (bxN ae aa)=B2Y nn a1 ae aa:=by
 unfold B2Y;simp(disch:=exact krl)only[lc1 (kB [0] (bxN ae aa)) (D6d ..)];kernel_rfl
def Sv:Ka
 |[.ptr d0 o0,.int .i64 a1],[[.sl .node ae O,.sl .tok aa O]]=>bif bq d0 o0 then pB [.sl .dir (J 1)] kN (Y6 a1 ae aa)else O
 |_,_=>O
def C5q{nn:Nat}{a1:Int}{ae:Gx}{aa:Gu}{p:Gz->Prop}{k0:Int->List C3->Bool->Gr}(dK:∀y0 y1 y2,RoP p (k0 y0 y1 y2)):∀(n:Nat)(x0:Int)(x1:(List C3)),RoP p (Oa nn a1 ae aa n x0 x1 k0)
 |0,_,_=>H0
 |n+1,_,_=>by
  unfold Oa
  try dsimp only
  repeat' first|exact H0|exact L5 _|exact dK _ _ _|exact C5q dK n _ _|apply K0|apply J8|split
def C9n{a1:Int}{ae:Gx}{aa:Gu}:RoK (bxN ae aa) (Y6 a1 ae aa):=by
 unfold Y6 B2Y
 try dsimp only
 repeat' first|exact H0|exact L5 _|(apply C5q<;>intros)|apply K0|apply J8|split
def B51:∀ls cs rs ay,Sv ls cs=J (Z,rs,ay)->ay=cs:=λls cs rs ay h=>by
 unfold Sv at h;split at h;obtain⟨_,h⟩:=A5 h;exact W7 rfl rfl C9n h;cases h
def Vt(g:Int->Gx->Gu->Gr):Ka
 |[.ptr d0 o0,.int .i64 a1],[[.sl .node ae O,.sl .tok aa O]]=>bif bq d0 o0 then pB [.sl .sel (J 1)] kN (g a1 ae aa)else O
 |_,_=>O
def Vu(g:Int->Gx->Gu->Gr):Ka
 |[.ptr d0 o0,.int .i64 a1],[[.sl .node ae O,.sl .tok aa O]]=>bif bq d0 o0 then pB [.agg .sel] kN (g a1 ae aa)else O
 |_,_=>O
def B76(g133:Int->Gx->Gu->Gr)(g184:Int->Gx->Gu->Gr):Env Ty6 A2:=mkR [] [] [(60,Ks),(61,OV),(184,Vu g184)] (lkR [(0,4,1),(0,1000106,1),(1,1000106,1),(2,9,5),(3,14,4),(4,1,1),(4,18,5),(6,23,3),(7,27,2),(8,26,1),(8,29,6),(9,35,4),(10,5,4),(10,26,1),(10,39,1),(10,1000106,1)]) 40 [6] 1 [] []
def Ob{R:Type}(nn:Nat)(g133:Int->Gx->Gu->Gr)(g184:Int->Gx->Gu->Gr)(a1:Int)(ae:Gx)(aa:Gu):Nat->GC->Gp->Int->Int->(rg)->(rg)->(rg)->List E0->List C3->GC->Int->Int->(GC->Gp->Int->Bool->Int->(rg)->(rg)->(rg)->List E0->List C3->GC->Int->Int->Option R)->Option R
 |0,_,_,_,_,_,_,_,_,_,_,_,_,_=>O
 |n+1,x5,x7,x8,aj,ai,ap,aq,ak,au,av,aF,aG,k2=>let k1:=λx5 x7 x8 aj ai ap aq ak au av aF aG=>Ob nn g133 g184 a1 ae aa n x5 x7 x8 aj ai ap aq ak au av aF aG k2;let z1:=decide (x8<(Aab x7:Int));bif z1 then(match idx x7 x8 with|O=>O|J y2=>(let cP:=g184 y2 ae aa;gd (okB [.agg .sel] kN cP) (let z3:=(O8 (gB cP 0)).kind;let z4:=(O8 (gB cP 0)).alias_;let z5:=(O8 (gB cP 0)).name;let z6:=(O8 (gB cP 0)).on_;let z7:=(O8 (gB cP 0)).args;let z8:=(O8 (gB cP 0)).dirs;let z9:=(O8 (gB cP 0)).sels;let bP:=((O8 (gB cP 0)).pos).line;let bY:=((O8 (gB cP 0)).pos).col;gd (A3 (Aab x5+1) 144) (k1 (x5++[(SelT.mk z3 z4 z5 z6 z7 z8 z9 (⟨bP,bY⟩:A4))]) x7 (Aaa .i64 (x8+1)) z3 z4 z5 z6 z7 z8 z9 bP bY))))else(k2 x5 x7 x8 z1 aj ai ap aq ak au av aF aG)
def D2N{R}(nn g133 g184 a1 ae aa)(K:Kt R):∀n x5 x7 x8 aj ai ap aq ak au av aF aG,Ob nn g133 g184 a1 ae aa n x5 x7 x8 aj ai ap aq ak au av aF aG (λx5 x7 x8 fv aj ai ap aq ak au av aF aG=>K (.exit 0) ⟨[eP 0 900000,eO 5 .sel x5 105,eP 6 106,eL 7 .i64 x7,eI 8 x8,eB 26 fv,(1000106,.bx 106 [.int .i64 aj,.str ai,.str ap,.str aq,.sl .arg ak O,.sl .dir au O,.sl .sel av O,.int .i64 aF,.int .i64 aG]),zN ae aa],[105,106,900000]⟩)=LP (B76 g133 g184) nn f133 607 n ⟨[eP 0 900000,eO 5 .sel x5 105,eP 6 106,eL 7 .i64 x7,eI 8 x8,(1000106,.bx 106 [.int .i64 aj,.str ai,.str ap,.str aq,.sl .arg ak O,.sl .dir au O,.sl .sel av O,.int .i64 aF,.int .i64 aG]),zN ae aa],[105,106,900000]⟩ K:=λn=>n.rec (by intros;rfl) λn i=>by
 intros;rw[Ob];simp only[i];kernel_rfl
def Yr(nn:Nat)(g133:Int->Gx->Gu->Gr)(g184:Int->Gx->Gu->Gr)(a1:Int)(ae:Gx)(aa:Gu):Gr:=let lj:=KZ a1 1 ae aa;gd (okB [.int .i64] kN lj) (let jF:=g184 (lI (gB lj 0)) ae aa;gd (okB [.agg .sel] kN jF) (let z1:=(O8 (gB jF 0)).kind;let z2:=(O8 (gB jF 0)).alias_;let z3:=(O8 (gB jF 0)).name;let z4:=(O8 (gB jF 0)).on_;let z5:=(O8 (gB jF 0)).args;let z6:=(O8 (gB jF 0)).dirs;let z7:=(O8 (gB jF 0)).sels;let z8:=((O8 (gB jF 0)).pos).line;let z9:=((O8 (gB jF 0)).pos).col;gd (A3 (0+1) 144) (let lk:=KZ a1 2 ae aa;gd (okB [.int .i64] kN lk) (let nK:=Mv (lI (gB lk 0)) ae aa;gd (okB [.sl .i64 (J 1)] kN nK) (Ob nn g133 g184 a1 ae aa nn ([]++[(SelT.mk z1 z2 z3 z4 z5 z6 z7 (⟨z8,z9⟩:A4))]) (Mn (gB nK 0)) 0 z1 z2 z3 z4 z5 z6 z7 z8 z9 (λbP bY cr cR cM cH dD fu dB eX z20 z21 fL=>J ([.sl .sel bP (J 1)],(bxN ae aa))))))))
def Ys(g133:Int->Gx->Gu->Gr)(g184:Int->Gx->Gu->Gr)(a1:Int)(ae:Gx)(aa:Gu):Gr:=Yr NN g133 g184 a1 ae aa
def C6L(nn:Nat)(g133:Int->Gx->Gu->Gr)(g184:Int->Gx->Gu->Gr){a1:Int}{ae:Gx}{aa:Gu}:D7 (B76 g133 g184) nn f133 [0] [.ptr 900000 0,.int .i64 a1] (bxN ae aa)=Yr nn g133 g184 a1 ae aa:=by
 unfold Yr;simp(disch:=exact krl)only[lc1 (kB [0] (bxN ae aa)) (D2N ..)];kernel_rfl
def C2O{nn:Nat}{g133:Int->Gx->Gu->Gr}{g184:Int->Gx->Gu->Gr}{a1:Int}{ae:Gx}{aa:Gu}{p:Gz->Prop}{k0:GC->Gp->Int->Bool->Int->(rg)->(rg)->(rg)->List E0->List C3->GC->Int->Int->Gr}(dK:∀y0 y1 y2 y3 y4 y5 y6 y7 y8 y9 dT gq ic,RoP p (k0 y0 y1 y2 y3 y4 y5 y6 y7 y8 y9 dT gq ic)):∀(n:Nat)(x0:(GC))(x1:(Gp))(x2:Int)(x3:Int)(x4:(rg))(x5:(rg))(x6:(rg))(x7:(List E0))(x8:(List C3))(x9:(GC))(aI:Int)(cY:Int),RoP p (Ob nn g133 g184 a1 ae aa n x0 x1 x2 x3 x4 x5 x6 x7 x8 x9 aI cY k0)
 |0,_,_,_,_,_,_,_,_,_,_,_,_=>H0
 |n+1,_,_,_,_,_,_,_,_,_,_,_,_=>by
  unfold Ob
  try dsimp only
  repeat' first|exact H0|exact L5 _|exact dK _ _ _ _ _ _ _ _ _ _ _ _ _|exact C2O dK n _ _ _ _ _ _ _ _ _ _ _ _|apply K0|apply J8|split
def D6f{g133:Int->Gx->Gu->Gr}{g184:Int->Gx->Gu->Gr}{a1:Int}{ae:Gx}{aa:Gu}:RoK (bxN ae aa) (Ys g133 g184 a1 ae aa):=by
 unfold Ys Yr
 try dsimp only
 repeat' first|exact H0|exact L5 _|(apply C2O<;>intros)|apply K0|apply J8|split
def C2x(g133:Int->Gx->Gu->Gr)(g184:Int->Gx->Gu->Gr):Env Ty6 A2:=mkR [] [] [(60,Ks),(132,Sr),(133,Vt g133),(134,LJ),(135,Sv),(136,MF),(185,Vs)] noD 149 [4,10] 1 [4] []
def Mx(g133:Int->Gx->Gu->Gr)(g184:Int->Gx->Gu->Gr)(a1:Int)(ae:Gx)(aa:Gu):Gr:=let AV:=Mw a1 ae aa;gd (okB [.agg .tok] kN AV) (let z1:=(G3 (gB AV 0));match idx ae a1 with|O=>O|J y2=>(bif((Aab y2.kids:Int)==2)then(let pA:=KZ a1 1 ae aa;gd (okB [.int .i64] kN pA) (match idx ae (lI (gB pA 0))with|O=>O|J y3=>(bif((Aab y3.kids:Int)==4)then(match idx y3.kids 1 with|O=>O|J y4=>(let r9:=J9 y4 ae aa;gd (okB [.agg .tok] kN r9) (match idx y3.kids 2 with|O=>O|J y5=>(let r8:=Y6 y5 ae aa;gd (okB [.sl .dir (J 1)] kN r8) (match idx y3.kids 3 with|O=>O|J y6=>(let r7:=g133 y6 ae aa;gd (okB [.sl .sel (J 1)] kN r7) (J ([.agg .sel (SelT.mk 3 [] [] ((G3 (gB r9 0)).text) [] (O5 (gB r8 0)) (Mo (gB r7 0)) (⟨z1.pos.line,z1.pos.col⟩:A4))],(bxN ae aa)))))))))else(match idx y3.kids 0 with|O=>O|J dT=>(match idx ae dT with|O=>O|J gq=>(bif(gq.sym==[98,117,116,79,110])then(match idx y3.kids 0 with|O=>O|J ic=>(let ft:=J9 ic ae aa;gd (okB [.agg .tok] kN ft) (match idx y3.kids 1 with|O=>O|J lT=>(let eF:=Y6 lT ae aa;gd (okB [.sl .dir (J 1)] kN eF) (J ([.agg .sel (SelT.mk 2 [] ((G3 (gB ft 0)).text) [] [] (O5 (gB eF 0)) [] (⟨z1.pos.line,z1.pos.col⟩:A4))],(bxN ae aa)))))))else(match idx y3.kids 0 with|O=>O|J lU=>(let oB:=Y6 lU ae aa;gd (okB [.sl .dir (J 1)] kN oB) (match idx y3.kids 1 with|O=>O|J nH=>(let mN:=g133 nH ae aa;gd (okB [.sl .sel (J 1)] kN mN) (J ([.agg .sel (SelT.mk 3 [] [] [] [] (O5 (gB oB 0)) (Mo (gB mN 0)) (⟨z1.pos.line,z1.pos.col⟩:A4))],(bxN ae aa)))))))))))))else(let AW:=KZ a1 2 ae aa;gd (okB [.int .i64] kN AW) (let AX:=Qd (lI (gB AW 0)) ae aa;gd (okB [.sl .arg (J 1)] kN AX) (let AY:=KZ a1 3 ae aa;gd (okB [.int .i64] kN AY) (let AZ:=Y6 (lI (gB AY 0)) ae aa;gd (okB [.sl .dir (J 1)] kN AZ) (let z21:=(B8N (gB AX 0));let fL:=(O5 (gB AZ 0));let Ba:=KZ a1 1 ae aa;gd (okB [.int .i64] kN Ba) (let fD:=(lI (gB Ba 0));let Bb:=K8 fD ae aa;gd (okB [.bool] kN Bb) (bif(!(lB (gB Bb 0)))then(let lg:=KZ fD 1 ae aa;gd (okB [.int .i64] kN lg) (let nI:=J9 (lI (gB lg 0)) ae aa;gd (okB [.agg .tok] kN nI) (let jE:=((G3 (gB nI 0)).text);let nJ:=KZ a1 4 ae aa;gd (okB [.int .i64] kN nJ) (let ig:=(lI (gB nJ 0));let iL:=K8 ig ae aa;gd (okB [.bool] kN iL) (bif(!(lB (gB iL 0)))then(let kj:=KZ ig 0 ae aa;gd (okB [.int .i64] kN kj) (let lj:=g133 (lI (gB kj 0)) ae aa;gd (okB [.sl .sel (J 1)] kN lj) (J ([.agg .sel (SelT.mk 1 z1.text jE [] z21 fL (Mo (gB lj 0)) (⟨z1.pos.line,z1.pos.col⟩:A4))],(bxN ae aa)))))else(J ([.agg .sel (SelT.mk 1 z1.text jE [] z21 fL [] (⟨z1.pos.line,z1.pos.col⟩:A4))],(bxN ae aa))))))))else(let Be:=KZ a1 4 ae aa;gd (okB [.int .i64] kN Be) (let Bf:=(lI (gB Be 0));let Bg:=K8 Bf ae aa;gd (okB [.bool] kN Bg) (bif(!(lB (gB Bg 0)))then(let Bh:=KZ Bf 0 ae aa;gd (okB [.int .i64] kN Bh) (let Bi:=g133 (lI (gB Bh 0)) ae aa;gd (okB [.sl .sel (J 1)] kN Bi) (J ([.agg .sel (SelT.mk 1 [] z1.text [] z21 fL (Mo (gB Bi 0)) (⟨z1.pos.line,z1.pos.col⟩:A4))],(bxN ae aa)))))else(J ([.agg .sel (SelT.mk 1 [] z1.text [] z21 fL [] (⟨z1.pos.line,z1.pos.col⟩:A4))],(bxN ae aa)))))))))))))))
def D5w(g133:Int->Gx->Gu->Gr)(g184:Int->Gx->Gu->Gr){a1:Int}{ae:Gx}{aa:Gu}:D7 (C2x g133 g184) NN f184 [0] [.ptr 900000 0,.int .i64 a1] (bxN ae aa)=Mx g133 g184 a1 ae aa:=GM
def C8C{g133:Int->Gx->Gu->Gr}{g184:Int->Gx->Gu->Gr}{a1:Int}{ae:Gx}{aa:Gu}:RoK (bxN ae aa) (Mx g133 g184 a1 ae aa):=by
 unfold Mx
 try dsimp only
 repeat' first|exact H0|exact L5 _|apply K0|apply J8|split
def H2:Nat->(Int->Gx->Gu->Gr)×(Int->Gx->Gu->Gr)
 |0=>(λ_ _ _=>O,λ_ _ _=>O)
 |d+1=>(Ys (H2 d).1 (H2 d).2,Mx (H2 d).1 (H2 d).2)
def Vv(a1:Int)(ae:Gx)(aa:Gu):Gr:=(H2 DD).1 a1 ae aa
def B4G:Ka
 |[.ptr d0 o0,.int .i64 a1],[[.sl .node ae O,.sl .tok aa O]]=>bif bq d0 o0 then pB [.sl .sel (J 1)] kN (Vv a1 ae aa)else O
 |_,_=>O
def D5z:∀(d:Nat)(a1:Int)(ae:Gx)(aa:Gu),RoK (bxN ae aa) ((H2 d).1 a1 ae aa)
 |0,_,_,_=>H0
 |d+1,_,_,_=>D6f (g133:=(H2 d).1) (g184:=(H2 d).2)
def C17(d:Nat):∀ls cs rs ay,Vt ((H2 d).1) ls cs=J (Z,rs,ay)->ay=cs:=λls cs rs ay h=>by
 unfold Vt at h;split at h;obtain⟨_,h⟩:=A5 h;exact W7 rfl rfl (D5z d _ _ _) h;cases h
def D5v:∀ls cs rs ay,B4G ls cs=J (Z,rs,ay)->ay=cs:=C17 DD
def C7c:∀(d:Nat)(a1:Int)(ae:Gx)(aa:Gu),RoK (bxN ae aa) ((H2 d).2 a1 ae aa)
 |0,_,_,_=>H0
 |d+1,_,_,_=>C8C (g133:=(H2 d).1) (g184:=(H2 d).2)
def C9m(d:Nat):∀ls cs rs ay,Vu ((H2 d).2) ls cs=J (Z,rs,ay)->ay=cs:=λls cs rs ay h=>by
 unfold Vu at h;split at h;obtain⟨_,h⟩:=A5 h;exact W7 rfl rfl (C7c d _ _ _) h;cases h
def Vw(g:Int->Gx->Gu->Gr):Ka
 |[.ptr d0 o0,.int .i64 a1],[[.sl .node ae O,.sl .tok aa O]]=>bif bq d0 o0 then pB [.agg .tref] kN (g a1 ae aa)else O
 |_,_=>O
def B9u(g186:Int->Gx->Gu->Gr):Env Ty6 A2:=mkR [] [] [(60,Ks),(134,LJ),(136,MF),(186,Vw g186)] noD 57 [4,5] 1 [] []
def Yt(g186:Int->Gx->Gu->Gr)(a1:Int)(ae:Gx)(aa:Gu):Gr:=match idx ae a1 with|O=>O|J y1=>(let pC:=KZ a1 (Aaa .i64 ((Aab y1.kids:Int) - 1)) ae aa;gd (okB [.int .i64] kN pC) (let z2:=(lI (gB pC 0));let j3:Int->(rg)->(rg)->Gr:=λz4 z5 z6=>let j7:(rg)->(rg)->Gr:=λz8 z9=>J ([.agg .tref (⟨z8,z9⟩:F6)],(bxN ae aa));let cF:=K8 z4 ae aa;gd (okB [.bool] kN cF) (bif(!(lB (gB cF 0)))then(gd (decide (Aab z6+Aab [33]<=9223372036854775807)) (j7 z5 (z6++[33])))else(j7 z5 z6));match idx ae a1 with|O=>O|J gq=>(bif((Aab gq.kids:Int)==4)then(let eF:=KZ a1 1 ae aa;gd (okB [.int .i64] kN eF) (let cg:=g186 (lI (gB eF 0)) ae aa;gd (okB [.agg .tref] kN cg) (let cr:=(Lv (gB cg 0)).wrap;gd (decide (Aab cr+Aab [93]<=9223372036854775807)) (j3 z2 ((Lv (gB cg 0)).name) (cr++[93])))))else(let kp:=KZ a1 0 ae aa;gd (okB [.int .i64] kN kp) (let ft:=J9 (lI (gB kp 0)) ae aa;gd (okB [.agg .tok] kN ft) (j3 z2 ((G3 (gB ft 0)).text) []))))))
def C7w(g186:Int->Gx->Gu->Gr){a1:Int}{ae:Gx}{aa:Gu}:D7 (B9u g186) NN f186 [0] [.ptr 900000 0,.int .i64 a1] (bxN ae aa)=Yt g186 a1 ae aa:=GM
def D2L{g186:Int->Gx->Gu->Gr}{a1:Int}{ae:Gx}{aa:Gu}:RoK (bxN ae aa) (Yt g186 a1 ae aa):=by
 unfold Yt
 try dsimp only
 repeat' first|exact H0|exact L5 _|apply K0|apply J8|split
def My:Nat->Int->Gx->Gu->Gr
 |0,_,_,_=>O
 |d+1,a1,ae,aa=>Yt (My d) a1 ae aa
def B7w(a1:Int)(ae:Gx)(aa:Gu):Gr:=My DD a1 ae aa
def B6M:Ka
 |[.ptr d0 o0,.int .i64 a1],[[.sl .node ae O,.sl .tok aa O]]=>bif bq d0 o0 then pB [.agg .tref] kN (B7w a1 ae aa)else O
 |_,_=>O
def C58:∀(d:Nat)(a1:Int)(ae:Gx)(aa:Gu),RoK (bxN ae aa) ((My d) a1 ae aa)
 |0,_,_,_=>H0
 |d+1,_,_,_=>D2L (g186:=(My d))
def C3o(d:Nat):∀ls cs rs ay,Vw ((My d)) ls cs=J (Z,rs,ay)->ay=cs:=λls cs rs ay h=>by
 unfold Vw at h;split at h;obtain⟨_,h⟩:=A5 h;exact W7 rfl rfl (C58 d _ _ _) h;cases h
def D6l:∀ls cs rs ay,B6M ls cs=J (Z,rs,ay)->ay=cs:=C3o DD
def D6O:Env Ty6 A2:=mkR [] [] [(60,Ks),(134,LJ),(135,Sv),(136,MF),(186,B6M),(187,B3S)] noD 49 [4,7] 1 [4] []
def Mz(a1:Int)(ae:Gx)(aa:Gu):Gr:=let mN:=KZ a1 0 ae aa;gd (okB [.int .i64] kN mN) (let pC:=J9 (lI (gB mN 0)) ae aa;gd (okB [.agg .tok] kN pC) (let z1:=(G3 (gB pC 0));let kp:=KZ a1 1 ae aa;gd (okB [.int .i64] kN kp) (let ft:=J9 (lI (gB kp 0)) ae aa;gd (okB [.agg .tok] kN ft) (let z2:=(G3 (gB ft 0));let eF:=KZ a1 3 ae aa;gd (okB [.int .i64] kN eF) (let cg:=B7w (lI (gB eF 0)) ae aa;gd (okB [.agg .tref] kN cg) (let cP:=KZ a1 5 ae aa;gd (okB [.int .i64] kN cP) (let dz:=Y6 (lI (gB cP 0)) ae aa;gd (okB [.sl .dir (J 1)] kN dz) (let z3:=(Lv (gB cg 0)).name;let z4:=(Lv (gB cg 0)).wrap;let z5:=(O5 (gB dz 0));let cF:=KZ a1 4 ae aa;gd (okB [.int .i64] kN cF) (let z6:=(lI (gB cF 0));let r9:=K8 z6 ae aa;gd (okB [.bool] kN r9) (bif(!(lB (gB r9 0)))then(let r8:=KZ z6 1 ae aa;gd (okB [.int .i64] kN r8) (let r7:=B1Y (lI (gB r8 0)) ae aa;gd (okB [.agg .lit] kN r7) (J ([.agg .vd (⟨z2.text,(⟨z3,z4⟩:F6),Z,(LitT.mk ((G9 (gB r7 0)).kind) ((G9 (gB r7 0)).text) ((G9 (gB r7 0)).block) ((G9 (gB r7 0)).items) ((G9 (gB r7 0)).fields) (⟨(((G9 (gB r7 0)).pos).line),(((G9 (gB r7 0)).pos).col)⟩:A4)),z5,(⟨z1.pos.line,z1.pos.col⟩:A4)⟩:VdT)],(bxN ae aa)))))else(J ([.agg .vd (⟨z2.text,(⟨z3,z4⟩:F6),V,(LitT.mk 0 [] V [] [] (⟨0,0⟩:A4)),z5,(⟨z1.pos.line,z1.pos.col⟩:A4)⟩:VdT)],(bxN ae aa)))))))))))))
def Yu:Ka
 |[.ptr d0 o0,.int .i64 a1],[[.sl .node ae O,.sl .tok aa O]]=>bif bq d0 o0 then pB [.agg .vd] kN (Mz a1 ae aa)else O
 |_,_=>O
def C6X{a1:Int}{ae:Gx}{aa:Gu}:RoK (bxN ae aa) (Mz a1 ae aa):=by
 unfold Mz
 try dsimp only
 repeat' first|exact H0|exact L5 _|apply K0|apply J8|split
def D69:∀ls cs rs ay,Yu ls cs=J (Z,rs,ay)->ay=cs:=λls cs rs ay h=>by
 unfold Yu at h;split at h;obtain⟨_,h⟩:=A5 h;exact W7 rfl rfl C6X h;cases h
def Sw:Env Ty6 A2:={mkR [] [] [(60,Ks),(61,OV),(132,Sr),(133,B4G),(134,LJ),(135,Sv),(136,MF),(137,Yu)] (lkR [(0,1000105,4),(0,1000110,1),(0,1000112,1),(1,15,3),(1,1000106,3),(1,1000110,1),(1,1000112,1),(2,18,9),(2,1000106,3),(2,1000110,1),(2,1000112,1),(3,1,1),(3,5,1),(3,27,9),(3,1000105,4),(3,1000110,1),(3,1000112,1),(4,27,1),(4,36,2),(4,1000106,3),(4,1000110,1),(4,1000112,1),(5,38,6),(5,1000107,2),(5,1000110,1),(5,1000112,1),(6,44,5),(6,1000108,1),(6,1000110,1),(6,1000112,1),(7,1,1),(7,5,3),(7,49,17),(7,1000105,4),(7,1000110,1),(7,1000112,1),(8,38,1),(8,66,13),(8,1000106,2),(8,1000110,1),(8,1000112,1),(9,5,1),(9,79,1),(9,1000105,3),(9,1000110,1),(9,1000112,1),(10,82,1),(10,1000105,3),(10,1000110,1),(10,1000112,1),(11,80,2),(11,83,1),(11,1000105,3),(11,1000110,1),(11,1000112,1),(12,80,2),(12,85,1),(12,1000105,3),(12,1000110,1),(12,1000112,1),(13,84,1),(13,86,1),(13,1000105,3),(13,1000110,1),(13,1000112,1),(14,84,1),(14,87,3),(14,1000105,3),(14,1000110,1),(14,1000112,1),(15,90,3),(15,1000105,3),(15,1000110,1),(15,1000112,1),(16,9,1),(16,93,6),(16,1000105,3),(16,1000112,1),(17,10,1),(17,99,3),(17,1000105,3),(17,1000110,1),(17,1000112,1),(18,1,1),(18,9,1),(18,93,1),(18,102,3),(18,1000105,3),(18,1000110,1),(18,1000112,1),(19,105,3),(19,1000105,3),(19,1000110,1),(19,1000112,1),(20,108,6),(20,1000105,3),(20,1000110,1),(21,114,6),(21,1000105,3),(21,1000110,1),(22,11,1),(22,120,5),(22,1000105,3),(22,1000110,1),(23,1000105,3),(23,1000110,1),(24,125,3),(24,1000105,3),(24,1000110,1),(25,129,2),(25,1000105,3),(25,1000110,1),(26,128,1),(26,131,6),(26,1000105,3),(26,1000110,1),(27,137,6),(27,1000105,3),(27,1000110,1),(28,8,1),(28,11,4),(28,108,1),(28,128,1),(28,143,1),(28,1000105,4),(28,1000110,1),(28,1000112,1),(10024,1000105,3),(10024,1000110,1)]) 144 [4,8,12,143] 1 [4] []with tb:=tbD,zr:=zrD,rw:=Z,fty:=ftD}
def vBx(v:VdT):Gt:=[.str v.name,.str v.type_.name,.str v.type_.wrap,.bool v.hasDefault,.int .i64 v.dflt.kind,.str v.dflt.text,.bool v.dflt.block,.sl .lit v.dflt.items O,.sl .lf v.dflt.fields O,.int .i64 v.dflt.pos.line,.int .i64 v.dflt.pos.col,.sl .dir v.dirs O,.int .i64 v.pos.line,.int .i64 v.pos.col]
def vE(v:VdT):VdT:=⟨v.name,v.type_,v.hasDefault,.mk v.dflt.kind v.dflt.text v.dflt.block v.dflt.items v.dflt.fields v.dflt.pos,v.dirs,v.pos⟩
def B7O(N:Gx)(T:Gu)(k:Int)(nm:rg)(vs:List VdT)(ds:List C3)(ss:GC)(p:A4)(v:VdT):List (Nat×E6):=[(1000104,.bx 104 [.int .i64 0,.str [],.str [],.bool V,.nils,.sl .dir [] (J 2010405),.sl .sel [] (J 2010406),.int .i64 0,.int .i64 0]),(1000108,.bx 108 [.int .i64 k,.str nm,.str [],.bool V,.sl .vd vs (J 218),.sl .dir ds O,.sl .sel ss O,.int .i64 p.line,.int .i64 p.col]),(1000112,.bx 112 (vBx v)),zN N T]
def D26(N:Gx)(T:Gu)(L:Gp)(x:Int)(k:Int)(nm:rg)(vs:List VdT)(ds:List C3)(ss:GC)(p:A4)(v:VdT):S6:=⟨(eP 0 900000)::(eP 4 104)::(eP 8 108)::(eP 12 112)::(eL 13 .i64 L)::(eI 14 x)::(128,.one (.bool (decide (x<(L.length:Int)))))::B7O N T k nm vs ds ss p v,[104,108,112,218,900000,2010405,2010406]⟩
def LK{R:Type}(N:Gx)(T:Gu)(L:Gp)(k:Int->List VdT->VdT->Option R):Nat->Int->List VdT->VdT->Option R
 |0,_,_,_=>O
 |n+1,x,vs,v=>bif decide (x<(L.length:Int))then(match idx L x with|O=>O|J y=>(let r:=Mz y N T;gd (okB [.agg .vd] kN r) (let w:=B7F (gB r 0);gd (A3 (vs.length+1) 192) (LK N T L k n (Aaa .i64 (x+1)) (vs++[vE w]) w))))else k x vs v
def B96{R:Type}(nn:Nat)(N:Gx)(T:Gu)(L:Gp)(k:Int)(nm:rg)(ds:List C3)(ss:GC)(p:A4)(K:Ex->S6->Option R):∀(n:Nat)(x:Int)(vs:List VdT)(v:VdT),LP Sw nn Abj 325119 n ⟨(eP 0 900000)::(eP 4 104)::(eP 8 108)::(eP 12 112)::(eL 13 .i64 L)::(eI 14 x)::B7O N T k nm vs ds ss p v,[104,108,112,218,900000,2010405,2010406]⟩ K=LK N T L (λx vs v=>K (.exit 1) (D26 N T L x k nm vs ds ss p v)) n x vs v
 |0,_,_,_=>rfl
 |n+1,x,vs,v=>by
  rw[LK];simp only[<-B96 nn N T L k nm ds ss p K n];kernel_rfl
section
variable (lp:Gp->Int->rg->List C3->GC->A4->VdT->Gr)(n:Int)(N:Gx)(T:Gu)
def Yv(k:Int)(nm:rg)(ds:List C3)(ss:GC)(p:A4):Gr:=
 let a:=KZ n 2 N T;gd (okB [.int .i64] kN a) (let m:=lI (gB a 0);let b:=K8 m N T;gd (okB [.bool] kN b) (bif !(lB (gB b 0))then(let c:=KZ m 1 N T;gd (okB [.int .i64] kN c) (let d:=Mz (lI (gB c 0)) N T;gd (okB [.agg .vd] kN d) (gd (A3 (0+1) 192) (let e:=KZ m 2 N T;gd (okB [.int .i64] kN e) (let f:=Mv (lI (gB e 0)) N T;gd (okB [.sl .i64 (J 1)] kN f) (lp (Mn (gB f 0)) k nm ds ss p (B7F (gB d 0))))))))else J ([.agg .dfn ⟨k,nm,[],V,[],ds,ss,p⟩],bxN N T)))
def Sx(ds:List C3)(ss:GC)(p:A4)(k:Int):Gr:=
 let a:=KZ n 1 N T;gd (okB [.int .i64] kN a) (let m:=lI (gB a 0);let b:=K8 m N T;gd (okB [.bool] kN b) (bif !(lB (gB b 0))then(let c:=KZ m 0 N T;gd (okB [.int .i64] kN c) (let d:=J9 (lI (gB c 0)) N T;gd (okB [.agg .tok] kN d) (Yv lp n N T k (G3 (gB d 0)).text ds ss p)))else Yv lp n N T k [] ds ss p))
def Vx:Gr:=
 let r:=Mw n N T;gd (okB [.agg .tok] kN r) (let t:=G3 (gB r 0);match idx N n with|O=>O|J y=>(bif(y.kids.length:Int)==1 then(let a:=KZ n 0 N T;gd (okB [.int .i64] kN a) (let b:=Vv (lI (gB a 0)) N T;gd (okB [.sl .sel (J 1)] kN b) (J ([.agg .dfn ⟨1,[],[],Z,[],[],Mo (gB b 0),t.pos⟩],bxN N T))))
  else bif t.text==[102,114,97,103,109,101,110,116]then(let a:=KZ n 1 N T;gd (okB [.int .i64] kN a) (let b:=J9 (lI (gB a 0)) N T;gd (okB [.agg .tok] kN b) (let c:=KZ n 3 N T;gd (okB [.int .i64] kN c) (let d:=J9 (lI (gB c 0)) N T;gd (okB [.agg .tok] kN d) (let e:=KZ n 4 N T;gd (okB [.int .i64] kN e) (let f:=Y6 (lI (gB e 0)) N T;gd (okB [.sl .dir (J 1)] kN f) (let g:=KZ n 5 N T;gd (okB [.int .i64] kN g) (let h:=Vv (lI (gB g 0)) N T;gd (okB [.sl .sel (J 1)] kN h) (J ([.agg .dfn ⟨4,(G3 (gB b 0)).text,(G3 (gB d 0)).text,V,[],O5 (gB f 0),Mo (gB h 0),t.pos⟩],bxN N T))))))))))
  else(let a:=KZ n 3 N T;gd (okB [.int .i64] kN a) (let b:=Y6 (lI (gB a 0)) N T;gd (okB [.sl .dir (J 1)] kN b) (let c:=KZ n 4 N T;gd (okB [.int .i64] kN c) (let d:=Vv (lI (gB c 0)) N T;gd (okB [.sl .sel (J 1)] kN d)
   (bif t.text==[109,117,116,97,116,105,111,110]then Sx lp n N T (O5 (gB b 0)) (Mo (gB d 0)) t.pos 2 else bif t.text==[115,117,98,115,99,114,105,112,116,105,111,110]then Sx lp n N T (O5 (gB b 0)) (Mo (gB d 0)) t.pos 3 else Sx lp n N T (O5 (gB b 0)) (Mo (gB d 0)) t.pos 1)))))))
end
def Oc(nn:Nat)(n:Int)(N:Gx)(T:Gu):Gr:=Vx (λL k nm ds ss p v=>LK N T L (λ_ vs _=>J ([.agg .dfn ⟨k,nm,[],V,vs,ds,ss,p⟩],bxN N T)) nn 0 ([]++[vE v]) v) n N T
def Qe(a1:Int)(ae:Gx)(aa:Gu):Gr:=Oc NN a1 ae aa
def D03(nn:Nat){a1:Int}{ae:Gx}{aa:Gu}:D7 Sw nn Abj [0] [.ptr 900000 0,.int .i64 a1] (bxN ae aa)=Oc nn a1 ae aa:=by
 have h:D7 Sw nn Abj [0] [.ptr 900000 0,.int .i64 a1] (bxN ae aa)=Vx (λL k nm ds ss p v=>LP Sw nn Abj 325119 nn ⟨(eP 0 900000)::(eP 4 104)::(eP 8 108)::(eP 12 112)::(eL 13 .i64 L)::(eI 14 0)::B7O ae aa k nm ([]++[vE v]) ds ss p v,[104,108,112,218,900000,2010405,2010406]⟩ (Mi 1 (sk Sw nn Abj [1,1,1,1,1,1,1,1,1,1] (VH Sw f59.results.toList [0] (bxN ae aa))))) a1 ae aa:=GM;rw[h];simp only[B96];show _=_;kernel_rfl
def Yw:Ka
 |[.ptr d0 o0,.int .i64 a1],[[.sl .node ae O,.sl .tok aa O]]=>bif bq d0 o0 then pB [.agg .dfn] kN (Qe a1 ae aa)else O
 |_,_=>O
def C5g{N:Gx}{T:Gu}{L:Gp}{k:Int->List VdT->VdT->Gr}(hk:∀x vs v,RoK (bxN N T) (k x vs v)):∀(n:Nat)(x:Int)(vs:List VdT)(v:VdT),RoK (bxN N T) (LK N T L k n x vs v)
 |0,_,_,_=>H0
 |n+1,_,_,_=>by
  unfold LK
  repeat' first|exact H0|exact hk _ _ _|exact C5g hk n _ _ _|apply K0|apply J8|split
def D4M{a1:Int}{ae:Gx}{aa:Gu}:RoK (bxN ae aa) (Qe a1 ae aa):=by
 have hO:∀ds ss p k,RoK (bxN ae aa) (Sx (λL k nm ds ss p v=>LK ae aa L (λ_ vs _=>J ([.agg .dfn ⟨k,nm,[],V,vs,ds,ss,p⟩],bxN ae aa)) NN 0 ([]++[vE v]) v) a1 ae aa ds ss p k):=λds ss p k=>by
  unfold Sx Yv;dsimp only
  repeat' first|exact H0|exact L5 _|exact C5g (λ_ _ _=>L5 _) _ _ _ _|apply K0|apply J8|split
 unfold Qe Oc Vx;dsimp only
 repeat' first|exact H0|exact L5 _|exact hO _ _ _ _|apply K0|apply J8|split
def D34:∀ls cs rs ay,Yw ls cs=J (Z,rs,ay)->ay=cs:=λls cs rs ay h=>by
 unfold Yw at h;split at h;obtain⟨_,h⟩:=A5 h;exact W7 rfl rfl D4M h;cases h
def E26:Env Ty6 A2:=mkR [] [] [(59,Yw),(60,Ks),(61,OV)] (lkR [(0,1000103,2),(1,1000104,1),(2,7,4),(3,11,6),(4,17,4),(6,21,3),(7,25,2),(8,24,1),(8,27,6),(9,33,6),(10,3,4),(10,24,1),(10,39,1),(10,1000103,2)]) 40 [2,3,4] 1 [2,3] []
def C31(ae:Gx)(aa:Gu)(x5:Gp)(x6:Int)(aN:List D9)(aJ:D9):S6:=⟨[eP 0 900000,eP 2 102,eP 3 103,eP 4 104,eL 5 .i64 x5,eI 6 x6,(1000102,.bx 102 [.sl .dfn [] (J 2010200)]),(1000103,.bx 103 [.sl .dfn aN (J 2010300)]),(1000104,.bx 104 [.int .i64 aJ.kind,.str aJ.name,.str aJ.on_,.bool aJ.short,.sl .vd aJ.vars O,.sl .dir aJ.dirs O,.sl .sel aJ.sels O,.int .i64 aJ.pos.line,.int .i64 aJ.pos.col]),zN ae aa],[102,103,104,900000,2010200,2010300]⟩
def C9F(ae:Gx)(aa:Gu)(x5:Gp)(x6:Int)(ij:Bool)(aN:List D9)(aJ:D9):S6:=Q7 (eB 24 ij) (C31 ae aa x5 x6 aN aJ)
def Sz{R:Type}(nn:Nat)(ae:Gx)(aa:Gu):Nat->Gp->Int->List D9->D9->(Gp->Int->Bool->List D9->D9->Option R)->Option R
 |0,_,_,_,_,_=>O
 |n+1,x5,x6,aN,aJ,k2=>let k1:=λx5 x6 aN aJ=>Sz nn ae aa n x5 x6 aN aJ k2;let z1:=decide (x6<(Aab x5:Int));bif z1 then(match idx x5 x6 with|O=>O|J y2=>(let r4:=Qe y2 ae aa;gd (okB [.agg .dfn] kN r4) (let z3:=(⟨(R9 (gB r4 0)).kind,(R9 (gB r4 0)).name,(R9 (gB r4 0)).on_,(R9 (gB r4 0)).short,(R9 (gB r4 0)).vars,(R9 (gB r4 0)).dirs,(R9 (gB r4 0)).sels,((R9 (gB r4 0)).pos)⟩:D9);gd (A3 (Aab aN+1) 136) (k1 x5 (Aaa .i64 (x6+1)) (aN++[z3]) z3))))else(k2 x5 x6 z1 aN aJ)
def C92{R}(nn ae aa)(K:Kt R):∀n x5 x6 aN aJ,Sz nn ae aa n x5 x6 aN aJ (λx5 x6 ij aN aJ=>K (.exit 0) (C9F ae aa x5 x6 ij aN aJ))=LP E26 nn f26 607 n (C31 ae aa x5 x6 aN aJ) K:=λn=>n.rec (by intros;rfl) λn i=>by
 intros;rw[Sz];simp only[i];kernel_rfl
def B0G(nn:Nat)(ae:Gx)(aa:Gu):Gr:=let cF:=KZ 0 0 ae aa;gd (okB [.int .i64] kN cF) (let r9:=Qe (lI (gB cF 0)) ae aa;gd (okB [.agg .dfn] kN r9) (let z1:=(⟨(R9 (gB r9 0)).kind,(R9 (gB r9 0)).name,(R9 (gB r9 0)).on_,(R9 (gB r9 0)).short,(R9 (gB r9 0)).vars,(R9 (gB r9 0)).dirs,(R9 (gB r9 0)).sels,((R9 (gB r9 0)).pos)⟩:D9);gd (A3 (0+1) 136) (let r8:=KZ 0 1 ae aa;gd (okB [.int .i64] kN r8) (let r7:=Mv (lI (gB r8 0)) ae aa;gd (okB [.sl .i64 (J 1)] kN r7) (Sz nn ae aa nn (Mn (gB r7 0)) 0 ([]++[z1]) z1 (λz2 z3 z4 z5 z6=>J ([.agg .doc (⟨z5⟩:I6)],(bxN ae aa))))))))
def Od(ae:Gx)(aa:Gu):Gr:=B0G NN ae aa
def D3M(nn:Nat){ae:Gx}{aa:Gu}:D7 E26 nn f26 [0] [.ptr 900000 0] (bxN ae aa)=B0G nn ae aa:=by
 unfold B0G;simp(disch:=exact krl)only[lc1 (kB [0] (bxN ae aa)) (C92 ..)];kernel_rfl
def S26:Ka
 |[.ptr d0 o0],[[.sl .node ae O,.sl .tok aa O]]=>bif bq d0 o0 then pB [.agg .doc] kN (Od ae aa)else O
 |_,_=>O
def C4w:Env Ty6 A2:=mkE [] [] (lkR [(0,4,1),(2,6,3),(3,10,2),(3,17,1),(4,9,1),(4,12,5),(5,0,2),(5,5,1),(5,17,1),(6,0,2),(6,5,1),(6,9,1)]) 18 [] 0 [] []
def TD{R:Type}(nn:Nat)(a0:Int)(a1:rg):Nat->Int->Option R->(Int->Bool->Option R)->Option R
 |0,_,_,_=>O
 |n+1,x5,k1,k3=>let k2:=λx5=>TD nn a0 a1 n x5 k1 k3;let z1:=decide (x5<(Aab a1:Int));bif z1 then(match idx a1 x5 with|O=>O|J y2=>(let z3:=(Aaa .i32 (Aam y2:Int))==a0;bif z3 then k1 else(k2 (Aaa .i64 (x5+1)))))else(k3 x5 z1)
def D5A{R}(nn a0 a1)(K:Kt R):∀n x5,TD nn a0 a1 n x5 (K .ret ⟨[eB 4 Z],[]⟩) (λx5 x9=>K (.exit 0) ⟨[eC 0 a0,eS 1 a1,eI 5 x5,eB 9 x9],[]⟩)=LP C4w nn f174 37 n ⟨[eC 0 a0,eS 1 a1,eI 5 x5],[]⟩ K:=λn=>n.rec (by intros;rfl) λn i=>by
 intros;rw[TD];simp only[i];kernel_rfl
def Vy(nn:Nat)(a0:Int)(a1:rg):Gq:=TD nn a0 a1 nn 0 (J (.one (.bool Z))) (λz1 z2=>J (.one (.bool V)))
def V4(a0:Int)(a1:rg):Gq:=Vy NN a0 a1
def TE:KY
 |[.int .i32 a0,.str a1]=>pR [.bool] (V4 a0 a1)
 |_=>O
def D0t:Env Ty6 A2:=mkE [] [] noD 15 [] 0 [] []
def MI(a0:Int):Gq:=let j1:Gq:=bif(decide (a0>=0))==Z then(J (.one (.bool (decide (a0<=1114111)))))else(J (.one (.bool V)));bif(decide (a0>=55296))==Z then(bif(decide (a0<=57343))then(J (.one (.bool V)))else j1)else(bif V then(J (.one (.bool V)))else j1)
def B0O:KY
 |[.int .i32 a0]=>pR [.bool] (MI a0)
 |_=>O
def C86:Env Ty6 A2:=mkE [(174,TE),(175,B0O)] [] noD 13 [] 0 [] []
def NK(a0:Int):Gq:=bif(decide (a0<32))then(let r1:=V4 a0 [9,10,13];gd (okR [.bool] r1) (J (.one (.bool (lB (gL r1 0))))))else(bif(decide (a0<65536))==Z then(gd (okR [.bool] (MI a0)) (J (.one (.bool (lB (gL (MI a0) 0))))))else(J (.one (.bool V))))
def Yx:KY
 |[.int .i32 a0]=>pR [.bool] (NK a0)
 |_=>O
def E53:Env Ty6 A2:=mkE [(121,Yx)] [] (lkR [(0,4,1),(3,7,3),(4,11,2),(5,10,1),(5,13,4),(6,17,8),(7,17,1),(7,25,3),(8,0,2),(8,6,1),(8,10,1),(8,28,1),(9,29,4),(10,5,1),(10,29,1),(10,33,3)]) 36 [] 0 [] []
def Vz{R:Type}(nn:Nat)(a0:Gp)(a1:Bool):Nat->Gp->Int->(Gp->Int->Bool->Option R)->Option R
 |0,_,_,_=>O
 |n+1,x5,x6,k2=>let k1:=λx5 x6=>Vz nn a0 a1 n x5 x6 k2;let z1:=decide (x6<(Aab a0:Int));bif z1 then(let j2:Gp->Int->Option R:=λz3 z4=>k1 z3 (Aaa .i64 (z4+1));match idx a0 x6 with|O=>O|J y5=>(gd (okR [.bool] (NK y5)) (bif(lB (gL (NK y5) 0))then(match idx a0 x6 with|O=>O|J y6=>(gd (A3 (Aab x5+1) 4) (j2 (x5++[y6]) x6)))else(gd (A3 (Aab x5+1) 4) (j2 (x5++[-1]) x6)))))else(k2 x5 x6 z1)
def C9k{R}(nn a0 a1)(K:Kt R):∀n x5 x6,Vz nn a0 a1 n x5 x6 (λx5 x6 aI=>K (.exit 0) ⟨[eL 0 .i32 a0,eB 1 a1,eO 5 .i32 x5 105,eI 6 x6,eB 10 aI],[105]⟩)=LP E53 nn f53 75 n ⟨[eL 0 .i32 a0,eB 1 a1,eO 5 .i32 x5 105,eI 6 x6],[105]⟩ K:=λn=>n.rec (by intros;rfl) λn i=>by
 intros;rw[Vz];simp only[i];kernel_rfl
def WA(nn:Nat)(a0:Gp)(a1:Bool):Gq:=Vz nn a0 a1 nn [] 0 (λz1 z2 z3=>bif(!a1)then(gd (A3 (Aab z1+1) 4) (gd (A3 (Aab (z1++[-1])+1) 4) (J (.one (.sl .i32 ((z1++[-1])++[-2]) (J 1))))))else(gd (A3 (Aab z1+1) 4) (J (.one (.sl .i32 (z1++[-2]) (J 1))))))
def TJ(a0:Gp)(a1:Bool):Gq:=WA NN a0 a1
def S53:KY
 |[.sl .i32 a0 O,.bool a1]=>pR [.sl .i32 (J 1)] (TJ a0 a1)
 |_=>O
def C1c:Env Ty6 A2:=mkE [] [] (lkR [(0,2,1),(1,5,1),(3,6,3),(4,10,2),(4,23,1),(4,43,1),(5,9,1),(5,12,11),(6,23,20),(7,43,6),(8,0,1),(8,3,2),(8,9,1),(8,49,1)]) 50 [] 0 [] []
def Qf{R:Type}(nn:Nat)(a0:Gp):Nat->Gp->Int->(Gp->Int->Bool->Option R)->Option R
 |0,_,_,_=>O
 |n+1,x3,x4,k2=>let k1:=λx3 x4=>Qf nn a0 n x3 x4 k2;let z1:=decide (x4<(Aab a0:Int));bif z1 then(let j2:Gp->Int->Bool->Option R:=λz3 z4 z5=>k1 z3 (Aaa .i64 (z4+1));let j6:Gp->Int->Bool->Option R:=λz7 z8 z9=>k1 z7 (Aaa .i64 (z8+1));let Dv:Gp->Int->Option R:=λbY cr=>k1 bY (Aaa .i64 (cr+1));let Bj:Gp->Int->Bool->Option R:=λcM cH dD=>let sd:Gp->Int->Bool->Option R:=λdB eX z20=>gd (A3 (Aab dB+1) 8) (Dv (dB++[Aaa .i64 (eX+1)]) eX);match idx a0 cH with|O=>O|J pD=>(bif(pD==13)==Z then(bif(decide ((Aaa .i64 (cH+1))<(Aab a0:Int)))==Z then(match idx a0 (Aaa .i64 (cH+1))with|O=>O|J mO=>(bif(mO==10)then(j6 cM cH (mO==10))else(sd cM cH (mO==10))))else(bif V then(j6 cM cH V)else(sd cM cH V)))else(bif V then(j6 cM cH V)else(sd cM cH V)));match idx a0 x4 with|O=>O|J sf=>(bif(sf !=13)==Z then(match idx a0 x4 with|O=>O|J pE=>(bif(pE !=10)then(j2 x3 x4 (pE !=10))else(Bj x3 x4 (pE !=10))))else(bif V then(j2 x3 x4 V)else(Bj x3 x4 V))))else(k2 x3 x4 z1)
def C90{R}(nn a0)(K:Kt R):∀n x3 x4,Qf nn a0 n x3 x4 (λx3 x4 x9=>K (.exit 0) ⟨[eL 0 .i32 a0,eO 3 .i64 x3 105,eI 4 x4,eB 9 x9],[105]⟩)=LP C1c nn f122 75 n ⟨[eL 0 .i32 a0,eO 3 .i64 x3 105,eI 4 x4],[105]⟩ K:=λn=>n.rec (by intros;rfl) λn i=>by
 intros;rw[Qf];simp only[i];kernel_rfl
def TL(nn:Nat)(a0:Gp):Gq:=Qf nn a0 nn [0] 0 (λz1 z2 z3=>J (.one (.sl .i64 z1 (J 1))))
def MJ(a0:Gp):Gq:=TL NN a0
def B3W:KY
 |[.sl .i32 a0 O]=>pR [.sl .i64 (J 1)] (MJ a0)
 |_=>O
def E54:Env Ty6 A2:=mkE [(122,B3W)] [] (lkR [(0,2,1),(2,8,2),(4,10,3),(5,6,2),(5,14,2),(5,35,1),(6,13,1),(6,16,3),(7,19,4),(8,23,6),(9,23,1),(9,29,4),(10,33,2),(11,36,2),(12,35,1),(12,38,13),(13,0,1),(13,3,3),(13,13,1),(13,51,1)]) 52 [] 0 [] []
def B8M(a0:Gp)(x3:List A4)(x4:Gp)(x5:Int):S6:=⟨[eL 0 .i32 a0,eO 3 .pos x3 103,eO 4 .i64 x4 1009,eI 5 x5],[103,1009]⟩
def C1H(a0:Gp)(x3:List A4)(x4:Gp)(x5 x6 x7:Int):S6:=Q7 (eI 7 x7) (Q7 (eI 6 x6) (B8M a0 x3 x4 x5))
def TM{R:Type}(nn:Nat)(a0:Gp):Nat->List A4->Gp->Int->Int->Int->(List A4->Gp->Int->Int->Int->Bool->Option R)->Option R
 |0,_,_,_,_,_,_=>O
 |n+1,x3,x4,x5,x6,x7,k2=>let k1:=λx3 x4 x5 x6 x7=>TM nn a0 n x3 x4 x5 x6 x7 k2;let z1:=decide (x7<x6);bif z1 then(match idx x4 x5 with|O=>O|J y2=>(gd (A3 (Aab x3+1) 16) (k1 (x3++[(⟨Aaa .i64 (x5+1),Aaa .i64 ((Aaa .i64 (x7 - y2))+1)⟩:A4)]) x4 x5 x6 (Aaa .i64 (x7+1)))))else(k2 x3 x4 x5 x6 x7 z1)
def D5S{R}(nn a0)(K:Kt R):∀n x3 x4 x5 x6 x7,TM nn a0 n x3 x4 x5 x6 x7 (λx3 x4 x5 x6 x7 Dw=>K (.exit 2) (Q7 (eB 35 Dw) (C1H a0 x3 x4 x5 x6 x7)))=LP E54 nn f54 40087 n (C1H a0 x3 x4 x5 x6 x7) K:=λn=>n.rec (by intros;rfl) λn i=>by
 intros;rw[TM];simp only[i];kernel_rfl
def WB{R:Type}(nn:Nat)(a0:Gp):Nat->List A4->Gp->Int->(List A4->Gp->Int->Bool->Option R)->Option R
 |0,_,_,_,_=>O
 |n+1,x3,x4,x5,k2=>let k1:=λx3 x4 x5=>WB nn a0 n x3 x4 x5 k2;let z1:=decide (x5<(Aab x4:Int));bif z1 then(let j2:List A4->Gp->Int->Int->Int->Bool->Option R:=λz3 z4 z5 z6 z7 z8=>k1 z3 z4 (Aaa .i64 (z5+1));let z9:=decide ((Aaa .i64 (x5+1))<(Aab x4:Int));bif z9 then(match idx x4 (Aaa .i64 (x5+1))with|O=>O|J dT=>(match idx x4 x5 with|O=>O|J gq=>(TM nn a0 nn x3 x4 x5 dT gq (λcr cR cM cH dD fu=>j2 cr cR cM cH dD fu))))else(match idx x4 x5 with|O=>O|J qS=>(TM nn a0 nn x3 x4 x5 (Aaa .i64 ((Aab a0:Int)+1)) qS (λeX z20 z21 fL fD jE=>j2 eX z20 z21 fL fD jE))))else(k2 x3 x4 x5 z1)
def D1a{R}(nn a0)(K:Kt R):∀n x3 x4 x5,WB nn a0 n x3 x4 x5 (λx3 x4 x5 ck=>K (.exit 0) (Q7 (eB 13 ck) (B8M a0 x3 x4 x5)))=LP E54 nn f54 151 n (B8M a0 x3 x4 x5) K:=λn=>n.rec (by intros;rfl) λn i=>by
 intros;rw[WB];simp only[i];simp(disch:=exact krl)only[lc1 (kL 151 n K) (D5S ..)];kernel_rfl
def Oe(nn:Nat)(a0:Gp):Gq:=gd (okR [.sl .i64 (J 1)] (MJ a0)) (WB nn a0 nn [] (Mn (gL (MJ a0) 0)) 0 (λz1 z2 z3 z4=>J (.one (.sl .pos z1 (J 1)))))
def MK(a0:Gp):Gq:=Oe NN a0
def S54:KY
 |[.sl .i32 a0 O]=>pR [.sl .pos (J 1)] (MK a0)
 |_=>O
def C9j:Env Ty6 A2:=mkE [(174,TE)] [] noD 9 [] 0 [] []
def Yy(a0:Int):Gq:=bif(a0==65279)==V then(let r1:=V4 a0 [9,10,13,32,44];gd (okR [.bool] r1) (J (.one (.bool (lB (gL r1 0))))))else(J (.one (.bool Z)))
def B48:KY
 |[.int .i32 a0]=>pR [.bool] (Yy a0)
 |_=>O
def B61:Env Ty6 A2:=mkE [(176,B48)] [] (lkR [(0,4,1),(1,5,4),(2,9,3),(3,9,1),(3,12,4),(4,0,2),(4,16,2),(5,18,18),(6,36,3),(10001,36,1),(10005,16,1)]) 39 [] 0 [] []
def WC{R:Type}(nn:Nat)(a0:Gp)(a1:Int):Nat->Int->(Int->Bool->Option R)->Option R
 |0,_,_=>O
 |n+1,x1,k2=>let k1:=λx1=>WC nn a0 a1 n x1 k2;let j1:Int->Bool->Option R:=λz2 z3=>k1 (Aaa .i64 (z2+1));match idx a0 x1 with|O=>O|J y4=>(bif(decide (y4>=0))==Z then(match idx a0 x1 with|O=>O|J y5=>(bif(y5 !=10)==Z then(match idx a0 x1 with|O=>O|J y6=>(bif(y6 !=13)then(j1 x1 (y6 !=13))else(k2 x1 (y6 !=13))))else(bif V then(j1 x1 V)else(k2 x1 V))))else(bif V then(j1 x1 V)else(k2 x1 V)))
def D1P{R}(nn a0 a1)(K:Kt R):∀n x1,WC nn a0 a1 n x1 (λx1 Bl=>K (.exit 2) ⟨[eL 0 .i32 a0,eI 1 x1,eB 36 Bl],[]⟩)=LP B61 nn f123 305 n ⟨[eL 0 .i32 a0,eI 1 x1],[]⟩ K:=λn=>n.rec (by intros;rfl) λn i=>by
 intros;rw[WC];simp only[i];kernel_rfl
def TO{R:Type}(nn:Nat)(a0:Gp)(a1:Int):Nat->Int->(Int->Option R)->Option R
 |0,_,_=>O
 |n+1,x1,k2=>let k1:=λx1=>TO nn a0 a1 n x1 k2;let k3:=λx1 Bl=>TO nn a0 a1 n x1 k2;match idx a0 x1 with|O=>O|J y1=>(gd (okR [.bool] (Yy y1)) (let z2:=(lB (gL (Yy y1) 0));bif z2 then(k1 (Aaa .i64 (x1+1)))else(match idx a0 x1 with|O=>O|J y3=>(bif(y3 !=35)then(k2 x1)else(WC nn a0 a1 nn x1 (λz4 z5=>k3 z4 z5))))))
def D1r{R}(nn a0 a1)(K:Kt R):∀n x1,TO nn a0 a1 n x1 (λx4=>K .ret ⟨[eI 4 x4],[]⟩)=LP B61 nn f123 9 n ⟨[eL 0 .i32 a0,eI 1 x1],[]⟩ K:=λn=>n.rec (by intros;rfl) λn i=>by
 intros;rw[TO];simp only[i];simp(disch:=exact krl)only[lc1 (kL 9 n K) (D1P ..)];kernel_rfl
def WD(nn:Nat)(a0:Gp)(a1:Int):Gq:=TO nn a0 a1 nn a1 (λz1=>J (.one (.int .i64 z1)))
def Qg(a0:Gp)(a1:Int):Gq:=WD NN a0 a1
def B5k:KY
 |[.sl .i32 a0 O,.int .i64 a1]=>pR [.int .i64] (Qg a0 a1)
 |_=>O
def D5e:Env Ty6 A2:=mkE [(174,TE)] [] noD 5 [] 0 [] []
def Yz(a0:Int):Gq:=let r1:=V4 a0 [97,98,99,100,101,102,103,104,105,106,107,108,109,110,111,112,113,114,115,116,117,118,119,120,121,122,65,66,67,68,69,70,71,72,73,74,75,76,77,78,79,80,81,82,83,84,85,86,87,88,89,90,95];gd (okR [.bool] r1) (J (.one (.bool (lB (gL r1 0)))))
def B52:KY
 |[.int .i32 a0]=>pR [.bool] (Yz a0)
 |_=>O
def D4C:Env Ty6 A2:=mkE [(174,TE)] [] noD 9 [] 0 [] []
def TP(a0:Int):Gq:=let r2:=V4 a0 [97,98,99,100,101,102,103,104,105,106,107,108,109,110,111,112,113,114,115,116,117,118,119,120,121,122,65,66,67,68,69,70,71,72,73,74,75,76,77,78,79,80,81,82,83,84,85,86,87,88,89,90,95];gd (okR [.bool] r2) (bif(lB (gL r2 0))==V then(let r1:=V4 a0 [48,49,50,51,52,53,54,55,56,57];gd (okR [.bool] r1) (J (.one (.bool (lB (gL r1 0))))))else(J (.one (.bool Z))))
def B3G:KY
 |[.int .i32 a0]=>pR [.bool] (TP a0)
 |_=>O
def C5M:Env Ty6 A2:=mkE [(208,B3G)] [] (lkR [(0,4,1),(1,5,4),(2,9,3),(3,0,2),(3,9,1),(3,12,1)]) 13 [] 0 [] []
def WE{R:Type}(nn:Nat)(a0:Gp)(a1:Int):Nat->Int->(Int->Bool->Option R)->Option R
 |0,_,_=>O
 |n+1,x1,k2=>let k1:=λx1=>WE nn a0 a1 n x1 k2;match idx a0 x1 with|O=>O|J y1=>(gd (okR [.bool] (TP y1)) (let z2:=(lB (gL (TP y1) 0));bif z2 then(k1 (Aaa .i64 (x1+1)))else(k2 x1 z2)))
def D1k{R}(nn a0 a1)(K:Kt R):∀n x1,WE nn a0 a1 n x1 (λx1 x9=>K (.exit 0) ⟨[eL 0 .i32 a0,eI 1 x1,eB 9 x9],[]⟩)=LP C5M nn f178 17 n ⟨[eL 0 .i32 a0,eI 1 x1],[]⟩ K:=λn=>n.rec (by intros;rfl) λn i=>by
 intros;rw[WE];simp only[i];kernel_rfl
def ZA(nn:Nat)(a0:Gp)(a1:Int):Gq:=WE nn a0 a1 nn a1 (λz1 z2=>J (.one (.int .i64 z1)))
def TQ(a0:Gp)(a1:Int):Gq:=ZA NN a0 a1
def B4R:KY
 |[.sl .i32 a0 O,.int .i64 a1]=>pR [.int .i64] (TQ a0 a1)
 |_=>O
def C6O:Env Ty6 A2:=mkE [(174,TE)] [] noD 5 [] 0 [] []
def ZB(a0:Int):Gq:=let r1:=V4 a0 [48,49,50,51,52,53,54,55,56,57];gd (okR [.bool] r1) (J (.one (.bool (lB (gL r1 0)))))
def B8t:KY
 |[.int .i32 a0]=>pR [.bool] (ZB a0)
 |_=>O
def C71:Env Ty6 A2:=mkE [] [] noD 72 [] 0 [] []
def Qh(a0 a1:Int):Gq:=bif(decide (a1>=48))==Z then(let z1:=decide (a1<=57);let j2:Gq:=J (.one (.int .i64 (-1)));let j3:Bool->Bool->Gq:=λz4 z5=>J (.one (.int .i64 (-1)));let j6:Bool->Bool->Gq:=λz7 z8=>J (.one (.int .i64 (-1)));let j9:Bool->Bool->Gq:=λbP bY=>bif bY then(bif(a1==45)==Z then(bif(a0==0)then(J (.one (.int .i64 1)))else(bif(a1==48)then(J (.one (.int .i64 2)))else(bif bP then(J (.one (.int .i64 3)))else j2)))else(bif V then(J (.one (.int .i64 1)))else(bif(a1==48)then(J (.one (.int .i64 2)))else(bif bP then(J (.one (.int .i64 3)))else j2))))else(let vN:Bool->Bool->Gq:=λcR cM=>bif cM then(bif cR==Z then(bif(a0==3)then(J (.one (.int .i64 3)))else(bif(a1==46)then(J (.one (.int .i64 4)))else(bif(a1==101)==V then(bif(a1==69)then(J (.one (.int .i64 6)))else j2)else(bif Z then(J (.one (.int .i64 6)))else j2))))else(bif V then(J (.one (.int .i64 3)))else(bif(a1==46)then(J (.one (.int .i64 4)))else(bif(a1==101)==V then(bif(a1==69)then(J (.one (.int .i64 6)))else j2)else(bif Z then(J (.one (.int .i64 6)))else j2)))))else(bif(a0==4)then(bif cR then(J (.one (.int .i64 5)))else j2)else(bif(a0==5)then(bif cR then(J (.one (.int .i64 5)))else(bif(a1==101)==V then(bif(a1==69)then(J (.one (.int .i64 6)))else j2)else(bif Z then(J (.one (.int .i64 6)))else j2)))else(bif(a0==6)then(bif cR then(J (.one (.int .i64 8)))else(bif(a1==43)==V then(bif(a1==45)then(J (.one (.int .i64 7)))else j2)else(bif Z then(J (.one (.int .i64 7)))else j2)))else(bif(a0==7)then(bif(a0==7)then(bif cR then(J (.one (.int .i64 8)))else j2)else(j3 cR (a0==7)))else(bif(a0==8)then(bif cR then(J (.one (.int .i64 8)))else j2)else(j6 cR (a0==8)))))));bif(a0==2)then(vN bP (a0==2))else(vN bP (a0==3)));bif(a0==0)then(j9 z1 (a0==0))else(j9 z1 (a0==1)))else(let lm:Gq:=J (.one (.int .i64 (-1)));let vO:Bool->Bool->Gq:=λfu dB=>J (.one (.int .i64 (-1)));let yf:Bool->Bool->Gq:=λz20 z21=>J (.one (.int .i64 (-1)));let Bm:Bool->Bool->Gq:=λfD jE=>bif jE then(bif(a1==45)==Z then(bif(a0==0)then(J (.one (.int .i64 1)))else(bif(a1==48)then(J (.one (.int .i64 2)))else(bif fD then(J (.one (.int .i64 3)))else lm)))else(bif V then(J (.one (.int .i64 1)))else(bif(a1==48)then(J (.one (.int .i64 2)))else(bif fD then(J (.one (.int .i64 3)))else lm))))else(let Bn:Bool->Bool->Gq:=λlc se=>bif se then(bif lc==Z then(bif(a0==3)then(J (.one (.int .i64 3)))else(bif(a1==46)then(J (.one (.int .i64 4)))else(bif(a1==101)==V then(bif(a1==69)then(J (.one (.int .i64 6)))else lm)else(bif Z then(J (.one (.int .i64 6)))else lm))))else(bif V then(J (.one (.int .i64 3)))else(bif(a1==46)then(J (.one (.int .i64 4)))else(bif(a1==101)==V then(bif(a1==69)then(J (.one (.int .i64 6)))else lm)else(bif Z then(J (.one (.int .i64 6)))else lm)))))else(bif(a0==4)then(bif lc then(J (.one (.int .i64 5)))else lm)else(bif(a0==5)then(bif lc then(J (.one (.int .i64 5)))else(bif(a1==101)==V then(bif(a1==69)then(J (.one (.int .i64 6)))else lm)else(bif Z then(J (.one (.int .i64 6)))else lm)))else(bif(a0==6)then(bif lc then(J (.one (.int .i64 8)))else(bif(a1==43)==V then(bif(a1==45)then(J (.one (.int .i64 7)))else lm)else(bif Z then(J (.one (.int .i64 7)))else lm)))else(bif(a0==7)then(bif(a0==7)then(bif lc then(J (.one (.int .i64 8)))else lm)else(vO lc (a0==7)))else(bif(a0==8)then(bif lc then(J (.one (.int .i64 8)))else lm)else(yf lc (a0==8)))))));bif(a0==2)then(Bn fD (a0==2))else(Bn fD (a0==3)));bif(a0==0)then(Bm V (a0==0))else(Bm V (a0==1)))
def B6B:KY
 |[.int .i64 a0,.int .i32 a1]=>pR [.int .i64] (Qh a0 a1)
 |_=>O
def D6p:Env Ty6 A2:=mkE [] [] noD 10 [] 0 [] []
def WF(a0:Int):Gq:=let j1:Bool->Gq:=λz2=>J (.one (.int .i64 0));let j3:Bool->Gq:=λz4=>J (.one (.int .i64 0));let j5:Bool->Gq:=λz6=>bif z6 then(J (.one (.int .i64 1)))else(bif(a0==5)then(bif(a0==5)then(J (.one (.int .i64 2)))else(j1 (a0==5)))else(bif(a0==8)then(J (.one (.int .i64 2)))else(j3 (a0==8))));bif(a0==2)then(j5 (a0==2))else(j5 (a0==3))
def B4x:KY
 |[.int .i64 a0]=>pR [.int .i64] (WF a0)
 |_=>O
def C0M:Env Ty6 A2:=mkE [(230,B6B),(231,B4x)] [] (lkR [(0,4,3),(1,12,7),(2,0,2),(2,19,1),(3,19,2),(4,1,1),(4,21,1),(5,22,3),(6,11,1),(6,26,2),(6,42,1),(7,25,1),(7,28,6),(8,34,1),(9,0,1),(9,7,4),(9,35,4),(10,35,1),(10,39,2),(11,41,1),(12,11,1),(12,42,4),(13,0,1),(13,7,4),(13,25,1),(13,46,4)]) 50 [] 0 [] []
end Go.Aev
namespace Go.Aev
def B9L{n:Int}(h1: -2147483648<=n)(h2:n<2147483648):Aaa .i32 n=n:=by
 have h3:=Adw n ⟨h1,FK⟩;exact h3
def B85{R:Type}{nn:Nat}{c:Int}{t:rg}{k1:Option R}{k3:Int->Bool->Option R}(hs:t.length<=1000):∀(n i:Nat),i<=t.length->t.length<n+i->
  TD nn c t n (i:Int) k1 k3=if inF c (t.drop i)then k1 else k3 (t.length:Int) V
 |0,i,h1,h2=>FK
 |n+1,i,h1,h2=>by
  unfold TD;by_cases hi:i<t.length;have fa:t[i]?=J t[i]:=GE hi;have hd:t.drop i=t[i]::t.drop (i+1):=Ht hi;generalize t[i]=y at*;have aE:decide ((i:Int)<(t.length:Int))=Z:=GG FK;have hy:=y.toNat_lt;have hw:Aaa .i32 ((y.toNat:Nat):Int)=((y.toNat:Nat):Int):=B9L FK FK;rw[hd];simp only[V4,Vy,gd,kC,kP,kO,aE,GD,B1,fa,hw,E7 (i:=i) FK,inF,Ja];by_cases hc:(((y.toNat:Nat):Int)==c)=Z;simp only[hc,GD,Bool.true_or,if_true];have cT:(((y.toNat:Nat):Int)==c)=V:=by simpa using hc
  simp only[cT,GF,Jc];exact B85 hs n (i+1) FK FK;have bO:i=t.length:=FK;have aE:decide ((i:Int)<(t.length:Int))=V:=GH FK;simp only[V4,Vy,gd,kC,kP,kO,aE,GF];rw[bO,IL];simp[inF]
def WG{c:Int}{t:rg}(hs:t.length<=1000):V4 c t=J (.one (.bool (inF c t))):=by
 simp only[V4,Vy,gd,kC,kP,kO];show TD NN c t NN ((0:Nat):Int) _ _=_;rw[B85 hs NN 0 FK (by rw[NNv];omega),JA];cases inF c t<;>rfl
def C0n{c:Int}{t:rg}(h:inF c t=Z):0<=c:=by
 unfold inF at h;obtain⟨b,_,hb⟩:=Hm.1 h;have:=(beq_iff_eq).1 hb;omega
def D4a(c:Int):Yz c=J (.one (.bool (inF c Z6))):=by
 have e:V4 c Z6=_:=WG (c:=c) (t:=Z6) GO;unfold Z6 at*;simp only[Yz,gd,kC,kP,kO,e,oB1,gB1,GD]
def D35(c:Int):ZB c=J (.one (.bool (inF c LG))):=by
 have e:V4 c LG=_:=WG (c:=c) (t:=LG) GO;unfold LG at*;simp only[ZB,gd,kC,kP,kO,e,oB1,gB1,GD]
def C0R(c:Int):TP c=J (.one (.bool (inF c Z6||inF c LG))):=by
 have e:V4 c Z6=_:=WG (c:=c) (t:=Z6) GO;have e2:V4 c LG=_:=WG (c:=c) (t:=LG) GO;unfold Z6 at*;unfold LG at*;simp only[TP,gd,kC,kP,kO,e,e2,oB1,gB1,GD];cases inF c [97,98,99,100,101,102,103,104,105,106,107,108,109,110,111,112,113,114,115,116,117,118,119,120,121,122,65,66,67,68,69,70,71,72,73,74,75,76,77,78,79,80,81,82,83,84,85,86,87,88,89,90,95]<;>rfl
def C9N(c:Int):∃b,Yy c=J (.one (.bool b))/\(b=Z->0<=c):=by
 have e2:=WG (c:=c) (t:=[9,10,13,32,44]) GO;refine⟨(c==65279)||inF c [9,10,13,32,44],?_,λh=>?_⟩;simp only[Yy,gd,kC,kP,kO,e2,oB1,gB1,GD];cases c==65279<;>rfl;rw[Hx]at h;rcases h with h|h;have:=(beq_iff_eq).1 h;omega;exact C0n h
end Go.Aev
namespace Go.Aev
open Go.Proofs
def WH{R:Type}(nn:Nat)(a0:Gp)(a1:Int):Nat->Int->Int->Int->Int->(Int->Int->Int->Option R)->(Int->Int->Int->Int->Bool->Option R)->Option R
 |0,_,_,_,_,_,_=>O
 |n+1,x7,x8,x9,aI,k1,k3=>let k2:=λx7 x8 x9 aI=>WH nn a0 a1 n x7 x8 x9 aI k1 k3;let z1:=decide (aI<(Aab a0:Int));bif z1 then(match idx a0 aI with|O=>O|J y2=>(gd (okR [.int .i64] (Qh x9 y2)) (let z3:=(lI (gL (Qh x9 y2) 0));let z4:=decide (z3<0);bif z4 then(k1 x7 aI x8)else(gd (okR [.int .i64] (WF z3)) (let z5:=(lI (gL (WF z3) 0));bif(z5 !=0)then(k2 (Aaa .i64 (aI+1)) z5 z3 (Aaa .i64 (aI+1)))else(k2 x7 x8 z3 (Aaa .i64 (aI+1))))))))else(k3 x7 x8 x9 aI z1)
def C85{R}(nn a0 a1)(K:Kt R):∀n x7 x8 x9 aI,WH nn a0 a1 n x7 x8 x9 aI (λx4 x5 x6=>K .ret ⟨[eI 4 x4,eI 5 x5,eI 6 x6],[]⟩) (λx7 x8 x9 aI lV=>K (.exit 0) ⟨[eL 0 .i32 a0,eI 7 x7,eI 8 x8,eI 9 x9,eI 10 aI,eB 25 lV],[]⟩)=LP C0M nn f209 151 n ⟨[eL 0 .i32 a0,eI 7 x7,eI 8 x8,eI 9 x9,eI 10 aI],[]⟩ K:=λn=>n.rec (by intros;rfl) λn i=>by
 intros;rw[WH];simp only[i];kernel_rfl
def ZC(nn:Nat)(a0:Gp)(a1:Int):Gq:=let j1:Bool->Gq:=λz2=>WH nn a0 a1 nn a1 0 0 a1 (λz3 z4 z5=>J (.tup [.int .i64 z3,.int .i64 z4,.int .i64 z5])) (λz6 z7 z8 z9 bP=>J (.tup [.int .i64 z6,.int .i64 (Aab a0:Int),.int .i64 z7]));bif(decide (a1<0))==V then(let bY:=decide (a1>(Aab a0:Int));bif bY then(J (.tup [.int .i64 0,.int .i64 0,.int .i64 0]))else(j1 bY))else(bif Z then(J (.tup [.int .i64 0,.int .i64 0,.int .i64 0]))else(j1 Z))
def Qi(a0:Gp)(a1:Int):Gq:=ZC NN a0 a1
def B8v:KY
 |[.sl .i32 a0 O,.int .i64 a1]=>pR [.int .i64,.int .i64,.int .i64] (Qi a0 a1)
 |_=>O
def D09:Env Ty6 A2:=mkE [(208,B3G),(209,B8v)] [] noD 38 [] 0 [] []
def NL(a0:Gp)(a1:Int):Gq:=gd (okR [.int .i64,.int .i64,.int .i64] (Qi a0 a1)) (let z1:=(lI (gL (Qi a0 a1) 0));let z2:=(lI (gL (Qi a0 a1) 2));let j3:Int->Int->Gq:=λz4 z5=>bif(z5==1)then(J (.tup [.int .i64 z4,.int .i64 4]))else(J (.tup [.int .i64 z4,.int .i64 5]));bif(z1==a1)==V then(match idx a0 z1 with|O=>O|J y6=>(bif(y6==46)==V then(match idx a0 z1 with|O=>O|J y7=>(gd (okR [.bool] (TP y7)) (bif(lB (gL (TP y7) 0))then(J (.tup [.int .i64 a1,.int .i64 1]))else(j3 z1 z2))))else(bif Z then(J (.tup [.int .i64 a1,.int .i64 1]))else(j3 z1 z2))))else(bif Z then(J (.tup [.int .i64 a1,.int .i64 1]))else(j3 z1 z2)))
def B6o:KY
 |[.sl .i32 a0 O,.int .i64 a1]=>pR [.int .i64,.int .i64] (NL a0 a1)
 |_=>O
def D4m:Env Ty6 A2:=mkE [] [] noD 38 [] 0 [] []
def Of(a0:Gp)(a1 a2:Int):Gq:=bif(decide ((Aaa .i64 (a1+2))<(Aab a0:Int)))==Z then(match idx a0 a1 with|O=>O|J y1=>(bif(y1==a2)==Z then(match idx a0 (Aaa .i64 (a1+1))with|O=>O|J y2=>(bif(y2==a2)==Z then(match idx a0 (Aaa .i64 (a1+2))with|O=>O|J y3=>(J (.one (.bool (y3==a2)))))else(J (.one (.bool V)))))else(J (.one (.bool V)))))else(J (.one (.bool V)))
def ZD:KY
 |[.sl .i32 a0 O,.int .i64 a1,.int .i32 a2]=>pR [.bool] (Of a0 a1 a2)
 |_=>O
def C0V:Env Ty6 A2:=mkE [(210,ZD)] [] (lkR [(0,4,1),(1,6,2),(2,8,4),(3,13,2),(3,29,1),(4,12,1),(4,16,11),(5,15,1),(5,27,2),(6,15,1),(6,30,3),(7,0,2),(7,5,1),(7,29,1),(7,33,2),(8,0,2),(8,5,1),(8,12,1),(8,35,1)]) 36 [] 0 [] []
def TT{R:Type}(nn:Nat)(a0:Gp)(a1:Int):Nat->Int->(Int->Option R)->(Int->Bool->Option R)->Option R
 |0,_,_,_=>O
 |n+1,x5,k2,k3=>let k1:=λx5=>TT nn a0 a1 n x5 k2 k3;match idx a0 x5 with|O=>O|J y1=>(let z2:=decide (y1>=0);bif z2 then(match idx a0 x5 with|O=>O|J y3=>(bif(y3==92)==Z then(let r5:=Of a0 (Aaa .i64 (x5+1)) 34;gd (okR [.bool] r5) (bif(lB (gL r5 0))then(k1 (Aaa .i64 (x5+4)))else(let r4:=Of a0 x5 34;gd (okR [.bool] r4) (bif(lB (gL r4 0))then(k2 (Aaa .i64 (x5+3)))else(k1 (Aaa .i64 (x5+1)))))))else(bif V then(k1 (Aaa .i64 (x5+4)))else(let r6:=Of a0 x5 34;gd (okR [.bool] r6) (bif(lB (gL r6 0))then(k2 (Aaa .i64 (x5+3)))else(k1 (Aaa .i64 (x5+1))))))))else(k3 x5 z2))
def D6A{R}(nn a0 a1)(K:Kt R):∀n x5,TT nn a0 a1 n x5 (λx4=>K .ret ⟨[eI 4 x4],[]⟩) (λx5 fK=>K (.exit 0) ⟨[eL 0 .i32 a0,eI 1 a1,eI 5 x5,eB 12 fK],[]⟩)=LP C0V nn f211 35 n ⟨[eL 0 .i32 a0,eI 1 a1,eI 5 x5],[]⟩ K:=λn=>n.rec (by intros;rfl) λn i=>by
 intros;rw[TT];simp only[i];kernel_rfl
def ZE(nn:Nat)(a0:Gp)(a1:Int):Gq:=TT nn a0 a1 nn (Aaa .i64 (a1+3)) (λz1=>J (.one (.int .i64 z1))) (λz2 z3=>J (.one (.int .i64 a1)))
def TU(a0:Gp)(a1:Int):Gq:=ZE NN a0 a1
def B8r:KY
 |[.sl .i32 a0 O,.int .i64 a1]=>pR [.int .i64] (TU a0 a1)
 |_=>O
def C5F:Env Ty6 A2:=mkE [] [] (lkR [(0,4,1),(1,6,2),(2,8,18),(3,26,5),(4,0,2),(4,5,1),(4,31,3),(5,31,1),(5,34,4),(6,38,3),(7,41,18),(8,0,2),(8,5,1),(8,59,2),(9,38,1),(9,59,1),(9,61,2),(10,0,2),(10,5,1),(10,26,1),(10,63,1)]) 64 [] 0 [] []
def Qj{R:Type}(nn:Nat)(a0:Gp)(a1:Int):Nat->Int->(Int->Option R)->(Int->Bool->Option R)->Option R
 |0,_,_,_=>O
 |n+1,x5,k1,k3=>let k2:=λx5=>Qj nn a0 a1 n x5 k1 k3;let j1:Int->Bool->Option R:=λz2 z3=>match idx a0 z2 with|O=>O|J y4=>(bif(y4==34)then(k1 (Aaa .i64 (z2+1)))else(let j5:Int->Bool->Option R:=λz6 z7=>k2 (Aaa .i64 (z6+1));match idx a0 z2 with|O=>O|J y8=>(bif(y8==92)then(let z9:=Aaa .i64 (z2+1);match idx a0 z9 with|O=>O|J dT=>(bif(decide (dT<0))==V then(match idx a0 z9 with|O=>O|J gq=>(bif(gq==10)==V then(match idx a0 z9 with|O=>O|J ic=>(bif(ic==13)then(k1 a1)else(j5 z9 (ic==13))))else(bif Z then(k1 a1)else(j5 z9 Z))))else(bif Z then(k1 a1)else(j5 z9 Z))))else(k2 (Aaa .i64 (z2+1))))));match idx a0 x5 with|O=>O|J lT=>(bif(decide (lT>=0))==Z then(match idx a0 x5 with|O=>O|J uy=>(bif(uy !=10)==Z then(match idx a0 x5 with|O=>O|J lr=>(bif(lr !=13)then(j1 x5 (lr !=13))else(k3 x5 (lr !=13))))else(bif V then(j1 x5 V)else(k3 x5 V))))else(bif V then(j1 x5 V)else(k3 x5 V)))
def D12{R}(nn a0 a1)(K:Kt R):∀n x5,Qj nn a0 a1 n x5 (λx4=>K .ret ⟨[eI 4 x4],[]⟩) (λx5 fv=>K (.exit 0) ⟨[eL 0 .i32 a0,eI 1 a1,eI 5 x5,eB 26 fv],[]⟩)=LP C5F nn f213 35 n ⟨[eL 0 .i32 a0,eI 1 a1,eI 5 x5],[]⟩ K:=λn=>n.rec (by intros;rfl) λn i=>by
 intros;rw[Qj];simp only[i];kernel_rfl
def ZF(nn:Nat)(a0:Gp)(a1:Int):Gq:=Qj nn a0 a1 nn (Aaa .i64 (a1+1)) (λz1=>J (.one (.int .i64 z1))) (λz2 z3=>J (.one (.int .i64 a1)))
def TV(a0:Gp)(a1:Int):Gq:=ZF NN a0 a1
def B8j:KY
 |[.sl .i32 a0 O,.int .i64 a1]=>pR [.int .i64] (TV a0 a1)
 |_=>O
def Qk(a0:Int):Gq:=gd (okR [.bool] (MI a0)) (bif(!(lB (gL (MI a0) 0)))then(J (.one (.sl .u8 [] (J 1))))else(let z1:=Aaa .u8 (Aaa .i32 (128+(Abm a0 64)));let z2:=Aaa .u8 (Aaa .i32 (128+(Abm (Aaa .i32 (Aar a0 64)) 64)));bif(decide (a0<128))then(J (.one (.sl .u8 [Aaa .u8 a0] (J 1))))else(bif(decide (a0<2048))then(J (.one (.sl .u8 [Aaa .u8 (Aaa .i32 (192+(Aaa .i32 (Aar a0 64)))),z1] (J 1))))else(bif(decide (a0<65536))then(J (.one (.sl .u8 [Aaa .u8 (Aaa .i32 (224+(Aaa .i32 (Aar a0 4096)))),z2,z1] (J 1))))else(J (.one (.sl .u8 [Aaa .u8 (Aaa .i32 (240+(Aaa .i32 (Aar a0 262144)))),(Aaa .u8 (Aaa .i32 (128+(Abm (Aaa .i32 (Aar a0 4096)) 64)))),z2,z1] (J 1))))))))
def WI{R:Type}(nn:Nat)(a0:Gp):Nat->Gp->Int->Option R->(Gp->Int->Bool->Option R)->Option R
 |0,_,_,_,_=>O
 |n+1,x4,x5,k1,k3=>let k2:=λx4 x5=>WI nn a0 n x4 x5 k1 k3;let z1:=decide (x5<(Aab a0:Int));bif z1 then(match idx a0 x5 with|O=>O|J y2=>(gd (okR [.sl .u8 (J 1)] (Qk y2)) (let z3:=(B3 (gL (Qk y2) 0));let z4:=(Aab z3:Int)==0;bif z4 then k1 else(gd (A3 (Aab x4+Aab z3) 1) (k2 (x4++z3) (Aaa .i64 (x5+1)))))))else(k3 x4 x5 z1)
def WJ(nn:Nat)(a0:Gp):Gq:=WI nn a0 nn [] 0 (J (.tup [.str [],.bool V])) (λz1 z2 z3=>J (.tup [.str (List.map (λ(n:Int)=>Ack n.toNat) z1),.bool Z]))
def LL(a0:Gp):Gq:=WJ NN a0
end Go.Aev
namespace Go.Aev
def D6i(c:Int):∃b,MI c=J (.one (.bool b)):=by
 let P:Gq->Prop:=λo=>∃b,o=J (.one (.bool b))
 show P (MI c);simp only[MI,gd,kC,kP,kO]
 repeat' (refine A7 (P:=P) (λ_=>?_) (λ_=>?_))
 all_goals exact⟨_,rfl⟩
def B5C(c:Int):∃b,NK c=J (.one (.bool b)):=by
 let P:Gq->Prop:=λo=>∃b,o=J (.one (.bool b))
 show P (NK c);have e:=WG (c:=c) (t:=[9,10,13]) GO;obtain⟨b,e2⟩:=D6i c;simp only[NK,gd,kC,kP,kO,e,e2,oB1,gB1,GD]
 repeat' (refine A7 (P:=P) (λ_=>?_) (λ_=>?_))
 all_goals exact⟨_,rfl⟩
def C8Q(c:Int):∃b,MI c=J (.one (.bool b))/\(b=Z->0<=c/\c<=1114111):=by
 let P:Gq->Prop:=λo=>∃b,o=J (.one (.bool b))/\(b=Z->0<=c/\c<=1114111)
 show P (MI c);simp only[MI,gd,kC,kP,kO];have no:P (J (.one (.bool V))):=⟨_,rfl,λh=>by cases h⟩
 repeat' (first|exact no|refine A7 (P:=P) (λ_=>?_) (λ_=>?_))
 all_goals exact⟨_,rfl,λh=>by simp_all⟩
def w8{n:Int}(h:0<=n)(h2:n<256):Aaa .u8 n=n:=Go.IntWalk.u8_in n ⟨h,FK⟩
def w32{n:Int}(h:0<=n)(h2:n<2147483648):Aaa .i32 n=n:=Adw n ⟨FK,FK⟩
def C2e(c:Int):∃l:Gp,Qk c=J (.one (.sl .u8 l (J 1)))/\l.length<=4/\∀x r,l=x::r->0<=x/\x<256/\(x=c\/128<=x/\128<=c):=by
 let P:Gq->Prop:=λo=>∃l:Gp,o=J (.one (.sl .u8 l (J 1)))/\l.length<=4/\∀x r,l=x::r->0<=x/\x<256/\(x=c\/128<=x/\128<=c)
 show P (Qk c);obtain⟨b,e2,hb⟩:=C8Q c;simp only[Qk,gd,kC,kP,kO,e2,oB1,gB1,GD];refine A7 (P:=P) (λ_=>⟨_,rfl,GN,λx r h=>by cases h⟩) (λh=>?_);obtain⟨h0,h1⟩:=hb (by simpa using h);refine A7 (P:=P) (λh=>⟨_,rfl,GN,λx r hx=>?_⟩) (λh=>?_);have h:=GK h;rw[w8 h0 FK]at hx;cases hx;exact⟨h0,FK,.inl rfl⟩;have Dx:=of_decide_eq_false h;have hd:∀k m:Int,0<k->0<=m->m<=240->Aar c k<256 - m->192<=m->∀q x r,Aaa .u8 (Aaa .i32 (m+(Aaa .i32 (Aar c k))))::q=x::r->0<=x/\x<256/\(x=c\/128<=x/\128<=c):=λk m hk hm fq hc qI q x r hx=>by
  have hp:0<=Aar c k:=Int.tdiv_nonneg h0 FK;rw[w32 hp FK,w32 FK FK,w8 FK FK]at hx;cases hx;exact⟨FK,FK,.inr ⟨FK,FK⟩⟩
 refine A7 (P:=P) (λh=>⟨_,rfl,GN,hd 64 192 FK FK FK (by have:=GK h;rw[JG h0];omega) FK _⟩) (λh=>?_);refine A7 (P:=P) (λh=>⟨_,rfl,GN,hd 4096 224 FK FK FK (by have:=GK h;rw[JG h0];omega) FK _⟩) (λh=>⟨_,rfl,GN,hd 262144 240 FK FK FK (by rw[JG h0];omega) FK _⟩)
def Hd(b l:Gp):Prop:=∀x r,b=x::r->∃y q,l=y::q/\0<=x/\x<256/\(x=y\/128<=x/\128<=y)
def oU(l:Gp):okR [.sl .u8 (J 1)] (J (.one (.sl .u8 l (J 1))):Gq)=Z:=rfl
def gU(l:Gp):B3 (gL (J (.one (.sl .u8 l (J 1))):Gq) 0)=l:=rfl
section
variable {R:Type}{P:Option R->Prop}
def C3H{nn:Nat}{l:Gp}{k1:Option R}{k3:Gp->Int->Bool->Option R}(hs:l.length<=1099511627776)(h1:P k1)(h3:∀b:Gp,b.length<=4*l.length->Hd b l->P (k3 b (l.length:Int) V)):
  ∀(n i:Nat)(buf:Gp),i<=l.length->l.length<n+i->buf.length<=4*i->Hd buf l->(i=0\/buf≠[])->P (WI nn l n buf (i:Int) k1 k3)
 |0,i,buf,a1,a2,a3,_,_=>FK
 |n+1,i,buf,a1,a2,a3,a4,a5=>by
  unfold WI;by_cases hi:i<l.length;have fa:l[i]?=J l[i]:=GE hi;generalize l[i]=y at*;have aE:decide ((i:Int)<(l.length:Int))=Z:=GG FK;obtain⟨u,e,hu,rL⟩:=C2e y;have hr:=B8S (n:=buf.length+u.length) (by unfold MB;omega);simp only[LL,WJ,gd,kC,kP,kO,aE,GD,B1,fa,e,oU,gU,hr,E7 (i:=i) FK];refine A7 (P:=P) (λ_=>h1) (λhz=>?_);have Dy:u≠[]:=λh=>by rw[h]at hz;cases hz
  refine C3H hs h1 h3 n (i+1) (buf++u) FK FK (by rw[Fd];omega) ?_ (.inr (by simp[Dy]))
  match buf,a4,a5 with
  |[],_,_=>
   intro x r hx;have yg:i=0:=by simp_all
   subst yg;cases l with
   |nil=>cases fa
   |cons z q=>
    cases fa;exact⟨_,q,rfl,rL x r hx⟩
  |b::bs,a4,_=>
   intro x r hx;cases hx;exact a4 _ _ rfl
  have bO:i=l.length:=FK;have aE:decide ((i:Int)<(l.length:Int))=V:=GH FK;simp only[LL,WJ,gd,kC,kP,kO,aE,GF];subst bO;exact h3 buf a3 a4
def l53{nn:Nat}{l:Gp}{a1:Bool}{k2:Gp->Int->Bool->Option R}(hs:l.length<=1099511627776)(h2:∀b:Gp,b.length=l.length->P (k2 b (l.length:Int) V)):
  ∀(n i:Nat)(buf:Gp),i<=l.length->l.length<n+i->buf.length=i->P (Vz nn l a1 n buf (i:Int) k2)
 |0,i,buf,a1,a2,a3=>FK
 |n+1,i,buf,a1,a2,a3=>by
  unfold Vz;by_cases hi:i<l.length;have fa:l[i]?=J l[i]:=GE hi;generalize l[i]=y at*;have aE:decide ((i:Int)<(l.length:Int))=Z:=GG FK;obtain⟨b,e⟩:=B5C y;have hr:A3 (buf.length+1) 4=Z:=by unfold A3;exact GG FK
  simp only[TJ,WA,gd,kC,kP,kO,aE,GD,B1,fa,e,oB1,gB1,hr,E7 (i:=i) FK];refine A7 (P:=P) (λ_=>?_) (λ_=>?_);exact l53 hs h2 n (i+1) (buf++[y]) FK FK (by rw[Fd];simp;omega);exact l53 hs h2 n (i+1) (buf++[-1]) FK FK (by rw[Fd];simp;omega);have bO:i=l.length:=FK;have aE:decide ((i:Int)<(l.length:Int))=V:=GH FK;simp only[TJ,WA,gd,kC,kP,kO,aE,GF];subst bO;exact h2 buf a3
end
def B5T{l:Gp}(hs:l.length<=1099511627776):∃t b,LL l=J (.tup [.str t,.bool b])/\t.length<=4*l.length/\∀x r,t=x::r->∃y q,l=y::q/\((x.toNat:Int)=y\/128<=(x.toNat:Int)/\128<=y):=by
 let P:Gq->Prop:=λo=>∃t b,o=J (.tup [.str t,.bool b])/\t.length<=4*l.length/\∀x r,t=x::r->∃y q,l=y::q/\((x.toNat:Int)=y\/128<=(x.toNat:Int)/\128<=y)
 show P (LL l);simp only[LL,WJ,gd,kC,kP,kO];refine C3H (P:=P) hs ?_ ?_ NN 0 [] FK (by rw[NNv];omega) GN (λx r h=>by cases h) (.inl rfl);exact⟨[],V,rfl,GN,λx r h=>by cases h⟩;intro b hb h4;refine⟨_,Z,rfl,by simpa using hb,λx r hx=>?_⟩
 match b,h4,hx with
 |z::bs,h4,hx=>
  obtain⟨y,q,e,h0,h1,h2⟩:=h4 z bs rfl;refine⟨y,q,e,?_⟩;simp only[IN,Ir]at hx;rw[<-hx.1];have:((Ack z.toNat).toNat:Int)=z:=by
   rw[UInt8.toNat_ofNat'];omega
  rw[this];rcases h2 with h2|h2;exact .inl h2;exact .inr h2
def D0Q{l:Gp}(a1:Bool)(hs:l.length<=1099511627776):∃s:Gp,TJ l a1=J (.one (.sl .i32 s (J 1)))/\s.length<=l.length+2/\∃x:Int,s[l.length]?=J x/\x<0:=by
 let P:Gq->Prop:=λo=>∃s:Gp,o=J (.one (.sl .i32 s (J 1)))/\s.length<=l.length+2/\∃x:Int,s[l.length]?=J x/\x<0
 show P (TJ l a1);simp only[TJ,WA,gd,kC,kP,kO];refine l53 (P:=P) hs ?_ NN 0 [] FK (by rw[NNv];omega) rfl;intro b hb;have r1:A3 (b.length+1) 4=Z:=by unfold A3;exact GG FK
 have r2:A3 ((b++[(-1:Int)]).length+1) 4=Z:=by unfold A3;exact GG GQ
 simp only[r1,r2,GD];refine A7 (P:=P) (λ_=>?_) (λ_=>?_);refine⟨_,rfl,GQ, -1,?_,GO⟩;rw[<-hb];simp;refine⟨_,rfl,GQ, -2,?_,GO⟩;rw[<-hb];simp
def LM{α:Type}{l:List α}{i:Nat}{y:α}(h:l[i]?=J y):i<l.length:=(HN.1 h).1
structure Sts(st:Gp)(i:Nat):Prop where
 ex:∃ns:Gv,st=ns.map (λ(n:Nat)=>(n:Int))/\ns[0]?=J 0/\ns.Pairwise (· < ·)/\∀e∈ns,e<=i
 len:st.length<=i+1
def Sts.step{st:Gp}{i:Nat}(h:Sts st i):Sts st (i+1):=by
 obtain⟨ns,h1,h2,h3,h4⟩:=h.ex;exact⟨⟨ns,h1,h2,h3,λe he=>Il (h4 e he)⟩,Il h.len⟩
def Sts.push{st:Gp}{i:Nat}(h:Sts st i):Sts (st++[((i+1:Nat):Int)]) (i+1):=by
 obtain⟨ns,h1,h2,h3,h4⟩:=h.ex;refine⟨⟨ns++[i+1],by rw[h1];simp,?_,?_,λe he=>?_⟩,by simp;exact h.len⟩;have:=LM h2;rw[HV this];exact h2;rw[List.pairwise_append];exact⟨h3,GN,λa ha b hb=>by
  have:b=i+1:=by simpa using hb
  have:=h4 a ha;omega⟩
 rcases Hg.1 he with h'|h';exact Il (h4 e h');have:e=i+1:=by simpa using h'
 omega
section
variable {R:Type}{P:Option R->Prop}
def B6L{nn:Nat}{l:Gp}{k2:Gp->Int->Bool->Option R}(hs:l.length<=1048576)(h2:∀st,Sts st l.length->P (k2 st (l.length:Int) V)):∀(n i:Nat)(st:Gp),i<=l.length->l.length<n+i->Sts st i->P (Qf nn l n st (i:Int) k2)
 |0,i,st,a1,a2,_=>FK
 |n+1,i,st,a1,a2,a3=>by
  have aA:=a3.len;have w1:Aaa .i64 ((i:Int)+1)=((i+1:Nat):Int):=U0 (k:=1) FK;unfold Qf;by_cases hi:i<l.length
  ·have fa:l[i]?=J l[i]:=GE hi;generalize l[i]=y at*;have aE:decide ((i:Int)<(l.length:Int))=Z:=GG FK;have hr:A3 (st.length+1) 8=Z:=by unfold A3;exact GG FK
   have keep:P (Qf nn l n st ((i+1:Nat):Int) k2):=B6L hs h2 n (i+1) st FK FK a3.step;have push:P (Qf nn l n (st++[((i+1:Nat):Int)]) ((i+1:Nat):Int) k2):=B6L hs h2 n (i+1) _ FK FK a3.push;by_cases cL:i+1<l.length
   ·have kU:l[i+1]?=J l[i+1]:=GE cL;generalize l[i+1]=z at*;simp only[MJ,TL,gd,kC,kP,kO,aE,GD,B1,fa,w1,hr,kU]
    repeat' (first|exact keep|exact push|refine A7 (P:=P) (λ_=>?_) (λ_=>?_))
   ·have mP:decide (((i+1:Nat):Int)<(l.length:Int))=V:=GH FK;simp only[MJ,TL,gd,kC,kP,kO,aE,GD,B1,fa,w1,hr,mP]
    repeat' (first|exact keep|exact push|refine A7 (P:=P) (λh=>?_) (λ_=>?_))
    all_goals exact absurd (by assumption:(V==Z)=Z) GO
  have bO:i=l.length:=FK;have aE:decide ((i:Int)<(l.length:Int))=V:=GH FK;simp only[MJ,TL,gd,kC,kP,kO,aE,GF];subst bO;exact h2 st a3
end
def B84{l:Gp}(hs:l.length<=1048576):∃st,MJ l=J (.one (.sl .i64 st (J 1)))/\Sts st l.length:=by
 let P:Gq->Prop:=λo=>∃st,o=J (.one (.sl .i64 st (J 1)))/\Sts st l.length
 show P (MJ l);simp only[MJ,TL,gd,kC,kP,kO];refine B6L (P:=P) hs (λst h=>⟨st,rfl,h⟩) NN 0 [0] FK (by rw[NNv];omega) ⟨⟨[0],rfl,rfl,GN,GN⟩,GN⟩
structure Stp(s:Gp)(M:Nat):Prop where
 x:∃x:Int,s[M]?=J x/\x<0
 pos:∀j,j<M->∃y:Int,s[j]?=J y/\0<=y
 sz:M<=1048576
def Stp.at{s:Gp}{M i:Nat}(h:Stp s M)(hi:i<=M):∃y:Int,s[i]?=J y/\(0<=y->i<M)/\(y<0->i=M):=by
 rcases Hv i M with h1|h1;obtain⟨y,h2,h3⟩:=h.pos i h1;exact⟨y,h2,λ_=>h1,λh4=>FK⟩;obtain⟨x,h2,h3⟩:=h.x;have:i=M:=FK;subst this;exact⟨x,h2,λh4=>FK,λ_=>rfl⟩
def beqTn{b:Bool}:((b==Z)=Z)=(b=Z):=by cases b<;>simp
def beqF{b:Bool}:((b==V)=Z)=(b=V):=by cases b<;>simp
section
variable {R:Type}{P:Option R->Prop}{s:Gp}{M:Nat}
def C2B{nn:Nat}{a1:Int}{k2:Int->Bool->Option R}(hs:Stp s M):∀(n i:Nat),i<=M->M<n+i->(∀j b,i<=j->j<=M->(∀y,s[i]?=J y->inF y Z6=Z->i<j)->P (k2 ((j:Nat):Int) b))->P (WE nn s a1 n (i:Int) k2)
 |0,i,a2,a3,_=>FK
 |n+1,i,a2,a3,h2=>by
  obtain⟨y,hy,hp,hn⟩:=hs.at a2;have aw:=hs.sz;unfold WE;simp only[TQ,ZA,gd,kC,kP,kO,B1,hy,C0R,oB1,gB1,GD,E7 (i:=i) FK];refine A7 (P:=P) (λhc=>?_) (λhc=>?_);have h0:0<=y:=by
   rw[Hx]at hc;rcases hc with hc|hc<;>exact C0n hc
  have:=hp h0;exact C2B hs n (i+1) FK FK λj b h3 h4 _=>h2 j b FK h4 λ_ _ _=>FK
  refine h2 i _ (GU _) a2 λy' iM hl=>?_;rw[hy]at iM;cases iM;rw[hl]at hc;cases hc
def D2t(hs:Stp s M){i:Nat}(hi:i<=M):∃j:Nat,TQ s (i:Int)=J (.one (.int .i64 (j:Int)))/\i<=j/\j<=M/\(∀y,s[i]?=J y->inF y Z6=Z->i<j):=by
 let P:Gq->Prop:=λo=>∃j:Nat,o=J (.one (.int .i64 (j:Int)))/\i<=j/\j<=M/\(∀y,s[i]?=J y->inF y Z6=Z->i<j)
 show P (TQ s (i:Int));have aw:=hs.sz;simp only[TQ,ZA,gd,kC,kP,kO];exact C2B (P:=P) hs NN i hi (by rw[NNv];omega) λj b h1 h2 h3=>⟨j,rfl,h1,h2,h3⟩
def C1E{nn:Nat}{a1:Int}{k2:Int->Bool->Option R}(hs:Stp s M):∀(n i:Nat),i<=M->M<n+i->(∀j b y,i<=j->j<=M->s[j]?=J y->(y<0\/y=10\/y=13)->P (k2 ((j:Nat):Int) b))->P (WC nn s a1 n (i:Int) k2)
 |0,i,a2,a3,_=>FK
 |n+1,i,a2,a3,h2=>by
  obtain⟨y,hy,hp,hn⟩:=hs.at a2;have aw:=hs.sz;unfold WC;simp only[Qg,WD,gd,kC,kP,kO,B1,hy,E7 (i:=i) FK];have qW:∀b,(y<0\/y=10\/y=13)->P (k2 (i:Int) b):=λb h=>h2 i b y (GU _) a2 hy h;refine A7 (P:=P) (λhc=>?_) (λhc=>?_)
  rw[beqTn]at hc;have h0:=GK hc;have aE:=hp h0;refine A7 (P:=P) (λhc=>?_) (λhc=>?_);refine A7 (P:=P) (λhc=>?_) (λhc=>?_);exact C1E hs n (i+1) FK FK λj b y h3 h4=>h2 j b y FK h4
  exact qW _ (.inr (.inr (by simpa using hc)));have:y=10:=by
   cases h:(y !=10)with
   |true=>rw[h]at hc;cases hc
   |false=>simpa using h
  exact qW _ (.inr (.inl this));have:¬(y>=0):=λh=>by rw[GG h]at hc;cases hc
  exact qW _ (.inl FK)
def B6J{nn:Nat}{a1:Int}{k2:Int->Option R}(hs:Stp s M)(qh:M<nn):∀(n i:Nat),i<=M->M<n+i->(∀j,i<=j->j<=M->P (k2 ((j:Nat):Int)))->P (TO nn s a1 n (i:Int) k2)
 |0,i,a2,a3,_=>FK
 |n+1,i,a2,a3,h2=>by
  obtain⟨y,hy,hp,hn⟩:=hs.at a2;have aw:=hs.sz;obtain⟨b,e,hb⟩:=C9N y;unfold TO;simp only[Qg,WD,gd,kC,kP,kO,B1,hy,e,oB1,gB1,GD,E7 (i:=i) FK];refine A7 (P:=P) (λhc=>?_) (λhc=>?_);have aE:=hp (hb hc);exact B6J hs qh n (i+1) FK FK λj h3 h4=>h2 j FK h4
  refine A7 (P:=P) (λhc=>?_) (λhc=>?_);exact h2 i (GU _) a2;have FR:y=35:=by simpa using hc
  refine C1E hs nn i a2 FK λj b y' h3 h4 iM hx=>?_;have aP:i≠j:=λe=>by
   subst e;rw[hy]at iM;cases iM;omega
  exact B6J hs qh n j h4 FK λj' h5 h6=>h2 j' FK h6
def D4H(hs:Stp s M){i:Nat}(hi:i<=M):∃j:Nat,Qg s (i:Int)=J (.one (.int .i64 (j:Int)))/\i<=j/\j<=M:=by
 let P:Gq->Prop:=λo=>∃j:Nat,o=J (.one (.int .i64 (j:Int)))/\i<=j/\j<=M
 show P (Qg s (i:Int));have aw:=hs.sz;simp only[Qg,WD,gd,kC,kP,kO];exact B6J (P:=P) hs (by rw[NNv];omega) NN i hi (by rw[NNv];omega) λj h1 h2=>⟨j,rfl,h1,h2⟩
end
def C74(x:Int):∃k,WF x=J (.one (.int .i64 k)):=by
 let P:Gq->Prop:=λo=>∃k,o=J (.one (.int .i64 k))
 show P (WF x);simp only[WF,gd,kC,kP,kO]
 repeat' (refine A7 (P:=P) (λ_=>?_) (λ_=>?_))
 all_goals exact⟨_,rfl⟩
def C6H(x c:Int):∃k,Qh x c=J (.one (.int .i64 k))/\(c<0->k<0):=by
 by_cases hc:c<0
 ·let P:Gq->Prop:=λo=>∃k,o=J (.one (.int .i64 k))/\(c<0->k<0)
  show P (Qh x c);have h1:decide (c>=48)=V:=GH FK;have h2:(c==45)=V:=GQ;have h3:(c==48)=V:=GQ;have h4:(c==46)=V:=GQ;have h5:(c==101)=V:=GQ;have h6:(c==69)=V:=GQ;have h7:(c==43)=V:=GQ;simp only[Qh,gd,kC,kP,kO,h1,h2,h3,h4,h5,h6,h7]
  repeat' (refine A7 (P:=P) (λ_=>?_) (λ_=>?_))
  all_goals first|exact⟨_,rfl,λ_=>GO⟩|exact absurd (by assumption:(V==Z)=Z) GO|exact absurd (by assumption:(V==V)=V) GO|exact absurd (by assumption:V=Z) GO
 ·let P:Gq->Prop:=λo=>∃k,o=J (.one (.int .i64 k))/\(c<0->k<0)
  show P (Qh x c);simp only[Qh,gd,kC,kP,kO]
  repeat' (refine A7 (P:=P) (λ_=>?_) (λ_=>?_))
  all_goals exact⟨_,rfl,λh=>absurd h hc⟩
section
variable {R:Type}{P:Option R->Prop}{s:Gp}{M:Nat}
def B4T{nn:Nat}{a1:Int}{k1:Int->Int->Int->Option R}{k3:Int->Int->Int->Int->Bool->Option R}(hs:Stp s M)(i0:Nat)(h1:∀(j:Nat) a b,i0<=j->j<=M->P (k1 (j:Int) a b)):
  ∀(n i x7:Nat)(x8 x9:Int),i<=M->M<n+i->i0<=x7->x7<=i->P (WH nn s a1 n (x7:Int) x8 x9 (i:Int) k1 k3)
 |0,i,x7,x8,x9,a2,a3,_,_=>FK
 |n+1,i,x7,x8,x9,a2,a3,a4,a5=>by
  obtain⟨y,hy,hp,hn⟩:=hs.at a2;have aw:=hs.sz;have hl:=LM hy;obtain⟨k,e,hk⟩:=C6H x9 y;obtain⟨k',e'⟩:=C74 k;have aE:decide ((i:Int)<(s.length:Int))=Z:=GG FK;unfold WH;simp only[Qi,ZC,gd,kC,kP,kO,aE,GD,B1,hy,e,e',oI,gI,E7 (i:=i) FK];refine A7 (P:=P) (λhc=>?_) (λhc=>?_);exact h1 x7 _ _ a4 FK;have dK:¬k<0:=λh=>by rw[GG h]at hc;cases hc
  have aE:=hp (by rcases Int.lt_or_le y 0 with h|h;exact absurd (hk h) dK;exact h);refine A7 (P:=P) (λhc=>?_) (λhc=>?_);exact B4T hs i0 h1 n (i+1) (i+1) _ _ FK FK FK FK;exact B4T hs i0 h1 n (i+1) x7 _ _ FK FK FK FK
def D3b(hs:Stp s M){i:Nat}(hi:i<=M):∃(j:Nat)(a b:Int),Qi s (i:Int)=J (.tup [.int .i64 (j:Int),.int .i64 a,.int .i64 b])/\i<=j/\j<=M:=by
 let P:Gq->Prop:=λo=>∃(j:Nat)(a b:Int),o=J (.tup [.int .i64 (j:Int),.int .i64 a,.int .i64 b])/\i<=j/\j<=M
 show P (Qi s (i:Int));have aw:=hs.sz;obtain⟨y,hy,_,_⟩:=hs.at hi;have hl:=LM hy;have d1:decide ((i:Int)<0)=V:=GH FK;have d2:decide ((i:Int)>(s.length:Int))=V:=GH FK;simp only[Qi,ZC,gd,kC,kP,kO,d1,d2,beq_self_eq_true,GD,GF];exact B4T (P:=P) hs i (λj a b h1 h2=>⟨j,a,b,rfl,h1,h2⟩) NN i i 0 0 hi (by rw[NNv];omega) (GU _) (GU _)
def o3i(a b c:Int):okR [.int .i64,.int .i64,.int .i64] (J (.tup [.int .i64 a,.int .i64 b,.int .i64 c]):Gq)=Z:=rfl
def B8x(a:Int)(r:Gt):lI (gL (J (.tup (.int .i64 a::r)):Gq) 0)=a:=rfl
def WK(l:L6)(a:Int)(r:Gt):lI (gL (J (.tup (l::.int .i64 a::r)):Gq) 1)=a:=rfl
def D2a(l l':L6)(a:Int)(r:Gt):lI (gL (J (.tup (l::l'::.int .i64 a::r)):Gq) 2)=a:=rfl
def D6X(hs:Stp s M){i:Nat}(hi:i<=M):∃(j:Nat)(k:Int),NL s (i:Int)=J (.tup [.int .i64 (j:Int),.int .i64 k])/\i<=j/\j<=M/\((k=1/\j=i)\/((k=4\/k=5)/\i<j)):=by
 let P:Gq->Prop:=λo=>∃(j:Nat)(k:Int),o=J (.tup [.int .i64 (j:Int),.int .i64 k])/\i<=j/\j<=M/\((k=1/\j=i)\/((k=4\/k=5)/\i<j))
 show P (NL s (i:Int));obtain⟨j,a,b,e,h1,h2⟩:=D3b hs hi;obtain⟨y,hy,_,_⟩:=hs.at h2;simp only[NL,gd,kC,kP,kO,e,o3i,B8x,WK,D2a,GD,B1,hy,C0R,oB1,gB1];have kq:P (J (.tup [.int .i64 (i:Int),.int .i64 1])):=⟨i,1,rfl,GU _,hi,.inl ⟨rfl,rfl⟩⟩;have uz:∀k,(k=4\/k=5)->((j:Int)==(i:Int))=V->P (J (.tup [.int .i64 (j:Int),.int .i64 k])):=λk hk aP=>⟨j,k,rfl,h1,h2,.inr ⟨hk,by
  have:(j:Int)≠(i:Int):=by simpa using aP
  omega⟩⟩
 cases fJ:(j:Int)==(i:Int)with
 |true=>exact kq
 |false=>
  simp only[beq_self_eq_true,GD]
  repeat' (refine A7 (P:=P) (λ_=>?_) (λ_=>?_))
  all_goals first|exact kq|exact uz 4 (.inl rfl) fJ|exact uz 5 (.inr rfl) fJ
end
end Go.Aev
namespace Go.Aev
open Go.Proofs
def TX{R:Type}(nn:Nat)(a0:Gp):Nat->List Gp->Gp->Int->(List Gp->Gp->Int->Bool->Option R)->Option R
 |0,_,_,_,_=>O
 |n+1,x3,x4,x5,k2=>let k1:=λx3 x4 x5=>TX nn a0 n x3 x4 x5 k2;let z1:=decide (x5<(Aab x4:Int));bif z1 then(let j2:List Gp->Gp->Int->Option R:=λz3 z4 z5=>k1 z3 z4 (Aaa .i64 (z5+1));let j6:List Gp->Gp->Int->Int->Option R:=λz7 z8 z9 bP=>match idx z8 z9 with|O=>O|J gq=>(gd (decide (0<=(Aaa .i64 (bP - gq)))&&A3 (Abv (Aaa .i64 (bP - gq))) 4) (match idx z8 z9 with|O=>O|J ic=>(match sub a0 ic bP with|O=>O|J lT=>(gd (A3 (0+Aab lT) 4) (gd (A3 (Aab z7+1) 24) (j2 (z7++[([]++lT)]) z8 z9))))));let sg:List Gp->Gp->Int->Int->Bool->Option R:=λcH dD fu dB eX=>match idx dD fu with|O=>O|J pH=>(gd (decide (0<=(Aaa .i64 (dB - pH)))&&A3 (Abv (Aaa .i64 (dB - pH))) 4) (match idx dD fu with|O=>O|J pD=>(match sub a0 pD dB with|O=>O|J mO=>(gd (A3 (0+Aab mO) 4) (gd (A3 (Aab cH+1) 24) (j2 (cH++[([]++mO)]) dD fu))))));let fD:=decide ((Aaa .i64 (x5+1))<(Aab x4:Int));bif fD then(match idx x4 (Aaa .i64 (x5+1))with|O=>O|J pE=>(let ig:=Aaa .i64 (pE - 1);match idx a0 ig with|O=>O|J Dz=>(bif(Dz==10)==Z then(match idx x4 x5 with|O=>O|J DA=>(bif(decide (ig>DA))==Z then(match idx a0 (Aaa .i64 (ig - 1))with|O=>O|J uA=>(bif(uA==13)then(j6 x3 x4 x5 (Aaa .i64 (ig - 1)))else(sg x3 x4 x5 ig (uA==13))))else(sg x3 x4 x5 ig V)))else(sg x3 x4 x5 ig V))))else(let lR:=(Aab a0:Int);match idx x4 x5 with|O=>O|J Bo=>(gd (decide (0<=(Aaa .i64 (lR - Bo)))&&A3 (Abv (Aaa .i64 (lR - Bo))) 4) (match idx x4 x5 with|O=>O|J DB=>(match sub a0 DB lR with|O=>O|J Bp=>(gd (A3 (0+Aab Bp) 4) (gd (A3 (Aab x3+1) 24) (j2 (x3++[([]++Bp)]) x4 x5))))))))else(k2 x3 x4 x5 z1)
def B1g(nn:Nat)(a0:Gp):Gq:=gd (okR [.sl .i64 (J 1)] (MJ a0)) (TX nn a0 nn [] (Mn (gL (MJ a0) 0)) 0 (λz1 z2 z3 z4=>J (.one (.sl .rs z1 (J 1)))))
def ZG(a0:Gp):Gq:=B1g NN a0
def TY(a0:Gp)(a1:Int):Gq:=bif(decide ((Aaa .i64 (a1+3))<(Aab a0:Int)))==Z then(match idx a0 a1 with|O=>O|J y1=>(bif(y1==92)==Z then(match idx a0 (Aaa .i64 (a1+1))with|O=>O|J y2=>(bif(y2==34)==Z then(match idx a0 (Aaa .i64 (a1+2))with|O=>O|J y3=>(bif(y3==34)==Z then(match idx a0 (Aaa .i64 (a1+3))with|O=>O|J y4=>(J (.one (.bool (y4==34)))))else(J (.one (.bool V)))))else(J (.one (.bool V)))))else(J (.one (.bool V)))))else(J (.one (.bool V)))
def WM{R:Type}(nn:Nat)(a0:Gp):Nat->Int->Int->Int->Option R->(Int->Int->Int->Bool->Option R)->Option R
 |0,_,_,_,_,_=>O
 |n+1,x3,x4,x5,k1,k3=>let k2:=λx3 x4 x5=>WM nn a0 n x3 x4 x5 k1 k3;let z1:=decide (x5<(Aab a0:Int));bif z1 then(match idx a0 x5 with|O=>O|J y2=>(gd (okR [.bool] (NK y2)) (let z3:=(lB (gL (NK y2) 0));bif(!z3)then k1 else(gd (okR [.bool] (TY a0 x5)) (let z4:=(lB (gL (TY a0 x5) 0));bif z4 then(k2 0 0 (Aaa .i64 (x5+4)))else(match idx a0 x5 with|O=>O|J y5=>(let j6:Int->Int->Int->Option R:=λz7 z8 z9=>bif(z7==3)then k1 else(k2 z7 z8 (Aaa .i64 (z9+1)));bif(y5==34)then(j6 (Aaa .i64 (x3+1)) y5 x5)else(j6 0 y5 x5))))))))else(k3 x3 x4 x5 z1)
def B7q(nn:Nat)(a0:Gp):Gq:=WM nn a0 nn 0 0 0 (J (.one (.bool V))) (λz1 z2 z3 z4=>bif(z2 !=34)==Z then(J (.one (.bool (z2 !=92))))else(J (.one (.bool V))))
def B27(a0:Gp):Gq:=B7q NN a0
def ZH(a0:Int):Gq:=bif(a0==9)==V then(J (.one (.bool (a0==32))))else(J (.one (.bool Z)))
def WN{R:Type}(nn:Nat)(a0:Gp):Nat->Int->(Int->Bool->Option R)->Option R
 |0,_,_=>O
 |n+1,x3,k2=>let k1:=λx3=>WN nn a0 n x3 k2;let j1:Int->Bool->Option R:=λz2 z3=>k1 (Aaa .i64 (z2+1));bif(decide (x3<(Aab a0:Int)))==Z then(match idx a0 x3 with|O=>O|J y4=>(gd (okR [.bool] (ZH y4)) (let z5:=(lB (gL (ZH y4) 0));bif z5 then(j1 x3 z5)else(k2 x3 z5))))else(k2 x3 V)
def B5t(nn:Nat)(a0:Gp):Gq:=WN nn a0 nn 0 (λz1 z2=>J (.one (.int .i64 z1)))
def WO(a0:Gp):Gq:=B5t NN a0
def WP{R:Type}(nn:Nat)(a0:List Gp):Nat->Int->Int->(Int->Int->Bool->Option R)->Option R
 |0,_,_,_=>O
 |n+1,x3,x4,k2=>let k1:=λx3 x4=>WP nn a0 n x3 x4 k2;let z1:=decide (x4<(Aab a0:Int));bif z1 then(let j2:Int->Int->Option R:=λz3 z4=>k1 z3 (Aaa .i64 (z4+1));let j5:Int->Int->Int->Bool->Option R:=λz6 z7 z8 z9=>k1 z6 (Aaa .i64 (z7+1));match idx a0 x4 with|O=>O|J dT=>(gd (okR [.int .i64] (WO dT)) (let bY:=(lI (gL (WO dT) 0));match idx a0 x4 with|O=>O|J ic=>(bif(decide (bY<(Aab ic:Int)))==Z then(bif(decide (x3<0))==V then(let cR:=decide (bY<x3);bif cR then(j2 bY x4)else(j5 x3 x4 bY cR))else(j2 bY x4))else(j5 x3 x4 bY V)))))else(k2 x3 x4 z1)
def B8A(nn:Nat)(a0:List Gp):Gq:=WP nn a0 nn (-1) 1 (λz1 z2 z3=>let z4:=decide (z1<0);bif z4 then(J (.one (.int .i64 0)))else(J (.one (.int .i64 z1))))
def B2z(a0:List Gp):Gq:=B8A NN a0
def TZ{R:Type}(nn:Nat)(a0:List Gp):Nat->Int->List Gp->Int->(Int->List Gp->Int->Bool->Option R)->Option R
 |0,_,_,_,_=>O
 |n+1,x3,x4,x5,k2=>let k1:=λx3 x4 x5=>TZ nn a0 n x3 x4 x5 k2;let z1:=decide (x5<(Aab a0:Int));bif z1 then(let j2:Int->List Gp->Int->Option R:=λz3 z4 z5=>k1 z3 z4 (Aaa .i64 (z5+1));match idx a0 x5 with|O=>O|J y6=>(let j7:Int->List Gp->Int->Option R:=λz8 z9 bP=>gd (A3 (0+0) 4) (gd (A3 (Aab z9+1) 24) (j2 z8 (z9++[([]++[])]) bP));let pz:Int->List Gp->Int->Gp->Option R:=λcr cR cM cH=>gd (A3 (0+Aab cH) 4) (gd (A3 (Aab cR+1) 24) (j2 cr (cR++[([]++cH)]) cM));let vO:Int->List Gp->Int->Gp->Bool->Option R:=λfu dB eX z20 z21=>gd (A3 (0+Aab z20) 4) (gd (A3 (Aab dB+1) 24) (j2 fu (dB++[([]++z20)]) eX));bif(decide (x5>0))==Z then(bif(decide ((Aab y6:Int)<=x3))then(j7 x3 x4 x5)else(let fL:=decide (x5>0);bif fL then(match sub y6 x3 (Aab y6:Int)with|O=>O|J sf=>(pz x3 x4 x5 sf))else(vO x3 x4 x5 y6 fL)))else(let jE:=decide (x5>0);bif jE then(match sub y6 x3 (Aab y6:Int)with|O=>O|J DE=>(pz x3 x4 x5 DE))else(vO x3 x4 x5 y6 jE))))else(k2 x3 x4 x5 z1)
def Ta(a0:Gp):Gq:=gd (okR [.int .i64] (WO a0)) (J (.one (.bool ((lI (gL (WO a0) 0))==(Aab a0:Int)))))
def WQ{R:Type}(nn:Nat)(a0:List Gp):Nat->List Gp->Int->(List Gp->Int->Bool->Option R)->Option R
 |0,_,_,_=>O
 |n+1,x4,x8,k2=>let k1:=λx4 x8=>WQ nn a0 n x4 x8 k2;let j1:List Gp->Int->Bool->Option R:=λz2 z3 z4=>k1 z2 (Aaa .i64 (z3+1));bif(decide (x8<(Aab x4:Int)))==Z then(match idx x4 x8 with|O=>O|J y5=>(gd (okR [.bool] (Ta y5)) (let z6:=(lB (gL (Ta y5) 0));bif z6 then(j1 x4 x8 z6)else(k2 x4 x8 z6))))else(k2 x4 x8 V)
def WR{R:Type}(nn:Nat)(a0:List Gp):Nat->List Gp->Int->Int->(List Gp->Int->Int->Bool->Option R)->Option R
 |0,_,_,_,_=>O
 |n+1,x4,x8,x9,k2=>let k1:=λx4 x8 x9=>WR nn a0 n x4 x8 x9 k2;let j1:List Gp->Int->Int->Bool->Option R:=λz2 z3 z4 z5=>k1 z2 z3 (Aaa .i64 (z4 - 1));bif(decide (x9>x8))==Z then(match idx x4 (Aaa .i64 (x9 - 1))with|O=>O|J y6=>(gd (okR [.bool] (Ta y6)) (let z7:=(lB (gL (Ta y6) 0));bif z7 then(j1 x4 x8 x9 z7)else(k2 x4 x8 x9 z7))))else(k2 x4 x8 x9 V)
def B32(nn:Nat)(a0:List Gp):Gq:=gd (okR [.int .i64] (B2z a0)) (TZ nn a0 nn (lI (gL (B2z a0) 0)) [] 0 (λz1 z2 z3 z4=>WQ nn a0 nn z2 0 (λz5 z6 z7=>WR nn a0 nn z5 z6 (Aab z5:Int) (λz8 z9 bP bY=>match sub z8 z9 bP with|O=>O|J ic=>(J (.one (.sl .rs ic O)))))))
def ZI(a0:List Gp):Gq:=B32 NN a0
def WS{R:Type}(nn:Nat)(a0:Gp):Nat->Gp->Int->(Gp->Int->Bool->Option R)->Option R
 |0,_,_,_=>O
 |n+1,x3,x4,k2=>let k1:=λx3 x4=>WS nn a0 n x3 x4 k2;let z1:=decide (x4<(Aab a0:Int));bif z1 then(gd (okR [.bool] (TY a0 x4)) (let z2:=(lB (gL (TY a0 x4) 0));bif z2 then(gd (A3 (Aab x3+3) 4) (k1 (x3++[34,34,34]) (Aaa .i64 ((Aaa .i64 (x4+1))+3))))else(match idx a0 x4 with|O=>O|J y3=>(gd (A3 (Aab x3+1) 4) (k1 (x3++[y3]) (Aaa .i64 (x4+1)))))))else(k2 x3 x4 z1)
def B75(nn:Nat)(a0:Gp):Gq:=WS nn a0 nn [] 0 (λz1 z2 z3=>J (.one (.sl .i32 z1 (J 1))))
def B1y(a0:Gp):Gq:=B75 NN a0
def WU{R:Type}(nn:Nat)(a0:Gp):Nat->List Gp->List Gp->Int->(List Gp->List Gp->Int->Bool->Option R)->Option R
 |0,_,_,_,_=>O
 |n+1,x5,x6,x7,k2=>let k1:=λx5 x6 x7=>WU nn a0 n x5 x6 x7 k2;let z1:=decide (x7<(Aab x5:Int));bif z1 then(match idx x5 x7 with|O=>O|J y2=>(gd (okR [.sl .i32 (J 1)] (B1y y2)) (gd (A3 (Aab x6+1) 24) (k1 x5 (x6++[(V5 (gL (B1y y2) 0))]) (Aaa .i64 (x7+1))))))else(k2 x5 x6 x7 z1)
def WV{R:Type}(nn:Nat)(a0:Gp):Nat->List Gp->Gp->Int->(List Gp->Gp->Int->Bool->Option R)->Option R
 |0,_,_,_,_=>O
 |n+1,x9,aI,cY,k2=>let k1:=λx9 aI cY=>WV nn a0 n x9 aI cY k2;let z1:=decide (cY<(Aab x9:Int));bif z1 then(let j2:List Gp->Gp->Int->Option R:=λz3 z4 z5=>k1 z3 z4 (Aaa .i64 (z5+1));let z6:=decide (cY>0);bif z6 then(gd (A3 (Aab aI+1) 4) (match idx x9 cY with|O=>O|J y7=>(gd (A3 (Aab (aI++[10])+Aab y7) 4) (j2 x9 ((aI++[10])++y7) cY))))else(match idx x9 cY with|O=>O|J y8=>(gd (A3 (Aab aI+Aab y8) 4) (j2 x9 (aI++y8) cY))))else(k2 x9 aI cY z1)
def B3f(nn:Nat)(a0:Gp):Gq:=gd (okR [.bool] (B27 a0)) (let z1:=(lB (gL (B27 a0) 0));bif(!z1)then(J (.tup [.str [],.int .i64 60]))else(gd (okR [.sl .rs (J 1)] (ZG a0)) (WU nn a0 nn (B1r (gL (ZG a0) 0)) [] 0 (λz2 z3 z4 z5=>gd (okR [.sl .rs O] (ZI z3)) (WV nn a0 nn (B1r (gL (ZI z3) 0)) [] 0 (λz6 z7 z8 z9=>gd (okR [.str,.bool] (LL z7)) (J (.tup [.str (lS (gL (LL z7) 0)),.int .i64 0]))))))))
def WW(a0:Gp):Gq:=B3f NN a0
def B4D:KY
 |[.sl .i32 a0 O]=>pR [.str,.int .i64] (WW a0)
 |_=>O
def ZJ(a0:Int):Gq:=gd (okR [.bool] (NK a0)) (bif(lB (gL (NK a0) 0))==Z then(bif(a0 !=34)==Z then(bif(a0 !=92)==Z then(bif(a0 !=10)==Z then(J (.one (.bool (a0 !=13))))else(J (.one (.bool V))))else(J (.one (.bool V))))else(J (.one (.bool V))))else(J (.one (.bool V))))
def WX{R:Type}(nn:Nat)(a0:Int):Nat->(rg)->(rg)->Int->(Int->Option R)->((rg)->(rg)->Int->Bool->Option R)->Option R
 |0,_,_,_,_,_=>O
 |n+1,x3,x4,x5,k1,k3=>let k2:=λx3 x4 x5=>WX nn a0 n x3 x4 x5 k1 k3;let z1:=decide (x5<(Aab x3:Int));bif z1 then(match idx x3 x5 with|O=>O|J y2=>(let z3:=(Aaa .i32 (Aam y2:Int))==a0;bif z3 then(match idx x4 x5 with|O=>O|J y4=>(k1 (Aaa .i32 (Aam y4:Int))))else(k2 x3 x4 (Aaa .i64 (x5+1)))))else(k3 x3 x4 x5 z1)
def B7E(nn:Nat)(a0:Int):Gq:=WX nn a0 nn [34,92,47,98,102,110,114,116] [34,92,47,8,12,10,13,9] 0 (λz1=>J (.one (.int .i32 z1))) (λz2 z3 z4 z5=>J (.one (.int .i32 (-1))))
def B1w(a0:Int):Gq:=B7E NN a0
def WY{R:Type}(nn:Nat)(a0:Int):Nat->(rg)->(rg)->Int->(Int->Option R)->((rg)->(rg)->Int->Bool->Option R)->Option R
 |0,_,_,_,_,_=>O
 |n+1,x3,x4,x5,k1,k3=>let k2:=λx3 x4 x5=>WY nn a0 n x3 x4 x5 k1 k3;let z1:=decide (x5<16);bif z1 then(let j2:(rg)->(rg)->Int->Bool->Option R:=λz3 z4 z5 z6=>k2 z3 z4 (Aaa .i64 (z5+1));match idx x3 x5 with|O=>O|J y7=>(bif((Aaa .i32 (Aam y7:Int))==a0)==V then(match idx x4 x5 with|O=>O|J y8=>(let z9:=(Aaa .i32 (Aam y8:Int))==a0;bif z9 then(k1 x5)else(j2 x3 x4 x5 z9)))else(k1 x5)))else(k3 x3 x4 x5 z1)
def B7V(nn:Nat)(a0:Int):Gq:=WY nn a0 nn [48,49,50,51,52,53,54,55,56,57,97,98,99,100,101,102] [48,49,50,51,52,53,54,55,56,57,65,66,67,68,69,70] 0 (λz1=>J (.one (.int .i64 z1))) (λz2 z3 z4 z5=>J (.one (.int .i64 (-1))))
def B07(a0:Int):Gq:=B7V NN a0
def Tb{R:Type}(nn:Nat)(a0:Gp)(a1:Int):Nat->Int->Int->Option R->(Int->Int->Bool->Option R)->Option R
 |0,_,_,_,_=>O
 |n+1,x5,x6,k1,k3=>let k2:=λx5 x6=>Tb nn a0 a1 n x5 x6 k1 k3;let z1:=decide (x6<(Aaa .i64 (a1+6)));bif z1 then(match idx a0 x6 with|O=>O|J y2=>(gd (okR [.int .i64] (B07 y2)) (let z3:=(lI (gL (B07 y2) 0));let z4:=decide (z3<0);bif z4 then k1 else(k2 (Aaa .i32 ((Aaa .i32 (x5*16))+(Aaa .i32 z3))) (Aaa .i64 (x6+1))))))else(k3 x5 x6 z1)
def B16(nn:Nat)(a0:Gp)(a1:Int):Gq:=let j1:Bool->Gq:=λz2=>Tb nn a0 a1 nn 0 (Aaa .i64 (a1+2)) (J (.one (.int .i32 (-1)))) (λz3 z4 z5=>J (.one (.int .i32 z3)));bif(decide ((Aaa .i64 (a1+6))>(Aab a0:Int)))==V then(match idx a0 a1 with|O=>O|J y6=>(bif(y6 !=92)==V then(match idx a0 (Aaa .i64 (a1+1))with|O=>O|J y7=>(bif(y7 !=117)then(J (.one (.int .i32 (-1))))else(j1 (y7 !=117))))else(J (.one (.int .i32 (-1))))))else(J (.one (.int .i32 (-1))))
def Tc(a0:Gp)(a1:Int):Gq:=B16 NN a0 a1
def Td(a0 a1:Int):Gq:=let j1:Gq:=J (.tup [.int .i32 (Aaa .i32 ((Aaa .i32 (65536+(Aaa .i32 ((Aaa .i32 (a0 - 55296))*1024))))+(Aaa .i32 (a1 - 56320)))),.bool Z]);bif(decide (a0<55296))==V then(bif(decide (a0>56319))==V then(bif(decide (a1<56320))==V then(bif(decide (a1>57343))then(J (.tup [.int .i32 0,.bool V]))else j1)else(J (.tup [.int .i32 0,.bool V])))else(J (.tup [.int .i32 0,.bool V])))else(J (.tup [.int .i32 0,.bool V]))
def WZ(a0:Gp)(a1:Int):Gq:=match idx a0 a1 with|O=>O|J y1=>(gd (okR [.bool] (ZJ y1)) (bif(lB (gL (ZJ y1) 0))then(match idx a0 a1 with|O=>O|J y2=>(J (.tup [.int .i32 y2,.int .i64 1])))else(let j3:Gq:=match idx a0 (Aaa .i64 (a1+1))with|O=>O|J y4=>(gd (okR [.int .i32] (B1w y4)) (let z5:=(lI (gL (B1w y4) 0));bif(decide (z5>=0))then(J (.tup [.int .i32 z5,.int .i64 2]))else(gd (okR [.int .i32] (Tc a0 a1)) (let z6:=(lI (gL (Tc a0 a1) 0));let j7:Int->Gq:=λz8=>J (.tup [.int .i32 z8,.int .i64 6]);bif(decide (z6<0))==V then(bif(decide (z6>=56320))==Z then(bif(decide (z6<=57343))then(J (.tup [.int .i32 0,.int .i64 0]))else(bif(decide (z6>=55296))==Z then(bif(decide (z6<=56319))then(let cF:=Tc a0 (Aaa .i64 (a1+6));gd (okR [.int .i32] cF) (let z9:=(lI (gL cF 0));gd (okR [.int .i32,.bool] (Td z6 z9)) (bif(!(lB (gL (Td z6 z9) 1)))then(J (.tup [.int .i32 0,.int .i64 0]))else(J (.tup [.int .i32 (lI (gL (Td z6 z9) 0)),.int .i64 12])))))else(j7 z6))else(j7 z6)))else(bif(decide (z6>=55296))==Z then(bif(decide (z6<=56319))then(let cg:=Tc a0 (Aaa .i64 (a1+6));gd (okR [.int .i32] cg) (let bY:=(lI (gL cg 0));let cP:=Td z6 bY;gd (okR [.int .i32,.bool] cP) (bif(!(lB (gL cP 1)))then(J (.tup [.int .i32 0,.int .i64 0]))else(J (.tup [.int .i32 (lI (gL cP 0)),.int .i64 12])))))else(j7 z6))else(j7 z6)))else(J (.tup [.int .i32 0,.int .i64 0]))))));match idx a0 a1 with|O=>O|J uy=>(bif(uy !=92)==V then(bif(decide ((Aaa .i64 (a1+1))>=(Aab a0:Int)))then(J (.tup [.int .i32 0,.int .i64 0]))else j3)else(J (.tup [.int .i32 0,.int .i64 0]))))))
def Wa{R:Type}(nn:Nat)(a0:Gp):Nat->Gp->Int->Option R->(Gp->Int->Bool->Option R)->Option R
 |0,_,_,_,_=>O
 |n+1,x4,x5,k1,k3=>let k2:=λx4 x5=>Wa nn a0 n x4 x5 k1 k3;let z1:=decide (x5<(Aab a0:Int));bif z1 then(gd (okR [.int .i32,.int .i64] (WZ a0 x5)) (let z2:=(lI (gL (WZ a0 x5) 1));bif(z2==0)then k1 else(gd (A3 (Aab x4+1) 4) (k2 (x4++[(lI (gL (WZ a0 x5) 0))]) (Aaa .i64 (x5+z2))))))else(k3 x4 x5 z1)
def B6f(nn:Nat)(a0:Gp):Gq:=Wa nn a0 nn [] 0 (J (.tup [.str [],.int .i64 60])) (λz1 z2 z3=>gd (okR [.str,.bool] (LL z1)) (J (.tup [.str (lS (gL (LL z1) 0)),.int .i64 0])))
def ZK(a0:Gp):Gq:=B6f NN a0
def B5O:KY
 |[.sl .i32 a0 O]=>pR [.str,.int .i64] (ZK a0)
 |_=>O
def D1x:Env Ty6 A2:=mkE [(210,ZD),(211,B8r),(212,B4D),(213,B8j),(214,B5O)] [] noD 60 [] 0 [] []
def ML(a0:Gp)(a1:Int):Gq:=let r5:=Of a0 a1 34;gd (okR [.bool] r5) (bif(lB (gL r5 0))then(gd (okR [.int .i64] (TU a0 a1)) (let z1:=(lI (gL (TU a0 a1) 0));bif(z1==a1)then(J (.tup [.int .i64 a1,.int .i64 1,.str []]))else(match sub a0 (Aaa .i64 (a1+3)) (Aaa .i64 (z1 - 3))with|O=>O|J y2=>(gd (okR [.str,.int .i64] (WW y2)) (bif((lI (gL (WW y2) 1)) !=0)then(J (.tup [.int .i64 a1,.int .i64 1,.str []]))else(J (.tup [.int .i64 z1,.int .i64 7,.str (lS (gL (WW y2) 0))])))))))else(gd (okR [.int .i64] (TV a0 a1)) (let z3:=(lI (gL (TV a0 a1) 0));bif(z3==a1)then(J (.tup [.int .i64 a1,.int .i64 1,.str []]))else(match sub a0 (Aaa .i64 (a1+1)) (Aaa .i64 (z3 - 1))with|O=>O|J y4=>(gd (okR [.str,.int .i64] (ZK y4)) (bif((lI (gL (ZK y4) 1)) !=0)then(J (.tup [.int .i64 a1,.int .i64 1,.str []]))else(J (.tup [.int .i64 z3,.int .i64 6,.str (lS (gL (ZK y4) 0))]))))))))
def B5X:KY
 |[.sl .i32 a0 O,.int .i64 a1]=>pR [.int .i64,.int .i64,.str] (ML a0 a1)
 |_=>O
def C06:Env Ty6 A2:=mkE [(210,ZD)] [] (lkR [(0,4,1),(3,7,3),(4,11,2),(4,21,1),(5,10,1),(5,13,8),(6,0,2),(6,5,2),(6,21,3),(7,0,1),(7,5,2),(7,10,1),(7,24,2),(8,1,1),(8,26,3),(9,1,1),(9,26,1),(9,29,1)]) 30 [] 0 [] []
def Wb{R:Type}(nn:Nat)(a0:Gp)(a1:Int):Nat->(rg)->Int->(Int->Option R)->((rg)->Int->Bool->Option R)->Option R
 |0,_,_,_,_=>O
 |n+1,x5,x6,k1,k3=>let k2:=λx5 x6=>Wb nn a0 a1 n x5 x6 k1 k3;let z1:=decide (x6<(Aab x5:Int));bif z1 then(match idx a0 a1 with|O=>O|J y2=>(match idx x5 x6 with|O=>O|J y3=>(let z4:=y2==(Aaa .i32 (Aam y3:Int));bif z4 then(k1 (Aaa .i64 (a1+1)))else(k2 x5 (Aaa .i64 (x6+1))))))else(k3 x5 x6 z1)
def D4e{R}(nn a0 a1)(K:Kt R):∀n x5 x6,Wb nn a0 a1 n x5 x6 (λx4=>K .ret ⟨[eI 4 x4],[]⟩) (λx5 x6 aI=>K (.exit 0) ⟨[eL 0 .i32 a0,eI 1 a1,eS 5 x5,eI 6 x6,eB 10 aI],[]⟩)=LP C06 nn f182 75 n ⟨[eL 0 .i32 a0,eI 1 a1,eS 5 x5,eI 6 x6],[]⟩ K:=λn=>n.rec (by intros;rfl) λn i=>by
 intros;rw[Wb];simp only[i];kernel_rfl
def Wc(nn:Nat)(a0:Gp)(a1:Int):Gq:=Wb nn a0 a1 nn [33,36,38,40,41,58,61,64,91,93,123,124,125] 0 (λz1=>J (.one (.int .i64 z1))) (λz2 z3 z4=>let r6:=Of a0 a1 46;gd (okR [.bool] r6) (let z5:=(lB (gL r6 0));bif z5 then(J (.one (.int .i64 (Aaa .i64 (a1+3)))))else(J (.one (.int .i64 a1)))))
def Ql(a0:Gp)(a1:Int):Gq:=Wc NN a0 a1
def B50:KY
 |[.sl .i32 a0 O,.int .i64 a1]=>pR [.int .i64] (Ql a0 a1)
 |_=>O
def D2e:Env Ty6 A2:=mkE [(177,B52),(178,B4R),(179,B8t),(180,B6o),(181,B5X),(182,B50)] [] noD 63 [] 0 [] []
def Te(a0:Gp)(a1:Int):Gq:=match idx a0 a1 with|O=>O|J y1=>(bif(y1==(-2))then(J (.tup [.int .i64 a1,.int .i64 0,.str []]))else(match idx a0 a1 with|O=>O|J y2=>(gd (okR [.bool] (Yz y2)) (bif(lB (gL (Yz y2) 0))then(gd (okR [.int .i64] (TQ a0 a1)) (J (.tup [.int .i64 (lI (gL (TQ a0 a1) 0)),.int .i64 3,.str []])))else(let j3:Gq:=match idx a0 a1 with|O=>O|J y4=>(bif(y4==34)then(gd (okR [.int .i64,.int .i64,.str] (ML a0 a1)) (J (.tup [.int .i64 (lI (gL (ML a0 a1) 0)),.int .i64 (lI (gL (ML a0 a1) 1)),.str (lS (gL (ML a0 a1) 2))])))else(gd (okR [.int .i64] (Ql a0 a1)) (let z5:=(lI (gL (Ql a0 a1) 0));bif(decide (z5>a1))then(J (.tup [.int .i64 z5,.int .i64 2,.str []]))else(J (.tup [.int .i64 a1,.int .i64 1,.str []])))));match idx a0 a1 with|O=>O|J y6=>(gd (okR [.bool] (ZB y6)) (bif(lB (gL (ZB y6) 0))==V then(match idx a0 a1 with|O=>O|J y7=>(bif(y7==45)then(gd (okR [.int .i64,.int .i64] (NL a0 a1)) (J (.tup [.int .i64 (lI (gL (NL a0 a1) 0)),.int .i64 (lI (gL (NL a0 a1) 1)),.str []])))else j3))else(bif Z then(gd (okR [.int .i64,.int .i64] (NL a0 a1)) (J (.tup [.int .i64 (lI (gL (NL a0 a1) 0)),.int .i64 (lI (gL (NL a0 a1) 1)),.str []])))else j3))))))))
def B77:KY
 |[.sl .i32 a0 O,.int .i64 a1]=>pR [.int .i64,.int .i64,.str] (Te a0 a1)
 |_=>O
def D2f:Env Ty6 A2:=mkE [(175,B0O)] [] noD 56 [] 0 [] []
def B1e:KY
 |[.int .i32 a0]=>pR [.sl .u8 (J 1)] (Qk a0)
 |_=>O
def C0w:Env Ty6 A2:=mkE [(172,B1e)] [] (lkR [(0,2,2),(3,7,3),(4,11,2),(5,10,1),(5,13,5),(6,18,2),(7,0,1),(7,4,3),(7,20,1),(8,6,1),(8,20,4),(9,0,1),(9,4,2),(9,10,1),(9,24,2)]) 26 [] 0 [] []
def D3d{R}(nn a0)(K:Kt R):∀n x4 x5,WI nn a0 n x4 x5 (K .ret ⟨[eS 2 [],eB 3 V],[]⟩) (λx4 x5 aI=>K (.exit 0) ⟨[eL 0 .i32 a0,eO 4 .u8 x4 104,eI 5 x5,eB 10 aI],[104]⟩)=LP C0w nn f125 75 n ⟨[eL 0 .i32 a0,eO 4 .u8 x4 104,eI 5 x5],[104]⟩ K:=λn=>n.rec (by intros;rfl) λn i=>by
 intros;rw[WI];simp only[i];kernel_rfl
end Go.Aev
namespace Go.Aev
section
variable {R:Type}{P:Option R->Prop}{s:Gp}{M:Nat}
def B3n(hs:Stp s M){i:Nat}(hi:i<=M){c:Int}(hc:0<=c):∃b,Of s (i:Int) c=J (.one (.bool b))/\(b=Z->i+3<=M):=by
 let P:Gq->Prop:=λo=>∃b,o=J (.one (.bool b))/\(b=Z->i+3<=M)
 show P (Of s (i:Int) c);have aw:=hs.sz;obtain⟨y,hy,hp,hn⟩:=hs.at hi;have w1:Aaa .i64 ((i:Int)+1)=((i+1:Nat):Int):=U0 (k:=1) FK;have w2:Aaa .i64 ((i:Int)+2)=((i+2:Nat):Int):=U0 (k:=2) FK;have no:P (J (.one (.bool V))):=⟨V,rfl,λh=>by cases h⟩;simp only[Of,gd,kC,kP,kO,w1,w2,B1,hy];refine A7 (P:=P) (λh1=>?_) (λ_=>no);have aA:i+2<s.length:=by
  have:=GK (beqTn.mp h1);omega
 have g1:s[i+1]?=J s[i+1]:=GE FK;have g2:s[i+2]?=J s[i+2]:=GE aA;generalize s[i+1]=y1 at*;generalize s[i+2]=y2 at*;simp only[g1,g2];refine A7 (P:=P) (λh2=>?_) (λ_=>no);refine A7 (P:=P) (λh3=>?_) (λ_=>no);refine⟨_,rfl,λh4=>?_⟩;have e0:y=c:=by simpa using h2
 have e1:y1=c:=by simpa using h3
 have e2:y2=c:=by simpa using h4
 have k0:=hp FK;obtain⟨z1,q1,q2,_⟩:=hs.at (i:=i+1) FK;rw[g1]at q1;cases q1;have k1:=q2 FK;obtain⟨z2,q3,q4,_⟩:=hs.at (i:=i+2) FK;rw[g2]at q3;cases q3;have k2:=q4 FK;omega
def B7N{nn:Nat}{a1:Int}{k2:Int->Option R}{k3:Int->Bool->Option R}(hs:Stp s M)(i0:Nat)(h2:∀j:Nat,i0+3<=j->j<=M->P (k2 (j:Int)))(h3:∀j b,P (k3 j b)):
  ∀(n i:Nat),i<=M->M<n+i->i0<=i->P (TT nn s a1 n (i:Int) k2 k3)
 |0,i,a2,a3,_=>FK
 |n+1,i,a2,a3,a4=>by
  obtain⟨y,hy,hp,hn⟩:=hs.at a2;have aw:=hs.sz;have w1:Aaa .i64 ((i:Int)+1)=((i+1:Nat):Int):=U0 (k:=1) FK;have w3:Aaa .i64 ((i:Int)+3)=((i+3:Nat):Int):=U0 (k:=3) FK;have w4:Aaa .i64 ((i:Int)+4)=((i+4:Nat):Int):=U0 (k:=4) FK;obtain⟨b,e,hb⟩:=B3n hs a2 (c:=34) GO;unfold TT;simp only[TU,ZE,gd,kC,kP,kO,B1,hy,w1,w3,w4,e,oB1,gB1,GD];refine A7 (P:=P) (λhc=>?_) (λ_=>h3 _ _);have aE:=hp (GK hc);obtain⟨b',e',bC⟩:=B3n hs (i:=i+1) FK (c:=34) GO;simp only[e',oB1,gB1,GD];have next:P (TT nn s a1 n ((i+1:Nat):Int) k2 k3):=B7N hs i0 h2 h3 n (i+1) FK FK FK;refine A7 (P:=P) (λhc=>?_) (λhc=>?_);refine A7 (P:=P) (λhc=>?_) (λhc=>?_);have:=bC hc;exact B7N hs i0 h2 h3 n (i+4) FK FK FK;refine A7 (P:=P) (λhc=>?_) (λhc=>next);exact h2 (i+3) FK (hb hc);simp only[GF];refine A7 (P:=P) (λhc=>?_) (λhc=>next);exact h2 (i+3) FK (hb hc)
def C69(hs:Stp s M){i:Nat}(hi:i+3<=M):∃j:Nat,TU s (i:Int)=J (.one (.int .i64 (j:Int)))/\(j=i\/(i+6<=j/\j<=M)):=by
 let P:Gq->Prop:=λo=>∃j:Nat,o=J (.one (.int .i64 (j:Int)))/\(j=i\/(i+6<=j/\j<=M))
 show P (TU s (i:Int));have aw:=hs.sz;have w3:Aaa .i64 ((i:Int)+3)=((i+3:Nat):Int):=U0 (k:=3) FK;simp only[TU,ZE,gd,kC,kP,kO,w3];exact B7N (P:=P) hs (i+3) (λj h1 h2=>⟨j,rfl,.inr ⟨FK,h2⟩⟩) (λj b=>⟨i,rfl,.inl rfl⟩) NN (i+3) hi (by rw[NNv];omega) (GU _)
def B7x{nn:Nat}{a1:Int}{k1:Int->Option R}{k3:Int->Bool->Option R}(hs:Stp s M)(i0:Nat)(h0:P (k1 a1))(h1:∀j:Nat,i0+1<=j->j<=M->P (k1 (j:Int)))(h3:∀j b,P (k3 j b)):
  ∀(n i:Nat),i<=M->M<n+i->i0<=i->P (Qj nn s a1 n (i:Int) k1 k3)
 |0,i,a2,a3,_=>FK
 |n+1,i,a2,a3,a4=>by
  obtain⟨y,hy,hp,hn⟩:=hs.at a2;have aw:=hs.sz;have w1:Aaa .i64 ((i:Int)+1)=((i+1:Nat):Int):=U0 (k:=1) FK;unfold Qj;simp only[TV,ZF,gd,kC,kP,kO,B1,hy,w1];refine A7 (P:=P) (λhc=>?_) (λ_=>h3 _ _);have aE:=hp (GK (beqTn.mp hc));obtain⟨y',iM,wh,AP⟩:=hs.at (i:=i+1) FK;have w2:Aaa .i64 (((i+1:Nat):Int)+1)=((i+1+1:Nat):Int):=U0 (k:=1) FK;simp only[iM,w2];have next:P (Qj nn s a1 n ((i+1:Nat):Int) k1 k3):=B7x hs i0 h0 h1 h3 n (i+1) FK FK FK;refine A7 (P:=P) (λhc=>?_) (λ_=>h3 _ _);refine A7 (P:=P) (λhc=>?_) (λ_=>h3 _ _);refine A7 (P:=P) (λhc=>?_) (λhc=>?_);exact h1 (i+1) FK FK;refine A7 (P:=P) (λhc=>?_) (λhc=>next);refine A7 (P:=P) (λhc=>?_) (λhc=>?_);have DF:¬y'<0:=λh=>by rw[GG h]at hc;cases hc
  have qH:=wh FK;have uB:P (Qj nn s a1 n ((i+1+1:Nat):Int) k1 k3):=B7x hs i0 h0 h1 h3 n (i+2) FK FK FK;refine A7 (P:=P) (λhc=>?_) (λhc=>?_);exact A7 (P:=P) (λ_=>h0) (λ_=>uB);simp only[GD];exact h0;simp only[GD];exact h0
def D33(hs:Stp s M){i:Nat}(hi:i<M):∃j:Nat,TV s (i:Int)=J (.one (.int .i64 (j:Int)))/\(j=i\/(i+2<=j/\j<=M)):=by
 let P:Gq->Prop:=λo=>∃j:Nat,o=J (.one (.int .i64 (j:Int)))/\(j=i\/(i+2<=j/\j<=M))
 show P (TV s (i:Int));have aw:=hs.sz;have w1:Aaa .i64 ((i:Int)+1)=((i+1:Nat):Int):=U0 (k:=1) FK;simp only[TV,ZF,gd,kC,kP,kO,w1];exact B7x (P:=P) hs (i+1) ⟨i,rfl,.inl rfl⟩ (λj h1 h2=>⟨j,rfl,.inr ⟨FK,h2⟩⟩) (λj b=>⟨i,rfl,.inl rfl⟩) NN (i+1) FK (by rw[NNv];omega) (GU _)
def C5C{nn:Nat}{i:Nat}{t:rg}{k1:Int->Option R}{k3:(rg)->Int->Bool->Option R}{y:Int}(hs:t.length<=1000)(hy:s[i]?=J y)(hi:i<=1048576)(h1:0<=y->P (k1 ((i+1:Nat):Int)))(h3:∀j b,P (k3 t j b)):
  ∀(n x:Nat),x<=t.length->t.length<n+x->P (Wb nn s (i:Int) n t (x:Int) k1 k3)
 |0,x,a2,a3=>FK
 |n+1,x,a2,a3=>by
  unfold Wb;have w1:Aaa .i64 ((i:Int)+1)=((i+1:Nat):Int):=U0 (k:=1) FK;by_cases hx:x<t.length;have fa:t[x]?=J t[x]:=GE hx;generalize t[x]=z at*;have aE:decide ((x:Int)<(t.length:Int))=Z:=GG FK;have hz:=z.toNat_lt;have hw:Aaa .i32 ((z.toNat:Nat):Int)=((z.toNat:Nat):Int):=B9L FK FK;simp only[Ql,Wc,gd,kC,kP,kO,aE,GD,B1,fa,hy,hw,w1,E7 (i:=x) FK];refine A7 (P:=P) (λhc=>?_) (λhc=>?_);have:y=((z.toNat:Nat):Int):=by simpa using hc
  exact h1 FK;exact C5C hs hy hi h1 h3 n (x+1) FK FK;have aE:decide ((x:Int)<(t.length:Int))=V:=GH FK;simp only[Ql,Wc,gd,kC,kP,kO,aE,GF];exact h3 _ _
def D2U(hs:Stp s M){i:Nat}(hi:i<=M):∃j:Nat,Ql s (i:Int)=J (.one (.int .i64 (j:Int)))/\i<=j/\j<=M:=by
 let P:Gq->Prop:=λo=>∃j:Nat,o=J (.one (.int .i64 (j:Int)))/\i<=j/\j<=M
 show P (Ql s (i:Int));have aw:=hs.sz;obtain⟨y,hy,hp,hn⟩:=hs.at hi;obtain⟨b,e,hb⟩:=B3n hs hi (c:=46) GO;have w3:Aaa .i64 ((i:Int)+3)=((i+3:Nat):Int):=U0 (k:=3) FK;simp only[Ql,Wc,gd,kC,kP,kO,e,oB1,gB1,GD,w3];refine C5C (P:=P) GO hy FK (λh=>⟨i+1,rfl,FK,by have:=hp h;omega⟩) (λj b'=>?_) NN 0 FK (by rw[NNv];decide);refine A7 (P:=P) (λhc=>?_) (λhc=>?_);exact⟨i+3,rfl,FK,hb hc⟩;exact⟨i,rfl,FK,FK⟩
end
def bT:(Z==Z)=Z:=rfl
def bF:(V==Z)=V:=rfl
def O1{n:Nat}(h:n<=1099511627776):A3 n 4=Z:=by unfold A3;exact GG FK
def ZL{n:Nat}(h:n<=1099511627776):A3 n 24=Z:=by unfold A3;exact GG FK
def wK{i k:Nat}(h:i+k<=4611686018427387904):Aaa .i64 ((i:Int)+(k:Int))=((i+k:Nat):Int):=by
 rw[P0 FK FK];omega
def wk1{i:Nat}(h:i<=1099511627776):Aaa .i64 ((i:Int)+1)=((i+1:Nat):Int):=wK (k:=1) FK
def wk2{i:Nat}(h:i<=1099511627776):Aaa .i64 ((i:Int)+2)=((i+2:Nat):Int):=wK (k:=2) FK
def wk3{i:Nat}(h:i<=1099511627776):Aaa .i64 ((i:Int)+3)=((i+3:Nat):Int):=wK (k:=3) FK
def wk4{i:Nat}(h:i<=1099511627776):Aaa .i64 ((i:Int)+4)=((i+4:Nat):Int):=wK (k:=4) FK
def wk6{i:Nat}(h:i<=1099511627776):Aaa .i64 ((i:Int)+6)=((i+6:Nat):Int):=wK (k:=6) FK
def E3{α:Type}{l:List α}{i:Nat}(h:i<l.length):∃y,l[i]?=J y/\y∈l:=⟨l[i],GE h,IG h⟩
def Tf{s:Gp}{a b:Nat}(h1:a<=b)(h2:b<=s.length):∃l,sub s (a:Int) (b:Int)=J l/\l.length=b - a:=by
 unfold sub;rw[GG FK,GG FK,GG FK];refine⟨_,rfl,?_⟩;simp only[Jh,IK,IR];omega
def beqT{b:Bool}:((b==Z)=Z)=(b=Z):=by cases b<;>simp
def C4c(l:Gp):okR [.sl .i64 (J 1)] (J (.one (.sl .i64 l (J 1))):Gq)=Z:=rfl
def B9A(l:Gp):Mn (gL (J (.one (.sl .i64 l (J 1))):Gq) 0)=l:=rfl
def D5b(c:Int):∃b,ZH c=J (.one (.bool b)):=by
 unfold ZH;cases ((c==9)==V)<;>exact⟨_,rfl⟩
def C6b(c:Int):∃b,ZJ c=J (.one (.bool b)):=by
 let P:Gq->Prop:=λo=>∃b,o=J (.one (.bool b))
 obtain⟨b,e⟩:=B5C c;show P _;simp only[ZJ,gd,e,oB1,gB1,GD]
 repeat' first|exact⟨_,rfl⟩|refine A7 (P:=P) (λ_=>?_) λ_=>?_
def D4E(a b:Int):∃x t,Td a b=J (.tup [.int .i32 x,.bool t]):=by
 let P:Gq->Prop:=λo=>∃x t,o=J (.tup [.int .i32 x,.bool t])
 show P _;unfold Td
 repeat' first|exact⟨_,_,rfl⟩|refine A7 (P:=P) (λ_=>?_) λ_=>?_
section
variable {R:Type}{P:Option R->Prop}
def C2u{nn:Nat}{l:Gp}{k2:Int->Bool->Option R}(hs:l.length<=1099511627776)(h2:∀(j:Nat) b,j<=l.length->P (k2 (j:Int) b)):∀(n i:Nat),i<=l.length->l.length<n+i->P (WN nn l n (i:Int) k2)
 |0,i,a1,a2=>FK
 |n+1,i,a1,a2=>by
  unfold WN;by_cases hi:i<l.length;obtain⟨y,hy,_⟩:=E3 hi;obtain⟨b,e⟩:=D5b y;simp only[gd,GG (FK:(i:Int)<(l.length:Int)),bT,GD,B1,hy,e,oB1,gB1,E7 (i:=i) FK];exact A7 (P:=P) (λ_=>C2u hs h2 n (i+1) FK FK) λ_=>h2 i _ a1
  simp only[gd,GH (FK:¬(i:Int)<(l.length:Int)),bF,GF];exact h2 i _ a1
end
def B9w{l:Gp}(hs:l.length<=1099511627776):∃j:Nat,WO l=J (.one (.int .i64 (j:Int)))/\j<=l.length:=by
 let P:Gq->Prop:=λo=>∃j:Nat,o=J (.one (.int .i64 (j:Int)))/\j<=l.length
 exact C2u (P:=P) hs (λj b h=>⟨j,rfl,h⟩) NN 0 FK (by rw[NNv];omega)
def B9s{l:Gp}(hs:l.length<=1099511627776):∃b,Ta l=J (.one (.bool b)):=by
 obtain⟨j,e,_⟩:=B9w hs;simp only[Ta,gd,e,oI,gI,GD];exact⟨_,rfl⟩
def B9e{l:Gp}(hs:l.length<=1099511627776){i:Nat}(hi:i<=l.length):∃b,TY l (i:Int)=J (.one (.bool b))/\(b=Z->i+3<l.length):=by
 let P:Gq->Prop:=λo=>∃b,o=J (.one (.bool b))/\(b=Z->i+3<l.length)
 show P _;have no:P (J (.one (.bool V))):=⟨V,rfl,λh=>by cases h⟩;simp only[TY,wk3 (i:=i) FK,wk2 (i:=i) FK,wk1 (i:=i) FK,B1];by_cases h:i+3<l.length
 ·obtain⟨y,h0,_⟩:=E3 (l:=l) (i:=i) FK;obtain⟨y1,h1,_⟩:=E3 (l:=l) (i:=i+1) FK;obtain⟨y2,h2,_⟩:=E3 (l:=l) (i:=i+2) FK;obtain⟨y3,h3,_⟩:=E3 h;simp only[h0,h1,h2,h3]
  repeat' first|exact no|exact⟨_,rfl,λ_=>h⟩|refine A7 (P:=P) (λ_=>?_) λ_=>?_
 rw[GH (FK:¬((i+3:Nat):Int)<(l.length:Int))];exact no
section
variable {R:Type}{P:Option R->Prop}
def B94{nn:Nat}{l:List Gp}{k2:Int->Int->Bool->Option R}(hs:l.length<=1099511627776)(hl:∀x∈l,x.length<=1099511627776)(h2:∀m j b, -1<=m->P (k2 m j b)):∀(n i:Nat)(m:Int), -1<=m->l.length+1<n+i->i<=l.length+1->P (WP nn l n m (i:Int) k2)
 |0,i,m,_,a2,a3=>FK
 |n+1,i,m,a1,a2,a3=>by
  unfold WP;by_cases hi:i<l.length
  ·obtain⟨y,hy,hm⟩:=E3 hi;obtain⟨j,e,_⟩:=B9w (hl y hm);simp only[gd,GG (FK:(i:Int)<(l.length:Int)),bT,GD,B1,hy,e,oI,gI,E7 (i:=i) FK]
   repeat' first|exact B94 hs hl h2 n (i+1) _ FK FK FK|refine A7 (P:=P) (λ_=>?_) λ_=>?_
  simp only[gd,GH (FK:¬(i:Int)<(l.length:Int)),GF];exact h2 _ _ _ a1
end
def C6E{l:List Gp}(hs:l.length<=1099511627776)(hl:∀x∈l,x.length<=1099511627776):∃m:Nat,B2z l=J (.one (.int .i64 (m:Int))):=by
 let P:Gq->Prop:=λo=>∃m:Nat,o=J (.one (.int .i64 (m:Int)))
 refine B94 (P:=P) hs hl (λm j b hm=>?_) NN 1 (-1) FK (by rw[NNv];omega) FK;by_cases h:m<0;simp only[GG h,GD];exact⟨0,rfl⟩;simp only[GH h,GF];exact⟨m.toNat,by rw[Int.toNat_of_nonneg FK]⟩
def tl(x:List Gp):Nat:=(x.map Aab).sum
def Qm(x y:List Gp):tl (x++y)=tl x+tl y:=by simp[tl]
def Wd(y:Gp):tl [y]=y.length:=by simp[tl]
def ZM{y:Gp}:∀{x:List Gp},y∈x->y.length<=tl x
 |z::r,h=>by
  rw[show tl (z::r)=z.length+tl r by simp[tl]];rcases HC.1 h with rfl|h;omega;have:=ZM h;omega
def oRS(l:List Gp):okR [.sl .rs (J 1)] (J (.one (.sl .rs l (J 1))):Gq)=Z:=rfl
def gRS(l:List Gp)(o:GA):B1r (gL (J (.one (.sl .rs l o)):Gq) 0)=l:=rfl
def oRN(l:List Gp):okR [.sl .rs O] (J (.one (.sl .rs l O)):Gq)=Z:=rfl
section
variable {R:Type}{P:Option R->Prop}
def C1L{nn:Nat}{l:Gp}{k2:List Gp->Gp->Int->Bool->Option R}(hs:l.length<=1048576){ns:Gv}(hp:ns.Pairwise (· < ·))(hm:∀e∈ns,e<=l.length)(hn:ns.length<=1048577)
  (h2:∀x b,x.length=ns.length->tl x<=l.length->P (k2 x (ns.map λ(n:Nat)=>(n:Int)) (ns.length:Int) b)):
  ∀(n i:Nat)(x:List Gp),i<=ns.length->ns.length<n+i->x.length=i->(∀e,ns[i]?=J e->tl x<=e)->tl x<=l.length->P (TX nn l n x (ns.map λ(n:Nat)=>(n:Int)) (i:Int) k2)
 |0,i,x,a1,a2,a3,a4,a5=>FK
 |n+1,i,x,a1,a2,a3,a4,a5=>by
  unfold TX;by_cases hi:i<ns.length;obtain⟨e,he,DG⟩:=E3 hi;have DH:=hm e DG;have cO:=a4 e he;have gi:(ns.map λ(n:Nat)=>(n:Int))[i]?=J (e:Int):=by rw[HG,he];rfl
  have hj:∀en:Nat,e<=en->en<=l.length->(∀f,ns[i+1]?=J f->en<=f)->P (bif decide (0<=Aaa .i64 ((en:Int) - (e:Int)))&&A3 (Abv (Aaa .i64 ((en:Int) - (e:Int)))) 4 then(match sub l (e:Int) (en:Int)with|O=>O|J y=>bif A3 (0+y.length) 4 then(bif A3 (x.length+1) 24 then TX nn l n (x++[[]++y]) (ns.map λ(n:Nat)=>(n:Int)) ((i+1:Nat):Int) k2 else O)else O)else O):=λen b1 b2 b3=>by
   obtain⟨y,hy,gw⟩:=Tf (s:=l) b1 b2;rw[P0 FK FK,GG (FK:(0:Int)<=(en:Int) - (e:Int)),O1 FK,hy];simp only[Jw,GD,O1 (n:=0+y.length) FK,ZL (n:=x.length+1) FK];have ht:tl (x++[[]++y])=tl x+y.length:=by rw[Qm,Wd];rfl
   exact C1L hs hp hm hn h2 n (i+1) _ FK FK (by simp[a3]) (λf hf=>by have:=b3 f hf;omega) FK
  by_cases cL:i+1<ns.length;obtain⟨f,hf,DI⟩:=E3 cL;have eK:=hm f DI;have FT:e<f:=by
   have:=Ju.1 hp i (i+1) hi cL FK;rw[GE hi]at he;rw[GE cL]at hf;cases he;cases hf;exact this
  have DJ:(ns.map λ(n:Nat)=>(n:Int))[i+1]?=J (f:Int):=by rw[HG,hf];rfl
  have w1:Aaa .i64 ((f:Int) - 1)=((f - 1:Nat):Int):=by rw[P0 FK FK];omega
  obtain⟨y,hy,_⟩:=E3 (l:=l) (i:=f - 1) FK;have k1:=hj (f - 1) FK FK (λg hg=>by rw[hf]at hg;cases hg;omega);simp only[gd,GG (by rw[HR];omega:(i:Int)<((ns.map λ(n:Nat)=>(n:Int)).length:Int)),E7 (i:=i) FK,GG (by rw[HR];omega:((i+1:Nat):Int)<((ns.map λ(n:Nat)=>(n:Int)).length:Int)),GD,B1,gi,DJ,w1,hy];refine A7 (P:=P) (λ_=>?_) λ_=>k1;refine A7 (P:=P) (λh=>?_) λ_=>k1;have h3:e<f - 1:=by have:=GK (beqT.mp h);omega
  have w2:Aaa .i64 (((f - 1:Nat):Int) - 1)=((f - 2:Nat):Int):=by rw[P0 FK FK];omega
  obtain⟨z,hz,_⟩:=E3 (l:=l) (i:=f - 2) FK;simp only[w2,B1,hz];exact A7 (P:=P) (λ_=>hj (f - 2) FK FK (λg hg=>by rw[hf]at hg;cases hg;omega)) λ_=>k1
  simp only[gd,GG (by rw[HR];omega:(i:Int)<((ns.map λ(n:Nat)=>(n:Int)).length:Int)),E7 (i:=i) FK,GH (by rw[HR];omega:¬((i+1:Nat):Int)<((ns.map λ(n:Nat)=>(n:Int)).length:Int)),GD,GF,B1,gi];exact hj l.length DH (GU _) (λg hg=>by have:=LM hg;omega);have bO:i=ns.length:=FK;subst bO;simp only[gd,GH (by rw[HR];omega:¬((ns.length:Nat):Int)<((ns.map λ(n:Nat)=>(n:Int)).length:Int)),GF];exact h2 x _ a3 a5
end
def C7Z{l:Gp}(hs:l.length<=1048576):∃x,ZG l=J (.one (.sl .rs x (J 1)))/\x.length<=l.length+1/\tl x<=l.length:=by
 let P:Gq->Prop:=λo=>∃x,o=J (.one (.sl .rs x (J 1)))/\x.length<=l.length+1/\tl x<=l.length
 obtain⟨st,e,dg⟩:=B84 hs;obtain⟨ns,h1,h2,h3,h4⟩:=dg.ex;have aA:=dg.len;show P _;simp only[ZG,B1g,gd,e,C4c,B9A,GD];subst h1;rw[HR]at aA;exact C1L (P:=P) hs h3 h4 FK (λx b a1 a2=>⟨x,rfl,FK,a2⟩) NN 0 [] FK (by rw[NNv];omega) rfl (λe he=>by simp[tl]) (by simp[tl])
section
variable {R:Type}{P:Option R->Prop}
def B41{nn:Nat}{l:Gp}{k1:Option R}{k3:Int->Int->Int->Bool->Option R}(hs:l.length<=1099511627776)(h1:P k1)(h3:∀a b c d,P (k3 a b c d)):
  ∀(n i:Nat)(q c:Int),i<=l.length->l.length<n+i->P (WM nn l n q c (i:Int) k1 k3)
 |0,i,q,c,a1,a2=>FK
 |n+1,i,q,c,a1,a2=>by
  unfold WM;by_cases hi:i<l.length
  ·obtain⟨y,hy,_⟩:=E3 hi;obtain⟨b,e⟩:=B5C y;obtain⟨t,e2,ht⟩:=B9e hs a1;simp only[gd,GG (FK:(i:Int)<(l.length:Int)),GD,B1,hy,e,e2,oB1,gB1,E7 (i:=i) FK,wk4 (i:=i) FK];refine A7 (P:=P) (λ_=>h1) λ_=>A7 (P:=P) (λh=>?_) λ_=>?_
   have:=ht h;exact B41 hs h1 h3 n (i+4) _ _ FK FK
   ·repeat' first|exact h1|exact B41 hs h1 h3 n (i+1) _ _ FK FK|refine A7 (P:=P) (λ_=>?_) λ_=>?_
  simp only[gd,GH (FK:¬(i:Int)<(l.length:Int)),GF];exact h3 _ _ _ _
def B4X{nn:Nat}{l:Gp}{k2:Gp->Int->Bool->Option R}(hs:l.length<=1048576)(h2:∀x j b,x.length<=l.length->P (k2 x j b)):
  ∀(n i:Nat)(x:Gp),i<=l.length->l.length<n+i->x.length<=i->P (WS nn l n x (i:Int) k2)
 |0,i,x,a1,a2,a3=>FK
 |n+1,i,x,a1,a2,a3=>by
  unfold WS;by_cases hi:i<l.length;obtain⟨y,hy,_⟩:=E3 hi;obtain⟨t,e2,ht⟩:=B9e (l:=l) FK a1;simp only[gd,GG (FK:(i:Int)<(l.length:Int)),GD,B1,hy,e2,oB1,gB1,E7 (i:=i) FK,wk3 (i:=i+1) FK,O1 (n:=x.length+3) FK,O1 (n:=x.length+1) FK];refine A7 (P:=P) (λh=>?_) λ_=>?_
  have:=ht h;exact B4X hs h2 n (i+1+3) _ FK FK GQ;exact B4X hs h2 n (i+1) _ FK FK GQ;simp only[gd,GH (FK:¬(i:Int)<(l.length:Int)),GF];exact h2 _ _ _ FK
end
def C6Z{l:Gp}(hs:l.length<=1099511627776):∃b,B27 l=J (.one (.bool b)):=by
 let P:Gq->Prop:=λo=>∃b,o=J (.one (.bool b))
 refine B41 (P:=P) hs ⟨_,rfl⟩ (λa b c d=>?_) NN 0 0 0 FK (by rw[NNv];omega);exact A7 (P:=P) (λ_=>⟨_,rfl⟩) λ_=>⟨_,rfl⟩
def oL4(l:Gp):okR [.sl .i32 (J 1)] (J (.one (.sl .i32 l (J 1))):Gq)=Z:=rfl
def gL4(l:Gp):V5 (gL (J (.one (.sl .i32 l (J 1))):Gq) 0)=l:=rfl
def D3c{l:Gp}(hs:l.length<=1048576):∃x,B1y l=J (.one (.sl .i32 x (J 1)))/\x.length<=l.length:=by
 let P:Gq->Prop:=λo=>∃x,o=J (.one (.sl .i32 x (J 1)))/\x.length<=l.length
 exact B4X (P:=P) hs (λx j b h=>⟨x,rfl,h⟩) NN 0 [] FK (by rw[NNv];omega) GN
section
variable {R:Type}{P:Option R->Prop}
def B7J{x:List Gp}{i:Nat}{y:Gp}(h:x[i]?=J y):tl (x.take (i+1))=tl (x.take i)+y.length:=by
 have hi:=LM h;rw[GE hi]at h;cases h;rw[Jg hi,Qm,Wd]
def ZN(x:List Gp)(i:Nat):tl (x.take i)<=tl x:=by
 conv=>rhs;rw[<-KH i x,Qm]
 omega
def C3w{nn:Nat}{l:List Gp}{m:Nat}{k2:Int->List Gp->Int->Bool->Option R}(hs:l.length<=1099511627776)(hl:∀x∈l,x.length<=1048576)(h2:∀x j b,x.length=l.length->tl x<=tl l->P (k2 (m:Int) x j b)):
  ∀(n i:Nat)(x:List Gp),i<=l.length->l.length<n+i->x.length=i->tl x<=tl (l.take i)->P (TZ nn l n (m:Int) x (i:Int) k2)
 |0,i,x,a1,a2,a3,a4=>FK
 |n+1,i,x,a1,a2,a3,a4=>by
  unfold TZ;by_cases hi:i<l.length
  ·obtain⟨y,hy,DK⟩:=E3 hi;have gw:=hl y DK;have tI:=B7J hy;have hj:∀z:Gp,z.length<=y.length->P (bif A3 (0+z.length) 4 then(bif A3 (x.length+1) 24 then TZ nn l n (m:Int) (x++[[]++z]) ((i+1:Nat):Int) k2 else O)else O):=λz hz=>by
    simp only[GD,O1 (n:=0+z.length) FK,ZL (n:=x.length+1) FK];have ht:tl (x++[[]++z])=tl x+z.length:=by rw[Qm,Wd];rfl
    exact C3w hs hl h2 n (i+1) _ FK FK (by simp[a3]) FK
   simp only[gd,GG (FK:(i:Int)<(l.length:Int)),GD,B1,hy,E7 (i:=i) FK];have hc:m<=y.length->∃z,sub y (m:Int) (y.length:Int)=J z/\z.length<=y.length:=λh=>by
    obtain⟨z,h1,h3⟩:=Tf (s:=y) h (GU _);exact⟨z,h1,FK⟩
   by_cases hm:m<=y.length
   ·obtain⟨z,hz,wa⟩:=hc hm;simp only[hz]
    repeat' first|exact hj [] GN|exact hj z wa|exact hj y (GU _)|refine A7 (P:=P) (λ_=>?_) λ_=>?_
   rw[GG (FK:(y.length:Int)<=(m:Int))];by_cases h0:0<i;rw[GG (FK:(i:Int)>0)];exact hj [] GN;rw[GH (FK:¬(i:Int)>0)];exact hj y (GU _)
  have bO:i=l.length:=FK;subst bO;simp only[gd,GH (FK:¬((l.length:Nat):Int)<(l.length:Int)),GF];exact h2 x _ _ a3 (HT a4 (ZN _ _))
def C1Q{nn:Nat}{l x:List Gp}{k2:List Gp->Int->Bool->Option R}(hs:x.length<=1099511627776)(hl:∀y∈x,y.length<=1099511627776)(h2:∀(j:Nat) b,j<=x.length->P (k2 x (j:Int) b)):
  ∀(n i:Nat),i<=x.length->x.length<n+i->P (WQ nn l n x (i:Int) k2)
 |0,i,a1,a2=>FK
 |n+1,i,a1,a2=>by
  unfold WQ;by_cases hi:i<x.length;obtain⟨y,hy,hm⟩:=E3 hi;obtain⟨b,e⟩:=B9s (hl y hm);simp only[gd,GG (FK:(i:Int)<(x.length:Int)),bT,GD,B1,hy,e,oB1,gB1,E7 (i:=i) FK];exact A7 (P:=P) (λ_=>C1Q hs hl h2 n (i+1) FK FK) λ_=>h2 i _ a1
  simp only[gd,GH (FK:¬(i:Int)<(x.length:Int)),bF,GF];exact h2 i _ a1
def C2D{nn:Nat}{l x:List Gp}{f:Nat}{k2:List Gp->Int->Int->Bool->Option R}(hs:x.length<=1099511627776)(hl:∀y∈x,y.length<=1099511627776)(h2:∀(j:Nat) b,f<=j->j<=x.length->P (k2 x (f:Int) (j:Int) b)):
  ∀(n i:Nat),f<=i->i<=x.length->i<n+f->P (WR nn l n x (f:Int) (i:Int) k2)
 |0,i,a0,a1,a2=>FK
 |n+1,i,a0,a1,a2=>by
  unfold WR;by_cases hi:f<i;obtain⟨y,hy,hm⟩:=E3 (l:=x) (i:=i - 1) FK;obtain⟨b,e⟩:=B9s (hl y hm);have w1:Aaa .i64 ((i:Int) - 1)=((i - 1:Nat):Int):=by rw[P0 FK FK];omega
  simp only[gd,GG (FK:(i:Int)>(f:Int)),bT,GD,w1,B1,hy,e,oB1,gB1];exact A7 (P:=P) (λ_=>C2D hs hl h2 n (i - 1) FK FK FK) λ_=>h2 i _ a0 a1
  simp only[gd,GH (FK:¬(i:Int)>(f:Int)),bF,GF];exact h2 i _ a0 a1
end
def C5W(x:List Gp)(i:Nat):tl (x.drop i)<=tl x:=by
 conv=>rhs;rw[<-KH i x,Qm]
 omega
def D0e{x:List Gp}{a b:Nat}(h1:a<=b)(h2:b<=x.length):∃z,sub x (a:Int) (b:Int)=J z/\z.length<=x.length/\tl z<=tl x:=by
 unfold sub;rw[GG FK,GG FK,GG FK];refine⟨_,rfl,?_,?_⟩;simp only[IK,IR];omega;exact HT (ZN _ _) (C5W _ _)
def D1v{l:List Gp}(hb:tl l<=1099511627776)(hs:l.length<=1099511627776)(hl:∀x∈l,x.length<=1048576):∃z,ZI l=J (.one (.sl .rs z O))/\z.length<=l.length/\tl z<=tl l:=by
 let P:Gq->Prop:=λo=>∃z,o=J (.one (.sl .rs z O))/\z.length<=l.length/\tl z<=tl l
 obtain⟨m,e⟩:=C6E hs λx hx=>HT (hl x hx) FK;show P _;simp only[ZI,B32,gd,e,oI,gI,GD];refine C3w (P:=P) hs hl (λx j b h1 h2=>?_) NN 0 [] FK (by rw[NNv];omega) rfl (by simp[tl]);have hx:∀y∈x,y.length<=1099511627776:=λy hy=>HT (ZM hy) FK;refine C1Q (P:=P) FK hx (λf b hf=>?_) NN 0 FK (by rw[NNv];omega);refine C2D (P:=P) FK hx (λj b h3 h4=>?_) NN x.length hf (GU _) (by rw[NNv];omega);obtain⟨z,hz,h5,h6⟩:=D0e h3 h4;simp only[hz];exact⟨z,rfl,FK,FK⟩
section
variable {R:Type}{P:Option R->Prop}
def C09{nn:Nat}{l:Gp}{x:List Gp}{k2:List Gp->List Gp->Int->Bool->Option R}(hs:x.length<=1099511627776)(hl:∀y∈x,y.length<=1048576)(h2:∀z j b,z.length=x.length->tl z<=tl x->P (k2 x z j b)):
  ∀(n i:Nat)(z:List Gp),i<=x.length->x.length<n+i->z.length=i->tl z<=tl (x.take i)->P (WU nn l n x z (i:Int) k2)
 |0,i,z,a1,a2,a3,a4=>FK
 |n+1,i,z,a1,a2,a3,a4=>by
  unfold WU;by_cases hi:i<x.length;obtain⟨y,hy,hm⟩:=E3 hi;obtain⟨u,e,hu⟩:=D3c (hl y hm);have tI:=B7J hy;simp only[gd,GG (FK:(i:Int)<(x.length:Int)),GD,B1,hy,e,oL4,gL4,E7 (i:=i) FK,ZL (n:=z.length+1) FK];exact C09 hs hl h2 n (i+1) _ FK FK (by simp[a3]) (by rw[Qm,Wd];omega);have bO:i=x.length:=FK;subst bO;simp only[gd,GH (FK:¬((x.length:Nat):Int)<(x.length:Int)),GF];exact h2 z _ _ a3 (HT a4 (ZN _ _))
def B4Y{nn:Nat}{l:Gp}{x:List Gp}{k2:List Gp->Gp->Int->Bool->Option R}(hs:x.length<=1048577)(ht:tl x<=1048576)(h2:∀z j b,z.length+1<=tl x+x.length+1->(x.length=0->z.length=0)->(0<x.length->z.length+1<=tl x+x.length)->P (k2 x z j b)):
  ∀(n i:Nat)(z:Gp),i<=x.length->x.length<n+i->(i=0->z.length=0)->(0<i->z.length+1<=tl (x.take i)+i)->P (WV nn l n x z (i:Int) k2)
 |0,i,z,a1,a2,a3,a4=>FK
 |n+1,i,z,a1,a2,a3,a4=>by
  unfold WV;have bw:=ZN x i;have hz:z.length<=tl (x.take i)+i:=by rcases Nat.eq_zero_or_pos i with h|h;(have:=a3 h;omega);(have:=a4 h;omega)
  by_cases hi:i<x.length;obtain⟨y,hy,hm⟩:=E3 hi;have tI:=B7J hy;have fg:=ZN x (i+1);simp only[gd,GG (FK:(i:Int)<(x.length:Int)),GD,B1,hy,E7 (i:=i) FK,O1 (n:=z.length+1) FK,O1 (n:=(z++[10]).length+y.length) GQ,O1 (n:=z.length+y.length) FK];refine A7 (P:=P) (λh=>?_) λh=>?_
  have h0:0<i:=by have:=GK h;omega
  have:=a4 h0;exact B4Y hs ht h2 n (i+1) _ FK FK FK (λ_=>GQ);have h0:i=0:=by have:=of_decide_eq_false h;omega
  have:=a3 h0;exact B4Y hs ht h2 n (i+1) _ FK FK FK (λ_=>GQ);have bO:i=x.length:=FK;subst bO;simp only[gd,GH (FK:¬((x.length:Nat):Int)<(x.length:Int)),GF];rw[JQ]at hz a4;exact h2 z _ _ FK a3 a4
end
def oSt(t:rg)(b:Bool):okR [.str,.bool] (J (.tup [.str t,.bool b]):Gq)=Z:=rfl
def gSt(t:rg)(r:Gt):lS (gL (J (.tup (.str t::r)):Gq) 0)=t:=rfl
def D5V{l:Gp}(hs:l.length<=1048576):∃t e,WW l=J (.tup [.str t,.int .i64 e])/\t.length<=8400000:=by
 let P:Gq->Prop:=λo=>∃t e,o=J (.tup [.str t,.int .i64 e])/\t.length<=8400000
 obtain⟨b,e⟩:=C6Z (l:=l) FK;obtain⟨x,e2,hx,oC⟩:=C7Z hs;show P _;simp only[WW,B3f,gd,e,e2,oB1,gB1,oRS,gRS,GD];refine A7 (P:=P) (λ_=>⟨_,_,rfl,GN⟩) λ_=>?_;have hm:∀y∈x,y.length<=1048576:=λy hy=>HT (ZM hy) FK;refine C09 (P:=P) FK hm (λz j b h1 h2=>?_) NN 0 [] FK (by rw[NNv];omega) rfl (by simp[tl]);obtain⟨u,e3,hu,FU⟩:=D1v (l:=z) FK FK λy hy=>HT (ZM hy) FK;simp only[e3,oRN,gRS,GD];refine B4Y (P:=P) FK FK (λv j b h3 h4 h5=>?_) NN 0 [] FK (by rw[NNv];omega) (λ_=>rfl) (λh=>FK);obtain⟨t,c,e4,ht,_⟩:=B5T (l:=v) FK;simp only[e4,oSt,gSt,GD];exact⟨t,_,rfl,FK⟩
def tabA:rg:=[34,92,47,98,102,110,114,116]
def tabB:rg:=[34,92,47,8,12,10,13,9]
def tabC:rg:=[48,49,50,51,52,53,54,55,56,57,97,98,99,100,101,102]
def tabD:rg:=[48,49,50,51,52,53,54,55,56,57,65,66,67,68,69,70]
section
variable {R:Type}{P:Option R->Prop}
def C2j{nn:Nat}{c:Int}{k1:Int->Option R}{k3:(rg)->(rg)->Int->Bool->Option R}(g1:∀x,P (k1 x))(g3:∀a b c d,P (k3 a b c d)):∀(n i:Nat),i<=8->8<n+i->P (WX nn c n tabA tabB (i:Int) k1 k3)
 |0,i,h1,h2=>FK
 |n+1,i,h1,h2=>by
  unfold WX;have ha:tabA.length=8:=rfl;have hb:tabB.length=8:=rfl;by_cases hi:i<8;obtain⟨y,hy,_⟩:=E3 (l:=tabA) (i:=i) FK;obtain⟨z,hz,_⟩:=E3 (l:=tabB) (i:=i) FK;simp only[B1,hy,hz,E7 (i:=i) FK];exact A7 (P:=P) (λ_=>A7 (P:=P) (λ_=>g1 _) λ_=>C2j g1 g3 n (i+1) FK FK) λ_=>g3 _ _ _ _
  simp only[GH (FK:¬(i:Int)<(tabA.length:Int)),GF];exact g3 _ _ _ _
def C0X{nn:Nat}{c:Int}{k1:Int->Option R}{k3:(rg)->(rg)->Int->Bool->Option R}(g1:∀x,P (k1 x))(g3:∀a b c d,P (k3 a b c d)):∀(n i:Nat),i<=16->16<n+i->P (WY nn c n tabC tabD (i:Int) k1 k3)
 |0,i,h1,h2=>FK
 |n+1,i,h1,h2=>by
  unfold WY;have ha:tabC.length=16:=rfl;have hb:tabD.length=16:=rfl;by_cases hi:i<16
  ·obtain⟨y,hy,_⟩:=E3 (l:=tabC) (i:=i) FK;obtain⟨z,hz,_⟩:=E3 (l:=tabD) (i:=i) FK;simp only[B1,hy,hz,E7 (i:=i) FK]
   repeat' first|exact g1 _|exact g3 _ _ _ _|exact C0X g1 g3 n (i+1) FK FK|refine A7 (P:=P) (λ_=>?_) λ_=>?_
  simp only[GH (FK:¬(i:Int)<16),GF];exact g3 _ _ _ _
end
def D6M(c:Int):∃x,B1w c=J (.one (.int .i32 x)):=by
 let P:Gq->Prop:=λo=>∃x,o=J (.one (.int .i32 x))
 exact C2j (P:=P) (λx=>⟨x,rfl⟩) (λ_ _ _ _=>⟨_,rfl⟩) NN 0 FK (by rw[NNv];omega)
def C7I(c:Int):∃x,B07 c=J (.one (.int .i64 x)):=by
 let P:Gq->Prop:=λo=>∃x,o=J (.one (.int .i64 x))
 exact C0X (P:=P) (λx=>⟨x,rfl⟩) (λ_ _ _ _=>⟨_,rfl⟩) NN 0 FK (by rw[NNv];omega)
section
variable {R:Type}{P:Option R->Prop}
def C4R{nn:Nat}{l:Gp}{i0:Nat}{k1:Option R}{k3:Int->Int->Bool->Option R}(h0:i0+6<=l.length)(hs:l.length<=1099511627776)(h1:P k1)(h3:∀a b c,P (k3 a b c)):
  ∀(n i:Nat)(v:Int),i<=i0+6->i0+6<n+i->P (Tb nn l (i0:Int) n v (i:Int) k1 k3)
 |0,i,v,a1,a2=>FK
 |n+1,i,v,a1,a2=>by
  unfold Tb;by_cases hi:i<i0+6;obtain⟨y,hy,_⟩:=E3 (l:=l) (i:=i) FK;obtain⟨z,e⟩:=C7I y;simp only[gd,wk6 (i:=i0) FK,GG (FK:(i:Int)<((i0+6:Nat):Int)),GD,B1,hy,e,oI,gI,E7 (i:=i) FK];exact A7 (P:=P) (λ_=>h1) λ_=>C4R h0 hs h1 h3 n (i+1) _ FK FK
  simp only[gd,wk6 (i:=i0) FK,GH (FK:¬(i:Int)<((i0+6:Nat):Int)),GF];exact h3 _ _ _
end
def B9r{l:Gp}{i:Nat}(hs:l.length<=1099511627776)(hi:i<=1099511627776):∃x,Tc l (i:Int)=J (.one (.int .i32 x))/\(0<=x->i+6<=l.length):=by
 let P:Gq->Prop:=λo=>∃x,o=J (.one (.int .i32 x))/\(0<=x->i+6<=l.length)
 have no:P (J (.one (.int .i32 (-1)))):=⟨_,rfl,FK⟩;show P _;simp only[Tc,B16,wk6 (i:=i) hi,wk2 (i:=i) hi,wk1 (i:=i) hi,B1];by_cases h:i+6<=l.length
 ·obtain⟨y,hy,_⟩:=E3 (l:=l) (i:=i) FK;obtain⟨z,hz,_⟩:=E3 (l:=l) (i:=i+1) FK;have hl:P (Tb NN l (i:Int) NN 0 ((i+2:Nat):Int) (J (.one (.int .i32 (-1)))) λz3 z4 z5=>J (.one (.int .i32 z3))):=C4R (P:=P) h hs no (λ_ _ _=>⟨_,rfl,λ_=>h⟩) NN (i+2) 0 FK (by rw[NNv];omega);simp only[hy,hz]
  repeat' first|exact no|exact hl|refine A7 (P:=P) (λ_=>?_) λ_=>?_
 rw[GG (FK:((i+6:Nat):Int)>(l.length:Int))];exact no
def B6U(k:Int):okR [.int .i32] (J (.one (.int .i32 k)):Gq)=Z:=rfl
def B4s(k:Int):lI (gL (J (.one (.int .i32 k)):Gq) 0)=k:=rfl
def oIB(k:Int)(b:Bool):okR [.int .i32,.bool] (J (.tup [.int .i32 k,.bool b]):Gq)=Z:=rfl
def C6g{l:Gp}{i:Nat}(hs:l.length<=1048576)(hi:i<l.length):∃(x:Int)(n:Nat),WZ l (i:Int)=J (.tup [.int .i32 x,.int .i64 (n:Int)])/\n<=12:=by
 let P:Gq->Prop:=λo=>∃(x:Int)(n:Nat),o=J (.tup [.int .i32 x,.int .i64 (n:Int)])/\n<=12
 have k0:P (J (.tup [.int .i32 0,.int .i64 0])):=⟨0,0,rfl,FK⟩;have k1:∀x,P (J (.tup [.int .i32 x,.int .i64 1])):=λx=>⟨x,1,rfl,FK⟩;have k2:∀x,P (J (.tup [.int .i32 x,.int .i64 2])):=λx=>⟨x,2,rfl,FK⟩;have k6:∀x,P (J (.tup [.int .i32 x,.int .i64 6])):=λx=>⟨x,6,rfl,FK⟩;have DL:∀x,P (J (.tup [.int .i32 x,.int .i64 12])):=λx=>⟨x,12,rfl,FK⟩;obtain⟨y,hy,_⟩:=E3 hi;obtain⟨b,e1⟩:=C6b y;obtain⟨u,e3,hu⟩:=B9r (l:=l) (i:=i) FK FK;obtain⟨v,e4,_⟩:=B9r (l:=l) (i:=i+6) FK FK;obtain⟨p,q,e5⟩:=D4E u v;show P _;simp only[WZ,gd,B1,hy,e1,oB1,gB1,wk6 (i:=i) FK,wk1 (i:=i) FK,e3,e4,e5,B6U,B4s,oIB,GD];refine A7 (P:=P) (λ_=>k1 _) λ_=>?_;refine A7 (P:=P) (λ_=>?_) λ_=>k0;refine A7 (P:=P) (λ_=>k0) λh=>?_;have h1:=of_decide_eq_false h;obtain⟨z,hz,_⟩:=E3 (l:=l) (i:=i+1) FK;obtain⟨s,e2⟩:=D6M z;simp only[hz,e2,B6U,B4s,GD]
 repeat' first|exact k0|exact k2 _|exact k6 _|exact DL _|refine A7 (P:=P) (λ_=>?_) λ_=>?_
section
variable {R:Type}{P:Option R->Prop}
def oII(a b:Int):okR [.int .i32,.int .i64] (J (.tup [.int .i32 a,.int .i64 b]):Gq)=Z:=rfl
def gII(a b:Int):lI (gL (J (.tup [.int .i32 a,.int .i64 b]):Gq) 1)=b:=rfl
def B9J(a b:Int):lI (gL (J (.tup [.int .i32 a,.int .i64 b]):Gq) 0)=a:=rfl
def C4K{nn:Nat}{l:Gp}{k1:Option R}{k3:Gp->Int->Bool->Option R}(hs:l.length<=1048576)(h1:P k1)(h3:∀x j b,x.length<=1048576->P (k3 x j b)):
  ∀(n i:Nat)(x:Gp),i<=l.length+12->l.length+12<n+i->x.length<=i->x.length<=l.length->P (Wa nn l n x (i:Int) k1 k3)
 |0,i,x,a1,a2,a3,a4=>FK
 |n+1,i,x,a1,a2,a3,a4=>by
  unfold Wa;by_cases hi:i<l.length;obtain⟨y,m,e,hm⟩:=C6g hs hi;have w:Aaa .i64 ((i:Int)+(m:Int))=((i+m:Nat):Int):=wK FK;simp only[gd,GG (FK:(i:Int)<(l.length:Int)),GD,e,oII,gII,B9J,w,O1 (n:=x.length+1) FK];refine A7 (P:=P) (λ_=>h1) λh=>?_;have h0:0<m:=by
   have:¬(m:Int)=0:=by simpa using h
   omega
  exact C4K hs h1 h3 n (i+m) _ FK FK GQ GQ;simp only[gd,GH (FK:¬(i:Int)<(l.length:Int)),GF];exact h3 _ _ _ FK
end
def D3E{l:Gp}(hs:l.length<=1048576):∃t e,ZK l=J (.tup [.str t,.int .i64 e])/\t.length<=8400000:=by
 let P:Gq->Prop:=λo=>∃t e,o=J (.tup [.str t,.int .i64 e])/\t.length<=8400000
 refine C4K (P:=P) hs ⟨_,_,rfl,GN⟩ (λx j b h=>?_) NN 0 [] FK (by rw[NNv];omega) GN GN;obtain⟨t,c,e4,ht,_⟩:=B5T (l:=x) FK;simp only[gd,e4,oSt,gSt,GD];exact⟨t,_,rfl,FK⟩
def One(s:Gp)(i M:Nat)(o:Gq):Prop:=∃(j:Nat)(k:Int)(v:rg),o=J (.tup [.int .i64 (j:Int),.int .i64 k,.str v])/\i<=j/\j<=M/\v.length<=8400000/\(k=7->(btF v).2=Z)/\(((k=0\/k=1)/\j=i)\/(2<=k/\k<=7/\i<j/\(k<6->∀y,s[i]?=J y->clI y=bif k==5 then 4 else k)))
section
variable {s:Gp}{M:Nat}
def oSI(t:rg)(b:Int):okR [.str,.int .i64] (J (.tup [.str t,.int .i64 b]):Gq)=Z:=rfl
def B4z(t:rg)(r:Gt):lS (gL (J (.tup (.str t::r)):Gq) 0)=t:=rfl
def C7Q(hs:Stp s M){i:Nat}(hi:i<M):One s i M (ML s (i:Int)):=by
 have aw:=hs.sz;obtain⟨x,hx,_⟩:=hs.x;have hM:=LM hx;have kq:One s i M (J (.tup [.int .i64 (i:Int),.int .i64 1,.str []])):=⟨i,1,[],rfl,GU _,FK,GN,λh=>FK,.inl ⟨FK,rfl⟩⟩;obtain⟨b,e,hb⟩:=B3n hs (KA hi) (c:=34) GO;simp only[ML,gd,kC,kP,kO,e,oB1,gB1,GD];refine A7 (P:=One s i M) (λhc=>?_) (λhc=>?_);have h3:=hb hc;obtain⟨j,e2,hj⟩:=C69 hs h3;simp only[e2,oI,gI,GD];refine A7 (P:=One s i M) (λ_=>kq) (λaP=>?_);have fJ:j≠i:=λh=>by rw[h]at aP;simp at aP
 obtain⟨h6,uC⟩:=hj.resolve_left fJ;have w1:Aaa .i64 ((i:Int)+3)=((i+3:Nat):Int):=U0 (k:=3) FK;have w2:Aaa .i64 ((j:Int) - 3)=((j - 3:Nat):Int):=by rw[P0 FK FK];omega
 obtain⟨l,e3,hl⟩:=Tf (s:=s) (a:=i+3) (b:=j - 3) FK FK;obtain⟨v,z,e4,hv⟩:=D5V (l:=l) FK;simp only[w1,w2,e3,e4,oSI,B4z,WK,GD];refine A7 (P:=One s i M) (λ_=>kq) (λhz=>?_);exact⟨j,7,v,rfl,FK,uC,hv,λ_=>rfl,.inr ⟨FK,FK,FK,λh=>FK⟩⟩;obtain⟨j,e2,hj⟩:=D33 hs hi;simp only[e2,oI,gI,GD];refine A7 (P:=One s i M) (λ_=>kq) (λaP=>?_);have fJ:j≠i:=λh=>by rw[h]at aP;simp at aP
 obtain⟨h6,uC⟩:=hj.resolve_left fJ;have w1:Aaa .i64 ((i:Int)+1)=((i+1:Nat):Int):=U0 (k:=1) FK;have w2:Aaa .i64 ((j:Int) - 1)=((j - 1:Nat):Int):=by rw[P0 FK FK];omega
 obtain⟨l,e3,hl⟩:=Tf (s:=s) (a:=i+1) (b:=j - 1) FK FK;obtain⟨v,z,e4,hv⟩:=D3E (l:=l) FK;simp only[w1,w2,e3,e4,oSI,B4z,WK,GD];refine A7 (P:=One s i M) (λ_=>kq) (λhz=>?_);exact⟨j,6,v,rfl,FK,uC,hv,λh=>FK,.inr ⟨FK,FK,FK,λh=>FK⟩⟩
def D1e(a b:Int)(t:rg):okR [.int .i64,.int .i64,.str] (J (.tup [.int .i64 a,.int .i64 b,.str t]):Gq)=Z:=rfl
def C9K(l l':L6)(t:rg)(r:Gt):lS (gL (J (.tup (l::l'::.str t::r)):Gq) 2)=t:=rfl
def o2i(a b:Int):okR [.int .i64,.int .i64] (J (.tup [.int .i64 a,.int .i64 b]):Gq)=Z:=rfl
def D7t(hs:Stp s M){i:Nat}(hi:i<=M):One s i M (Te s (i:Int)):=by
 obtain⟨y,hy,hp,hn⟩:=hs.at hi;have kq:∀k:Int,(k=0\/k=1)->One s i M (J (.tup [.int .i64 (i:Int),.int .i64 k,.str []])):=λk hk=>⟨i,k,[],rfl,GU _,hi,GN,λh=>FK,.inl ⟨hk,rfl⟩⟩;obtain⟨j,e1,h1,h2,h3⟩:=D2t hs hi;obtain⟨j2,k2,e2,h4,h5,h6⟩:=D6X hs hi;obtain⟨j4,e4,h8,h9⟩:=D2U hs hi;simp only[Te,gd,kC,kP,kO,B1,hy,D4a,D35,oB1,gB1,GD,e1,oI,gI,e2,o2i,B8x,WK,e4];refine A7 (P:=One s i M) (λ_=>kq 0 GO) (λ_=>?_);refine A7 (P:=One s i M) (λhc=>?_) (λhl=>?_)
 refine⟨j,3,[],rfl,h1,h2,GN,λh=>FK,.inr ⟨FK,FK,h3 y hy hc,λ_ y' iM=>?_⟩⟩;rw[hy]at iM;cases iM;unfold clI;rw[hc];rfl;have DM:(inF y LG||y==45)=Z->One s i M (J (.tup [.int .i64 (j2:Int),.int .i64 k2,.str []])):=λhd=>by
  rcases h6 with⟨h6,h7⟩|⟨h6,h7⟩;exact⟨j2,k2,[],rfl,h4,h5,GN,λh=>FK,.inl ⟨FK,h7⟩⟩;refine⟨j2,k2,[],rfl,h4,h5,GN,λh=>FK,.inr ⟨FK,FK,h7,λ_ y' iM=>?_⟩⟩;rw[hy]at iM;cases iM;unfold clI;rw[hl,hd];rcases h6 with h6|h6<;>rw[h6]<;>rfl
 have ao:(inF y LG||y==45)=V->One s i M (bif y==34 then(bif okR [.int .i64,.int .i64,.str] (ML s (i:Int))then J (.tup [.int .i64 (lI (gL (ML s (i:Int)) 0)),.int .i64 (lI (gL (ML s (i:Int)) 1)),.str (lS (gL (ML s (i:Int)) 2))])else O)
   else bif decide ((j4:Int)>(i:Int))then J (.tup [.int .i64 (j4:Int),.int .i64 2,.str []])else J (.tup [.int .i64 (i:Int),.int .i64 1,.str []])):=λhd=>by
  refine A7 (P:=One s i M) (λhc=>?_) (λhc=>?_);have FV:y=34:=by simpa using hc
  obtain⟨j3,k3,v3,e3,ao⟩:=C7Q hs (hp FK);rw[e3];exact⟨j3,k3,v3,rfl,ao⟩;refine A7 (P:=One s i M) (λhc=>?_) (λhc=>kq 1 GO);have:=GK hc;refine⟨j4,2,[],rfl,h8,h9,GN,λh=>FK,.inr ⟨FK,FK,FK,λ_ y' iM=>?_⟩⟩;rw[hy]at iM;cases iM;unfold clI;rw[hl,hd];rfl
 generalize inF y LG=p at*;generalize (y==45)=r at*;cases p<;>cases r<;>first|exact DM rfl|exact ao rfl
end
end Go.Aev
namespace Go.Aev
open Go.Proofs
def ZO:KY
 |[.sl .i32 a0 O]=>pR [.str,.bool] (LL a0)
 |_=>O
def E55:Env Ty6 A2:=mkE [(123,B5k),(124,B77),(125,ZO)] [] noD 41 [6] 0 [] []
def F55(a0:Gp)(a1:List A4)(a2:Int):Gq:=gd (okR [.int .i64] (Qg a0 a2)) (let z1:=(lI (gL (Qg a0 a2) 0));gd (okR [.int .i64,.int .i64,.str] (Te a0 z1)) (let z2:=(lI (gL (Te a0 z1) 0));match sub a0 z1 z2 with|O=>O|J y3=>(gd (okR [.str,.bool] (LL y3)) (match idx a1 z1 with|O=>O|J y4=>(J (.one (.agg .tok (⟨(lI (gL (Te a0 z1) 1)),(⟨y4.line,y4.col⟩:A4),z1,z2,(lS (gL (LL y3) 0)),(lS (gL (Te a0 z1) 2))⟩:A0))))))))
def S55:KY
 |[.sl .i32 a0 O,.sl .pos a1 O,.int .i64 a2]=>pR [.agg .tok] (F55 a0 a1 a2)
 |_=>O
def We{R:Type}(nn:Nat)(a0:Gp):Nat->Int->Int->(Int->Int->Bool->Option R)->Option R
 |0,_,_,_=>O
 |n+1,x4,x5,k2=>let k1:=λx4 x5=>We nn a0 n x4 x5 k2;let z1:=decide (x5<(Aab a0:Int));bif z1 then(match idx a0 x5 with|O=>O|J y2=>(k1 (Aaa .i64 ((Aaa .i64 (x4*64))+(Abm (Aaa .i64 y2) 64))) (Aaa .i64 (x5+1))))else(k2 x4 x5 z1)
def B3O(nn:Nat)(a0:Gp):Gq:=match idx a0 0 with|O=>O|J y1=>(match idx [0,128,32,16,8] (Aab a0:Int)with|O=>O|J y2=>(gd (!decide (y2=0)) (We nn a0 nn (Abm (Aaa .i64 y1) y2) 1 (λz3 z4 z5=>J (.one (.int .i32 (Aaa .i32 z3)))))))
def ZP(a0:Gp):Gq:=B3O NN a0
def Wf{R:Type}(nn:Nat)(a0 a1:Gp):Nat->Int->Option R->(Int->Bool->Option R)->Option R
 |0,_,_,_=>O
 |n+1,x5,k1,k3=>let k2:=λx5=>Wf nn a0 a1 n x5 k1 k3;let z1:=decide (x5<(Aab a0:Int));bif z1 then(match idx a0 x5 with|O=>O|J y2=>(match idx a1 x5 with|O=>O|J y3=>(bif(y2 !=y3)then k1 else(k2 (Aaa .i64 (x5+1))))))else(k3 x5 z1)
def B3u(nn:Nat)(a0 a1:Gp):Gq:=let z1:=(Aab a0:Int) !=(Aab a1:Int);bif z1 then(J (.one (.bool V)))else(Wf nn a0 a1 nn 0 (J (.one (.bool V))) (λz2 z3=>J (.one (.bool Z))))
def B0Z(a0 a1:Gp):Gq:=B3u NN a0 a1
def Wg{R:Type}(nn:Nat)(a0:Gp):Nat->Int->(Int->Int->Option R)->(Int->Bool->Option R)->Option R
 |0,_,_,_=>O
 |n+1,x4,k1,k3=>let k2:=λx4=>Wg nn a0 n x4 k1 k3;let j1:Int->Bool->Option R:=λz2 z3=>let j4:Int->Int->Bool->Option R:=λz5 z6 z7=>k2 (Aaa .i64 (z5+1));match sub a0 0 z2 with|O=>O|J y8=>(gd (okR [.int .i32] (ZP y8)) (let z9:=(lI (gL (ZP y8) 0));gd (okR [.sl .u8 (J 1)] (Qk z9)) (let bP:=(B3 (gL (Qk z9) 0));bif((Aab bP:Int)==z2)==Z then(match sub a0 0 z2 with|O=>O|J gq=>(let cg:=B0Z bP gq;gd (okR [.bool] cg) (let cr:=(lB (gL cg 0));bif cr then(k1 z9 z2)else(j4 z2 z9 cr))))else(j4 z2 z9 V))));bif(decide (x4<=4))==Z then(let cM:=decide (x4<=(Aab a0:Int));bif cM then(j1 x4 cM)else(k3 x4 cM))else(k3 x4 V)
def B19(nn:Nat)(a0:Gp):Gq:=Wg nn a0 nn 1 (λz1 z2=>J (.tup [.int .i32 z1,.int .i64 z2])) (λz3 z4=>J (.tup [.int .i32 0,.int .i64 0]))
def Wh(a0:Gp):Gq:=B19 NN a0
def Wi{R:Type}(nn:Nat)(a0:Gp):Nat->Gp->Int->(Gp->Int->Int->Int->Bool->Option R)->(Gp->Int->Bool->Option R)->Option R
 |0,_,_,_,_=>O
 |n+1,x4,x5,k1,k3=>let k2:=λx4 x5=>Wi nn a0 n x4 x5 k1 k3;let z1:=decide (x5<(Aab a0:Int));bif z1 then(match sub a0 x5 (Aab a0:Int)with|O=>O|J y2=>(gd (okR [.int .i32,.int .i64] (Wh y2)) (let z3:=(lI (gL (Wh y2) 0));let z4:=(lI (gL (Wh y2) 1));bif(z4==0)then(k1 x4 x5 z3 z4 (z4==0))else(gd (A3 (Aab x4+1) 4) (k2 (x4++[z3]) (Aaa .i64 (x5+z4)))))))else(k3 x4 x5 z1)
def B0Y(nn:Nat)(a0:Gp):Gq:=Wi nn a0 nn [] 0 (λz1 z2 z3 z4 z5=>J (.tup [.sl .i32 z1 (J 1),.int .i64 z2])) (λz6 z7 z8=>J (.tup [.sl .i32 z6 (J 1),.int .i64 z7]))
def Wj(a0:Gp):Gq:=B0Y NN a0
def S52:KY
 |[.sl .u8 a0 O]=>pR [.sl .i32 (J 1),.int .i64] (Wj a0)
 |_=>O
def E24:Env Ty6 A2:=mkE [(52,S52),(53,S53),(54,S54),(55,S55)] [] (lkR [(0,2,1),(0,1000109,1),(1,10,5),(1,1000109,1),(2,0,1),(2,4,1),(2,15,6),(2,1000109,1),(3,3,1),(3,21,2),(3,1000109,1),(4,1000109,1),(5,1000109,1),(6,8,1),(6,23,4),(7,27,4),(8,31,7),(9,5,3),(9,9,1),(9,38,2),(9,1000109,1),(10,9,1),(10,38,1),(10,40,2),(10,1000109,1),(10006,1000109,1)]) 42 [] 0 [] []
def Tg{R:Type}(nn:Nat)(a0:Gp):Nat->Gp->List A4->Gu->Int->(Gu->Option R)->Option R
 |0,_,_,_,_,_=>O
 |n+1,x5,x6,x7,x8,k1=>let k2:=λx5 x6 x7 x8=>Tg nn a0 n x5 x6 x7 x8 k1;let r8:=F55 x5 x6 x8;gd (okR [.agg .tok] r8) (let z1:=(G3 (gL r8 0));gd (A3 (Aab x7+1) 72) (let j2:Gp->List A4->Gu->A0->Bool->Option R:=λz3 z4 z5 z6 z7=>k2 z3 z4 z5 z6.to_;bif(z1.kind==0)==V then(bif(z1.kind==1)then(k1 (x7++[z1]))else(j2 x5 x6 (x7++[z1]) z1 (z1.kind==1)))else(bif Z then(k1 (x7++[z1]))else(j2 x5 x6 (x7++[z1]) z1 Z))))
def D2z{R}(nn a0)(K:Kt R):∀n x5 x6 x7 x8,Tg nn a0 n x5 x6 x7 x8 (λx2=>K .ret ⟨[eO 2 .tok x2 107],[107]⟩)=LP E24 nn f24 319 n ⟨[eO 5 .i32 x5 1020,eO 6 .pos x6 1022,eO 7 .tok x7 107,eI 8 x8],[107,1020,1022]⟩ K:=λn=>n.rec (by intros;rfl) λn i=>by
 intros;rw[Tg];simp only[i];kernel_rfl
def ZQ(nn:Nat)(a0:Gp):Gq:=gd (okR [.sl .i32 (J 1),.int .i64] (Wj a0)) (let z1:=(V5 (gL (Wj a0) 0));let z2:=(lI (gL (Wj a0) 1));let r4:=TJ z1 (z2==(Aab a0:Int));gd (okR [.sl .i32 (J 1)] r4) (gd (okR [.sl .pos (J 1)] (MK z1)) (Tg nn a0 nn (V5 (gL r4 0)) (C08 (gL (MK z1) 0)) [] 0 (λz3=>J (.one (.sl .tok z3 (J 1)))))))
def Km(a0:Gp):Gq:=ZQ NN a0
def S24:KY
 |[.sl .u8 a0 O]=>pR [.sl .tok (J 1)] (Km a0)
 |_=>O
def E62:Env Ty6 A2:=mkE [] [(138,B2d)] noD 19 [] 1 [] []
def F62(a1:rg)(aa:Gp):Gr:=gd (okB [] kP (Sa aa)) (let z1:=(B3 (gC (Sa aa) 0 1));gd (A3 (Aab z1+Aab a1) 1) (J ([.int .i64 (Aab a1:Int),.any],[[.ptr 900000 A9,.sl .u8 (z1++List.map (λ(c:UInt8)=>(c.toNat:Int)) a1) (J 92000001)]])))
def S62:Ka
 |[.ptr d0 o0,.str a1],[[.ptr p0 q0,.sl .u8 aa (J aO)]]=>bif bq d0 o0&&pq p0 q0&&(Aah aO 92000001)then pB [.int .i64,.any] kP (F62 a1 aa)else O
 |_,_=>O
def E27:Env Ty6 A2:=mkE [] [(62,S62)] (lkR [(0,1,1),(2,9,3),(3,5,1),(3,12,5),(4,17,1)]) 18 [] 1 [] []
def Wk{R:Type}(nn:Nat)(a1:Gy)(aa:Gp):Nat->Int->Int->Gp->(Int->Int->Bool->Gp->Option R)->Option R
 |0,_,_,_,_=>O
 |n+1,x7,x8,ac,k2=>let k1:=λx7 x8 ac=>Wk nn a1 aa n x7 x8 ac k2;let z1:=decide (x8<x7);bif z1 then(match idx a1 x8 with|O=>O|J y2=>(let r3:=F62 y2 ac;gd (okB [.int .i64,.any] kP r3) (k1 x7 (Aaa .i64 (x8+1)) (B3 (gC r3 0 1)))))else(k2 x7 x8 z1 ac)
def D5X{R}(nn a1 aa)(K:Kt R):∀n x7 x8 ac,Wk nn a1 aa n x7 x8 ac (λx7 x8 x9 ac=>K (.exit 0) (Q7 (eB 9 x9) (pg [eL 6 .str a1,eI 7 x7,eI 8 x8] ac)))=LP E27 nn f27 9 n (pg [eL 6 .str a1,eI 7 x7,eI 8 x8] ac) K:=λn=>n.rec (by intros;rfl) λn i=>by
 intros;rw[Wk];simp only[i];kernel_rfl
def Wl(nn:Nat)(a1:Gy)(aa:Gp):Gr:=Wk nn a1 aa nn (Aab a1:Int) 0 aa (λz1 z2 z3 z4=>J ([],[[.ptr 900000 A9,.sl .u8 z4 (J 92000001)]]))
def Kc(a1:Gy)(aa:Gp):Gr:=Wl NN a1 aa
def D4d(nn:Nat){a1:Gy}{aa:Gp}:D7 E27 nn f27 [0] [.ptr 900000 0,.sl .str a1 O] [[.ptr 900000 A9,.sl .u8 aa (J 92000001)]]=Wl nn a1 aa:=by
 unfold Wl;simp(disch:=exact krl)only[lc1 (kB [0] [[.ptr 900000 A9,.sl .u8 aa (J 92000001)]]) (D5X ..)];kernel_rfl
def Kk:Ka
 |[.ptr d0 o0,.sl .str a1 O],[[.ptr p0 q0,.sl .u8 aa (J aO)]]=>bif bq d0 o0&&pq p0 q0&&(Aah aO 92000001)then pB [] kP (Kc a1 aa)else O
 |_,_=>O
def C8m:Env Ty6 A2:=mkE [(47,Vd)] [(27,Kk)] noD 9 [] 1 [] []
def LN(a1:Int)(aa:Gp):Gr:=let r2:=LC [32,32] a1;gd (okR [.str] r2) (let r1:=Kc [(lS (gL r2 0))] aa;gd (okB [] kP r1) (J ([],[[.ptr 900000 A9,.sl .u8 (B3 (gC r1 0 1)) (J 92000001)]])))
def B3h:Ka
 |[.ptr d0 o0,.int .i64 a1],[[.ptr p0 q0,.sl .u8 aa (J aO)]]=>bif bq d0 o0&&pq p0 q0&&(Aah aO 92000001)then pB [] kP (LN a1 aa)else O
 |_,_=>O
def E64:Env Ty6 A2:=mkE [] [] (lkR [(0,2,1),(0,1000105,1),(1,1000105,1),(2,0,1),(2,1000105,1),(3,1000105,1),(4,9,3),(5,5,1),(5,12,5),(5,1000105,1),(6,17,1),(6,1000105,1),(7,3,1),(7,6,4),(7,18,1),(7,1000105,1),(10003,1000105,1)]) 19 [] 0 [] []
def Wm{R:Type}(nn:Nat)(a0:GC):Nat->List PartT->Int->Int->(List PartT->Int->Int->Bool->Option R)->Option R
 |0,_,_,_,_=>O
 |n+1,x3,x7,x8,k2=>let k1:=λx3 x7 x8=>Wm nn a0 n x3 x7 x8 k2;let z1:=decide (x8<x7);bif z1 then(match idx a0 x8 with|O=>O|J y2=>(gd (A3 (Aab x3+1) 16) (k1 (x3++[PartT.sel y2]) x7 (Aaa .i64 (x8+1)))))else(k2 x3 x7 x8 z1)
end Go.Aev
namespace Go.Aev
section
variable {s:Gp}{M:Nat}
def oT1(t:A0):okR [.agg .tok] (J (.one (.agg .tok t)):Gq)=Z:=rfl
def gT1(t:A0):G3 (gL (J (.one (.agg .tok t)):Gq) 0)=t:=rfl
def oSb(t:rg)(b:Bool):okR [.str,.bool] (J (.tup [.str t,.bool b]):Gq)=Z:=rfl
def B9N{c:Int}(h:128<=c){t:rg}(ht:(t.all λb=>decide (b.toNat<128))=Z):inF c t=V:=by
 unfold inF;rw[JM];intro b hb;have:=GK (HM.1 ht b hb);simp;omega
def C5E{c:Int}(h:128<=c):clI c=2:=by
 unfold clI;rw[B9N h GO,B9N h GO,show(c==45)=V from GQ];rfl
def D2q{s:Gp}{a b:Nat}(h1:a<=b)(h2:b<=s.length):∃l,sub s (a:Int) (b:Int)=J l/\l.length=b - a/\∀y q,l=y::q->s[a]?=J y:=by
 refine⟨(s.drop a).take (b - a),?_,?_,λy q h=>?_⟩;unfold sub;rw[GG (FK:(0:Int)<=(a:Int)),GG (FK:(a:Int)<=(b:Int)),GG (FK:(b:Int)<=(s.length:Int))];rfl;rw[IK,IR];omega;have h3:((s.drop a).take (b - a))[0]?=J y:=by rw[h];rfl
 rw[Hn]at h3;split at h3;rw[IE]at h3;exact h3;cases h3
def D1V(hs:Stp s M){ps:List A4}(gz:M<ps.length){i:Nat}(hi:i<=M):∃t:A0,F55 s ps (i:Int)=J (.one (.agg .tok t))/\LH t/\∃j:Nat,t.to_=(j:Int)/\j<=M/\((t.kind=0\/t.kind=1)\/(2<=t.kind/\t.kind<=7/\i<j)):=by
 have aw:=hs.sz;obtain⟨x,hx,_⟩:=hs.x;have hM:=LM hx;obtain⟨a,e1,a1,a2⟩:=D4H hs hi;obtain⟨j,k,v,e2,b1,b2,b3,b4,b5⟩:=D7t hs a2;obtain⟨l,e3,hl,DN⟩:=D2q (s:=s) (a:=a) (b:=j) b1 FK;obtain⟨t,b,e4,ht,yh⟩:=B5T (l:=l) FK;have hp:ps[a]?=J ps[a]:=GE FK;simp only[F55,gd,kC,kP,kO,e1,oI,gI,e2,D1e,B8x,WK,C9K,e3,e4,oSb,B4z,GD,B1,hp];refine⟨_,rfl,⟨by show t.length<=_;omega,b3,b4,λhk=>?_,?_⟩,j,rfl,b2,?_⟩;show cls t=0\/_
 match t,yh with
 |[],_=>exact .inl rfl
 |x::r,yh=>
  obtain⟨y,q,e,DO⟩:=yh x r rfl;rcases b5 with⟨_,h⟩|⟨h1,h2,h3,h4⟩;subst h;have:l.length=0:=FK;rw[e]at this;cases this;refine .inr ⟨h1,?_⟩;have hy:=h4 hk y (DN y q e);show clI x.toNat=_;rw[<-hy];rcases DO with h|⟨h5,h6⟩;rw[h];rw[C5E h5,C5E h6]
 rcases b5 with⟨h,_⟩|⟨h1,h2,_⟩;exact⟨by show 0<=k;omega,by show k<=7;omega⟩;exact⟨by show 0<=k;omega,by show k<=7;omega⟩;rcases b5 with⟨h,_⟩|⟨h1,h2,h3,_⟩;exact .inl h;exact .inr ⟨h1,h2,FK⟩
def l24{R:Type}{P:Option R->Prop}{nn:Nat}{a0:Gp}{k1:Gu->Option R}(hs:Stp s M){ps:List A4}(gz:M<ps.length)(h1:∀ts,TW ts->P (k1 ts)):
  ∀(n i:Nat)(x7:Gu),i<=M->M<n+i->x7.length<=i->(∀t∈x7,LH t/\2<=t.kind)->P (Tg nn a0 n s ps x7 (i:Int) k1)
 |0,i,x7,a1,a2,_,_=>FK
 |n+1,i,x7,a1,a2,a3,a4=>by
  have aw:=hs.sz;obtain⟨t,e,ht,j,hj,uC,hk⟩:=D1V hs gz a1;have hr:A3 (x7.length+1) 72=Z:=by unfold A3;exact GG FK
  unfold Tg;simp only[Km,ZQ,gd,kC,kP,kO,e,oT1,gT1,hr,GD,hj];have bQ:P (k1 (x7++[t]))\/¬(t.kind=0\/t.kind=1):=by
   by_cases h:t.kind=0\/t.kind=1;left;refine h1 _ ⟨GN,GQ,λt' cQ=>?_,λi' t' qX fV=>?_⟩;rcases Hg.1 cQ with h'|h';exact(a4 t' h').1;have:t'=t:=by simpa using h'
   rw[this];exact ht;have aE:=LM qX;rcases Hv (i'+1) (x7++[t]).length with h'|h';exact h';exfalso;have:i'=x7.length:=by simp at h' aE;omega
   subst this;have:t'=t:=by simpa using qX.symm
   subst this;omega;exact .inr h
  have next:¬(t.kind=0\/t.kind=1)->P (Tg nn a0 n s ps (x7++[t]) (j:Int) k1):=λh=>by
   obtain⟨q1,q2,q3⟩:=hk.resolve_left h;refine l24 hs gz h1 n j (x7++[t]) uC FK GQ λt' cQ=>?_;rcases Hg.1 cQ with h'|h'
   exact a4 t' h';have:t'=t:=by simpa using h'
   rw[this];exact⟨ht,q1⟩
  refine A7 (P:=P) (λhc=>?_) (λhc=>?_);have h0:(t.kind==0)=V:=beqF.mp hc;have DF:t.kind≠0:=by simpa using h0
  refine A7 (P:=P) (λhc=>?_) (λhc=>?_);have:t.kind=1:=by simpa using hc
  exact bQ.resolve_right (λh=>h (.inr this));have:t.kind≠1:=by simpa using hc
  exact next (λh=>FK);have h0:t.kind=0:=by
   cases h:(t.kind==0)with
   |true=>simpa using h
   |false=>rw[h]at hc;cases hc
  exact bQ.resolve_right (λh=>h (.inl h0))
end
section
variable {R:Type}{P:Option R->Prop}
def C0p{nn:Nat}{l:Gp}{k2:Int->Int->Bool->Option R}(hs:l.length<=1099511627776)(h2:∀a b c,P (k2 a b c)):∀(n i:Nat)(v:Int),i<=l.length->l.length<n+i->P (We nn l n v (i:Int) k2)
 |0,i,v,a1,a2=>FK
 |n+1,i,v,a1,a2=>by
  unfold We;by_cases hi:i<l.length;obtain⟨y,hy,_⟩:=E3 hi;simp only[GG (FK:(i:Int)<(l.length:Int)),GD,B1,hy,E7 (i:=i) FK];exact C0p hs h2 n (i+1) _ FK FK;simp only[GH (FK:¬(i:Int)<(l.length:Int)),GF];exact h2 _ _ _
def C1T{nn:Nat}{l m:Gp}{k1:Option R}{k3:Int->Bool->Option R}(hs:l.length<=1099511627776)(hm:l.length=m.length)(h1:P k1)(h3:∀a b,P (k3 a b)):∀(n i:Nat),i<=l.length->l.length<n+i->P (Wf nn l m n (i:Int) k1 k3)
 |0,i,a1,a2=>FK
 |n+1,i,a1,a2=>by
  unfold Wf;by_cases hi:i<l.length;obtain⟨y,hy,_⟩:=E3 hi;obtain⟨z,hz,_⟩:=E3 (l:=m) (i:=i) FK;simp only[GG (FK:(i:Int)<(l.length:Int)),GD,B1,hy,hz,E7 (i:=i) FK];exact A7 (P:=P) (λ_=>h1) λ_=>C1T hs hm h1 h3 n (i+1) FK FK
  simp only[GH (FK:¬(i:Int)<(l.length:Int)),GF];exact h3 _ _
end
def C99{l:Gp}(h1:1<=l.length)(h4:l.length<=4):∃x,ZP l=J (.one (.int .i32 x)):=by
 let P:Gq->Prop:=λo=>∃x,o=J (.one (.int .i32 x))
 obtain⟨y,hy,_⟩:=E3 (l:=l) (i:=0) FK;have ht:∃t:Int,idx [0,128,32,16,8] (l.length:Int)=J t/\t≠0:=by
  rw[B1];rcases (FK:l.length=1\/l.length=2\/l.length=3\/l.length=4)with h|h|h|h<;>rw[h]<;>exact⟨_,rfl,GO⟩
 obtain⟨t,ht,h0⟩:=ht;have uo:idx l 0=J y:=(B1 l 0).trans hy;show P _;simp only[ZP,B3O,gd,uo,ht,GH h0,HP,GD];exact C0p (P:=P) FK (λa b c=>⟨_,rfl⟩) NN 1 _ FK (by rw[NNv];omega)
def C61{l m:Gp}(hs:l.length<=1099511627776):∃b,B0Z l m=J (.one (.bool b)):=by
 let P:Gq->Prop:=λo=>∃b,o=J (.one (.bool b))
 show P _;simp only[B0Z,B3u];refine A7 (P:=P) (λ_=>⟨_,rfl⟩) λh=>?_;have hm:l.length=m.length:=by
  have:(l.length:Int)=(m.length:Int):=by simpa using h
  omega
 exact C1T (P:=P) hs hm ⟨_,rfl⟩ (λa b=>⟨_,rfl⟩) NN 0 FK (by rw[NNv];omega)
section
variable {R:Type}{P:Option R->Prop}
def C3S{nn:Nat}{l:Gp}{k1:Int->Int->Option R}{k3:Int->Bool->Option R}(h1:∀x (j:Nat),1<=j->j<=l.length->P (k1 x (j:Int)))(h3:∀a b,P (k3 a b)):∀(n i:Nat),1<=i->i<=5->5<n+i->P (Wg nn l n (i:Int) k1 k3)
 |0,i,a0,a1,a2=>FK
 |n+1,i,a0,a1,a2=>by
  unfold Wg;have no:P (k3 (i:Int) V):=h3 _ _;by_cases hi:i<=4
  ·by_cases hl:i<=l.length
   ·obtain⟨y,hy,gw⟩:=Tf (s:=l) (a:=0) (b:=i) FK hl;obtain⟨x,e⟩:=C99 (l:=y) FK FK;obtain⟨u,e2,hu,_⟩:=C2e x;obtain⟨b,e3⟩:=C61 (l:=u) (m:=y) FK;have iM:sub l 0 (i:Int)=J y:=hy;have next:=C3S (nn:=nn) h1 h3 n (i+1) FK FK FK;simp only[gd,GG (FK:(i:Int)<=4),GG (FK:(i:Int)<=(l.length:Int)),bT,GD,iM,e,e2,e3,B6U,B4s,oU,gU,oB1,gB1,E7 (i:=i) FK]
    repeat' first|exact next|exact h1 _ i a0 hl|refine A7 (P:=P) (λ_=>?_) λ_=>?_
   simp only[gd,GG (FK:(i:Int)<=4),GH (FK:¬(i:Int)<=(l.length:Int)),bT,GD,GF];exact no
  simp only[gd,GH (FK:¬(i:Int)<=4),bF,GF];exact no
end
def C9t(l:Gp):∃(x:Int)(n:Nat),Wh l=J (.tup [.int .i32 x,.int .i64 (n:Int)])/\n<=l.length:=by
 let P:Gq->Prop:=λo=>∃(x:Int)(n:Nat),o=J (.tup [.int .i32 x,.int .i64 (n:Int)])/\n<=l.length
 show P _;unfold Wh B19;exact C3S (P:=P) (λx j _ h=>⟨x,j,rfl,h⟩) (λ_ _=>⟨0,0,rfl,FK⟩) NN 1 FK FK (by rw[NNv];omega)
section
variable {R:Type}{P:Option R->Prop}
def l52{nn:Nat}{l:Gp}{k1:Gp->Int->Int->Int->Bool->Option R}{k3:Gp->Int->Bool->Option R}(hs:l.length<=1099511627776)(h1:∀x a b c d,x.length<=l.length->P (k1 x a b c d))(h3:∀x a b,x.length<=l.length->P (k3 x a b)):∀(n i:Nat)(x:Gp),i<=l.length->l.length<n+i->x.length<=i->P (Wi nn l n x (i:Int) k1 k3)
 |0,i,x,a1,a2,a3=>FK
 |n+1,i,x,a1,a2,a3=>by
  unfold Wi;by_cases hi:i<l.length;obtain⟨y,hy,gw⟩:=Tf (s:=l) (a:=i) (b:=l.length) a1 (GU _);obtain⟨c,m,e,hm⟩:=C9t y;have w:Aaa .i64 ((i:Int)+(m:Int))=((i+m:Nat):Int):=wK FK;simp only[gd,GG (FK:(i:Int)<(l.length:Int)),GD,hy,e,oII,gII,B9J,w,O1 (n:=x.length+1) FK];refine A7 (P:=P) (λ_=>h1 _ _ _ _ _ FK) λh=>?_;have h0:0<m:=by
   have:¬(m:Int)=0:=by simpa using h
   omega
  exact l52 hs h1 h3 n (i+m) _ FK FK GQ;simp only[gd,GH (FK:¬(i:Int)<(l.length:Int)),GF];exact h3 _ _ _ FK
end
def D36{l:Gp}(hs:l.length<=1099511627776):∃x m,Wj l=J (.tup [.sl .i32 x (J 1),.int .i64 m])/\x.length<=l.length:=by
 let P:Gq->Prop:=λo=>∃x m,o=J (.tup [.sl .i32 x (J 1),.int .i64 m])/\x.length<=l.length
 show P _;unfold Wj B0Y;exact l52 (P:=P) hs (λx a b c d h=>⟨x,_,rfl,h⟩) (λx a b h=>⟨x,_,rfl,h⟩) NN 0 [] FK (by rw[NNv];omega) GN
end Go.Aev
