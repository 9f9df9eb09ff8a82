/- Proved here: lemmas that the claim's text uses. Conditions: those that each lemma states. -/
import Derived.Test.YtolabkginnkhgaaGreatDoorX2
set_option maxRecDepth 100000
set_option linter.unusedVariables false
set_option linter.unusedSimpArgs false
open List renaming length→Aw,length_append→Ba,length_cons→Bf,append_assoc→Bj,length_nil→Bp,getElem?_eq_getElem→Bw,replicate→Bz,drop_zero→Cb,drop_length→Cc,drop_eq_getElem_cons→Cd,map_cons→Ce,length_replicate→Cf,getElem_mem→Dl,mem_cons_self→Do,map→Dp,mem_cons_of_mem→Dy,map_append→Dz,length_map→Ea,flatten_cons→Eb,flatMap_cons→Ec,count_le_length→Ed
open Go.IntKind renaming wrap→Ax
open Go.Proofs.Tryz renaming prog→Ay,f89→Be,f54→Bg,f153→Bh,f84→Bl,f34→Bm,f148→Bn,f147→Bo,f123→Br,f45→Bx,f44→By,f91→Cg,f88→Ch,f83→Ci,f82→Cj,f81→Ck,f77→Cl,f74→Cm,f64→Cn,f63→Co,f53→Cp,f49→Cq,f213→Cr,f211→Cs,f209→Ct,f182→Cu,f178→Cv,f174→Cw,f149→Cx,f146→Cy,f145→Cz,f142→Da,f125→Db,f122→Dc,f12→Dd,f87→Df,f72→Dg,f68→Dh,f27→Di,f24→Dj,f11→Dk,f85→Dn
open Nat renaming beq→Az,lt_succ_self→Bb,le_refl→Bu,lt_or_ge→Dw,le_trans→Dx
open UInt8 renaming toNat→Bi,ofNat→Dm
open Go renaming FuncId→Bq,callFunc→De
open Int renaming tdiv→Ca,tmod→Dq,tdiv_eq_ediv_of_nonneg→Dr
open Go.Lib renaming repeatL→Ds,decodeGo→Ee
open Bool renaming and_eq_true→Du,or_eq_true→Eh
open Go.RowKit.Below renaming refl→Dv
open Go.IntWalk renaming i32_in→Ef
open ByteArray renaming mk→Eg
open Option.some renaming injEq→Ei
namespace Go.Aev.Bv
open Go.Proofs Go.RowKit
def IB:Inv:=λw wm=>Lib.Utf8Tabs 1 2 w/\(256<=wm 1/\32<=wm 2)
theorem IB_mono:∀w m w' m',IB w m->Ext w m w' m'->IB w' m':=by
 intro w m w' m' ⟨⟨h1,h2⟩,h3,h4⟩ hx;have l0:=hx.le 1;have l1:=hx.le 2;refine⟨⟨λc hc=>?_,λi hi=>⟨?_,?_⟩⟩,by omega,by omega⟩
 ·rw[hx.cell 1 c (by omega)];exact h1 c hc
 ·rw[hx.cell 2 _ (by omega)];exact(h2 i hi).1
 ·rw[hx.cell 2 _ (by omega)];exact(h2 i hi).2
def opt(S:Ae->Option (Bool×E6)):Ae->Ad:=λls=>match S ls with
 |some (true,e)=>some e
 |_=>none
theorem B7X{S:Ae->Option (Bool×E6)}{ls:Ae}{r:E6}(h:opt S ls=some r):∃e,S ls=some (true,e)/\e=r:=by
 unfold opt at h;split at h
 ·rename_i e he;exact⟨e,he,by simpa using h⟩
 ·cases h
theorem D6{f:Bq}{S:Ae->Option (Bool×E6)}(h:Sound Ay U6 IB f (opt S)){ls:Ae}{r:E6}(hr:S ls=some (true,r)):
  (∀args w,(De f args).run Ay w=.ok (.enter f args) w)/\A1U Ay U6 IB f ls r:=
 ⟨h.enter,h.ok ls r (by unfold opt;rw[hr])⟩
theorem and1{a b:Bool}(h:(a&&b)=true):a=true:=(Du _ _ ▸ h).1
theorem and2{a b:Bool}(h:(a&&b)=true):b=true:=(Du _ _ ▸ h).2
theorem dec1{p:Prop} [Decidable p] (h:decide p=true):p:=Av h
theorem C9t(l:Aa)(i:Int)(h:(D3 l&&decide (0<=i)&&decide (i<(l.length:Int)))=true)(n:Nat):A3 E52 n Tryz.f218 [.sl .i32 l none,.int .i64 i]=some (.one (.bool (N3 (l.drop i.toNat)))):=by
 have h1:=dec1 (and2 h);have h2:=dec1 (and2 (and1 h));have:=D1W l (and1 (and1 h)) i.toNat (by omega) n;rw[show((i.toNat:Nat):Int)=i by omega]at this;exact this
theorem sound_ext{P:Program}{f:Bq}{S:Ae->Ad}{I:Inv}(eO:∀args w,(De f args).run P w=.ok (.enter f args) w)
  (h:∀ls r,S ls=some r->O0 ls=false/\r.isIter=false/\(∀d,r.has d=false)/\∀(w:World)(g:Gh)(vs:Ai),I w g.wm->LsRep U6 w g ls vs->
   ∃v,(∀(w':World)(g':Gh),ERep U6 w' g' r v)/\Calls P f vs.toArray w λe w'=>e=.returned v/\Below w.heap.size w w'):Sound P U6 I f S:=by
 refine⟨eO,λls r hS w g vs hI hz ak _ _=>?_⟩;obtain⟨h1,h2,h3,h4⟩:=h ls r hS;obtain⟨v,hv,hc⟩:=h4 w g vs hI ak;refine hc.mono λe w' ⟨he,hb⟩=>⟨v,g,he,?_⟩;rw[h1];refine{os:=hb.os,tape:=hb.tape,output:=hb.output,size:=hb.size,frame:=λb aY _=>⟨hb.block b aY,rfl⟩,ext:=⟨λb c e0 fz h0=>⟨c,fz,by rw[hb.block b (Array.getElem?_eq_some_iff.1 h0).1];exact h0⟩,λb off ho=>?_,λ_=>Bu _⟩,zero:=λb aY=>hz b (Dx hb.size aY),rep:=hv _ _,nit:=h2,tip:=λd hd=>?_,disj:=λd e b hd=>?_,mine:=λd b hd=>?_}
 ·have fX:off<g.wm b:=ho;have ap:b<w.heap.size:=by
   rcases Dw b w.heap.size with h5|h5
   ·exact h5
   ·have:=hz b h5;omega
  simp only[World.cell?,hb.block b ap]
 ·rw[h3]at hd;cases hd
 ·rw[h3]at hd;cases hd
 ·rw[h3]at hd;cases hd
theorem D5h{w:World}{g:Gh}{s:Ab}{vs:Ai}(h:LsRep U6 w g [.str s] vs):vs=[.string ⟨s.toArray⟩]:=by
 match vs,h with
 |[v],h=>rw[CRep.str_inv h.1.1]
theorem rep_str2{w:World}{g:Gh}{s t:Ab}{vs:Ai}(h:LsRep U6 w g [.str s,.str t] vs):vs=[.string ⟨s.toArray⟩,.string ⟨t.toArray⟩]:=by
 match vs,h with
 |[v,u],h=>rw[CRep.str_inv h.1.1,CRep.str_inv h.2.1.1]
theorem rep_strint{w:World}{g:Gh}{s:Ab}{k:IntKind}{n:Int}{vs:Ai}(h:LsRep U6 w g [.str s,.int k n] vs):vs=[.string ⟨s.toArray⟩,.int k n]:=by
 match vs,h with
 |[v,x],h=>rw[CRep.str_inv h.1.1,CRep.int_inv h.2.1.1]
theorem szB(s:Ab):(Eg s.toArray).size=s.length:=by simp[ByteArray.size]
theorem C6z(l:Aa)(i:Int)(h:(D3 l&&decide (0<=i)&&decide (i<(l.length:Int)))=true)(n:Nat):A3 E54 n Tryz.f239 [.sl .i32 l none,.int .i64 i]=some (.one (.bool (L4 (l.drop i.toNat)))):=by
 have h1:=dec1 (and2 h);have h2:=dec1 (and2 (and1 h));have:=D1j l (and1 (and1 h)) i.toNat (by omega) n;rw[show((i.toNat:Nat):Int)=i by omega]at this;exact this
theorem D5Y(l:Aa)(i:Int)(h:(D3 l&&decide (0<=i)&&decide (i<(l.length:Int)))=true)(n:Nat):A3 E34 n Tryz.f235 [.sl .i32 l none,.int .i64 i]=some (.tup [.int .i32 (J6 (l.drop i.toNat)).1,.int .i64 (J6 (l.drop i.toNat)).2]):=by
 have h1:=dec1 (and2 h);have h2:=dec1 (and2 (and1 h));have:=C7Y l (and1 (and1 h)) i.toNat (by omega) n;rw[show((i.toNat:Nat):Int)=i by omega]at this;exact this
theorem D8Y(l:Aa)(i:Int)(h:(D3 l&&decide (0<=i)&&decide (i<=(l.length:Int)+12))=true)(n:Nat)(hn:4<n):A3 E48 n Tryz.f243 [.sl .i32 l none,.int .i64 i]=some (.one (.int .i32 (J8 (l.drop i.toNat)))):=by
 have h1:=dec1 (and2 h);have h2:=dec1 (and2 (and1 h));have:=C5O l (and1 (and1 h)) i.toNat (by omega) n hn;rw[show((i.toNat:Nat):Int)=i by omega]at this;exact this
theorem pin{α:Type}{a b:Bool}{x y:α}(h:some (a,x)=some (b,y)):a=b/\x=y:=by cases h;exact⟨rfl,rfl⟩
theorem s6(E:Env Ty6 A4)(hE:E=mk6 E.T E.cons E.drop E.nt){f:Bq}{fn:Func}{S:Ae->Option (Bool×E6)}(hf:Tryz.prog.funcs[f]?=some fn)(hn:E.nt=fn.ntmps)(he:∀args w,(De f args).run Ay w=.ok (.enter f args) w)
  (hT:∀g ls r,E.T g ls=some (true,r)->(∀args w,(De g args).run Ay w=.ok (.enter g args) w)/\A1U Ay U6 IB g ls r)(hS:∀ls r,S ls=some (true,r)->∃n,A3 E n fn ls=some r):Sound Ay U6 IB f (opt S):=by
 have hI:EnvI Ay (mk6 E.T E.cons E.drop E.nt) IB:=⟨u6_ok,A6v,A6B,hT,λf ls cs rs aR h=>by(change none=some (rs,aR)at h;cases h),λw m hI nm ls cs rs aR h=>(by(cases h)),λf ls cs rs h=>by(change none=some rs at h;cases h),IB_mono,B0g,λ_ _ _ h=>(by cases h)⟩;exact A9j hI hf hn he λls r h=>by
  obtain⟨e,h1,rfl⟩:=B7X h;rw[<-hE];exact hS ls e h1
theorem B6k:Sound Ay U6 IB 194 (opt S41):=by
 refine s6 E41 rfl Tryz.func194 rfl Tryz.call194 (λg ls r h=>?_) (λls r h=>?_)
 ·cases h
 ·unfold S41 at h;split at h
  ·rename_i a0;obtain⟨hg,rfl⟩:=pin h;exact⟨0,D1o a0 _⟩
  ·cases h
theorem A8z:Sound Ay U6 IB 200 (opt S56):=by
 refine s6 E56 rfl Tryz.func200 rfl Tryz.call200 (λg ls r h=>?_) (λls r h=>?_)
 ·cases h
 ·unfold S56 at h;split at h
  ·rename_i a0;obtain⟨hg,rfl⟩:=pin h;exact⟨0,D18 a0 _⟩
  ·cases h
theorem D6p:Sound Ay U6 IB 237 (opt S28):=by
 refine s6 E28 rfl Tryz.func237 rfl Tryz.call237 (λg ls r h=>?_) (λls r h=>?_)
 ·change T28 g ls=some (true,r)at h;unfold T28 at h;split at h
  ·exact D6 B6k h
  ·cases h
 ·unfold S28 at h;split at h
  ·rename_i a0;obtain⟨hg,rfl⟩:=pin h;exact⟨Aw a0+1,D8o a0 hg _ (Bb _)⟩
  ·cases h
theorem B6D:Sound Ay U6 IB 225 (opt S42):=by
 refine s6 E42 rfl Tryz.func225 rfl Tryz.call225 (λg ls r h=>?_) (λls r h=>?_)
 ·change T42 g ls=some (true,r)at h;unfold T42 at h;split at h
  ·exact D6 A8z h
  ·cases h
 ·unfold S42 at h;split at h
  ·rename_i a0;obtain⟨hg,rfl⟩:=pin h;exact⟨Aw a0+1,D3l a0 hg _ (Bb _)⟩
  ·cases h
theorem P9:Sound Ay U6 IB 219 (opt S27):=by
 refine s6 E27 rfl Tryz.func219 rfl Tryz.call219 (λg ls r h=>?_) (λls r h=>?_)
 ·change T27 g ls=some (true,r)at h;unfold T27 at h;split at h
  ·exact D6 D6p h
  ·cases h
 ·unfold S27 at h;split at h
  ·rename_i a0;obtain⟨hg,rfl⟩:=pin h;exact⟨0,C9w a0 hg _⟩
  ·cases h
theorem A3j:Sound Ay U6 IB 224 (opt S30):=by
 refine s6 E30 rfl Tryz.func224 rfl Tryz.call224 (λg ls r h=>?_) (λls r h=>?_)
 ·change T30 g ls=some (true,r)at h;unfold T30 at h;split at h
  ·exact D6 B6D h
  ·cases h
 ·unfold S30 at h;split at h
  ·rename_i a0;obtain⟨hg,rfl⟩:=pin h;exact⟨0,D6f a0 hg _⟩
  ·cases h
theorem B6o:Sound Ay U6 IB 240 (opt S29):=by
 refine s6 E29 rfl Tryz.func240 rfl Tryz.call240 (λg ls r h=>?_) (λls r h=>?_)
 ·change T29 g ls=some (true,r)at h;unfold T29 at h;split at h
  ·exact D6 B6D h
  ·cases h
 ·unfold S29 at h;split at h
  ·rename_i a0;obtain⟨hg,rfl⟩:=pin h;exact⟨Aw a0+1,D8G a0 hg _ (Bb _)⟩
  ·cases h
theorem D6y:Sound Ay U6 IB 234 (opt S16):=by
 refine s6 E16 rfl Tryz.func234 rfl Tryz.call234 (λg ls r h=>?_) (λls r h=>?_)
 ·change T16 g ls=some (true,r)at h;unfold T16 at h;split at h
  ·exact D6 A3j h
  ·exact D6 B6o h
  ·cases h
 ·unfold S16 at h;split at h
  ·rename_i a0;obtain⟨hg,rfl⟩:=pin h;exact⟨Aw a0+1,D78 a0 hg _ (Bb _)⟩
  ·cases h
theorem D0T:Sound Ay U6 IB 245 (opt S60):=by
 refine s6 E60 rfl Tryz.func245 rfl Tryz.call245 (λg ls r h=>?_) (λls r h=>?_)
 ·cases h
 ·unfold S60 at h;split at h
  ·rename_i a0;obtain⟨hg,rfl⟩:=pin h;exact⟨16+1,D3w a0 _ (Bb _)⟩
  ·cases h
theorem B0u:Sound Ay U6 IB 244 (opt S49):=by
 refine s6 E49 rfl Tryz.func244 rfl Tryz.call244 (λg ls r h=>?_) (λls r h=>?_)
 ·cases h
 ·unfold S49 at h;split at h
  ·rename_i a0 a1;obtain⟨hg,rfl⟩:=pin h;exact⟨0,D0U a0 a1 _⟩
  ·cases h
theorem W2:Sound Ay U6 IB 191 (opt S32):=by
 refine s6 E32 rfl Tryz.func191 rfl Tryz.call191 (λg ls r h=>?_) (λls r h=>?_)
 ·cases h
 ·unfold S32 at h;split at h
  ·rename_i a0;obtain⟨hg,rfl⟩:=pin h;exact⟨0,C9T a0 _⟩
  ·cases h
theorem B9t:Sound Ay U6 IB 175 (opt S61):=by
 refine s6 E61 rfl Tryz.func175 rfl Tryz.call175 (λg ls r h=>?_) (λls r h=>?_)
 ·cases h
 ·unfold S61 at h;split at h
  ·rename_i a0;obtain⟨hg,rfl⟩:=pin h;exact⟨0,D7w a0 _⟩
  ·cases h
theorem B4A:Sound Ay U6 IB 174 (opt S62):=by
 refine s6 E62 rfl Tryz.func174 rfl Tryz.call174 (λg ls r h=>?_) (λls r h=>?_)
 ·cases h
 ·unfold S62 at h;split at h
  ·rename_i a0 a1;obtain⟨hg,rfl⟩:=pin h;exact⟨Aw a1+1,D0v a0 a1 hg _ (Bb _)⟩
  ·cases h
theorem A7A:Sound Ay U6 IB 121 (opt S53):=by
 refine s6 E53 rfl Tryz.func121 rfl Tryz.call121 (λg ls r h=>?_) (λls r h=>?_)
 ·change T53 g ls=some (true,r)at h;unfold T53 at h;split at h
  ·exact D6 B4A h
  ·exact D6 B9t h
  ·cases h
 ·unfold S53 at h;split at h
  ·rename_i a0;obtain⟨hg,rfl⟩:=pin h;exact⟨0,C57 a0 _⟩
  ·cases h
theorem A8M:Sound Ay U6 IB 220 (opt S44):=by
 refine s6 E44 rfl Tryz.func220 rfl Tryz.call220 (λg ls r h=>?_) (λls r h=>?_)
 ·cases h
 ·unfold S44 at h;split at h
  ·rename_i a0;obtain⟨hg,rfl⟩:=pin h;exact⟨0,C51 a0 _⟩
  ·cases h
theorem D1G:Sound Ay U6 IB 238 (opt S59):=by
 refine s6 E59 rfl Tryz.func238 rfl Tryz.call238 (λg ls r h=>?_) (λls r h=>?_)
 ·cases h
 ·unfold S59 at h;split at h
  ·rename_i a0 a1;obtain⟨hg,rfl⟩:=pin h;exact⟨0,C5B a0 a1 (and1 (and1 hg)) (and2 (and1 hg)) (dec1 (and2 hg)) _⟩
  ·cases h
theorem B0M:Sound Ay U6 IB 221 (opt S45):=by
 refine s6 E45 rfl Tryz.func221 rfl Tryz.call221 (λg ls r h=>?_) (λls r h=>?_)
 ·change T45 g ls=some (true,r)at h;unfold T45 at h;split at h
  ·exact D6 D1G h
  ·cases h
 ·unfold S45 at h;split at h
  ·rename_i a0 a1;obtain⟨hg,rfl⟩:=pin h;exact⟨0,D0R a0 a1 (and1 hg) (and2 hg) _⟩
  ·cases h
theorem B90:Sound Ay U6 IB 172 (opt S50):=by
 refine s6 E50 rfl Tryz.func172 rfl Tryz.call172 (λg ls r h=>?_) (λls r h=>?_)
 ·change T50 g ls=some (true,r)at h;unfold T50 at h;split at h
  ·exact D6 B9t h
  ·cases h
 ·unfold S50 at h;split at h
  ·rename_i a0;obtain⟨hg,rfl⟩:=pin h;exact⟨0,D8n a0 _⟩
  ·cases h
theorem A87:Sound Ay U6 IB 196 (opt S33):=by
 refine s6 E33 rfl Tryz.func196 rfl Tryz.call196 (λg ls r h=>?_) (λls r h=>?_)
 ·change T33 g ls=some (true,r)at h;unfold T33 at h;split at h
  ·exact D6 A8M h
  ·exact D6 B0M h
  ·cases h
 ·unfold S33 at h;split at h
  ·rename_i a0;obtain⟨hg,rfl⟩:=pin h;exact⟨Aw a0+1,D1r a0 hg _ (Bb _)⟩
  ·cases h
theorem A6N:Sound Ay U6 IB 125 (opt S35):=by
 refine s6 E35 rfl Tryz.func125 rfl Tryz.call125 (λg ls r h=>?_) (λls r h=>?_)
 ·change T35 g ls=some (true,r)at h;unfold T35 at h;split at h
  ·exact D6 B90 h
  ·cases h
 ·unfold S35 at h;split at h
  ·rename_i a0;obtain⟨hg,rfl⟩:=pin h;exact⟨Aw a0+1,D4E a0 hg _ (Bb _)⟩
  ·cases h
theorem D1I:Sound Ay U6 IB 241 (opt S46):=by
 refine s6 E46 rfl Tryz.func241 rfl Tryz.call241 (λg ls r h=>?_) (λls r h=>?_)
 ·change T46 g ls=some (true,r)at h;unfold T46 at h;split at h
  ·exact D6 A7A h
  ·cases h
 ·unfold S46 at h;split at h
  ·rename_i a0;obtain⟨hg,rfl⟩:=pin h;exact⟨0,C9Z a0 _⟩
  ·cases h
theorem D2d:Sound Ay U6 IB 242 (opt S47):=by
 refine s6 E47 rfl Tryz.func242 rfl Tryz.call242 (λg ls r h=>?_) (λls r h=>?_)
 ·cases h
 ·unfold S47 at h;split at h
  ·rename_i a0;obtain⟨hg,rfl⟩:=pin h;exact⟨8+1,D77 a0 _ (Bb _)⟩
  ·cases h
theorem C6e:Sound Ay U6 IB 243 (opt S48):=by
 refine s6 E48 rfl Tryz.func243 rfl Tryz.call243 (λg ls r h=>?_) (λls r h=>?_)
 ·change T48 g ls=some (true,r)at h;unfold T48 at h;split at h
  ·exact D6 D0T h
  ·cases h
 ·unfold S48 at h;split at h
  ·rename_i a0 a1;obtain⟨hg,rfl⟩:=pin h;exact⟨4+1,D8Y a0 a1 hg _ (Bb _)⟩
  ·cases h
theorem B0f:Sound Ay U6 IB 235 (opt S34):=by
 refine s6 E34 rfl Tryz.func235 rfl Tryz.call235 (λg ls r h=>?_) (λls r h=>?_)
 ·change T34 g ls=some (true,r)at h;unfold T34 at h;split at h
  ·exact D6 D1I h
  ·exact D6 D2d h
  ·exact D6 C6e h
  ·exact D6 B0u h
  ·cases h
 ·unfold S34 at h;split at h
  ·rename_i a0 a1;obtain⟨hg,rfl⟩:=pin h;exact⟨0,D5Y a0 a1 hg _⟩
  ·cases h
theorem snd21:Sound Ay U6 IB 214 (opt S21):=by
 refine s6 E21 rfl Tryz.func214 rfl Tryz.call214 (λg ls r h=>?_) (λls r h=>?_)
 ·change T21 g ls=some (true,r)at h;unfold T21 at h;split at h
  ·exact D6 A6N h
  ·exact D6 B0f h
  ·cases h
 ·unfold S21 at h;split at h
  ·rename_i a0;obtain⟨hg,rfl⟩:=pin h;exact⟨Aw a0+1,D4I a0 hg _ (Bb _)⟩
  ·cases h
theorem D5C:Sound Ay U6 IB 195 (opt S51):=by
 refine s6 E51 rfl Tryz.func195 rfl Tryz.call195 (λg ls r h=>?_) (λls r h=>?_)
 ·cases h
 ·unfold S51 at h;split at h
  ·rename_i a0;obtain⟨hg,rfl⟩:=pin h;exact⟨0,C55 a0 hg _⟩
  ·cases h
theorem C9y:Sound Ay U6 IB 218 (opt S52):=by
 refine s6 E52 rfl Tryz.func218 rfl Tryz.call218 (λg ls r h=>?_) (λls r h=>?_)
 ·cases h
 ·unfold S52 at h;split at h
  ·rename_i a0 a1;obtain⟨hg,rfl⟩:=pin h;exact⟨0,C9t a0 a1 hg _⟩
  ·cases h
theorem B1E:Sound Ay U6 IB 239 (opt S54):=by
 refine s6 E54 rfl Tryz.func239 rfl Tryz.call239 (λg ls r h=>?_) (λls r h=>?_)
 ·cases h
 ·unfold S54 at h;split at h
  ·rename_i a0 a1;obtain⟨hg,rfl⟩:=pin h;exact⟨0,C6z a0 a1 hg _⟩
  ·cases h
theorem A8o:Sound Ay U6 IB 192 (opt S37):=by
 refine s6 E37 rfl Tryz.func192 rfl Tryz.call192 (λg ls r h=>?_) (λls r h=>?_)
 ·change T37 g ls=some (true,r)at h;unfold T37 at h;split at h
  ·exact D6 C9y h
  ·cases h
 ·unfold S37 at h;split at h
  ·rename_i a0;obtain⟨hg,rfl⟩:=pin h;exact⟨Aw a0+1,D3o a0 hg _ (Bb _)⟩
  ·cases h
theorem B3W:Sound Ay U6 IB 232 (opt S38):=by
 refine s6 E38 rfl Tryz.func232 rfl Tryz.call232 (λg ls r h=>?_) (λls r h=>?_)
 ·change T38 g ls=some (true,r)at h;unfold T38 at h;split at h
  ·exact D6 A7A h
  ·exact D6 B1E h
  ·cases h
 ·unfold S38 at h;split at h
  ·rename_i a0;obtain⟨hg,rfl⟩:=pin h;exact⟨Aw a0+1,D49 a0 hg _ (Bb _)⟩
  ·cases h
theorem B4H:Sound Ay U6 IB 122 (opt S55):=by
 refine s6 E55 rfl Tryz.func122 rfl Tryz.call122 (λg ls r h=>?_) (λls r h=>?_)
 ·cases h
 ·unfold S55 at h;split at h
  ·rename_i a0;obtain⟨hg,rfl⟩:=pin h;exact⟨Aw a0+1,D42 a0 hg _ (Bb _)⟩
  ·cases h
theorem B0i:Sound Ay U6 IB 198 (opt S39):=by
 refine s6 E39 rfl Tryz.func198 rfl Tryz.call198 (λg ls r h=>?_) (λls r h=>?_)
 ·change T39 g ls=some (true,r)at h;unfold T39 at h;split at h
  ·exact D6 B4H h
  ·cases h
 ·unfold S39 at h;split at h
  ·rename_i a0;obtain⟨hg,rfl⟩:=pin h;exact⟨Aw a0+2+1,C61 a0 hg _ (Bb _)⟩
  ·cases h
theorem C7M:Sound Ay U6 IB 233 (opt S40):=by
 refine s6 E40 rfl Tryz.func233 rfl Tryz.call233 (λg ls r h=>?_) (λls r h=>?_)
 ·change T40 g ls=some (true,r)at h;unfold T40 at h;split at h
  ·exact D6 B1E h
  ·cases h
 ·unfold S40 at h;split at h
  ·rename_i a0;obtain⟨hg,rfl⟩:=pin h;exact⟨Aw a0+1,C9n a0 hg _ (Bb _)⟩
  ·cases h
theorem snd23:Sound Ay U6 IB 212 (opt S23):=by
 refine s6 E23 rfl Tryz.func212 rfl Tryz.call212 (λg ls r h=>?_) (λls r h=>?_)
 ·change T23 g ls=some (true,r)at h;unfold T23 at h;split at h
  ·exact D6 A6N h
  ·exact D6 B0i h
  ·exact D6 B3W h
  ·exact D6 C7M h
  ·exact D6 D6y h
  ·cases h
 ·unfold S23 at h;split at h
  ·rename_i a0;obtain⟨hg,rfl⟩:=pin h;exact⟨Aw a0+2+1,C6r a0 hg _ (Bb _)⟩
  ·cases h
theorem C75:Sound Ay U6 IB 217 (opt B4k):=by
 refine sound_ext Tryz.call217 λls r h=>?_;obtain⟨e,h1,rfl⟩:=B7X h;unfold B4k at h1;split at h1
 ·rename_i a0;simp only[Ei,Prod.mk.injEq]at h1;obtain⟨hg,rfl⟩:=h1;refine⟨rfl,rfl,λd=>rfl,λw g vs hI hr=>?_⟩;rw[D5h hr];exact⟨_,λw' g'=>⟨[.int .i32 (Ee ⟨a0.toArray⟩).1,.int .i64 (Ee ⟨a0.toArray⟩).2],rfl,LRep.int _ _,LRep.int _ _,trivial⟩,Tryz.utf8_DecodeRuneInString ⟨a0.toArray⟩ w hI.1⟩
 ·cases h1
theorem C08:Sound Ay U6 IB 190 (opt B0H):=by
 refine s6 A2w rfl Tryz.func190 rfl Tryz.call190 (λg ls r h=>?_) (λls r h=>?_)
 ·change B2D g ls=some (true,r)at h;unfold B2D at h;split at h
  ·exact D6 C75 h
  ·cases h
 ·unfold B0H at h;split at h
  ·rename_i a0;obtain⟨hg,rfl⟩:=pin h;exact⟨Aw a0+1,D4s a0 hg _ (Bb _)⟩
  ·cases h
theorem D2h:Sound Ay U6 IB 173 (opt B6W):=by
 refine s6 A2J rfl Tryz.func173 rfl Tryz.call173 (λg ls r h=>?_) (λls r h=>?_)
 ·cases h
 ·unfold B6W at h;split at h
  ·rename_i a0 a1;obtain⟨hg,rfl⟩:=pin h;exact⟨Aw a0+1,D05 a0 a1 (and1 hg) (and2 hg) _ (Bb _)⟩
  ·cases h
theorem D0X:Sound Ay U6 IB 171 (opt B4r):=by
 refine s6 A2n rfl Tryz.func171 rfl Tryz.call171 (λg ls r h=>?_) (λls r h=>?_)
 ·cases h
 ·unfold B4r at h;split at h
  ·rename_i a0;obtain⟨hg,rfl⟩:=pin h;exact⟨4+1,D4D a0 (and1 (and1 hg)) (dec1 (and2 (and1 hg))) (dec1 (and2 hg)) _ (Bb _)⟩
  ·cases h
theorem D29:Sound Ay U6 IB 120 (opt B6A):=by
 refine s6 A07 rfl Tryz.func120 rfl Tryz.call120 (λg ls r h=>?_) (λls r h=>?_)
 ·change B5R g ls=some (true,r)at h;unfold B5R at h;split at h
  ·exact D6 D0X h
  ·exact D6 B90 h
  ·exact D6 D2h h
  ·cases h
 ·unfold B6A at h;split at h
  ·rename_i a0;obtain⟨hg,rfl⟩:=pin h;exact⟨5+1,C9x a0 (and1 (and1 hg)) (dec1 (and2 (and1 hg))) (and2 hg) _ (Bb _)⟩
  ·cases h
theorem snd223:Sound Ay U6 IB 52 (opt S223):=by
 refine s6 A05 rfl Tryz.func52 rfl Tryz.call52 (λg ls r h=>?_) (λls r h=>?_)
 ·change B51 g ls=some (true,r)at h;unfold B51 at h;split at h
  ·exact D6 D29 h
  ·cases h
 ·unfold S223 at h;split at h
  ·rename_i a0;obtain⟨hg,rfl⟩:=pin h;exact⟨Aw a0+1,D7H a0 (and1 hg) (and2 hg) _ (Bb _)⟩
  ·cases h
theorem C9G:Sound Ay U6 IB 222 (opt B4J):=by
 refine s6 B2p rfl Tryz.func222 rfl Tryz.call222 (λg ls r h=>?_) (λls r h=>?_)
 ·cases h
 ·unfold B4J at h;split at h
  ·rename_i a0;obtain⟨hg,rfl⟩:=pin h;exact⟨0,C8x a0 _⟩
  ·cases h
theorem D8z:Sound Ay U6 IB 227 (opt B30):=by
 refine s6 B27 rfl Tryz.func227 rfl Tryz.call227 (λg ls r h=>?_) (λls r h=>?_)
 ·cases h
 ·unfold B30 at h;split at h
  ·rename_i a0;obtain⟨hg,rfl⟩:=pin h;exact⟨0,D36 a0 _⟩
  ·cases h
theorem C5V:Sound Ay U6 IB 223 (opt B3i):=by
 refine s6 A2E rfl Tryz.func223 rfl Tryz.call223 (λg ls r h=>?_) (λls r h=>?_)
 ·cases h
 ·unfold B3i at h;split at h
  ·rename_i a0 a1;obtain⟨hg,rfl⟩:=pin h;exact⟨5+1,C7f a0 a1 (and1 (and1 hg)) (dec1 (and2 (and1 hg))) (dec1 (and2 hg)) _ (Bb _)⟩
  ·cases h
theorem D6z:Sound Ay U6 IB 197 (opt B3O):=by
 refine s6 B4a rfl Tryz.func197 rfl Tryz.call197 (λg ls r h=>?_) (λls r h=>?_)
 ·change B2P g ls=some (true,r)at h;unfold B2P at h;split at h
  ·exact D6 C9G h
  ·exact D6 C5V h
  ·cases h
 ·unfold B3O at h;split at h
  ·rename_i a0 a1;obtain⟨hg,rfl⟩:=pin h;exact⟨0,C77 a0 a1 (and1 hg) (and2 hg) _⟩
  ·cases h
theorem D3U:Sound Ay U6 IB 226 (opt B41):=by
 refine s6 A17 rfl Tryz.func226 rfl Tryz.call226 (λg ls r h=>?_) (λls r h=>?_)
 ·cases h
 ·unfold B41 at h;split at h
  ·rename_i a0;obtain⟨hg,rfl⟩:=pin h;exact⟨5+1,D7M a0 (dec1 (and1 hg)) (dec1 (and2 hg)) _ (Bb _)⟩
  ·cases h
theorem D34:Sound Ay U6 IB 202 (opt B6U):=by
 refine s6 A2z rfl Tryz.func202 rfl Tryz.call202 (λg ls r h=>?_) (λls r h=>?_)
 ·change B64 g ls=some (true,r)at h;unfold B64 at h;split at h
  ·exact D6 A6N h
  ·exact D6 D3U h
  ·exact D6 D8z h
  ·cases h
 ·unfold B6U at h;split at h
  ·rename_i a0;obtain⟨hg,rfl⟩:=pin h;exact⟨7+1,D6G a0 hg _ (Bb _)⟩
  ·cases h
theorem snd207:Sound Ay U6 IB 156 (opt S207):=by
 refine s6 A20 rfl Tryz.func156 rfl Tryz.call156 (λg ls r h=>?_) (λls r h=>?_)
 ·change B4Y g ls=some (true,r)at h;unfold B4Y at h;split at h
  ·exact D6 C08 h
  ·exact D6 A87 h
  ·exact D6 D6z h
  ·cases h
 ·unfold S207 at h;split at h
  ·rename_i a0;obtain⟨hg,rfl⟩:=pin h;exact⟨Aw a0+1,D5e a0 hg _ (Bb _)⟩
  ·cases h
theorem snd208:Sound Ay U6 IB 164 (opt S208):=by
 refine s6 A0x rfl Tryz.func164 rfl Tryz.call164 (λg ls r h=>?_) (λls r h=>?_)
 ·change B3d g ls=some (true,r)at h;unfold B3d at h;split at h
  ·exact D6 snd223 h
  ·exact D6 D34 h
  ·cases h
 ·unfold S208 at h;split at h
  ·rename_i a0;obtain⟨hg,rfl⟩:=pin h;exact⟨Aw a0+1,D3t a0 hg _ (Bb _)⟩
  ·cases h
theorem C67:Sound Ay U6 IB 193 (opt B5Z):=by
 refine s6 A2F rfl Tryz.func193 rfl Tryz.call193 (λg ls r h=>?_) (λls r h=>?_)
 ·change B59 g ls=some (true,r)at h;unfold B59 at h;split at h
  ·exact D6 B6k h
  ·exact D6 P9 h
  ·cases h
 ·unfold B5Z at h;split at h
  ·rename_i a0;obtain⟨hg,rfl⟩:=pin h;exact⟨Aw a0+1,D3r a0 (and1 hg) (dec1 (and2 hg)) _ (Bb _)⟩
  ·cases h
theorem D8p:Sound Ay U6 IB 199 (opt B58):=by
 refine s6 A2m rfl Tryz.func199 rfl Tryz.call199 (λg ls r h=>?_) (λls r h=>?_)
 ·change B53 g ls=some (true,r)at h;unfold B53 at h;split at h
  ·exact D6 A3j h
  ·exact D6 B6D h
  ·cases h
 ·unfold B58 at h;split at h
  ·rename_i a0;obtain⟨hg,rfl⟩:=pin h;exact⟨Aw a0+1,D1z a0 (and1 hg) (dec1 (and2 hg)) _ (Bb _)⟩
  ·cases h
theorem C8i:Sound Ay U6 IB 201 (opt B4W):=by
 refine s6 A2C rfl Tryz.func201 rfl Tryz.call201 (λg ls r h=>?_) (λls r h=>?_)
 ·cases h
 ·unfold B4W at h;split at h
  ·rename_i a0;obtain⟨hg,rfl⟩:=pin h;exact⟨Aw a0+1,D81 a0 hg _ (Bb _)⟩
  ·cases h
theorem snd209:Sound Ay U6 IB 155 (opt S209):=by
 refine s6 K3 rfl Tryz.func155 rfl Tryz.call155 (λg ls r h=>?_) (λls r h=>?_)
 ·change B4z g ls=some (true,r)at h;unfold B4z at h;split at h
  ·exact D6 C08 h
  ·exact D6 W2 h
  ·exact D6 A8o h
  ·exact D6 C67 h
  ·exact D6 B6k h
  ·exact D6 D5C h
  ·exact D6 A87 h
  ·cases h
 ·unfold S209 at h;split at h
  ·rename_i a0;obtain⟨hg,rfl⟩:=pin h;exact⟨Aw a0+1,D8I a0 hg _ (Bb _)⟩
  ·cases h
theorem snd210:Sound Ay U6 IB 163 (opt S210):=by
 refine s6 L2 rfl Tryz.func163 rfl Tryz.call163 (λg ls r h=>?_) (λls r h=>?_)
 ·change B3g g ls=some (true,r)at h;unfold B3g at h;split at h
  ·exact D6 snd223 h
  ·exact D6 A7A h
  ·exact D6 A6N h
  ·exact D6 B0i h
  ·exact D6 D8p h
  ·exact D6 A8z h
  ·exact D6 C8i h
  ·cases h
 ·unfold S210 at h;split at h
  ·rename_i a0;obtain⟨hg,rfl⟩:=pin h;exact⟨Aw a0+2+1,D1M a0 hg _ (Bb _)⟩
  ·cases h
end Go.Aev.Bv
namespace Go.Aev
open Go.Proofs
theorem Sound.sub{P:Program}{I:Inv}{f:Bq}{S S':Ae->Ad}(h:Sound P U6 I f S')(hs:∀ls r,S ls=some r->S' ls=some r):Sound P U6 I f S:=⟨h.enter,λls r hr=>h.ok ls r (hs ls r hr)⟩
theorem A4B{S:Ae->Option (Bool×E6)}{ls:Ae}{r:E6}(h:S ls=some (true,r)):Bv.opt S ls=some r:=by unfold Bv.opt;rw[h]
theorem h52:Sound Ay U6 Bv.IB 52 (sG S52):=Bv.snd223.sub λls r hr=>by
 unfold sG S52 at hr;split at hr
 ·rename_i a0;have h:=D8 (X:=F52 a0) rfl rfl hr;unfold F52 at h;cases hd:isB a0&&smL a0 with
  |false=>rw[hd]at h;cases h
  |true=>rw[hd]at h;cases h;exact A4B (S:=Bv.S223) (by show some (_,_)=_;rw[hd])
 ·cases hr
theorem D7W:Sound Ay U6 Bv.IB 155 (sG B0t):=Bv.snd209.sub λls r hr=>by
 unfold sG B0t at hr;split at hr
 ·rename_i a0;have h:=D8 (X:=A4c a0) rfl rfl hr;unfold A4c at h;cases hd:smS a0 with
  |false=>rw[hd]at h;cases h
  |true=>rw[hd]at h;cases h;exact A4B (S:=Bv.S209) (by show some (_,_)=_;rw[hd])
 ·cases hr
theorem D5G:Sound Ay U6 Bv.IB 156 (sG A9I):=Bv.snd207.sub λls r hr=>by
 unfold sG A9I at hr;split at hr
 ·rename_i a0;have h:=D8 (X:=A3l a0) rfl rfl hr;unfold A3l at h;cases hd:smS a0 with
  |false=>rw[hd]at h;cases h
  |true=>rw[hd]at h;cases h;exact A4B (S:=Bv.S207) (by show some (_,_)=_;rw[hd])
 ·cases hr
theorem D3T:Sound Ay U6 Bv.IB 163 (sG A9d):=Bv.snd210.sub λls r hr=>by
 unfold sG A9d at hr;split at hr
 ·rename_i a0;have h:=D8 (X:=A2A a0) rfl rfl hr;unfold A2A at h;cases hd:smS a0 with
  |false=>rw[hd]at h;cases h
  |true=>rw[hd]at h;cases h;exact A4B (S:=Bv.S210) (by show some (_,_)=_;rw[hd])
 ·cases hr
theorem C6m:Sound Ay U6 Bv.IB 164 (sG B1b):=Bv.snd208.sub λls r hr=>by
 unfold sG B1b at hr;split at hr
 ·rename_i a0;have h:=D8 (X:=A1N a0) rfl rfl hr;unfold A1N at h;cases hd:smS a0 with
  |false=>rw[hd]at h;cases h
  |true=>rw[hd]at h;cases h;exact A4B (S:=Bv.S208) (by show some (_,_)=_;rw[hd])
 ·cases hr
theorem C5S:Sound Ay U6 Bv.IB 212 (sG B0E):=Bv.snd23.sub λls r hr=>by
 unfold sG B0E at hr;split at hr
 ·rename_i a0;have h:=D8 (X:=A2V a0) rfl rfl hr;unfold A2V at h;cases hd:smL a0 with
  |false=>rw[hd]at h;cases h
  |true=>rw[hd]at h;cases h;exact A4B (S:=Bv.S23) (by show some (_,_)=_;rw[hd])
 ·cases hr
theorem D0M:Sound Ay U6 Bv.IB 214 (sG B2m):=Bv.snd21.sub λls r hr=>by
 unfold sG B2m at hr;split at hr
 ·rename_i a0;have h:=D8 (X:=A2g a0) rfl rfl hr;unfold A2g at h;cases hd:D3 a0 with
  |false=>rw[hd]at h;cases h
  |true=>rw[hd]at h;cases h;exact A4B (S:=Bv.S21) (by show some (_,_)=_;rw[hd])
 ·cases hr
theorem h47:Sound Ay U6 Bv.IB 47 (sG S47):=by
 refine Bv.sound_ext Tryz.call47 λls r h=>?_;unfold sG S47 at h;split at h
 ·rename_i a0 a1;have h:=D8 (X:=F47 a0 a1) rfl rfl h;unfold F47 at h;cases hd:decide (a0.length<=2)&&decide (0<=a1)&&decide (a1<=1000)with
  |false=>rw[hd]at h;cases h
  |true=>
   rw[hd]at h;cases h;have c1:=Bv.dec1 (Bv.and1 (Bv.and1 hd));have c2:=Bv.dec1 (Bv.and2 (Bv.and1 hd));have c3:=Bv.dec1 (Bv.and2 hd);refine⟨rfl,rfl,λd=>rfl,λw g vs _ hr=>?_⟩;rw[Bv.rep_strint hr];have ao:(Eg a0.toArray).size*a1.toNat<=140737488355328:=by
    rw[Bv.szB];have:a0.length*a1.toNat<=2*1000:=Nat.mul_le_mul c1 (by omega);omega
   have:=Tryz.strings_Repeat ⟨a0.toArray⟩ a1.toNat w (by omega) ao;rw[show((a1.toNat:Nat):Int)=a1 by omega]at this;exact⟨_,λw' g'=>LRep.str _,this⟩
 ·cases h
theorem h48:Sound Ay U6 Bv.IB 48 (sG S48):=by
 refine Bv.sound_ext Tryz.call48 λls r h=>?_;unfold sG S48 at h;split at h
 ·rename_i a0 a1;have h:=D8 (X:=F48 a0 a1) rfl rfl h;unfold F48 at h;cases hd:smS a0&&(a1==[93])with
  |false=>rw[hd]at h;cases h
  |true=>
   rw[hd]at h;cases h;have c2:a1=[93]:=by simpa using Bv.and2 hd
   subst c2;refine⟨rfl,rfl,λd=>rfl,λw g vs _ hr=>?_⟩;rw[Bv.rep_str2 hr];exact⟨_,λw' g'=>LRep.int _ _,(Tryz.strings_Count_one ⟨a0.toArray⟩ 93 w).mono λe w' ⟨he,hw⟩=>⟨he,hw ▸ Dv _ _⟩⟩
 ·cases h
theorem h65:Sound Ay U6 Bv.IB 65 (sG S65):=by
 refine Bv.sound_ext Tryz.call65 λls r h=>?_;unfold sG S65 at h;split at h
 ·rename_i a0 a1;have h:=D8 (X:=F65 a0 a1) rfl rfl h;unfold F65 at h;cases hd:smS a0&&(a1==[32])with
  |false=>rw[hd]at h;cases h
  |true=>
   rw[hd]at h;cases h;refine⟨rfl,rfl,λd=>rfl,λw g vs _ hr=>?_⟩;rw[Bv.rep_str2 hr];exact⟨_,λw' g'=>LRep.str _,(Tryz.strings_TrimPrefix ⟨a0.toArray⟩ ⟨a1.toArray⟩ w).mono λe w' ⟨he,hw⟩=>⟨he,hw ▸ Dv _ _⟩⟩
 ·cases h
theorem hbI:HB Bv.IB:=⟨Bv.IB_mono,B6o,D0g,h47,h48,h65,D7W,D5G,D3T,C6m,C5S,D0M,h52⟩
@[reducible] def gd{R:Type}(c:Bool)(x:Option R):Option R:=bif c then x else none
abbrev B6:=Ae×Ao
abbrev Af:=Option B6
@[reducible] def kC:List (List KD):=[[.sl .tok none,.int .i64,.int .i64,.int .i64,.int .i64]]
@[reducible] def kP:List (List KD):=[[.ptr 900000 C4,.sl .u8 (some 92000001)]]
@[reducible] def kO:List (List KD):=[[.sl .u8 (some 92000000)]]
@[reducible] def kT:List KD:=[.sl .tok none,.int .i64]
def bxT(T:Ah)(q:Int):Ae:=[.sl .tok T none,.int .i64 q]
def B9(l:Aa):Ao:=[[.ptr 900000 C4,.sl .u8 l (some 92000001)]]
def C3(l:Aa):Ao:=[[.sl .u8 l (some 92000000)]]
def zT(T:Ah)(q:Int):Nat×E6:=(1900000,.bx 900000 (bxT T q))
def zP(l:Aa):Nat×E6:=(1900000,.bx 900000 [.ptr 900000 C4,.sl .u8 l (some 92000001)])
def zO(l:Aa):Nat×E6:=(1900000,.bx 900000 [.sl .u8 l (some 92000000)])
@[reducible] def gT(r:Option (Ae×Ao)):Ah:=A4U (gC r 0 0)
@[reducible] def gQ(r:Option (Ae×Ao)):Int:=lI (gC r 0 1)
@[reducible] def gP(r:Option (Ae×Ao)):Aa:=A3H (gC r 0 1)
@[reducible] def gO(r:Option (Ae×Ao)):Aa:=A3H (gC r 0 0)
@[reducible] def bq(d o:Nat):Bool:=Az d 900000&&Az o 0
@[reducible] def pq(d o:Nat):Bool:=Az d 900000&&Az o C4
@[reducible] def pR(ks:List KD)(F:Ad):Option (Bool×E6):=some (okR ks F,M1 ks F)
@[reducible] def pB(ks:List KD)(il:List (List KD))(F:Option (Ae×Ao)):Option (Bool×Ae×Ao):=some (okB ks il F,rsR ks F,csR il F)
abbrev S1T:=Ae->Option (Bool×E6)
abbrev S2T:=Ae->Ao->Option (Bool×Ae×Ao)
def lkT:List (Bq×S1T)->T6
 |[],_,_=>none
 |(g,S)::r,f,ls=>bif Az f g then S ls else lkT r f ls
def lkB:List (Bq×S2T)->TB6
 |[],_,_,_=>none
 |(g,S)::r,f,ls,cs=>bif Az f g then S ls cs else lkB r f ls cs
def lkD:List (Nat×Aj)->Nat->Aj
 |[],_=>[]
 |(g,l)::r,n=>bif Az n g then l else lkD r n
def noD:Nat->Aj:=λ_=>[]
def lkN:List (Nat×Nat)->Nat->Nat
 |[],n=>100+n
 |(a,b)::r,n=>bif Az n a then b else lkN r n
def bpG(TB:List (Bq×S2T))(f:Bq):Option Aj:=bif TB.any (λp=>Az p.1 f)then(bif Az f 85||Az f 154 then some [0,1]else some [0])else none
def mkE(T:List (Bq×S1T))(TB:List (Bq×S2T))(dr:Nat->Aj)(nt:Nat)(mb:Aj)(np:Nat)(oz:Aj)(bn:List (Nat×Nat)):Env Ty6 A4:=
 {U:=U6,tb:=tb6,T:=lkT T,cons:=λ_=>none,drop:=dr,nt:=nt,zr:=zr6,mb:=λd=>mem d mb,np:=np,oz:=λd=>mem d oz,bn:=lkN bn,bp:=bpG TB,TBg:=lkB TB}
section
variable {R:Type}
def LP(E:Env Ty6 A4)(nn:Nat)(f:Func)(p:Aj)(hid n:Nat)(s:S6)(K:Ex->S6->Option R):Option R:=D1 (lbN nn E (A1 f p) hid) n s K
def sk(E:Env Ty6 A4)(nn:Nat)(f:Func)(p:Aj)(K:Ex->S6->Option R):Ex->S6->Option R:=C1 (B1 E nn (A1 f p)) K
end
def E56:Env Ty6 A4:=mkE [] [] noD 23 [] 0 [] []
def F56(a0:Ab):Ad:=let j1:Bool->Ad:=λz2=>some (.one (.bool false));let j3:Bool->Ad:=λz4=>bif z4 then(some (.one (.bool true)))else(j1 z4);let z5:=a0==[110,97,109,101];bif z5 then(j3 z5)else(let z6:=a0==[98,117,116,79,110];bif z6 then(j3 z6)else(let z7:=a0==[111,110];bif z7 then(j3 z7)else(let z8:=a0==[108,105,116];bif z8 then(j3 z8)else(let z9:=a0==[101,110,100];bif z9 then(j3 z9)else(let dH:=a0==[110,111,110,101];bif dH then(j3 dH)else(bif(a0==[123])then(j3 (a0==[123]))else(bif(a0==[125])then(j3 (a0==[125]))else(bif(a0==[40])then(j3 (a0==[40]))else(bif(a0==[41])then(j3 (a0==[41]))else(bif(a0==[91])then(j3 (a0==[91]))else(bif(a0==[93])then(j3 (a0==[93]))else(bif(a0==[36])then(j3 (a0==[36]))else(bif(a0==[58])then(j3 (a0==[58]))else(bif(a0==[61])then(j3 (a0==[61]))else(bif(a0==[33])then(j3 (a0==[33]))else(bif(a0==[64])then(j3 (a0==[64]))else(let cF:=(a0==[46,46,46]);bif cF then(some (.one (.bool true)))else(some (.one (.bool false))))))))))))))))))))
theorem B2E{a0:Ab}:A3 E56 NN Tryz.f56 [.str a0]=F56 a0:=by kernel_rfl
def S56:S1T
 |[.str a0]=>pR [.bool] (F56 a0)
 |_=>none
def B8O:Env Ty6 A4:=mkE [] [] noD 14 [] 0 [] []
def A1z(a0:A0)(a1:Ab):Ad:=bif(a0.kind==3)==true then(some (.one (.bool (a0.text==a1))))else(some (.one (.bool false)))
theorem D3h{a0:A0}{a1:Ab}:A3 B8O NN Tryz.f129 [.agg .tok a0,.str a1]=A1z a0 a1:=by kernel_rfl
def A77:S1T
 |[.agg .tok a0,.str a1]=>pR [.bool] (A1z a0 a1)
 |_=>none
def B7J:Env Ty6 A4:=mkE [] [] noD 14 [] 0 [] []
def A0B(a0:A0)(a1:Ab):Ad:=bif(a0.kind==2)==true then(some (.one (.bool (a0.text==a1))))else(some (.one (.bool false)))
theorem C8Y{a0:A0}{a1:Ab}:A3 B7J NN Tryz.f131 [.agg .tok a0,.str a1]=A0B a0 a1:=by kernel_rfl
def A6F:S1T
 |[.agg .tok a0,.str a1]=>pR [.bool] (A0B a0 a1)
 |_=>none
def C4d:Env Ty6 A4:=mkE [(131,A6F)] [] noD 14 [] 0 [] []
def V1(a0:A0)(a1:Ab)(a2 a3:Ag):Ad:=gd (okR [.bool] (A0B a0 a1)) (bif(lB (gL (A0B a0 a1) 0))then(some (.one (.sl .str a2 none)))else(some (.one (.sl .str a3 none))))
theorem D09{a0:A0}{a1:Ab}{a2 a3:Ag}:A3 C4d NN Tryz.f183 [.agg .tok a0,.str a1,.sl .str a2 none,.sl .str a3 none]=V1 a0 a1 a2 a3:=by kernel_rfl
def A8S:S1T
 |[.agg .tok a0,.str a1,.sl .str a2 none,.sl .str a3 none]=>pR [.sl .str none] (V1 a0 a1 a2 a3)
 |_=>none
def B79:Env Ty6 A4:=mkE [(129,A77),(131,A6F),(183,A8S)] [] noD 74 [] 0 [] []
def A7E(a0:Ab)(a1:A0):Ad:=bif(a0==[68,111,99,117,109,101,110,116])then(some (.tup [.sl .str [[68,101,102],[68,101,102,115],[101,110,100]] (some 1),.bool true]))else(bif(a0==[68,101,102,115])then(bif(a1.kind==0)then(some (.tup [.sl .str [] (some 1),.bool true]))else(some (.tup [.sl .str [[68,101,102],[68,101,102,115]] (some 1),.bool true])))else(bif(a0==[68,101,102])then(let j1:Ad:=some (.tup [.sl .str [[110,111,110,101]] (some 1),.bool true]);let r8:=A0B a1 [123];gd (okR [.bool] r8) (bif(lB (gL r8 0))then(some (.tup [.sl .str [[83,101,116]] (some 1),.bool true]))else(let r7:=A1z a1 [113,117,101,114,121];gd (okR [.bool] r7) (bif(lB (gL r7 0))==false then(let r5:=A1z a1 [109,117,116,97,116,105,111,110];gd (okR [.bool] r5) (bif(lB (gL r5 0))==false then(let r3:=A1z a1 [115,117,98,115,99,114,105,112,116,105,111,110];gd (okR [.bool] r3) (bif(lB (gL r3 0))then(some (.tup [.sl .str [[110,97,109,101],[79,112,116,78,97,109,101],[79,112,116,86,97,114,115],[68,105,114,115],[83,101,116]] (some 1),.bool true]))else(let r2:=A1z a1 [102,114,97,103,109,101,110,116];gd (okR [.bool] r2) (bif(lB (gL r2 0))then(some (.tup [.sl .str [[110,97,109,101],[98,117,116,79,110],[111,110],[110,97,109,101],[68,105,114,115],[83,101,116]] (some 1),.bool true]))else j1))))else(bif true then(some (.tup [.sl .str [[110,97,109,101],[79,112,116,78,97,109,101],[79,112,116,86,97,114,115],[68,105,114,115],[83,101,116]] (some 1),.bool true]))else(let r4:=A1z a1 [102,114,97,103,109,101,110,116];gd (okR [.bool] r4) (bif(lB (gL r4 0))then(some (.tup [.sl .str [[110,97,109,101],[98,117,116,79,110],[111,110],[110,97,109,101],[68,105,114,115],[83,101,116]] (some 1),.bool true]))else j1)))))else(bif true then(some (.tup [.sl .str [[110,97,109,101],[79,112,116,78,97,109,101],[79,112,116,86,97,114,115],[68,105,114,115],[83,101,116]] (some 1),.bool true]))else(let r6:=A1z a1 [102,114,97,103,109,101,110,116];gd (okR [.bool] r6) (bif(lB (gL r6 0))then(some (.tup [.sl .str [[110,97,109,101],[98,117,116,79,110],[111,110],[110,97,109,101],[68,105,114,115],[83,101,116]] (some 1),.bool true]))else j1)))))))else(bif(a0==[79,112,116,78,97,109,101])then(bif(a1.kind==3)then(some (.tup [.sl .str [[110,97,109,101]] (some 1),.bool true]))else(some (.tup [.sl .str [] (some 1),.bool true])))else(bif(a0==[79,112,116,86,97,114,115])then(let r9:=V1 a1 [40] [[40],[86,97,114],[86,97,114,115],[41]] [];gd (okR [.sl .str none] r9) (some (.tup [.sl .str (H8 (gL r9 0)) none,.bool true])))else(bif(a0==[86,97,114,115])then(let bY:=V1 a1 [36] [[86,97,114],[86,97,114,115]] [];gd (okR [.sl .str none] bY) (some (.tup [.sl .str (H8 (gL bY 0)) none,.bool true])))else(bif(a0==[86,97,114])then(some (.tup [.sl .str [[36],[110,97,109,101],[58],[84,121,112,101],[79,112,116,68,101,102,97,117,108,116],[67,68,105,114,115]] (some 1),.bool true]))else(bif(a0==[79,112,116,68,101,102,97,117,108,116])then(let dI:=V1 a1 [61] [[61],[67,86,97,108,117,101]] [];gd (okR [.sl .str none] dI) (some (.tup [.sl .str (H8 (gL dI 0)) none,.bool true])))else(bif(a0==[84,121,112,101])then(let fv:=V1 a1 [91] [[91],[84,121,112,101],[93],[66,97,110,103]] [[110,97,109,101],[66,97,110,103]];gd (okR [.sl .str none] fv) (some (.tup [.sl .str (H8 (gL fv 0)) none,.bool true])))else(bif(a0==[66,97,110,103])then(let dJ:=V1 a1 [33] [[33]] [];gd (okR [.sl .str none] dJ) (some (.tup [.sl .str (H8 (gL dJ 0)) none,.bool true])))else(some (.tup [.sl .str [] (some 1),.bool false])))))))))))
theorem D6N{a0:Ab}{a1:A0}:A3 B79 NN Tryz.f126 [.str a0,.agg .tok a1]=A7E a0 a1:=by kernel_rfl
def B6J:S1T
 |[.str a0,.agg .tok a1]=>pR [.slc .str,.bool] (A7E a0 a1)
 |_=>none
def B96:Env Ty6 A4:=mkE [(129,A77),(183,A8S)] [] noD 43 [] 0 [] []
def A8C(a0:Ab)(a1:A0):Ad:=bif(a0==[83,101,116])then(some (.tup [.sl .str [[123],[83,101,108],[83,101,108,115],[125]] (some 1),.bool true]))else(bif(a0==[83,101,108,115])then(let r1:=V1 a1 [125] [] [[83,101,108],[83,101,108,115]];gd (okR [.sl .str none] r1) (some (.tup [.sl .str (H8 (gL r1 0)) none,.bool true])))else(bif(a0==[83,101,108])then(let r2:=V1 a1 [46,46,46] [[46,46,46],[82,101,115,116]] [[110,97,109,101],[65,108,105,97,115],[65,114,103,115],[68,105,114,115],[79,112,116,83,101,116]];gd (okR [.sl .str none] r2) (some (.tup [.sl .str (H8 (gL r2 0)) none,.bool true])))else(bif(a0==[65,108,105,97,115])then(let r3:=V1 a1 [58] [[58],[110,97,109,101]] [];gd (okR [.sl .str none] r3) (some (.tup [.sl .str (H8 (gL r3 0)) none,.bool true])))else(bif(a0==[79,112,116,83,101,116])then(let r4:=V1 a1 [123] [[83,101,116]] [];gd (okR [.sl .str none] r4) (some (.tup [.sl .str (H8 (gL r4 0)) none,.bool true])))else(bif(a0==[82,101,115,116])then(let r5:=A1z a1 [111,110];gd (okR [.bool] r5) (bif(lB (gL r5 0))then(some (.tup [.sl .str [[111,110],[110,97,109,101],[68,105,114,115],[83,101,116]] (some 1),.bool true]))else(bif(a1.kind==3)then(some (.tup [.sl .str [[98,117,116,79,110],[68,105,114,115]] (some 1),.bool true]))else(some (.tup [.sl .str [[68,105,114,115],[83,101,116]] (some 1),.bool true])))))else(some (.tup [.sl .str [] (some 1),.bool false])))))))
theorem C56{a0:Ab}{a1:A0}:A3 B96 NN Tryz.f127 [.str a0,.agg .tok a1]=A8C a0 a1:=by kernel_rfl
def B5o:S1T
 |[.str a0,.agg .tok a1]=>pR [.slc .str,.bool] (A8C a0 a1)
 |_=>none
def C2w:Env Ty6 A4:=mkE [(131,A6F),(183,A8S)] [] noD 92 [] 0 [] []
def B1X(a0 a1:Ab)(a2:A0):Ad:=bif(a0==[68,105,114,115])then(gd (decide (Aw a1+Aw [65,114,103,115]<=9223372036854775807)) (gd (decide (Aw a1+Aw [68,105,114,115]<=9223372036854775807)) (let r1:=V1 a2 [64] [[64],[110,97,109,101],a1++[65,114,103,115],a1++[68,105,114,115]] [];gd (okR [.sl .str none] r1) (some (.one (.sl .str (H8 (gL r1 0)) none))))))else(bif(a0==[65,114,103,115])then(gd (decide (Aw a1+Aw [65,114,103]<=9223372036854775807)) (gd (decide (Aw a1+Aw [77,111,114,101]<=9223372036854775807)) (let r2:=V1 a2 [40] [[40],a1++[65,114,103],a1++[77,111,114,101],[41]] [];gd (okR [.sl .str none] r2) (some (.one (.sl .str (H8 (gL r2 0)) none))))))else(bif(a0==[77,111,114,101])then(gd (decide (Aw a1+Aw [65,114,103]<=9223372036854775807)) (gd (decide (Aw a1+Aw [77,111,114,101]<=9223372036854775807)) (let r3:=V1 a2 [41] [] [a1++[65,114,103],a1++[77,111,114,101]];gd (okR [.sl .str none] r3) (some (.one (.sl .str (H8 (gL r3 0)) none))))))else(bif(a0==[65,114,103])then(gd (decide (Aw a1+Aw [86,97,108,117,101]<=9223372036854775807)) (some (.one (.sl .str [[110,97,109,101],[58],a1++[86,97,108,117,101]] (some 1)))))else(bif(a0==[86,97,108,117,101])then(let j4:Ad:=some (.one (.sl .str [[108,105,116]] (some 1)));let r9:=A0B a2 [36];gd (okR [.bool] r9) (bif(lB (gL r9 0))==true then(bif(a1==[])then(some (.one (.sl .str [[36],[110,97,109,101]] (some 1))))else(let r6:=A0B a2 [91];gd (okR [.bool] r6) (bif(lB (gL r6 0))then(gd (decide (Aw a1+Aw [73,116,101,109,115]<=9223372036854775807)) (some (.one (.sl .str [[91],a1++[73,116,101,109,115],[93]] (some 1)))))else(let r5:=A0B a2 [123];gd (okR [.bool] r5) (bif(lB (gL r5 0))then(gd (decide (Aw a1+Aw [70,105,101,108,100,115]<=9223372036854775807)) (some (.one (.sl .str [[123],a1++[70,105,101,108,100,115],[125]] (some 1)))))else(bif(a2.kind==3)then(some (.one (.sl .str [[110,97,109,101]] (some 1))))else j4))))))else(bif false then(some (.one (.sl .str [[36],[110,97,109,101]] (some 1))))else(let r8:=A0B a2 [91];gd (okR [.bool] r8) (bif(lB (gL r8 0))then(gd (decide (Aw a1+Aw [73,116,101,109,115]<=9223372036854775807)) (some (.one (.sl .str [[91],a1++[73,116,101,109,115],[93]] (some 1)))))else(let r7:=A0B a2 [123];gd (okR [.bool] r7) (bif(lB (gL r7 0))then(gd (decide (Aw a1+Aw [70,105,101,108,100,115]<=9223372036854775807)) (some (.one (.sl .str [[123],a1++[70,105,101,108,100,115],[125]] (some 1)))))else(bif(a2.kind==3)then(some (.one (.sl .str [[110,97,109,101]] (some 1))))else j4))))))))else(bif(a0==[73,116,101,109,115])then(gd (decide (Aw a1+Aw [86,97,108,117,101]<=9223372036854775807)) (gd (decide (Aw a1+Aw [73,116,101,109,115]<=9223372036854775807)) (let bY:=V1 a2 [93] [] [a1++[86,97,108,117,101],a1++[73,116,101,109,115]];gd (okR [.sl .str none] bY) (some (.one (.sl .str (H8 (gL bY 0)) none))))))else(bif(a0==[70,105,101,108,100,115])then(gd (decide (Aw a1+Aw [70,105,101,108,100]<=9223372036854775807)) (gd (decide (Aw a1+Aw [70,105,101,108,100,115]<=9223372036854775807)) (let dI:=V1 a2 [125] [] [a1++[70,105,101,108,100],a1++[70,105,101,108,100,115]];gd (okR [.sl .str none] dI) (some (.one (.sl .str (H8 (gL dI 0)) none))))))else(bif(a0==[70,105,101,108,100])then(gd (decide (Aw a1+Aw [86,97,108,117,101]<=9223372036854775807)) (some (.one (.sl .str [[110,97,109,101],[58],a1++[86,97,108,117,101]] (some 1)))))else(some (.one (.sl .str [[110,111,110,101]] (some 1)))))))))))
theorem D27{a0 a1:Ab}{a2:A0}:A3 C2w NN Tryz.f128 [.str a0,.str a1,.agg .tok a2]=B1X a0 a1 a2:=by kernel_rfl
def B7b:S1T
 |[.str a0,.str a1,.agg .tok a2]=>pR [.slc .str] (B1X a0 a1 a2)
 |_=>none
def E57:Env Ty6 A4:=mkE [(126,B6J),(127,B5o),(128,B7b)] [] noD 33 [] 0 [] []
def F57(a0:Ab)(a1:A0):Ad:=gd (okR [.slc .str,.bool] (A7E a0 a1)) (let z1:=(H8 (gL (A7E a0 a1) 0));bif(lB (gL (A7E a0 a1) 1))then(some (.one (.sl .str z1 none)))else(gd (okR [.slc .str,.bool] (A8C a0 a1)) (let z2:=(H8 (gL (A8C a0 a1) 0));bif(lB (gL (A8C a0 a1) 1))then(some (.one (.sl .str z2 none)))else(match idx a0 0 with|none=>none|some y3=>(bif((Bi y3:Int)==67)then(match sub a0 1 (Aw a0:Int)with|none=>none|some y4=>(let r5:=B1X y4 [67] a1;gd (okR [.slc .str] r5) (some (.one (.sl .str (H8 (gL r5 0)) none)))))else(let r6:=B1X a0 [] a1;gd (okR [.slc .str] r6) (some (.one (.sl .str (H8 (gL r6 0)) none)))))))))
theorem D7I{a0:Ab}{a1:A0}:A3 E57 NN Tryz.f57 [.str a0,.agg .tok a1]=F57 a0 a1:=by kernel_rfl
def S57:S1T
 |[.str a0,.agg .tok a1]=>pR [.sl .str none] (F57 a0 a1)
 |_=>none
def C44:Env Ty6 A4:=mkE [] [] noD 21 [] 0 [] []
def A94(a0:A0):Ad:=bif(a0.kind==4)==false then(bif(a0.kind==5)==false then(bif(a0.kind==6)==false then(some (.one (.bool (a0.kind==7))))else(some (.one (.bool true))))else(some (.one (.bool true))))else(some (.one (.bool true)))
theorem D2w{a0:A0}:A3 C44 NN Tryz.f130 [.agg .tok a0]=A94 a0:=by kernel_rfl
def B66:S1T
 |[.agg .tok a0]=>pR [.bool] (A94 a0)
 |_=>none
def E58:Env Ty6 A4:=mkE [(129,A77),(130,B66),(131,A6F)] [] noD 39 [] 0 [] []
def F58(a0:Ab)(a1:A0):Ad:=bif(a0==[110,97,109,101])then(some (.one (.bool (a1.kind==3))))else(bif(a0==[98,117,116,79,110])then(bif(a1.kind==3)==true then(some (.one (.bool (!(a1.text==[111,110])))))else(some (.one (.bool false))))else(bif(a0==[111,110])then(let r1:=A1z a1 [111,110];gd (okR [.bool] r1) (some (.one (.bool (lB (gL r1 0))))))else(bif(a0==[108,105,116])then(gd (okR [.bool] (A94 a1)) (some (.one (.bool (lB (gL (A94 a1) 0))))))else(bif(a0==[101,110,100])then(some (.one (.bool (a1.kind==0))))else(bif(a0==[110,111,110,101])then(some (.one (.bool false)))else(gd (okR [.bool] (A0B a1 a0)) (some (.one (.bool (lB (gL (A0B a1 a0) 0)))))))))))
theorem D17{a0:Ab}{a1:A0}:A3 E58 NN Tryz.f58 [.str a0,.agg .tok a1]=F58 a0 a1:=by kernel_rfl
def S58:S1T
 |[.str a0,.agg .tok a1]=>pR [.bool] (F58 a0 a1)
 |_=>none
def E73:Env Ty6 A4:=mkE [] [] noD 11 [] 0 [] []
def F73(a0:Ab):Ad:=match idx a0 0 with|none=>none|some y1=>(bif(decide ((Bi y1:Int)>=65))==true then(match idx a0 0 with|none=>none|some y2=>(some (.one (.bool (decide ((Bi y2:Int)<=90))))))else(some (.one (.bool false))))
theorem D5U{a0:Ab}:A3 E73 NN Tryz.f73 [.str a0]=F73 a0:=by kernel_rfl
def S73:S1T
 |[.str a0]=>pR [.bool] (F73 a0)
 |_=>none
def A4V:Env Ty6 A4:=mkE [] [] (lkD [(0,[4]),(2,[6,7,8]),(3,[10,11,18]),(4,[9,12,13,14,15,16,17]),(5,[0,1,5,18,19,20,21,22,23]),(6,[0,1,5,9])]) 24 [] 0 [] []
def C16(a0:An)(a1:Ab)(x5:Int):S6:=⟨[(0,.one (.sl .rule a0 none)),(1,.one (.str a1)),(5,.one (.int .i64 x5))],[]⟩
def D6a(a0:An)(a1:Ab)(x5:Int)(x9:Bool):S6:=⟨[(0,.one (.sl .rule a0 none)),(1,.one (.str a1)),(5,.one (.int .i64 x5)),(9,.one (.bool x9))],[]⟩
def C8R(a0:An)(a1:Ab)(x4:List Ag):S6:=⟨[(4,.one (.sl .strs x4 none))],[]⟩
def C84{R:Type}(nn:Nat)(a0:An)(a1:Ab)(x5:Int)(k1:(List Ag)->Option R)(k2:Int->Option R)(k3:Int->Bool->Option R):Option R:=let z1:=decide (x5<(Aw a0:Int));bif z1 then(match idx a0 x5 with|none=>none|some y2=>(bif(y2.name==a1)then(match idx a0 x5 with|none=>none|some y3=>(k1 y3.choices))else(k2 (Ax .i64 (x5+1)))))else(k3 x5 z1)
def A9X{R:Type}(nn:Nat)(a0:An)(a1:Ab):Nat->Int->((List Ag)->Option R)->(Int->Bool->Option R)->Option R
 |0,_,_,_=>none
 |n+1,x5,k1,k3=>C84 nn a0 a1 x5 k1 (λx5=>A9X nn a0 a1 n x5 k1 k3) k3
theorem B8L{R:Type}(nn:Nat)(a0:An)(a1:Ab):∀(n:Nat)(x5:Int)(K:Ex->S6->Option R),LP A4V nn Cy [1,0,1,0,0] 10002 n (C16 a0 a1 x5) K=A9X nn a0 a1 n x5 (λx4=>K .ret (C8R a0 a1 x4)) (λx5 x9=>K (.exit 0) (D6a a0 a1 x5 x9))
 |0,_,_=>rfl
 |n+1,x5,K=>by
  rw[A9X];simp only[<-B8L nn a0 a1 n _ K];kernel_rfl
def C3Y(nn:Nat)(a0:An)(a1:Ab):Ad:=A9X nn a0 a1 nn 0 (λz1=>some (.one (.sl .strs z1 none))) (λz2 z3=>some (.one (.sl .strs [] (some 1))))
def V5(a0:An)(a1:Ab):Ad:=C3Y NN a0 a1
theorem C52(nn:Nat){a0:An}{a1:Ab}:A3 A4V nn Cy [.sl .rule a0 none,.str a1]=C3Y nn a0 a1:=by
 have h:A3 A4V nn Cy [.sl .rule a0 none,.str a1]=LP A4V nn Cy [1,0,1,0,0] 10002 nn (C16 a0 a1 0) (A5 0 (sk A4V nn Cy [1,1] (A9 A4V Tryz.f146.results.toList))):=by kernel_rfl
 rw[h];simp only[B8L];show _=_;kernel_rfl
def A8P:S1T
 |[.sl .rule a0 none,.str a1]=>pR [.slc .strs] (V5 a0 a1)
 |_=>none
def E77:Env Ty6 A4:=mkE [] [] (lkD [(0,[2]),(4,[6,7,8]),(5,[10,11,21]),(6,[9,12,13,14,15,16,17,18,19,20]),(7,[21,22,23]),(8,[4,24,25,26,27,28,29,30,31]),(9,[24,32,33]),(10,[0,3,4,5,9,34])]) 35 [] 0 [] []
def B9S(a0:Ab)(x3:Ag)(x4 x5:Int):S6:=⟨[(0,.one (.str a0)),(3,.one (.sl .str x3 (some 103))),(4,.one (.int .i64 x4)),(5,.one (.int .i64 x5))],[103]⟩
def D8R(a0:Ab)(x3:Ag)(x4 x5:Int)(x9:Bool):S6:=⟨[(0,.one (.str a0)),(3,.one (.sl .str x3 (some 103))),(4,.one (.int .i64 x4)),(5,.one (.int .i64 x5)),(9,.one (.bool x9))],[103]⟩
def C98{R:Type}(nn:Nat)(a0:Ab)(x3:Ag)(x4 x5:Int)(k1:(Ag)->Int->Int->Option R)(k2:(Ag)->Int->Int->Bool->Option R):Option R:=let z1:=decide (x5<=(Aw a0:Int));bif z1 then(let j2:(Ag)->Int->Int->Bool->Option R:=λz3 z4 z5 z6=>k1 z3 z4 (Ax .i64 (z5+1));let j7:(Ag)->Int->Int->Option R:=λz8 z9 dH=>k1 z8 z9 (Ax .i64 (dH+1));let wc:(Ag)->Int->Int->Bool->Option R:=λdi dB dj dK=>let fw:=decide (dj>dB);bif fw then(match sub a0 dB dj with|none=>none|some rF=>(gd (A2 (Aw di+1) 16) (j7 (di++[rF]) (Ax .i64 (dj+1)) dj)))else(j7 di (Ax .i64 (dj+1)) dj);bif(decide (x5<(Aw a0:Int)))==true then(match idx a0 x5 with|none=>none|some nM=>(let fE:=(Bi nM:Int) !=32;bif fE then(j2 x3 x4 x5 fE)else(wc x3 x4 x5 fE)))else(bif false then(j2 x3 x4 x5 false)else(wc x3 x4 x5 false)))else(k2 x3 x4 x5 z1)
def B1u{R:Type}(nn:Nat)(a0:Ab):Nat->(Ag)->Int->Int->((Ag)->Int->Int->Bool->Option R)->Option R
 |0,_,_,_,_=>none
 |n+1,x3,x4,x5,k2=>C98 nn a0 x3 x4 x5 (λx3 x4 x5=>B1u nn a0 n x3 x4 x5 k2) k2
theorem B8h{R:Type}(nn:Nat)(a0:Ab):∀(n:Nat)(x3:Ag)(x4 x5:Int)(K:Ex->S6->Option R),LP E77 nn Cl [1,1,1,0,1,0,0] 10004 n (B9S a0 x3 x4 x5) K=B1u nn a0 n x3 x4 x5 (λx3 x4 x5 x9=>K (.exit 0) (D8R a0 x3 x4 x5 x9))
 |0,_,_,_,_=>rfl
 |n+1,x3,x4,x5,K=>by
  rw[B1u];simp only[<-B8h nn a0 n _ _ _ K];kernel_rfl
def C3h(nn:Nat)(a0:Ab):Ad:=B1u nn a0 nn [] 0 0 (λz1 z2 z3 z4=>some (.one (.sl .str z1 (some 1))))
def F77(a0:Ab):Ad:=C3h NN a0
theorem D52(nn:Nat){a0:Ab}:A3 E77 nn Cl [.str a0]=C3h nn a0:=by
 have h:A3 E77 nn Cl [.str a0]=LP E77 nn Cl [1,1,1,0,1,0,0] 10004 nn (B9S a0 [] 0 0) (A5 0 (sk E77 nn Cl [1,1,1,1] (A9 E77 Tryz.f77.results.toList))):=by kernel_rfl
 rw[h];simp only[B8h];show _=_;kernel_rfl
def S77:S1T
 |[.str a0]=>pR [.sl .str (some 1)] (F77 a0)
 |_=>none
def A5m:Env Ty6 A4:=mkE [(77,S77)] [] (lkD [(0,[4]),(1,[1,7,8]),(3,[9,10,11]),(4,[13,14,20]),(5,[12,15,16,17,18,19]),(6,[0,5,6,20]),(7,[0,5,6,12])]) 21 [] 0 [] []
def C3t(a0 a1:Ab)(x5:Ag)(x6:Int):S6:=⟨[(0,.one (.str a0)),(5,.one (.sl .str x5 (some 1008))),(6,.one (.int .i64 x6))],[1008]⟩
def C9F(a0 a1:Ab)(x5:Ag)(x6:Int)(cN:Bool):S6:=⟨[(0,.one (.str a0)),(5,.one (.sl .str x5 (some 1008))),(6,.one (.int .i64 x6)),(12,.one (.bool cN))],[1008]⟩
def D2o(a0 a1:Ab):S6:=⟨[(4,.one (.bool true))],[]⟩
def B69{R:Type}(nn:Nat)(a0 a1:Ab)(x5:Ag)(x6:Int)(k1:Option R)(k2:(Ag)->Int->Option R)(k3:(Ag)->Int->Bool->Option R):Option R:=let z1:=decide (x6<(Aw x5:Int));bif z1 then(match idx x5 x6 with|none=>none|some y2=>(bif(y2==a0)then k1 else(k2 x5 (Ax .i64 (x6+1)))))else(k3 x5 x6 z1)
def A7i{R:Type}(nn:Nat)(a0 a1:Ab):Nat->(Ag)->Int->(Option R)->((Ag)->Int->Bool->Option R)->Option R
 |0,_,_,_,_=>none
 |n+1,x5,x6,k1,k3=>B69 nn a0 a1 x5 x6 k1 (λx5 x6=>A7i nn a0 a1 n x5 x6 k1 k3) k3
theorem C46{R:Type}(nn:Nat)(a0 a1:Ab):∀(n:Nat)(x5:Ag)(x6:Int)(K:Ex->S6->Option R),LP A5m nn Cx [1,1,0,1,0,0] 10003 n (C3t a0 a1 x5 x6) K=A7i nn a0 a1 n x5 x6 (K .ret (D2o a0 a1)) (λx5 x6 cN=>K (.exit 0) (C9F a0 a1 x5 x6 cN))
 |0,_,_,_=>rfl
 |n+1,x5,x6,K=>by
  rw[A7i];simp only[<-C46 nn a0 a1 n _ _ K];kernel_rfl
def B5h(nn:Nat)(a0 a1:Ab):Ad:=gd (okR [.sl .str (some 1)] (F77 a1)) (A7i nn a0 a1 nn (H8 (gL (F77 a1) 0)) 0 (some (.one (.bool true))) (λz1 z2 z3=>some (.one (.bool false))))
def A2G(a0 a1:Ab):Ad:=B5h NN a0 a1
theorem D63(nn:Nat){a0 a1:Ab}:A3 A5m nn Cx [.str a0,.str a1]=B5h nn a0 a1:=by
 have h:A3 A5m nn Cx [.str a0,.str a1]=gd (okR [.sl .str (some 1)] (F77 a1)) (LP A5m nn Cx [1,1,0,1,0,0] 10003 nn (C3t a0 a1 (H8 (gL (F77 a1) 0)) 0) (A5 0 (sk A5m nn Cx [1,1,1] (A9 A5m Tryz.f149.results.toList)))):=by kernel_rfl
 rw[h];simp only[C46];show _=_;kernel_rfl
def B4y:S1T
 |[.str a0,.str a1]=>pR [.bool] (A2G a0 a1)
 |_=>none
def E75:Env Ty6 A4:=mkE [(149,B4y)] [] noD 83 [] 0 [] []
def F75(a0:Ab)(a1:A0):Ad:=bif(a0==[46,110,97,109,101])then(some (.one (.bool (a1.kind==3))))else(bif(a0==[46,99,97,115,101])then(bif(a1.kind==3)==true then(let r1:=A2G a1.text [116,114,117,101,32,102,97,108,115,101,32,110,117,108,108];gd (okR [.bool] r1) (some (.one (.bool (!(lB (gL r1 0)))))))else(some (.one (.bool false))))else(bif(a0==[46,114,111,111,116])then(bif(a1.kind==3)==true then(let r2:=A2G a1.text [113,117,101,114,121,32,109,117,116,97,116,105,111,110,32,115,117,98,115,99,114,105,112,116,105,111,110];gd (okR [.bool] r2) (some (.one (.bool (lB (gL r2 0))))))else(some (.one (.bool false))))else(bif(a0==[46,112,108,97,99,101])then(bif(a1.kind==3)==true then(let r3:=A2G a1.text [81,85,69,82,89,32,77,85,84,65,84,73,79,78,32,83,85,66,83,67,82,73,80,84,73,79,78,32,70,73,69,76,68,32,70,82,65,71,77,69,78,84,95,68,69,70,73,78,73,84,73,79,78,32,70,82,65,71,77,69,78,84,95,83,80,82,69,65,68,32,73,78,76,73,78,69,95,70,82,65,71,77,69,78,84,32,86,65,82,73,65,66,76,69,95,68,69,70,73,78,73,84,73,79,78,32,83,67,72,69,77,65,32,83,67,65,76,65,82,32,79,66,74,69,67,84,32,70,73,69,76,68,95,68,69,70,73,78,73,84,73,79,78,32,65,82,71,85,77,69,78,84,95,68,69,70,73,78,73,84,73,79,78,32,73,78,84,69,82,70,65,67,69,32,85,78,73,79,78,32,69,78,85,77,32,69,78,85,77,95,86,65,76,85,69,32,73,78,80,85,84,95,79,66,74,69,67,84,32,73,78,80,85,84,95,70,73,69,76,68,95,68,69,70,73,78,73,84,73,79,78];gd (okR [.bool] r3) (some (.one (.bool (lB (gL r3 0))))))else(some (.one (.bool false))))else(bif(a0==[46,115,116,114])then(bif(a1.kind==6)==false then(some (.one (.bool (a1.kind==7))))else(some (.one (.bool true))))else(bif(a0==[46,110,117,109])then(bif(a1.kind==4)==false then(some (.one (.bool (a1.kind==5))))else(some (.one (.bool true))))else(bif(a0==[46,101,110,100])then(some (.one (.bool (a1.kind==0))))else(match idx a0 0 with|none=>none|some y4=>(bif((Bi y4:Int)==39)then(bif(a1.kind==3)==true then(match sub a0 1 (Aw a0:Int)with|none=>none|some y5=>(some (.one (.bool (a1.text==y5)))))else(some (.one (.bool false))))else(bif(a1.kind==2)==true then(some (.one (.bool (a1.text==a0))))else(some (.one (.bool false))))))))))))
theorem D5E{a0:Ab}{a1:A0}:A3 E75 NN Tryz.f75 [.str a0,.agg .tok a1]=F75 a0 a1:=by kernel_rfl
def S75:S1T
 |[.str a0,.agg .tok a1]=>pR [.bool] (F75 a0 a1)
 |_=>none
def B09(g:(An)->(Ab)->Ad):S1T
 |[.sl .rule a0 none,.str a1]=>pR [.bool] (g a0 a1)
 |_=>none
def X9(bj:(An)->(Ab)->Ad):Env Ty6 A4:=mkE [(73,S73),(146,A8P),(148,B09 bj)] [] (lkD [(0,[4]),(1,[9,10]),(2,[0,1,11]),(3,[1,11,12,13,14]),(5,[15,16,17]),(6,[19,20,42]),(7,[18]),(9,[21,22,23,24,25,26]),(10,[28,29]),(11,[27,30,31,32,33,34,35,36,37,38,39,40,41]),(12,[7,8,27]),(13,[0,5,6,42]),(14,[0,5,6,18])]) 43 [] 0 [] []
def B6z(a0:An)(a1:Ab)(x5:List Ag)(x6:Int):S6:=⟨[(0,.one (.sl .rule a0 none)),(5,.one (.sl .strs x5 none)),(6,.one (.int .i64 x6))],[]⟩
def C26(a0:An)(a1:Ab)(x5:List Ag)(x6:Int)(tJ:Bool):S6:=⟨[(0,.one (.sl .rule a0 none)),(5,.one (.sl .strs x5 none)),(6,.one (.int .i64 x6)),(18,.one (.bool tJ))],[]⟩
def B7K(a0:An)(a1:Ab)(x5:List Ag)(x6:Int)(x7:Bool)(x8:Int):S6:=⟨[(0,.one (.sl .rule a0 none)),(5,.one (.sl .strs x5 none)),(6,.one (.int .i64 x6)),(7,.one (.bool x7)),(8,.one (.int .i64 x8))],[]⟩
def D0z(a0:An)(a1:Ab)(x5:List Ag)(x6:Int)(x7:Bool)(x8:Int)(dQ:Bool):S6:=⟨[(0,.one (.sl .rule a0 none)),(5,.one (.sl .strs x5 none)),(6,.one (.int .i64 x6)),(7,.one (.bool x7)),(8,.one (.int .i64 x8)),(27,.one (.bool dQ))],[]⟩
def D61(a0:An)(a1:Ab):S6:=⟨[(4,.one (.bool true))],[]⟩
def D1N{R:Type}(nn:Nat)(bj:(An)->(Ab)->Ad)(a0:An)(a1:Ab)(x5:List Ag)(x6:Int)(x7:Bool)(x8:Int)(k1:(List Ag)->Int->Bool->Int->Option R)(k2:(List Ag)->Int->Bool->Int->Bool->Option R):Option R:=match idx x5 x6 with|none=>none|some y1=>(let z2:=decide (x8<(Aw y1:Int));bif z2 then(let j3:(List Ag)->Int->Bool->Int->Option R:=λz4 z5 z6 z7=>k1 z4 z5 z6 (Ax .i64 (z7+1));bif x7==true then(match idx x5 x6 with|none=>none|some y8=>(match idx y8 x8 with|none=>none|some y9=>(gd (okR [.bool] (bj a0 y9)) (j3 x5 x6 (lB (gL (bj a0 y9) 0)) x8))))else(j3 x5 x6 false x8))else(k2 x5 x6 x7 x8 z2))
def B1Z{R:Type}(nn:Nat)(bj:(An)->(Ab)->Ad)(a0:An)(a1:Ab):Nat->(List Ag)->Int->Bool->Int->((List Ag)->Int->Bool->Int->Bool->Option R)->Option R
 |0,_,_,_,_,_=>none
 |n+1,x5,x6,x7,x8,k2=>D1N nn bj a0 a1 x5 x6 x7 x8 (λx5 x6 x7 x8=>B1Z nn bj a0 a1 n x5 x6 x7 x8 k2) k2
theorem C1R{R:Type}(nn:Nat)(bj:(An)->(Ab)->Ad)(a0:An)(a1:Ab):∀(n:Nat)(x5:List Ag)(x6:Int)(x7:Bool)(x8:Int)(K:Ex->S6->Option R),LP (X9 bj) nn Bn [1,1,1,0,1,0,0,1,0,0,1,0,1,0,0] 10009 n (B7K a0 a1 x5 x6 x7 x8) K=B1Z nn bj a0 a1 n x5 x6 x7 x8 (λx5 x6 x7 x8 dQ=>K (.exit 2) (D0z a0 a1 x5 x6 x7 x8 dQ))
 |0,_,_,_,_,_=>rfl
 |n+1,x5,x6,x7,x8,K=>by
  rw[B1Z];simp only[<-C1R nn bj a0 a1 n _ _ _ _ K];kernel_rfl
def C7y{R:Type}(nn:Nat)(bj:(An)->(Ab)->Ad)(a0:An)(a1:Ab)(x5:List Ag)(x6:Int)(k1:Option R)(k2:(List Ag)->Int->Option R)(k3:(List Ag)->Int->Bool->Option R):Option R:=let z1:=decide (x6<(Aw x5:Int));bif z1 then(B1Z nn bj a0 a1 nn x5 x6 true 0 (λz2 z3 z4 z5 z6=>bif z4 then k1 else(k2 z2 (Ax .i64 (z3+1)))))else(k3 x5 x6 z1)
def B0T{R:Type}(nn:Nat)(bj:(An)->(Ab)->Ad)(a0:An)(a1:Ab):Nat->(List Ag)->Int->(Option R)->((List Ag)->Int->Bool->Option R)->Option R
 |0,_,_,_,_=>none
 |n+1,x5,x6,k1,k3=>C7y nn bj a0 a1 x5 x6 k1 (λx5 x6=>B0T nn bj a0 a1 n x5 x6 k1 k3) k3
theorem C3D{R:Type}(nn:Nat)(bj:(An)->(Ab)->Ad)(a0:An)(a1:Ab):∀(n:Nat)(x5:List Ag)(x6:Int)(K:Ex->S6->Option R),LP (X9 bj) nn Bn [1,1,1,0,1,0,0] 10005 n (B6z a0 a1 x5 x6) K=B0T nn bj a0 a1 n x5 x6 (K .ret (D61 a0 a1)) (λx5 x6 tJ=>K (.exit 0) (C26 a0 a1 x5 x6 tJ))
 |0,_,_,_=>rfl
 |n+1,x5,x6,K=>by
  rw[B0T];simp only[<-C3D nn bj a0 a1 n _ _ K];have h:LP (X9 bj) nn Bn [1,1,1,0,1,0,0] 10005 (n+1) (B6z a0 a1 x5 x6) K=let z1:=decide (x6<(Aw x5:Int));bif z1 then(LP (X9 bj) nn Bn [1,1,1,0,1,0,0,1,0,0,1,0,1,0,0] 10009 nn (B7K a0 a1 x5 x6 true 0) (A5 2 (sk (X9 bj) nn Bn [1,1,1,0,1,0,0,1,0,0,1,1] (A5 1 (sk (X9 bj) nn Bn [1,1,1,0,1,0,0,1,1] (A12 ((X9 bj).drop 10005) (A10 (lbN nn (X9 bj) (A1 Bn [1,1,1,0,1,0,0]) 10005) n K)))))))else(K (.exit 0) (C26 a0 a1 x5 x6 z1)):=by kernel_rfl
  rw[h];simp only[C1R];show _=_;kernel_rfl
def C2D(nn:Nat)(bj:(An)->(Ab)->Ad)(a0:An)(a1:Ab):Ad:=gd (okR [.bool] (F73 a1)) (let z1:= !(lB (gL (F73 a1) 0));bif z1 then(some (.one (.bool false)))else(gd (okR [.slc .strs] (V5 a0 a1)) (B0T nn bj a0 a1 nn (A5Z (gL (V5 a0 a1) 0)) 0 (some (.one (.bool true))) (λz2 z3 z4=>some (.one (.bool false))))))
def C64(bj:(An)->(Ab)->Ad)(a0:An)(a1:Ab):Ad:=C2D NN bj a0 a1
theorem D1R(nn:Nat)(bj:(An)->(Ab)->Ad){a0:An}{a1:Ab}:A3 (X9 bj) nn Bn [.sl .rule a0 none,.str a1]=C2D nn bj a0 a1:=by
 have h:A3 (X9 bj) nn Bn [.sl .rule a0 none,.str a1]=gd (okR [.bool] (F73 a1)) (let z1:= !(lB (gL (F73 a1) 0));bif z1 then(some (.one (.bool false)))else(gd (okR [.slc .strs] (V5 a0 a1)) (LP (X9 bj) nn Bn [1,1,1,0,1,0,0] 10005 nn (B6z a0 a1 (A5Z (gL (V5 a0 a1) 0)) 0) (A5 0 (sk (X9 bj) nn Bn [1,1,1,1] (A9 (X9 bj) Tryz.f148.results.toList)))))):=by kernel_rfl
 rw[h];simp only[C3D];show _=_;kernel_rfl
def A8K:Nat->(An)->(Ab)->Ad
 |0,_,_=>none
 |d+1,a0,a1=>C64 (A8K d) a0 a1
def A1x(a0:An)(a1:Ab):Ad:=A8K DD a0 a1
def B4v:S1T
 |[.sl .rule a0 none,.str a1]=>pR [.bool] (A1x a0 a1)
 |_=>none
def A9E(g:(An)->(Ag)->A0->Ad):S1T
 |[.sl .rule a0 none,.sl .str a1 none,.agg .tok a2]=>pR [.bool] (g a0 a1 a2)
 |_=>none
def Y7(bw:(An)->(Ag)->A0->Ad):Env Ty6 A4:=mkE [(73,S73),(75,S75),(146,A8P),(147,A9E bw),(148,B4v)] [] (lkD [(0,[2,6]),(2,[10,11,12]),(3,[14,15,53]),(4,[13,16,17,18,19,20]),(5,[0,1,5,7,21,22,23,24,25,26,27,1000105]),(6,[21,28,29,30,31,32,33]),(8,[34,35,36]),(9,[38,39,46]),(10,[37,40,41,42,43,44,45]),(11,[0,1,5,7,8,9,46,1000105]),(12,[8,9,37,47,48,49,50,51,52]),(13,[0,1,5,7,53,1000105]),(14,[0,1,5,7,13,1000105])]) 54 [] 0 [] []
def B2R(a0:An)(a1:Ag)(a2:A0)(x7:Int):S6:=⟨[(0,.one (.sl .rule a0 none)),(1,.one (.sl .str a1 none)),(5,.one (.elem .tok a2 0)),(7,.one (.int .i64 x7))],[]⟩
def C0b(a0:An)(a1:Ag)(a2:A0)(x7:Int)(bv:Bool):S6:=⟨[(0,.one (.sl .rule a0 none)),(1,.one (.sl .str a1 none)),(5,.one (.elem .tok a2 0)),(7,.one (.int .i64 x7)),(13,.one (.bool bv))],[]⟩
def C4h(a0:An)(a1:Ag)(a2:A0)(x6:Bool):S6:=⟨[(6,.one (.bool x6))],[]⟩
def C0q(a0:An)(a1:Ag)(a2:A0)(x7:Int)(x8:List Ag)(x9:Int):S6:=⟨[(0,.one (.sl .rule a0 none)),(1,.one (.sl .str a1 none)),(5,.one (.elem .tok a2 0)),(7,.one (.int .i64 x7)),(8,.one (.sl .strs x8 none)),(9,.one (.int .i64 x9))],[]⟩
def C9D(a0:An)(a1:Ag)(a2:A0)(x7:Int)(x8:List Ag)(x9:Int)(tK:Bool):S6:=⟨[(0,.one (.sl .rule a0 none)),(1,.one (.sl .str a1 none)),(5,.one (.elem .tok a2 0)),(7,.one (.int .i64 x7)),(8,.one (.sl .strs x8 none)),(9,.one (.int .i64 x9)),(37,.one (.bool tK))],[]⟩
def D6U(a0:An)(a1:Ag)(a2:A0):S6:=⟨[(6,.one (.bool true))],[]⟩
def B5d{R:Type}(nn:Nat)(bw:(An)->(Ag)->A0->Ad)(a0:An)(a1:Ag)(a2:A0)(x7:Int)(x8:List Ag)(x9:Int)(k1:Option R)(k2:Int->(List Ag)->Int->Option R)(k3:Int->(List Ag)->Int->Bool->Option R):Option R:=let z1:=decide (x9<(Aw x8:Int));bif z1 then(match idx x8 x9 with|none=>none|some y2=>(let r4:=bw a0 y2 a2;gd (okR [.bool] r4) (let z3:=(lB (gL r4 0));bif z3 then k1 else(k2 x7 x8 (Ax .i64 (x9+1))))))else(k3 x7 x8 x9 z1)
def A7w{R:Type}(nn:Nat)(bw:(An)->(Ag)->A0->Ad)(a0:An)(a1:Ag)(a2:A0):Nat->Int->(List Ag)->Int->(Option R)->(Int->(List Ag)->Int->Bool->Option R)->Option R
 |0,_,_,_,_,_=>none
 |n+1,x7,x8,x9,k1,k3=>B5d nn bw a0 a1 a2 x7 x8 x9 k1 (λx7 x8 x9=>A7w nn bw a0 a1 a2 n x7 x8 x9 k1 k3) k3
theorem C3v{R:Type}(nn:Nat)(bw:(An)->(Ag)->A0->Ad)(a0:An)(a1:Ag)(a2:A0):∀(n:Nat)(x7:Int)(x8:List Ag)(x9:Int)(K:Ex->S6->Option R),LP (Y7 bw) nn Bo [1,0,1,0,0,1,0,0,1,1,0,1,0,0] 10008 n (C0q a0 a1 a2 x7 x8 x9) K=A7w nn bw a0 a1 a2 n x7 x8 x9 (K .ret (D6U a0 a1 a2)) (λx7 x8 x9 tK=>K (.exit 2) (C9D a0 a1 a2 x7 x8 x9 tK))
 |0,_,_,_,_=>rfl
 |n+1,x7,x8,x9,K=>by
  rw[A7w];simp only[<-C3v nn bw a0 a1 a2 n _ _ _ K];kernel_rfl
def C5f{R:Type}(nn:Nat)(bw:(An)->(Ag)->A0->Ad)(a0:An)(a1:Ag)(a2:A0)(x7:Int)(k1:Bool->Option R)(k2:Int->Option R)(k3:Int->Bool->Option R):Option R:=let z1:=decide (x7<(Aw a1:Int));bif z1 then(match idx a1 x7 with|none=>none|some y2=>(gd (okR [.bool] (F73 y2)) (let z3:= !(lB (gL (F73 y2) 0));bif z3 then(match idx a1 x7 with|none=>none|some y4=>(gd (okR [.bool] (F75 y4 a2)) (k1 (lB (gL (F75 y4 a2) 0)))))else(match idx a1 x7 with|none=>none|some y5=>(gd (okR [.slc .strs] (V5 a0 y5)) (A7w nn bw a0 a1 a2 nn x7 (A5Z (gL (V5 a0 y5) 0)) 0 (k1 true) (λz6 z7 z8 z9=>match idx a1 z6 with|none=>none|some gp=>(let fv:=A1x a0 gp;gd (okR [.bool] fv) (let cF:= !(lB (gL fv 0));bif cF then(k1 false)else(k2 (Ax .i64 (z6+1))))))))))))else(k3 x7 z1)
def A6z{R:Type}(nn:Nat)(bw:(An)->(Ag)->A0->Ad)(a0:An)(a1:Ag)(a2:A0):Nat->Int->(Bool->Option R)->(Int->Bool->Option R)->Option R
 |0,_,_,_=>none
 |n+1,x7,k1,k3=>C5f nn bw a0 a1 a2 x7 k1 (λx7=>A6z nn bw a0 a1 a2 n x7 k1 k3) k3
theorem C4E{R:Type}(nn:Nat)(bw:(An)->(Ag)->A0->Ad)(a0:An)(a1:Ag)(a2:A0):∀(n:Nat)(x7:Int)(K:Ex->S6->Option R),LP (Y7 bw) nn Bo [1,0,1,0,0] 10002 n (B2R a0 a1 a2 x7) K=A6z nn bw a0 a1 a2 n x7 (λx6=>K .ret (C4h a0 a1 a2 x6)) (λx7 bv=>K (.exit 0) (C0b a0 a1 a2 x7 bv))
 |0,_,_=>rfl
 |n+1,x7,K=>by
  rw[A6z];simp only[<-C4E nn bw a0 a1 a2 n _ K];have h:LP (Y7 bw) nn Bo [1,0,1,0,0] 10002 (n+1) (B2R a0 a1 a2 x7) K=let z1:=decide (x7<(Aw a1:Int));bif z1 then(match idx a1 x7 with|none=>none|some y2=>(gd (okR [.bool] (F73 y2)) (let z3:= !(lB (gL (F73 y2) 0));bif z3 then(match idx a1 x7 with|none=>none|some y4=>(gd (okR [.bool] (F75 y4 a2)) (K .ret (C4h a0 a1 a2 (lB (gL (F75 y4 a2) 0))))))else(match idx a1 x7 with|none=>none|some y5=>(gd (okR [.slc .strs] (V5 a0 y5)) (LP (Y7 bw) nn Bo [1,0,1,0,0,1,0,0,1,1,0,1,0,0] 10008 nn (C0q a0 a1 a2 x7 (A5Z (gL (V5 a0 y5) 0)) 0) (A5 2 (sk (Y7 bw) nn Bo [1,0,1,0,0,1,0,0,1,1,1] (A5 1 (sk (Y7 bw) nn Bo [1,0,1,0,0,1,1] (A12 ((Y7 bw).drop 10002) (A10 (lbN nn (Y7 bw) (A1 Bo [1,0,1,0,0]) 10002) n K))))))))))))else(K (.exit 0) (C0b a0 a1 a2 x7 z1)):=by kernel_rfl
  rw[h];simp only[C3v];show _=_;kernel_rfl
def B4L(nn:Nat)(bw:(An)->(Ag)->A0->Ad)(a0:An)(a1:Ag)(a2:A0):Ad:=A6z nn bw a0 a1 a2 nn 0 (λz1=>some (.one (.bool z1))) (λz2 z3=>some (.one (.bool false)))
def B8N(bw:(An)->(Ag)->A0->Ad)(a0:An)(a1:Ag)(a2:A0):Ad:=B4L NN bw a0 a1 a2
theorem C72(nn:Nat)(bw:(An)->(Ag)->A0->Ad){a0:An}{a1:Ag}{a2:A0}:A3 (Y7 bw) nn Bo [.sl .rule a0 none,.sl .str a1 none,.agg .tok a2]=B4L nn bw a0 a1 a2:=by
 have h:A3 (Y7 bw) nn Bo [.sl .rule a0 none,.sl .str a1 none,.agg .tok a2]=LP (Y7 bw) nn Bo [1,0,1,0,0] 10002 nn (B2R a0 a1 a2 0) (A5 0 (sk (Y7 bw) nn Bo [1,1] (A9 (Y7 bw) Tryz.f147.results.toList))):=by kernel_rfl
 rw[h];simp only[C4E];show _=_;kernel_rfl
def A25:Nat->(An)->(Ag)->A0->Ad
 |0,_,_,_=>none
 |d+1,a0,a1,a2=>B8N (A25 d) a0 a1 a2
def B37(a0:An)(a1:Ag)(a2:A0):Ad:=A25 DD a0 a1 a2
def B8J:S1T
 |[.sl .rule a0 none,.sl .str a1 none,.agg .tok a2]=>pR [.bool] (B37 a0 a1 a2)
 |_=>none
def E74:Env Ty6 A4:=mkE [(146,A8P),(147,B8J),(148,B4v)] [] (lkD [(0,[2,6,7]),(1,[10,11,12]),(3,[13,14,15]),(4,[17,18,25]),(5,[16,19,20,21,22,23,24]),(6,[0,1,5,8,9,25,26,27,28,29,1000105]),(7,[0,1,5,8,9,16,30,31,32,1000105])]) 33 [] 0 [] []
def C3J(a0:An)(a1:Ab)(a2:A0)(x8:List Ag)(x9:Int):S6:=⟨[(0,.one (.sl .rule a0 none)),(1,.one (.str a1)),(5,.one (.elem .tok a2 0)),(8,.one (.sl .strs x8 none)),(9,.one (.int .i64 x9))],[]⟩
def D2D(a0:An)(a1:Ab)(a2:A0)(x8:List Ag)(x9:Int)(dU:Bool):S6:=⟨[(0,.one (.sl .rule a0 none)),(1,.one (.str a1)),(5,.one (.elem .tok a2 0)),(8,.one (.sl .strs x8 none)),(9,.one (.int .i64 x9)),(16,.one (.bool dU))],[]⟩
def C9Y(a0:An)(a1:Ab)(a2:A0)(x6:Ag):S6:=⟨[(6,.one (.sl .str x6 none)),(7,.one (.bool true))],[]⟩
def B3P{R:Type}(nn:Nat)(a0:An)(a1:Ab)(a2:A0)(x8:List Ag)(x9:Int)(k1:(Ag)->Option R)(k2:(List Ag)->Int->Option R)(k3:(List Ag)->Int->Bool->Option R):Option R:=let z1:=decide (x9<(Aw x8:Int));bif z1 then(match idx x8 x9 with|none=>none|some y2=>(let r5:=B37 a0 y2 a2;gd (okR [.bool] r5) (let z3:=(lB (gL r5 0));bif z3 then(match idx x8 x9 with|none=>none|some y4=>(k1 y4))else(k2 x8 (Ax .i64 (x9+1))))))else(k3 x8 x9 z1)
def A66{R:Type}(nn:Nat)(a0:An)(a1:Ab)(a2:A0):Nat->(List Ag)->Int->((Ag)->Option R)->((List Ag)->Int->Bool->Option R)->Option R
 |0,_,_,_,_=>none
 |n+1,x8,x9,k1,k3=>B3P nn a0 a1 a2 x8 x9 k1 (λx8 x9=>A66 nn a0 a1 a2 n x8 x9 k1 k3) k3
theorem B9d{R:Type}(nn:Nat)(a0:An)(a1:Ab)(a2:A0):∀(n:Nat)(x8:List Ag)(x9:Int)(K:Ex->S6->Option R),LP E74 nn Cm [1,1,0,1,0,0] 10003 n (C3J a0 a1 a2 x8 x9) K=A66 nn a0 a1 a2 n x8 x9 (λx6=>K .ret (C9Y a0 a1 a2 x6)) (λx8 x9 dU=>K (.exit 0) (D2D a0 a1 a2 x8 x9 dU))
 |0,_,_,_=>rfl
 |n+1,x8,x9,K=>by
  rw[A66];simp only[<-B9d nn a0 a1 a2 n _ _ K];kernel_rfl
def B5z(nn:Nat)(a0:An)(a1:Ab)(a2:A0):Ad:=gd (okR [.slc .strs] (V5 a0 a1)) (A66 nn a0 a1 a2 nn (A5Z (gL (V5 a0 a1) 0)) 0 (λz1=>some (.tup [.sl .str z1 none,.bool true])) (λz2 z3 z4=>gd (okR [.bool] (A1x a0 a1)) (some (.tup [.sl .str [] (some 1),.bool (lB (gL (A1x a0 a1) 0))]))))
def F74(a0:An)(a1:Ab)(a2:A0):Ad:=B5z NN a0 a1 a2
theorem D7J(nn:Nat){a0:An}{a1:Ab}{a2:A0}:A3 E74 nn Cm [.sl .rule a0 none,.str a1,.agg .tok a2]=B5z nn a0 a1 a2:=by
 have h:A3 E74 nn Cm [.sl .rule a0 none,.str a1,.agg .tok a2]=gd (okR [.slc .strs] (V5 a0 a1)) (LP E74 nn Cm [1,1,0,1,0,0] 10003 nn (C3J a0 a1 a2 (A5Z (gL (V5 a0 a1) 0)) 0) (A5 0 (sk E74 nn Cm [1,1,1] (A9 E74 Tryz.f74.results.toList)))):=by kernel_rfl
 rw[h];simp only[B9d];show _=_;kernel_rfl
def S74:S1T
 |[.sl .rule a0 none,.str a1,.agg .tok a2]=>pR [.slc .str,.bool] (F74 a0 a1 a2)
 |_=>none
def E76:Env Ty6 A4:=mkE [] [] noD 12 [] 0 [] []
def F76(a0:Ab):Ad:=let j1:Bool->Ad:=λz2=>some (.one (.int .i64 0));let j3:Bool->Ad:=λz4=>some (.one (.int .i64 0));let j5:Bool->Ad:=λz6=>bif z6 then(some (.one (.int .i64 1)))else(let j7:Bool->Ad:=λz8=>bif z8 then(some (.one (.int .i64 (-1))))else(j1 z8);bif(a0==[41])then(j7 (a0==[41]))else(bif(a0==[93])then(j7 (a0==[93]))else(bif(a0==[125])then(some (.one (.int .i64 (-1))))else(j3 (a0==[125])))));bif(a0==[40])then(j5 (a0==[40]))else(bif(a0==[91])then(j5 (a0==[91]))else(j5 (a0==[123])))
theorem D3c{a0:Ab}:A3 E76 NN Tryz.f76 [.str a0]=F76 a0:=by kernel_rfl
def S76:S1T
 |[.str a0]=>pR [.int .i64] (F76 a0)
 |_=>none
def A5t:Env Ty6 A4:=mkE [] [] (lkD [(0,[4]),(2,[6,7,8]),(3,[10,11,17]),(4,[9,12,13,14,15,16]),(5,[0,1,5,17]),(6,[0,1,5,9])]) 18 [] 0 [] []
def B9r(a0:Int)(a1:Ab)(x5:Int):S6:=⟨[(0,.one (.int .i32 a0)),(1,.one (.str a1)),(5,.one (.int .i64 x5))],[]⟩
def D8d(a0:Int)(a1:Ab)(x5:Int)(x9:Bool):S6:=⟨[(0,.one (.int .i32 a0)),(1,.one (.str a1)),(5,.one (.int .i64 x5)),(9,.one (.bool x9))],[]⟩
def D0f(a0:Int)(a1:Ab):S6:=⟨[(4,.one (.bool true))],[]⟩
def B1l{R:Type}(nn:Nat)(a0:Int)(a1:Ab)(x5:Int)(k1:Option R)(k2:Int->Option R)(k3:Int->Bool->Option R):Option R:=let z1:=decide (x5<(Aw a1:Int));bif z1 then(match idx a1 x5 with|none=>none|some y2=>(let z3:=(Ax .i32 (Bi y2:Int))==a0;bif z3 then k1 else(k2 (Ax .i64 (x5+1)))))else(k3 x5 z1)
def A5M{R:Type}(nn:Nat)(a0:Int)(a1:Ab):Nat->Int->(Option R)->(Int->Bool->Option R)->Option R
 |0,_,_,_=>none
 |n+1,x5,k1,k3=>B1l nn a0 a1 x5 k1 (λx5=>A5M nn a0 a1 n x5 k1 k3) k3
theorem C2Z{R:Type}(nn:Nat)(a0:Int)(a1:Ab):∀(n:Nat)(x5:Int)(K:Ex->S6->Option R),LP A5t nn Cw [1,0,1,0,0] 10002 n (B9r a0 a1 x5) K=A5M nn a0 a1 n x5 (K .ret (D0f a0 a1)) (λx5 x9=>K (.exit 0) (D8d a0 a1 x5 x9))
 |0,_,_=>rfl
 |n+1,x5,K=>by
  rw[A5M];simp only[<-C2Z nn a0 a1 n _ K];kernel_rfl
def A7z(nn:Nat)(a0:Int)(a1:Ab):Ad:=A5M nn a0 a1 nn 0 (some (.one (.bool true))) (λz1 z2=>some (.one (.bool false)))
def X2(a0:Int)(a1:Ab):Ad:=A7z NN a0 a1
theorem C7j(nn:Nat){a0:Int}{a1:Ab}:A3 A5t nn Cw [.int .i32 a0,.str a1]=A7z nn a0 a1:=by
 have h:A3 A5t nn Cw [.int .i32 a0,.str a1]=LP A5t nn Cw [1,0,1,0,0] 10002 nn (B9r a0 a1 0) (A5 0 (sk A5t nn Cw [1,1] (A9 A5t Tryz.f174.results.toList))):=by kernel_rfl
 rw[h];simp only[C2Z];show _=_;kernel_rfl
def A5g:S1T
 |[.int .i32 a0,.str a1]=>pR [.bool] (X2 a0 a1)
 |_=>none
def C2H:Env Ty6 A4:=mkE [] [] noD 15 [] 0 [] []
def A0L(a0:Int):Ad:=let j1:Ad:=bif(decide (a0>=0))==true then(some (.one (.bool (decide (a0<=1114111)))))else(some (.one (.bool false)));bif(decide (a0>=55296))==true then(bif(decide (a0<=57343))then(some (.one (.bool false)))else j1)else(bif false then(some (.one (.bool false)))else j1)
theorem D53{a0:Int}:A3 C2H NN Tryz.f175 [.int .i32 a0]=A0L a0:=by kernel_rfl
def B05:S1T
 |[.int .i32 a0]=>pR [.bool] (A0L a0)
 |_=>none
def C1q:Env Ty6 A4:=mkE [(174,A5g),(175,B05)] [] noD 13 [] 0 [] []
def A5B(a0:Int):Ad:=bif(decide (a0<32))then(let r1:=X2 a0 [9,10,13];gd (okR [.bool] r1) (some (.one (.bool (lB (gL r1 0))))))else(bif(decide (a0<65536))==true then(gd (okR [.bool] (A0L a0)) (some (.one (.bool (lB (gL (A0L a0) 0))))))else(some (.one (.bool false))))
theorem C7I{a0:Int}:A3 C1q NN Tryz.f121 [.int .i32 a0]=A5B a0:=by kernel_rfl
def B4e:S1T
 |[.int .i32 a0]=>pR [.bool] (A5B a0)
 |_=>none
def E53:Env Ty6 A4:=mkE [(121,B4e)] [] (lkD [(0,[4]),(3,[7,8,9]),(4,[11,12]),(5,[10,13,14,15,16]),(6,[17,18,19,20,21,22,23,24]),(7,[17,25,26,27]),(8,[0,1,6,10,28]),(9,[29,30,31,32]),(10,[5,29,33,34,35])]) 36 [] 0 [] []
def C3z(a0:Aa)(a1:Bool)(x5:Aa)(x6:Int):S6:=⟨[(0,.one (.sl .i32 a0 none)),(1,.one (.bool a1)),(5,.one (.sl .i32 x5 (some 105))),(6,.one (.int .i64 x6))],[105]⟩
def C6h(a0:Aa)(a1:Bool)(x5:Aa)(x6:Int)(aC:Bool):S6:=⟨[(0,.one (.sl .i32 a0 none)),(1,.one (.bool a1)),(5,.one (.sl .i32 x5 (some 105))),(6,.one (.int .i64 x6)),(10,.one (.bool aC))],[105]⟩
def B1v{R:Type}(nn:Nat)(a0:Aa)(a1:Bool)(x5:Aa)(x6:Int)(k1:(Aa)->Int->Option R)(k2:(Aa)->Int->Bool->Option R):Option R:=let z1:=decide (x6<(Aw a0:Int));bif z1 then(let j2:(Aa)->Int->Option R:=λz3 z4=>k1 z3 (Ax .i64 (z4+1));match idx a0 x6 with|none=>none|some y5=>(gd (okR [.bool] (A5B y5)) (bif(lB (gL (A5B y5) 0))then(match idx a0 x6 with|none=>none|some y6=>(gd (A2 (Aw x5+1) 4) (j2 (x5++[y6]) x6)))else(gd (A2 (Aw x5+1) 4) (j2 (x5++[-1]) x6)))))else(k2 x5 x6 z1)
def A62{R:Type}(nn:Nat)(a0:Aa)(a1:Bool):Nat->(Aa)->Int->((Aa)->Int->Bool->Option R)->Option R
 |0,_,_,_=>none
 |n+1,x5,x6,k2=>B1v nn a0 a1 x5 x6 (λx5 x6=>A62 nn a0 a1 n x5 x6 k2) k2
theorem B8C{R:Type}(nn:Nat)(a0:Aa)(a1:Bool):∀(n:Nat)(x5:Aa)(x6:Int)(K:Ex->S6->Option R),LP E53 nn Cp [1,1,0,1,0,0] 10003 n (C3z a0 a1 x5 x6) K=A62 nn a0 a1 n x5 x6 (λx5 x6 aC=>K (.exit 0) (C6h a0 a1 x5 x6 aC))
 |0,_,_,_=>rfl
 |n+1,x5,x6,K=>by
  rw[A62];simp only[<-B8C nn a0 a1 n _ _ K];kernel_rfl
def A7F(nn:Nat)(a0:Aa)(a1:Bool):Ad:=A62 nn a0 a1 nn [] 0 (λz1 z2 z3=>bif(!a1)then(gd (A2 (Aw z1+1) 4) (gd (A2 (Aw (z1++[-1])+1) 4) (some (.one (.sl .i32 ((z1++[-1])++[-2]) (some 1))))))else(gd (A2 (Aw z1+1) 4) (some (.one (.sl .i32 (z1++[-2]) (some 1))))))
def F53(a0:Aa)(a1:Bool):Ad:=A7F NN a0 a1
theorem B35(nn:Nat){a0:Aa}{a1:Bool}:A3 E53 nn Cp [.sl .i32 a0 none,.bool a1]=A7F nn a0 a1:=by
 have h:A3 E53 nn Cp [.sl .i32 a0 none,.bool a1]=LP E53 nn Cp [1,1,0,1,0,0] 10003 nn (C3z a0 a1 [] 0) (A5 0 (sk E53 nn Cp [1,1,1] (A9 E53 Tryz.f53.results.toList))):=by kernel_rfl
 rw[h];simp only[B8C];show _=_;kernel_rfl
def S53:S1T
 |[.sl .i32 a0 none,.bool a1]=>pR [.sl .i32 (some 1)] (F53 a0 a1)
 |_=>none
def A5o:Env Ty6 A4:=mkE [] [] (lkD [(0,[2]),(1,[5]),(3,[6,7,8]),(4,[10,11,23,43]),(5,[9,12,13,14,15,16,17,18,19,20,21,22]),(6,[23,24,25,26,27,28,29,30,31,32,33,34,35,36,37,38,39,40,41,42]),(7,[43,44,45,46,47,48]),(8,[0,3,4,9,49])]) 50 [] 0 [] []
def B7m(a0:Aa)(x3:Aa)(x4:Int):S6:=⟨[(0,.one (.sl .i32 a0 none)),(3,.one (.sl .i64 x3 (some 105))),(4,.one (.int .i64 x4))],[105]⟩
def D5j(a0:Aa)(x3:Aa)(x4:Int)(x9:Bool):S6:=⟨[(0,.one (.sl .i32 a0 none)),(3,.one (.sl .i64 x3 (some 105))),(4,.one (.int .i64 x4)),(9,.one (.bool x9))],[105]⟩
def A8s{R:Type}(nn:Nat)(a0:Aa)(x3:Aa)(x4:Int)(k1:(Aa)->Int->Option R)(k2:(Aa)->Int->Bool->Option R):Option R:=let z1:=decide (x4<(Aw a0:Int));bif z1 then(let j2:(Aa)->Int->Bool->Option R:=λz3 z4 z5=>k1 z3 (Ax .i64 (z4+1));let j6:(Aa)->Int->Bool->Option R:=λz7 z8 z9=>k1 z7 (Ax .i64 (z8+1));let xZ:(Aa)->Int->Option R:=λcF di=>k1 cF (Ax .i64 (di+1));let we:(Aa)->Int->Bool->Option R:=λdj dK fw=>let tL:(Aa)->Int->Bool->Option R:=λgW fE z20=>gd (A2 (Aw gW+1) 8) (xZ (gW++[Ax .i64 (fE+1)]) fE);match idx a0 dK with|none=>none|some ya=>(bif(ya==13)==true then(bif(decide ((Ax .i64 (dK+1))<(Aw a0:Int)))==true then(match idx a0 (Ax .i64 (dK+1))with|none=>none|some tM=>(bif(tM==10)then(j6 dj dK (tM==10))else(tL dj dK (tM==10))))else(bif false then(j6 dj dK false)else(tL dj dK false)))else(bif false then(j6 dj dK false)else(tL dj dK false)));match idx a0 x4 with|none=>none|some yb=>(bif(yb !=13)==true then(match idx a0 x4 with|none=>none|some tN=>(bif(tN !=10)then(j2 x3 x4 (tN !=10))else(we x3 x4 (tN !=10))))else(bif false then(j2 x3 x4 false)else(we x3 x4 false))))else(k2 x3 x4 z1)
def A3k{R:Type}(nn:Nat)(a0:Aa):Nat->(Aa)->Int->((Aa)->Int->Bool->Option R)->Option R
 |0,_,_,_=>none
 |n+1,x3,x4,k2=>A8s nn a0 x3 x4 (λx3 x4=>A3k nn a0 n x3 x4 k2) k2
theorem B9J{R:Type}(nn:Nat)(a0:Aa):∀(n:Nat)(x3:Aa)(x4:Int)(K:Ex->S6->Option R),LP A5o nn Dc [1,1,0,1,0,0] 10003 n (B7m a0 x3 x4) K=A3k nn a0 n x3 x4 (λx3 x4 x9=>K (.exit 0) (D5j a0 x3 x4 x9))
 |0,_,_,_=>rfl
 |n+1,x3,x4,K=>by
  rw[A3k];simp only[<-B9J nn a0 n _ _ K];kernel_rfl
def A7s(nn:Nat)(a0:Aa):Ad:=A3k nn a0 nn [0] 0 (λz1 z2 z3=>some (.one (.sl .i64 z1 (some 1))))
def A0W(a0:Aa):Ad:=A7s NN a0
theorem D1E(nn:Nat){a0:Aa}:A3 A5o nn Dc [.sl .i32 a0 none]=A7s nn a0:=by
 have h:A3 A5o nn Dc [.sl .i32 a0 none]=LP A5o nn Dc [1,1,0,1,0,0] 10003 nn (B7m a0 [0] 0) (A5 0 (sk A5o nn Dc [1,1,1] (A9 A5o Tryz.f122.results.toList))):=by kernel_rfl
 rw[h];simp only[B9J];show _=_;kernel_rfl
def B3M:S1T
 |[.sl .i32 a0 none]=>pR [.sl .i64 (some 1)] (A0W a0)
 |_=>none
def E54:Env Ty6 A4:=mkE [(122,B3M)] [] (lkD [(0,[2]),(2,[8,9]),(4,[10,11,12]),(5,[6,7,14,15,35]),(6,[13,16,17,18]),(7,[19,20,21,22]),(8,[23,24,25,26,27,28]),(9,[23,29,30,31,32]),(10,[33,34]),(11,[36,37]),(12,[35,38,39,40,41,42,43,44,45,46,47,48,49,50]),(13,[0,3,4,5,13,51])]) 52 [] 0 [] []
def A9h(a0:Aa)(x3:List A7)(x4:Aa)(x5:Int):S6:=⟨[(0,.one (.sl .i32 a0 none)),(3,.one (.sl .pos x3 (some 103))),(4,.one (.sl .i64 x4 (some 1009))),(5,.one (.int .i64 x5))],[103,1009]⟩
def B7v(a0:Aa)(x3:List A7)(x4:Aa)(x5:Int)(bv:Bool):S6:=⟨[(0,.one (.sl .i32 a0 none)),(3,.one (.sl .pos x3 (some 103))),(4,.one (.sl .i64 x4 (some 1009))),(5,.one (.int .i64 x5)),(13,.one (.bool bv))],[103,1009]⟩
def B2M(a0:Aa)(x3:List A7)(x4:Aa)(x5 x6 x7:Int):S6:=⟨[(0,.one (.sl .i32 a0 none)),(3,.one (.sl .pos x3 (some 103))),(4,.one (.sl .i64 x4 (some 1009))),(5,.one (.int .i64 x5)),(6,.one (.int .i64 x6)),(7,.one (.int .i64 x7))],[103,1009]⟩
def C9M(a0:Aa)(x3:List A7)(x4:Aa)(x5 x6 x7:Int)(tO:Bool):S6:=⟨[(0,.one (.sl .i32 a0 none)),(3,.one (.sl .pos x3 (some 103))),(4,.one (.sl .i64 x4 (some 1009))),(5,.one (.int .i64 x5)),(6,.one (.int .i64 x6)),(7,.one (.int .i64 x7)),(35,.one (.bool tO))],[103,1009]⟩
def A5I{R:Type}(nn:Nat)(a0:Aa)(x3:List A7)(x4:Aa)(x5 x6 x7:Int)(k1:(List A7)->(Aa)->Int->Int->Int->Option R)(k2:(List A7)->(Aa)->Int->Int->Int->Bool->Option R):Option R:=let z1:=decide (x7<x6);bif z1 then(match idx x4 x5 with|none=>none|some y2=>(gd (A2 (Aw x3+1) 16) (k1 (x3++[(⟨Ax .i64 (x5+1),Ax .i64 ((Ax .i64 (x7 - y2))+1)⟩:A7)]) x4 x5 x6 (Ax .i64 (x7+1)))))else(k2 x3 x4 x5 x6 x7 z1)
def A4H{R:Type}(nn:Nat)(a0:Aa):Nat->(List A7)->(Aa)->Int->Int->Int->((List A7)->(Aa)->Int->Int->Int->Bool->Option R)->Option R
 |0,_,_,_,_,_,_=>none
 |n+1,x3,x4,x5,x6,x7,k2=>A5I nn a0 x3 x4 x5 x6 x7 (λx3 x4 x5 x6 x7=>A4H nn a0 n x3 x4 x5 x6 x7 k2) k2
theorem C1Y{R:Type}(nn:Nat)(a0:Aa):∀(n:Nat)(x3:List A7)(x4:Aa)(x5 x6 x7:Int)(K:Ex->S6->Option R),LP E54 nn Bg [1,1,1,0,1,0,0,1,0,0,1,1,1,0,0] 10010 n (B2M a0 x3 x4 x5 x6 x7) K=A4H nn a0 n x3 x4 x5 x6 x7 (λx3 x4 x5 x6 x7 tO=>K (.exit 2) (C9M a0 x3 x4 x5 x6 x7 tO))
 |0,_,_,_,_,_,_=>rfl
 |n+1,x3,x4,x5,x6,x7,K=>by
  rw[A4H];simp only[<-C1Y nn a0 n _ _ _ _ _ K];kernel_rfl
def A47{R:Type}(nn:Nat)(a0:Aa)(x3:List A7)(x4:Aa)(x5:Int)(k1:(List A7)->(Aa)->Int->Option R)(k2:(List A7)->(Aa)->Int->Bool->Option R):Option R:=let z1:=decide (x5<(Aw x4:Int));bif z1 then(let j2:(List A7)->(Aa)->Int->Int->Int->Bool->Option R:=λz3 z4 z5 z6 z7 z8=>k1 z3 z4 (Ax .i64 (z5+1));let z9:=decide ((Ax .i64 (x5+1))<(Aw x4:Int));bif z9 then(match idx x4 (Ax .i64 (x5+1))with|none=>none|some gp=>(match idx x4 x5 with|none=>none|some lc=>(A4H nn a0 nn x3 x4 x5 gp lc (λdi dB dj dK fw gX=>j2 di dB dj dK fw gX))))else(match idx x4 x5 with|none=>none|some nM=>(A4H nn a0 nn x3 x4 x5 (Ax .i64 ((Aw a0:Int)+1)) nM (λfE z20 z21 qx mD rH=>j2 fE z20 z21 qx mD rH))))else(k2 x3 x4 x5 z1)
def A6r{R:Type}(nn:Nat)(a0:Aa):Nat->(List A7)->(Aa)->Int->((List A7)->(Aa)->Int->Bool->Option R)->Option R
 |0,_,_,_,_=>none
 |n+1,x3,x4,x5,k2=>A47 nn a0 x3 x4 x5 (λx3 x4 x5=>A6r nn a0 n x3 x4 x5 k2) k2
theorem B9n{R:Type}(nn:Nat)(a0:Aa):∀(n:Nat)(x3:List A7)(x4:Aa)(x5:Int)(K:Ex->S6->Option R),LP E54 nn Bg [1,1,1,0,1,0,0] 10004 n (A9h a0 x3 x4 x5) K=A6r nn a0 n x3 x4 x5 (λx3 x4 x5 bv=>K (.exit 0) (B7v a0 x3 x4 x5 bv))
 |0,_,_,_,_=>rfl
 |n+1,x3,x4,x5,K=>by
  rw[A6r];simp only[<-B9n nn a0 n _ _ _ K];have h:LP E54 nn Bg [1,1,1,0,1,0,0] 10004 (n+1) (A9h a0 x3 x4 x5) K=let z1:=decide (x5<(Aw x4:Int));bif z1 then(let j2:(List A7)->(Aa)->Int->Int->Int->Bool->Option R:=λz3 z4 z5 z6 z7 z8=>LP E54 nn Bg [1,1,1,0,1,0,0] 10004 n (A9h a0 z3 z4 (Ax .i64 (z5+1))) K;let z9:=decide ((Ax .i64 (x5+1))<(Aw x4:Int));bif z9 then(match idx x4 (Ax .i64 (x5+1))with|none=>none|some gp=>(match idx x4 x5 with|none=>none|some lc=>(LP E54 nn Bg [1,1,1,0,1,0,0,1,0,0,1,1,1,0,0] 10010 nn (B2M a0 x3 x4 x5 gp lc) (A5 2 (A5 1 (sk E54 nn Bg [1,1,1,0,1,0,0,1,1] (A12 (E54.drop 10004) (A10 (lbN nn E54 (A1 Bg [1,1,1,0,1,0,0]) 10004) n K))))))))else(match idx x4 x5 with|none=>none|some nM=>(LP E54 nn Bg [1,1,1,0,1,0,0,1,0,0,1,1,1,0,0] 10010 nn (B2M a0 x3 x4 x5 (Ax .i64 ((Aw a0:Int)+1)) nM) (A5 2 (A5 1 (sk E54 nn Bg [1,1,1,0,1,0,0,1,1] (A12 (E54.drop 10004) (A10 (lbN nn E54 (A1 Bg [1,1,1,0,1,0,0]) 10004) n K))))))))else(K (.exit 0) (B7v a0 x3 x4 x5 z1)):=by kernel_rfl
  rw[h];simp only[C1Y];show _=_;kernel_rfl
def A3i(nn:Nat)(a0:Aa):Ad:=gd (okR [.sl .i64 (some 1)] (A0W a0)) (A6r nn a0 nn [] (B3Q (gL (A0W a0) 0)) 0 (λz1 z2 z3 z4=>some (.one (.sl .pos z1 (some 1)))))
def F54(a0:Aa):Ad:=A3i NN a0
theorem B5x(nn:Nat){a0:Aa}:A3 E54 nn Bg [.sl .i32 a0 none]=A3i nn a0:=by
 have h:A3 E54 nn Bg [.sl .i32 a0 none]=gd (okR [.sl .i64 (some 1)] (A0W a0)) (LP E54 nn Bg [1,1,1,0,1,0,0] 10004 nn (A9h a0 [] (B3Q (gL (A0W a0) 0)) 0) (A5 0 (sk E54 nn Bg [1,1,1,1] (A9 E54 Tryz.f54.results.toList)))):=by kernel_rfl
 rw[h];simp only[B9n];show _=_;kernel_rfl
def S54:S1T
 |[.sl .i32 a0 none]=>pR [.sl .pos (some 1)] (F54 a0)
 |_=>none
def C0y:Env Ty6 A4:=mkE [(174,A5g)] [] noD 9 [] 0 [] []
def A3M(a0:Int):Ad:=bif(a0==65279)==false then(let r1:=X2 a0 [9,10,13,32,44];gd (okR [.bool] r1) (some (.one (.bool (lB (gL r1 0))))))else(some (.one (.bool true)))
theorem D0u{a0:Int}:A3 C0y NN Tryz.f176 [.int .i32 a0]=A3M a0:=by kernel_rfl
def B5l:S1T
 |[.int .i32 a0]=>pR [.bool] (A3M a0)
 |_=>none
def E123:Env Ty6 A4:=mkE [(176,B5l)] [] (lkD [(0,[4]),(1,[5,6,7,8]),(2,[9,10,11]),(3,[9,12,13,14,15]),(4,[0,1,16,17]),(5,[18,19,20,21,22,23,24,25,26,27,28,29,30,31,32,33,34,35]),(6,[36,37,38]),(10001,[36]),(10005,[16])]) 39 [] 0 [] []
def A6f(a0:Aa)(a1:Int)(x1:Int):S6:=⟨[(0,.one (.sl .i32 a0 none)),(1,.one (.int .i64 x1))],[]⟩
def C1H(a0:Aa)(a1:Int)(x4:Int):S6:=⟨[(4,.one (.int .i64 x4))],[]⟩
def C6i(a0:Aa)(a1:Int)(x1:Int)(rI:Bool):S6:=⟨[(0,.one (.sl .i32 a0 none)),(1,.one (.int .i64 x1)),(36,.one (.bool rI))],[]⟩
def B2k{R:Type}(nn:Nat)(a0:Aa)(a1:Int)(x1:Int)(k1:Int->Option R)(k2:Int->Bool->Option R):Option R:=let j1:Int->Bool->Option R:=λz2 z3=>k1 (Ax .i64 (z2+1));match idx a0 x1 with|none=>none|some y4=>(bif(decide (y4>=0))==true then(match idx a0 x1 with|none=>none|some y5=>(bif(y5 !=10)==true then(match idx a0 x1 with|none=>none|some y6=>(bif(y6 !=13)then(j1 x1 (y6 !=13))else(k2 x1 (y6 !=13))))else(bif false then(j1 x1 false)else(k2 x1 false))))else(bif false then(j1 x1 false)else(k2 x1 false)))
def A7q{R:Type}(nn:Nat)(a0:Aa)(a1:Int):Nat->Int->(Int->Bool->Option R)->Option R
 |0,_,_=>none
 |n+1,x1,k2=>B2k nn a0 a1 x1 (λx1=>A7q nn a0 a1 n x1 k2) k2
theorem C0j{R:Type}(nn:Nat)(a0:Aa)(a1:Int):∀(n:Nat)(x1:Int)(K:Ex->S6->Option R),LP E123 nn Br [1,0,0,0,1,1,0,0] 10005 n (A6f a0 a1 x1) K=A7q nn a0 a1 n x1 (λx1 rI=>K (.exit 2) (C6i a0 a1 x1 rI))
 |0,_,_=>rfl
 |n+1,x1,K=>by
  rw[A7q];simp only[<-C0j nn a0 a1 n _ K];kernel_rfl
def B12{R:Type}(nn:Nat)(a0:Aa)(a1:Int)(x1:Int)(k1:Int->Option R)(k2:Int->Option R)(k3:Int->Bool->Option R):Option R:=match idx a0 x1 with|none=>none|some y1=>(gd (okR [.bool] (A3M y1)) (let z2:=(lB (gL (A3M y1) 0));bif z2 then(k1 (Ax .i64 (x1+1)))else(match idx a0 x1 with|none=>none|some y3=>(bif(y3 !=35)then(k2 x1)else(A7q nn a0 a1 nn x1 (λz4 z5=>k3 z4 z5))))))
def A5E{R:Type}(nn:Nat)(a0:Aa)(a1:Int):Nat->Int->(Int->Option R)->Option R
 |0,_,_=>none
 |n+1,x1,k2=>B12 nn a0 a1 x1 (λx1=>A5E nn a0 a1 n x1 k2) k2 (λx1 rI=>A5E nn a0 a1 n x1 k2)
theorem C3K{R:Type}(nn:Nat)(a0:Aa)(a1:Int):∀(n:Nat)(x1:Int)(K:Ex->S6->Option R),LP E123 nn Br [1,0,0] 10001 n (A6f a0 a1 x1) K=A5E nn a0 a1 n x1 (λx4=>K .ret (C1H a0 a1 x4))
 |0,_,_=>rfl
 |n+1,x1,K=>by
  rw[A5E];simp only[<-C3K nn a0 a1 n _ K];have h:LP E123 nn Br [1,0,0] 10001 (n+1) (A6f a0 a1 x1) K=match idx a0 x1 with|none=>none|some y1=>(gd (okR [.bool] (A3M y1)) (let z2:=(lB (gL (A3M y1) 0));bif z2 then(LP E123 nn Br [1,0,0] 10001 n (A6f a0 a1 (Ax .i64 (x1+1))) K)else(match idx a0 x1 with|none=>none|some y3=>(bif(y3 !=35)then(K .ret (C1H a0 a1 x1))else(LP E123 nn Br [1,0,0,0,1,1,0,0] 10005 nn (A6f a0 a1 x1) (A5 2 (A5 1 (A12 (E123.drop 10001) (A10 (lbN nn E123 (A1 Br [1,0,0]) 10001) n K))))))))):=by kernel_rfl
  rw[h];simp only[C0j];show _=_;kernel_rfl
def A8t(nn:Nat)(a0:Aa)(a1:Int):Ad:=A5E nn a0 a1 nn a1 (λz1=>some (.one (.int .i64 z1)))
def A30(a0:Aa)(a1:Int):Ad:=A8t NN a0 a1
theorem D3C(nn:Nat){a0:Aa}{a1:Int}:A3 E123 nn Br [.sl .i32 a0 none,.int .i64 a1]=A8t nn a0 a1:=by
 have h:A3 E123 nn Br [.sl .i32 a0 none,.int .i64 a1]=LP E123 nn Br [1,0,0] 10001 nn (A6f a0 a1 a1) (A5 0 (A9 E123 Tryz.f123.results.toList)):=by kernel_rfl
 rw[h];simp only[C3K];show _=_;kernel_rfl
def B62:S1T
 |[.sl .i32 a0 none,.int .i64 a1]=>pR [.int .i64] (A30 a0 a1)
 |_=>none
def C15:Env Ty6 A4:=mkE [(174,A5g)] [] noD 5 [] 0 [] []
def A6G(a0:Int):Ad:=let r1:=X2 a0 [97,98,99,100,101,102,103,104,105,106,107,108,109,110,111,112,113,114,115,116,117,118,119,120,121,122,65,66,67,68,69,70,71,72,73,74,75,76,77,78,79,80,81,82,83,84,85,86,87,88,89,90,95];gd (okR [.bool] r1) (some (.one (.bool (lB (gL r1 0)))))
theorem D8t{a0:Int}:A3 C15 NN Tryz.f177 [.int .i32 a0]=A6G a0:=by kernel_rfl
def B2Q:S1T
 |[.int .i32 a0]=>pR [.bool] (A6G a0)
 |_=>none
def A0x:Env Ty6 A4:=mkE [(174,A5g)] [] noD 9 [] 0 [] []
def A3L(a0:Int):Ad:=let r2:=X2 a0 [97,98,99,100,101,102,103,104,105,106,107,108,109,110,111,112,113,114,115,116,117,118,119,120,121,122,65,66,67,68,69,70,71,72,73,74,75,76,77,78,79,80,81,82,83,84,85,86,87,88,89,90,95];gd (okR [.bool] r2) (bif(lB (gL r2 0))==false then(let r1:=X2 a0 [48,49,50,51,52,53,54,55,56,57];gd (okR [.bool] r1) (some (.one (.bool (lB (gL r1 0))))))else(some (.one (.bool true))))
theorem B3t{a0:Int}:A3 A0x NN Tryz.f208 [.int .i32 a0]=A3L a0:=by kernel_rfl
def S208:S1T
 |[.int .i32 a0]=>pR [.bool] (A3L a0)
 |_=>none
def A5n:Env Ty6 A4:=mkE [(208,S208)] [] (lkD [(0,[4]),(1,[5,6,7,8]),(2,[9,10,11]),(3,[0,1,9,12])]) 13 [] 0 [] []
def C5l(a0:Aa)(a1:Int)(x1:Int):S6:=⟨[(0,.one (.sl .i32 a0 none)),(1,.one (.int .i64 x1))],[]⟩
def C9K(a0:Aa)(a1:Int)(x1:Int)(x9:Bool):S6:=⟨[(0,.one (.sl .i32 a0 none)),(1,.one (.int .i64 x1)),(9,.one (.bool x9))],[]⟩
def B5F{R:Type}(nn:Nat)(a0:Aa)(a1:Int)(x1:Int)(k1:Int->Option R)(k2:Int->Bool->Option R):Option R:=match idx a0 x1 with|none=>none|some y1=>(gd (okR [.bool] (A3L y1)) (let z2:=(lB (gL (A3L y1) 0));bif z2 then(k1 (Ax .i64 (x1+1)))else(k2 x1 z2)))
def A7f{R:Type}(nn:Nat)(a0:Aa)(a1:Int):Nat->Int->(Int->Bool->Option R)->Option R
 |0,_,_=>none
 |n+1,x1,k2=>B5F nn a0 a1 x1 (λx1=>A7f nn a0 a1 n x1 k2) k2
theorem C2t{R:Type}(nn:Nat)(a0:Aa)(a1:Int):∀(n:Nat)(x1:Int)(K:Ex->S6->Option R),LP A5n nn Cv [1,0,0,0] 10001 n (C5l a0 a1 x1) K=A7f nn a0 a1 n x1 (λx1 x9=>K (.exit 0) (C9K a0 a1 x1 x9))
 |0,_,_=>rfl
 |n+1,x1,K=>by
  rw[A7f];simp only[<-C2t nn a0 a1 n _ K];kernel_rfl
def A9F(nn:Nat)(a0:Aa)(a1:Int):Ad:=A7f nn a0 a1 nn a1 (λz1 z2=>some (.one (.int .i64 z1)))
def A5J(a0:Aa)(a1:Int):Ad:=A9F NN a0 a1
theorem D2b(nn:Nat){a0:Aa}{a1:Int}:A3 A5n nn Cv [.sl .i32 a0 none,.int .i64 a1]=A9F nn a0 a1:=by
 have h:A3 A5n nn Cv [.sl .i32 a0 none,.int .i64 a1]=LP A5n nn Cv [1,0,0,0] 10001 nn (C5l a0 a1 a1) (A5 0 (sk A5n nn Cv [1,1] (A9 A5n Tryz.f178.results.toList))):=by kernel_rfl
 rw[h];simp only[C2t];show _=_;kernel_rfl
def B4s:S1T
 |[.sl .i32 a0 none,.int .i64 a1]=>pR [.int .i64] (A5J a0 a1)
 |_=>none
def B9V:Env Ty6 A4:=mkE [(174,A5g)] [] noD 5 [] 0 [] []
def A68(a0:Int):Ad:=let r1:=X2 a0 [48,49,50,51,52,53,54,55,56,57];gd (okR [.bool] r1) (some (.one (.bool (lB (gL r1 0)))))
theorem D4R{a0:Int}:A3 B9V NN Tryz.f179 [.int .i32 a0]=A68 a0:=by kernel_rfl
def B6Y:S1T
 |[.int .i32 a0]=>pR [.bool] (A68 a0)
 |_=>none
def C2M:Env Ty6 A4:=mkE [] [] noD 72 [] 0 [] []
def A3c(a0 a1:Int):Ad:=bif(decide (a1>=48))==true then(let z1:=decide (a1<=57);let j2:Ad:=some (.one (.int .i64 (-1)));let j3:Bool->Bool->Ad:=λz4 z5=>some (.one (.int .i64 (-1)));let j6:Bool->Bool->Ad:=λz7 z8=>some (.one (.int .i64 (-1)));let j9:Bool->Bool->Ad:=λdH cF=>bif cF then(bif(a1==45)==true then(bif(a0==0)then(some (.one (.int .i64 1)))else(bif(a1==48)then(some (.one (.int .i64 2)))else(bif dH then(some (.one (.int .i64 3)))else j2)))else(bif false then(some (.one (.int .i64 1)))else(bif(a1==48)then(some (.one (.int .i64 2)))else(bif dH then(some (.one (.int .i64 3)))else j2))))else(let wg:Bool->Bool->Ad:=λdB dj=>bif dj then(bif dB==true then(bif(a0==3)then(some (.one (.int .i64 3)))else(bif(a1==46)then(some (.one (.int .i64 4)))else(bif(a1==101)==false then(bif(a1==69)then(some (.one (.int .i64 6)))else j2)else(bif true then(some (.one (.int .i64 6)))else j2))))else(bif false then(some (.one (.int .i64 3)))else(bif(a1==46)then(some (.one (.int .i64 4)))else(bif(a1==101)==false then(bif(a1==69)then(some (.one (.int .i64 6)))else j2)else(bif true then(some (.one (.int .i64 6)))else j2)))))else(bif(a0==4)then(bif dB then(some (.one (.int .i64 5)))else j2)else(bif(a0==5)then(bif dB then(some (.one (.int .i64 5)))else(bif(a1==101)==false then(bif(a1==69)then(some (.one (.int .i64 6)))else j2)else(bif true then(some (.one (.int .i64 6)))else j2)))else(bif(a0==6)then(bif dB then(some (.one (.int .i64 8)))else(bif(a1==43)==false then(bif(a1==45)then(some (.one (.int .i64 7)))else j2)else(bif true then(some (.one (.int .i64 7)))else j2)))else(bif(a0==7)then(bif(a0==7)then(bif dB then(some (.one (.int .i64 8)))else j2)else(j3 dB (a0==7)))else(bif(a0==8)then(bif dB then(some (.one (.int .i64 8)))else j2)else(j6 dB (a0==8)))))));bif(a0==2)then(wg dH (a0==2))else(wg dH (a0==3)));bif(a0==0)then(j9 z1 (a0==0))else(j9 z1 (a0==1)))else(let jk:Ad:=some (.one (.int .i64 (-1)));let yc:Bool->Bool->Ad:=λgX gW=>some (.one (.int .i64 (-1)));let yd:Bool->Bool->Ad:=λz20 z21=>some (.one (.int .i64 (-1)));let wh:Bool->Bool->Ad:=λmD rH=>bif rH then(bif(a1==45)==true then(bif(a0==0)then(some (.one (.int .i64 1)))else(bif(a1==48)then(some (.one (.int .i64 2)))else(bif mD then(some (.one (.int .i64 3)))else jk)))else(bif false then(some (.one (.int .i64 1)))else(bif(a1==48)then(some (.one (.int .i64 2)))else(bif mD then(some (.one (.int .i64 3)))else jk))))else(let wi:Bool->Bool->Ad:=λlg tP=>bif tP then(bif lg==true then(bif(a0==3)then(some (.one (.int .i64 3)))else(bif(a1==46)then(some (.one (.int .i64 4)))else(bif(a1==101)==false then(bif(a1==69)then(some (.one (.int .i64 6)))else jk)else(bif true then(some (.one (.int .i64 6)))else jk))))else(bif false then(some (.one (.int .i64 3)))else(bif(a1==46)then(some (.one (.int .i64 4)))else(bif(a1==101)==false then(bif(a1==69)then(some (.one (.int .i64 6)))else jk)else(bif true then(some (.one (.int .i64 6)))else jk)))))else(bif(a0==4)then(bif lg then(some (.one (.int .i64 5)))else jk)else(bif(a0==5)then(bif lg then(some (.one (.int .i64 5)))else(bif(a1==101)==false then(bif(a1==69)then(some (.one (.int .i64 6)))else jk)else(bif true then(some (.one (.int .i64 6)))else jk)))else(bif(a0==6)then(bif lg then(some (.one (.int .i64 8)))else(bif(a1==43)==false then(bif(a1==45)then(some (.one (.int .i64 7)))else jk)else(bif true then(some (.one (.int .i64 7)))else jk)))else(bif(a0==7)then(bif(a0==7)then(bif lg then(some (.one (.int .i64 8)))else jk)else(yc lg (a0==7)))else(bif(a0==8)then(bif lg then(some (.one (.int .i64 8)))else jk)else(yd lg (a0==8)))))));bif(a0==2)then(wi mD (a0==2))else(wi mD (a0==3)));bif(a0==0)then(wh false (a0==0))else(wh false (a0==1)))
theorem D69{a0 a1:Int}:A3 C2M NN Tryz.f230 [.int .i64 a0,.int .i32 a1]=A3c a0 a1:=by kernel_rfl
def B2t:S1T
 |[.int .i64 a0,.int .i32 a1]=>pR [.int .i64] (A3c a0 a1)
 |_=>none
def C1s:Env Ty6 A4:=mkE [] [] noD 10 [] 0 [] []
def A4N(a0:Int):Ad:=let j1:Bool->Ad:=λz2=>some (.one (.int .i64 0));let j3:Bool->Ad:=λz4=>some (.one (.int .i64 0));let j5:Bool->Ad:=λz6=>bif z6 then(some (.one (.int .i64 1)))else(bif(a0==5)then(bif(a0==5)then(some (.one (.int .i64 2)))else(j1 (a0==5)))else(bif(a0==8)then(some (.one (.int .i64 2)))else(j3 (a0==8))));bif(a0==2)then(j5 (a0==2))else(j5 (a0==3))
theorem D1Z{a0:Int}:A3 C1s NN Tryz.f231 [.int .i64 a0]=A4N a0:=by kernel_rfl
def B6N:S1T
 |[.int .i64 a0]=>pR [.int .i64] (A4N a0)
 |_=>none
def K3:Env Ty6 A4:=mkE [(230,B2t),(231,B6N)] [] (lkD [(0,[4,5,6]),(1,[12,13,14,15,16,17,18]),(2,[0,1,19]),(3,[19,20]),(4,[1,21]),(5,[22,23,24]),(6,[11,26,27,42]),(7,[25,28,29,30,31,32,33]),(8,[34]),(9,[0,7,8,9,10,35,36,37,38]),(10,[35,39,40]),(11,[41]),(12,[11,42,43,44,45]),(13,[0,7,8,9,10,25,46,47,48,49])]) 50 [] 0 [] []
def D06(a0:Aa)(a1:Int)(x4 x5 x6:Int):S6:=⟨[(4,.one (.int .i64 x4)),(5,.one (.int .i64 x5)),(6,.one (.int .i64 x6))],[]⟩
def C5o(a0:Aa)(a1:Int)(x7 x8 x9 aC:Int):S6:=⟨[(0,.one (.sl .i32 a0 none)),(7,.one (.int .i64 x7)),(8,.one (.int .i64 x8)),(9,.one (.int .i64 x9)),(10,.one (.int .i64 aC))],[]⟩
def A51(a0:Aa)(a1:Int)(x7 x8 x9 aC:Int)(im:Bool):S6:=⟨[(0,.one (.sl .i32 a0 none)),(7,.one (.int .i64 x7)),(8,.one (.int .i64 x8)),(9,.one (.int .i64 x9)),(10,.one (.int .i64 aC)),(25,.one (.bool im))],[]⟩
def B4O{R:Type}(nn:Nat)(a0:Aa)(a1:Int)(x7 x8 x9 aC:Int)(k1:Int->Int->Int->Option R)(k2:Int->Int->Int->Int->Option R)(k3:Int->Int->Int->Int->Bool->Option R):Option R:=let z1:=decide (aC<(Aw a0:Int));bif z1 then(match idx a0 aC with|none=>none|some y2=>(gd (okR [.int .i64] (A3c x9 y2)) (let z3:=(lI (gL (A3c x9 y2) 0));let z4:=decide (z3<0);bif z4 then(k1 x7 aC x8)else(gd (okR [.int .i64] (A4N z3)) (let z5:=(lI (gL (A4N z3) 0));bif(z5 !=0)then(k2 (Ax .i64 (aC+1)) z5 z3 (Ax .i64 (aC+1)))else(k2 x7 x8 z3 (Ax .i64 (aC+1))))))))else(k3 x7 x8 x9 aC z1)
def A6u{R:Type}(nn:Nat)(a0:Aa)(a1:Int):Nat->Int->Int->Int->Int->(Int->Int->Int->Option R)->(Int->Int->Int->Int->Bool->Option R)->Option R
 |0,_,_,_,_,_,_=>none
 |n+1,x7,x8,x9,aC,k1,k3=>B4O nn a0 a1 x7 x8 x9 aC k1 (λx7 x8 x9 aC=>A6u nn a0 a1 n x7 x8 x9 aC k1 k3) k3
theorem B7k{R:Type}(nn:Nat)(a0:Aa)(a1:Int):∀(n:Nat)(x7 x8 x9 aC:Int)(K:Ex->S6->Option R),LP K3 nn Ct [1,1,1,0,1,0,0] 10005 n (C5o a0 a1 x7 x8 x9 aC) K=A6u nn a0 a1 n x7 x8 x9 aC (λx4 x5 x6=>K .ret (D06 a0 a1 x4 x5 x6)) (λx7 x8 x9 aC im=>K (.exit 0) (A51 a0 a1 x7 x8 x9 aC im))
 |0,_,_,_,_,_=>rfl
 |n+1,x7,x8,x9,aC,K=>by
  rw[A6u];simp only[<-B7k nn a0 a1 n _ _ _ _ K];kernel_rfl
def A9P(nn:Nat)(a0:Aa)(a1:Int):Ad:=let j1:Bool->Ad:=λz2=>A6u nn a0 a1 nn a1 0 0 a1 (λz3 z4 z5=>some (.tup [.int .i64 z3,.int .i64 z4,.int .i64 z5])) (λz6 z7 z8 z9 dH=>some (.tup [.int .i64 z6,.int .i64 (Aw a0:Int),.int .i64 z7]));bif(decide (a1<0))==false then(let cF:=decide (a1>(Aw a0:Int));bif cF then(some (.tup [.int .i64 0,.int .i64 0,.int .i64 0]))else(j1 cF))else(bif true then(some (.tup [.int .i64 0,.int .i64 0,.int .i64 0]))else(j1 true))
def A3g(a0:Aa)(a1:Int):Ad:=A9P NN a0 a1
theorem B4K(nn:Nat){a0:Aa}{a1:Int}:A3 K3 nn Ct [.sl .i32 a0 none,.int .i64 a1]=A9P nn a0 a1:=by
 have h:A3 K3 nn Ct [.sl .i32 a0 none,.int .i64 a1]=let j1:Bool->Ad:=λz2=>LP K3 nn Ct [1,1,1,0,1,0,0] 10005 nn (C5o a0 a1 a1 0 0 a1) (A5 0 (sk K3 nn Ct [1,1,1,1] (A9 K3 Tryz.f209.results.toList)));bif(decide (a1<0))==false then(let cF:=decide (a1>(Aw a0:Int));bif cF then(some (.tup [.int .i64 0,.int .i64 0,.int .i64 0]))else(j1 cF))else(bif true then(some (.tup [.int .i64 0,.int .i64 0,.int .i64 0]))else(j1 true)):=by kernel_rfl
 rw[h];simp only[B7k];show _=_;kernel_rfl
def S209:S1T
 |[.sl .i32 a0 none,.int .i64 a1]=>pR [.int .i64,.int .i64,.int .i64] (A3g a0 a1)
 |_=>none
def C19:Env Ty6 A4:=mkE [(208,S208),(209,S209)] [] noD 38 [] 0 [] []
def A03(a0:Aa)(a1:Int):Ad:=gd (okR [.int .i64,.int .i64,.int .i64] (A3g a0 a1)) (let z1:=(lI (gL (A3g a0 a1) 0));let z2:=(lI (gL (A3g a0 a1) 2));let j3:Int->Int->Ad:=λz4 z5=>bif(z5==1)then(some (.tup [.int .i64 z4,.int .i64 4]))else(some (.tup [.int .i64 z4,.int .i64 5]));bif(z1==a1)==false then(match idx a0 z1 with|none=>none|some y6=>(bif(y6==46)==false then(match idx a0 z1 with|none=>none|some y7=>(gd (okR [.bool] (A3L y7)) (bif(lB (gL (A3L y7) 0))then(some (.tup [.int .i64 a1,.int .i64 1]))else(j3 z1 z2))))else(bif true then(some (.tup [.int .i64 a1,.int .i64 1]))else(j3 z1 z2))))else(bif true then(some (.tup [.int .i64 a1,.int .i64 1]))else(j3 z1 z2)))
theorem C7T{a0:Aa}{a1:Int}:A3 C19 NN Tryz.f180 [.sl .i32 a0 none,.int .i64 a1]=A03 a0 a1:=by kernel_rfl
def B2C:S1T
 |[.sl .i32 a0 none,.int .i64 a1]=>pR [.int .i64,.int .i64] (A03 a0 a1)
 |_=>none
def L2:Env Ty6 A4:=mkE [] [] noD 38 [] 0 [] []
def A1Z(a0:Aa)(a1 a2:Int):Ad:=bif(decide ((Ax .i64 (a1+2))<(Aw a0:Int)))==true then(match idx a0 a1 with|none=>none|some y1=>(bif(y1==a2)==true then(match idx a0 (Ax .i64 (a1+1))with|none=>none|some y2=>(bif(y2==a2)==true then(match idx a0 (Ax .i64 (a1+2))with|none=>none|some y3=>(some (.one (.bool (y3==a2)))))else(some (.one (.bool false)))))else(some (.one (.bool false)))))else(some (.one (.bool false)))
theorem B4w{a0:Aa}{a1 a2:Int}:A3 L2 NN Tryz.f210 [.sl .i32 a0 none,.int .i64 a1,.int .i32 a2]=A1Z a0 a1 a2:=by kernel_rfl
def S210:S1T
 |[.sl .i32 a0 none,.int .i64 a1,.int .i32 a2]=>pR [.bool] (A1Z a0 a1 a2)
 |_=>none
def A5b:Env Ty6 A4:=mkE [(210,S210)] [] (lkD [(0,[4]),(1,[6,7]),(2,[8,9,10,11]),(3,[13,14,29]),(4,[12,16,17,18,19,20,21,22,23,24,25,26]),(5,[15,27,28]),(6,[15,30,31,32]),(7,[0,1,5,29,33,34]),(8,[0,1,5,12,35])]) 36 [] 0 [] []
def B95(a0:Aa)(a1:Int)(x5:Int):S6:=⟨[(0,.one (.sl .i32 a0 none)),(1,.one (.int .i64 a1)),(5,.one (.int .i64 x5))],[]⟩
def D4b(a0:Aa)(a1:Int)(x5:Int)(cN:Bool):S6:=⟨[(0,.one (.sl .i32 a0 none)),(1,.one (.int .i64 a1)),(5,.one (.int .i64 x5)),(12,.one (.bool cN))],[]⟩
def D1w(a0:Aa)(a1:Int)(x4:Int):S6:=⟨[(4,.one (.int .i64 x4))],[]⟩
def B6v{R:Type}(nn:Nat)(a0:Aa)(a1:Int)(x5:Int)(k1:Int->Option R)(k2:Int->Option R)(k3:Int->Bool->Option R):Option R:=match idx a0 x5 with|none=>none|some y1=>(let z2:=decide (y1>=0);bif z2 then(match idx a0 x5 with|none=>none|some y3=>(bif(y3==92)==true then(let r5:=A1Z a0 (Ax .i64 (x5+1)) 34;gd (okR [.bool] r5) (bif(lB (gL r5 0))then(k1 (Ax .i64 (x5+4)))else(let r4:=A1Z a0 x5 34;gd (okR [.bool] r4) (bif(lB (gL r4 0))then(k2 (Ax .i64 (x5+3)))else(k1 (Ax .i64 (x5+1)))))))else(bif false then(k1 (Ax .i64 (x5+4)))else(let r6:=A1Z a0 x5 34;gd (okR [.bool] r6) (bif(lB (gL r6 0))then(k2 (Ax .i64 (x5+3)))else(k1 (Ax .i64 (x5+1))))))))else(k3 x5 z2))
def A5p{R:Type}(nn:Nat)(a0:Aa)(a1:Int):Nat->Int->(Int->Option R)->(Int->Bool->Option R)->Option R
 |0,_,_,_=>none
 |n+1,x5,k2,k3=>B6v nn a0 a1 x5 (λx5=>A5p nn a0 a1 n x5 k2 k3) k2 k3
theorem B7q{R:Type}(nn:Nat)(a0:Aa)(a1:Int):∀(n:Nat)(x5:Int)(K:Ex->S6->Option R),LP A5b nn Cs [1,1,0,0,0] 10002 n (B95 a0 a1 x5) K=A5p nn a0 a1 n x5 (λx4=>K .ret (D1w a0 a1 x4)) (λx5 cN=>K (.exit 0) (D4b a0 a1 x5 cN))
 |0,_,_=>rfl
 |n+1,x5,K=>by
  rw[A5p];simp only[<-B7q nn a0 a1 n _ K];kernel_rfl
def B1C(nn:Nat)(a0:Aa)(a1:Int):Ad:=A5p nn a0 a1 nn (Ax .i64 (a1+3)) (λz1=>some (.one (.int .i64 z1))) (λz2 z3=>some (.one (.int .i64 a1)))
def A4L(a0:Aa)(a1:Int):Ad:=B1C NN a0 a1
theorem D6H(nn:Nat){a0:Aa}{a1:Int}:A3 A5b nn Cs [.sl .i32 a0 none,.int .i64 a1]=B1C nn a0 a1:=by
 have h:A3 A5b nn Cs [.sl .i32 a0 none,.int .i64 a1]=LP A5b nn Cs [1,1,0,0,0] 10002 nn (B95 a0 a1 (Ax .i64 (a1+3))) (A5 0 (sk A5b nn Cs [1,1,1] (A9 A5b Tryz.f211.results.toList))):=by kernel_rfl
 rw[h];simp only[B7q];show _=_;kernel_rfl
def B3c:S1T
 |[.sl .i32 a0 none,.int .i64 a1]=>pR [.int .i64] (A4L a0 a1)
 |_=>none
def A4u:Env Ty6 A4:=mkE [] [] (lkD [(0,[4]),(1,[6,7]),(2,[8,9,10,11,12,13,14,15,16,17,18,19,20,21,22,23,24,25]),(3,[26,27,28,29,30]),(4,[0,1,5,31,32,33]),(5,[31,34,35,36,37]),(6,[38,39,40]),(7,[41,42,43,44,45,46,47,48,49,50,51,52,53,54,55,56,57,58]),(8,[0,1,5,59,60]),(9,[38,59,61,62]),(10,[0,1,5,26,63])]) 64 [] 0 [] []
def C3Q(a0:Aa)(a1:Int)(x5:Int):S6:=⟨[(0,.one (.sl .i32 a0 none)),(1,.one (.int .i64 a1)),(5,.one (.int .i64 x5))],[]⟩
def C5L(a0:Aa)(a1:Int)(x5:Int)(dA:Bool):S6:=⟨[(0,.one (.sl .i32 a0 none)),(1,.one (.int .i64 a1)),(5,.one (.int .i64 x5)),(26,.one (.bool dA))],[]⟩
def D7K(a0:Aa)(a1:Int)(x4:Int):S6:=⟨[(4,.one (.int .i64 x4))],[]⟩
def B6F{R:Type}(nn:Nat)(a0:Aa)(a1:Int)(x5:Int)(k1:Int->Option R)(k2:Int->Option R)(k3:Int->Bool->Option R):Option R:=let j1:Int->Bool->Option R:=λz2 z3=>match idx a0 z2 with|none=>none|some y4=>(bif(y4==34)then(k1 (Ax .i64 (z2+1)))else(let j5:Int->Bool->Option R:=λz6 z7=>k2 (Ax .i64 (z6+1));match idx a0 z2 with|none=>none|some y8=>(bif(y8==92)then(let z9:=Ax .i64 (z2+1);match idx a0 z9 with|none=>none|some gp=>(bif(decide (gp<0))==false then(match idx a0 z9 with|none=>none|some lc=>(bif(lc==10)==false then(match idx a0 z9 with|none=>none|some mB=>(bif(mB==13)then(k1 a1)else(j5 z9 (mB==13))))else(bif true then(k1 a1)else(j5 z9 true))))else(bif true then(k1 a1)else(j5 z9 true))))else(k2 (Ax .i64 (z2+1))))));match idx a0 x5 with|none=>none|some oJ=>(bif(decide (oJ>=0))==true then(match idx a0 x5 with|none=>none|some rE=>(bif(rE !=10)==true then(match idx a0 x5 with|none=>none|some qh=>(bif(qh !=13)then(j1 x5 (qh !=13))else(k3 x5 (qh !=13))))else(bif false then(j1 x5 false)else(k3 x5 false))))else(bif false then(j1 x5 false)else(k3 x5 false)))
def A3O{R:Type}(nn:Nat)(a0:Aa)(a1:Int):Nat->Int->(Int->Option R)->(Int->Bool->Option R)->Option R
 |0,_,_,_=>none
 |n+1,x5,k1,k3=>B6F nn a0 a1 x5 k1 (λx5=>A3O nn a0 a1 n x5 k1 k3) k3
theorem B7N{R:Type}(nn:Nat)(a0:Aa)(a1:Int):∀(n:Nat)(x5:Int)(K:Ex->S6->Option R),LP A4u nn Cr [1,1,0,0,0] 10002 n (C3Q a0 a1 x5) K=A3O nn a0 a1 n x5 (λx4=>K .ret (D7K a0 a1 x4)) (λx5 dA=>K (.exit 0) (C5L a0 a1 x5 dA))
 |0,_,_=>rfl
 |n+1,x5,K=>by
  rw[A3O];simp only[<-B7N nn a0 a1 n _ K];kernel_rfl
def B1z(nn:Nat)(a0:Aa)(a1:Int):Ad:=A3O nn a0 a1 nn (Ax .i64 (a1+1)) (λz1=>some (.one (.int .i64 z1))) (λz2 z3=>some (.one (.int .i64 a1)))
def A40(a0:Aa)(a1:Int):Ad:=B1z NN a0 a1
theorem D4F(nn:Nat){a0:Aa}{a1:Int}:A3 A4u nn Cr [.sl .i32 a0 none,.int .i64 a1]=B1z nn a0 a1:=by
 have h:A3 A4u nn Cr [.sl .i32 a0 none,.int .i64 a1]=LP A4u nn Cr [1,1,0,0,0] 10002 nn (C3Q a0 a1 (Ax .i64 (a1+1))) (A5 0 (sk A4u nn Cr [1,1,1] (A9 A4u Tryz.f213.results.toList))):=by kernel_rfl
 rw[h];simp only[B7N];show _=_;kernel_rfl
def B2X:S1T
 |[.sl .i32 a0 none,.int .i64 a1]=>pR [.int .i64] (A40 a0 a1)
 |_=>none
def B9b:Env Ty6 A4:=mkE [(210,S210),(211,B3c),(212,B0E),(213,B2X),(214,B2m)] [] noD 60 [] 0 [] []
def A0u(a0:Aa)(a1:Int):Ad:=let r5:=A1Z a0 a1 34;gd (okR [.bool] r5) (bif(lB (gL r5 0))then(gd (okR [.int .i64] (A4L a0 a1)) (let z1:=(lI (gL (A4L a0 a1) 0));bif(z1==a1)then(some (.tup [.int .i64 a1,.int .i64 1,.str []]))else(match sub a0 (Ax .i64 (a1+3)) (Ax .i64 (z1 - 3))with|none=>none|some y2=>(gd (okR [.str,.int .i64] (A2V y2)) (bif((lI (gL (A2V y2) 1)) !=0)then(some (.tup [.int .i64 a1,.int .i64 1,.str []]))else(some (.tup [.int .i64 z1,.int .i64 7,.str (lS (gL (A2V y2) 0))])))))))else(gd (okR [.int .i64] (A40 a0 a1)) (let z3:=(lI (gL (A40 a0 a1) 0));bif(z3==a1)then(some (.tup [.int .i64 a1,.int .i64 1,.str []]))else(match sub a0 (Ax .i64 (a1+1)) (Ax .i64 (z3 - 1))with|none=>none|some y4=>(gd (okR [.str,.int .i64] (A2g y4)) (bif((lI (gL (A2g y4) 1)) !=0)then(some (.tup [.int .i64 a1,.int .i64 1,.str []]))else(some (.tup [.int .i64 z3,.int .i64 6,.str (lS (gL (A2g y4) 0))]))))))))
theorem C8v{a0:Aa}{a1:Int}:A3 B9b NN Tryz.f181 [.sl .i32 a0 none,.int .i64 a1]=A0u a0 a1:=by kernel_rfl
def B5M:S1T
 |[.sl .i32 a0 none,.int .i64 a1]=>pR [.int .i64,.int .i64,.str] (A0u a0 a1)
 |_=>none
def A5C:Env Ty6 A4:=mkE [(210,S210)] [] (lkD [(0,[4]),(3,[7,8,9]),(4,[11,12,21]),(5,[10,13,14,15,16,17,18,19,20]),(6,[0,1,5,6,21,22,23]),(7,[0,5,6,10,24,25]),(8,[1,26,27,28]),(9,[1,26,29])]) 30 [] 0 [] []
def B9f(a0:Aa)(a1:Int)(x5:Ab)(x6:Int):S6:=⟨[(0,.one (.sl .i32 a0 none)),(1,.one (.int .i64 a1)),(5,.one (.str x5)),(6,.one (.int .i64 x6))],[]⟩
def D6T(a0:Aa)(a1:Int)(x5:Ab)(x6:Int)(aC:Bool):S6:=⟨[(0,.one (.sl .i32 a0 none)),(1,.one (.int .i64 a1)),(5,.one (.str x5)),(6,.one (.int .i64 x6)),(10,.one (.bool aC))],[]⟩
def C9q(a0:Aa)(a1:Int)(x4:Int):S6:=⟨[(4,.one (.int .i64 x4))],[]⟩
def A95{R:Type}(nn:Nat)(a0:Aa)(a1:Int)(x5:Ab)(x6:Int)(k1:Int->Option R)(k2:(Ab)->Int->Option R)(k3:(Ab)->Int->Bool->Option R):Option R:=let z1:=decide (x6<(Aw x5:Int));bif z1 then(match idx a0 a1 with|none=>none|some y2=>(match idx x5 x6 with|none=>none|some y3=>(let z4:=y2==(Ax .i32 (Bi y3:Int));bif z4 then(k1 (Ax .i64 (a1+1)))else(k2 x5 (Ax .i64 (x6+1))))))else(k3 x5 x6 z1)
def A6t{R:Type}(nn:Nat)(a0:Aa)(a1:Int):Nat->(Ab)->Int->(Int->Option R)->((Ab)->Int->Bool->Option R)->Option R
 |0,_,_,_,_=>none
 |n+1,x5,x6,k1,k3=>A95 nn a0 a1 x5 x6 k1 (λx5 x6=>A6t nn a0 a1 n x5 x6 k1 k3) k3
theorem B83{R:Type}(nn:Nat)(a0:Aa)(a1:Int):∀(n:Nat)(x5:Ab)(x6:Int)(K:Ex->S6->Option R),LP A5C nn Cu [1,1,0,1,0,0] 10003 n (B9f a0 a1 x5 x6) K=A6t nn a0 a1 n x5 x6 (λx4=>K .ret (C9q a0 a1 x4)) (λx5 x6 aC=>K (.exit 0) (D6T a0 a1 x5 x6 aC))
 |0,_,_,_=>rfl
 |n+1,x5,x6,K=>by
  rw[A6t];simp only[<-B83 nn a0 a1 n _ _ K];kernel_rfl
def A79(nn:Nat)(a0:Aa)(a1:Int):Ad:=A6t nn a0 a1 nn [33,36,38,40,41,58,61,64,91,93,123,124,125] 0 (λz1=>some (.one (.int .i64 z1))) (λz2 z3 z4=>let r6:=A1Z a0 a1 46;gd (okR [.bool] r6) (let z5:=(lB (gL r6 0));bif z5 then(some (.one (.int .i64 (Ax .i64 (a1+3)))))else(some (.one (.int .i64 a1)))))
def A4j(a0:Aa)(a1:Int):Ad:=A79 NN a0 a1
theorem C9B(nn:Nat){a0:Aa}{a1:Int}:A3 A5C nn Cu [.sl .i32 a0 none,.int .i64 a1]=A79 nn a0 a1:=by
 have h:A3 A5C nn Cu [.sl .i32 a0 none,.int .i64 a1]=LP A5C nn Cu [1,1,0,1,0,0] 10003 nn (B9f a0 a1 [33,36,38,40,41,58,61,64,91,93,123,124,125] 0) (A5 0 (sk A5C nn Cu [1,1,1] (A9 A5C Tryz.f182.results.toList))):=by kernel_rfl
 rw[h];simp only[B83];show _=_;kernel_rfl
def B5H:S1T
 |[.sl .i32 a0 none,.int .i64 a1]=>pR [.int .i64] (A4j a0 a1)
 |_=>none
def C5i:Env Ty6 A4:=mkE [(177,B2Q),(178,B4s),(179,B6Y),(180,B2C),(181,B5M),(182,B5H)] [] noD 63 [] 0 [] []
def A3C(a0:Aa)(a1:Int):Ad:=match idx a0 a1 with|none=>none|some y1=>(bif(y1==(-2))then(some (.tup [.int .i64 a1,.int .i64 0,.str []]))else(match idx a0 a1 with|none=>none|some y2=>(gd (okR [.bool] (A6G y2)) (bif(lB (gL (A6G y2) 0))then(gd (okR [.int .i64] (A5J a0 a1)) (some (.tup [.int .i64 (lI (gL (A5J a0 a1) 0)),.int .i64 3,.str []])))else(let j3:Ad:=match idx a0 a1 with|none=>none|some y4=>(bif(y4==34)then(gd (okR [.int .i64,.int .i64,.str] (A0u a0 a1)) (some (.tup [.int .i64 (lI (gL (A0u a0 a1) 0)),.int .i64 (lI (gL (A0u a0 a1) 1)),.str (lS (gL (A0u a0 a1) 2))])))else(gd (okR [.int .i64] (A4j a0 a1)) (let z5:=(lI (gL (A4j a0 a1) 0));bif(decide (z5>a1))then(some (.tup [.int .i64 z5,.int .i64 2,.str []]))else(some (.tup [.int .i64 a1,.int .i64 1,.str []])))));match idx a0 a1 with|none=>none|some y6=>(gd (okR [.bool] (A68 y6)) (bif(lB (gL (A68 y6) 0))==false then(match idx a0 a1 with|none=>none|some y7=>(bif(y7==45)then(gd (okR [.int .i64,.int .i64] (A03 a0 a1)) (some (.tup [.int .i64 (lI (gL (A03 a0 a1) 0)),.int .i64 (lI (gL (A03 a0 a1) 1)),.str []])))else j3))else(bif true then(gd (okR [.int .i64,.int .i64] (A03 a0 a1)) (some (.tup [.int .i64 (lI (gL (A03 a0 a1) 0)),.int .i64 (lI (gL (A03 a0 a1) 1)),.str []])))else j3))))))))
theorem D5d{a0:Aa}{a1:Int}:A3 C5i NN Tryz.f124 [.sl .i32 a0 none,.int .i64 a1]=A3C a0 a1:=by kernel_rfl
def B42:S1T
 |[.sl .i32 a0 none,.int .i64 a1]=>pR [.int .i64,.int .i64,.str] (A3C a0 a1)
 |_=>none
def C2P:Env Ty6 A4:=mkE [(175,B05)] [] noD 56 [] 0 [] []
def A5F(a0:Int):Ad:=gd (okR [.bool] (A0L a0)) (bif(!(lB (gL (A0L a0) 0)))then(some (.one (.sl .u8 [] (some 1))))else(let z1:=Ax .u8 (Ax .i32 (128+(Dq a0 64)));let z2:=Ax .u8 (Ax .i32 (128+(Dq (Ax .i32 (Ca a0 64)) 64)));bif(decide (a0<128))then(some (.one (.sl .u8 [Ax .u8 a0] (some 1))))else(bif(decide (a0<2048))then(some (.one (.sl .u8 [Ax .u8 (Ax .i32 (192+(Ax .i32 (Ca a0 64)))),z1] (some 1))))else(bif(decide (a0<65536))then(some (.one (.sl .u8 [Ax .u8 (Ax .i32 (224+(Ax .i32 (Ca a0 4096)))),z2,z1] (some 1))))else(some (.one (.sl .u8 [Ax .u8 (Ax .i32 (240+(Ax .i32 (Ca a0 262144)))),(Ax .u8 (Ax .i32 (128+(Dq (Ax .i32 (Ca a0 4096)) 64)))),z2,z1] (some 1))))))))
theorem C5y{a0:Int}:A3 C2P NN Tryz.f172 [.int .i32 a0]=A5F a0:=by kernel_rfl
def B5G:S1T
 |[.int .i32 a0]=>pR [.sl .u8 (some 1)] (A5F a0)
 |_=>none
def A4t:Env Ty6 A4:=mkE [(172,B5G)] [] (lkD [(0,[2,3]),(3,[7,8,9]),(4,[11,12]),(5,[10,13,14,15,16,17]),(6,[18,19]),(7,[0,4,5,6,20]),(8,[6,20,21,22,23]),(9,[0,4,5,10,24,25])]) 26 [] 0 [] []
def C2F(a0:Aa)(x4:Aa)(x5:Int):S6:=⟨[(0,.one (.sl .i32 a0 none)),(4,.one (.sl .u8 x4 (some 104))),(5,.one (.int .i64 x5))],[104]⟩
def D1J(a0:Aa)(x4:Aa)(x5:Int)(aC:Bool):S6:=⟨[(0,.one (.sl .i32 a0 none)),(4,.one (.sl .u8 x4 (some 104))),(5,.one (.int .i64 x5)),(10,.one (.bool aC))],[104]⟩
def C6I(a0:Aa):S6:=⟨[(2,.one (.str [])),(3,.one (.bool false))],[]⟩
def B1j{R:Type}(nn:Nat)(a0:Aa)(x4:Aa)(x5:Int)(k1:Option R)(k2:(Aa)->Int->Option R)(k3:(Aa)->Int->Bool->Option R):Option R:=let z1:=decide (x5<(Aw a0:Int));bif z1 then(match idx a0 x5 with|none=>none|some y2=>(gd (okR [.sl .u8 (some 1)] (A5F y2)) (let z3:=(A3H (gL (A5F y2) 0));let z4:=(Aw z3:Int)==0;bif z4 then k1 else(gd (A2 (Aw x4+Aw z3) 1) (k2 (x4++z3) (Ax .i64 (x5+1)))))))else(k3 x4 x5 z1)
def A6S{R:Type}(nn:Nat)(a0:Aa):Nat->(Aa)->Int->(Option R)->((Aa)->Int->Bool->Option R)->Option R
 |0,_,_,_,_=>none
 |n+1,x4,x5,k1,k3=>B1j nn a0 x4 x5 k1 (λx4 x5=>A6S nn a0 n x4 x5 k1 k3) k3
theorem B9N{R:Type}(nn:Nat)(a0:Aa):∀(n:Nat)(x4:Aa)(x5:Int)(K:Ex->S6->Option R),LP A4t nn Db [1,1,0,1,0,0] 10003 n (C2F a0 x4 x5) K=A6S nn a0 n x4 x5 (K .ret (C6I a0)) (λx4 x5 aC=>K (.exit 0) (D1J a0 x4 x5 aC))
 |0,_,_,_=>rfl
 |n+1,x4,x5,K=>by
  rw[A6S];simp only[<-B9N nn a0 n _ _ K];kernel_rfl
def A8E(nn:Nat)(a0:Aa):Ad:=A6S nn a0 nn [] 0 (some (.tup [.str [],.bool false])) (λz1 z2 z3=>some (.tup [.str (Dp (λ(n:Int)=>Dm n.toNat) z1),.bool true]))
def A3v(a0:Aa):Ad:=A8E NN a0
theorem D16(nn:Nat){a0:Aa}:A3 A4t nn Db [.sl .i32 a0 none]=A8E nn a0:=by
 have h:A3 A4t nn Db [.sl .i32 a0 none]=LP A4t nn Db [1,1,0,1,0,0] 10003 nn (C2F a0 [] 0) (A5 0 (sk A4t nn Db [1,1,1] (A9 A4t Tryz.f125.results.toList))):=by kernel_rfl
 rw[h];simp only[B9N];show _=_;kernel_rfl
def B4T:S1T
 |[.sl .i32 a0 none]=>pR [.str,.bool] (A3v a0)
 |_=>none
def E55:Env Ty6 A4:=mkE [(123,B62),(124,B42),(125,B4T)] [] noD 41 [6] 0 [] []
def F55(a0:Aa)(a1:List A7)(a2:Int):Ad:=gd (okR [.int .i64] (A30 a0 a2)) (let z1:=(lI (gL (A30 a0 a2) 0));gd (okR [.int .i64,.int .i64,.str] (A3C a0 z1)) (let z2:=(lI (gL (A3C a0 z1) 0));match sub a0 z1 z2 with|none=>none|some y3=>(gd (okR [.str,.bool] (A3v y3)) (match idx a1 z1 with|none=>none|some y4=>(some (.one (.agg .tok (⟨(lI (gL (A3C a0 z1) 1)),(⟨y4.line,y4.col⟩:A7),z1,z2,(lS (gL (A3v y3) 0)),(lS (gL (A3C a0 z1) 2))⟩:A0))))))))
theorem B68{a0:Aa}{a1:List A7}{a2:Int}:A3 E55 NN Tryz.f55 [.sl .i32 a0 none,.sl .pos a1 none,.int .i64 a2]=F55 a0 a1 a2:=by kernel_rfl
def S55:S1T
 |[.sl .i32 a0 none,.sl .pos a1 none,.int .i64 a2]=>pR [.agg .tok] (F55 a0 a1 a2)
 |_=>none
def E24:Env Ty6 A4:=mkE [(52,S52),(53,S53),(54,S54),(55,S55)] [] (lkD [(0,[2,1000109]),(1,[10,11,12,13,14,1000109]),(2,[0,4,15,16,17,18,19,20,1000109]),(3,[3,21,22,1000109]),(4,[1000109]),(5,[1000109]),(6,[8,23,24,25,26]),(7,[27,28,29,30]),(8,[31,32,33,34,35,36,37]),(9,[5,6,7,9,38,39,1000109]),(10,[9,38,40,41,1000109]),(10006,[1000109])]) 42 [] 0 [] []
def B9q(a0:Aa)(x5:Aa)(x6:List A7)(x7:Ah)(x8:Int):S6:=⟨[(5,.one (.sl .i32 x5 (some 1020))),(6,.one (.sl .pos x6 (some 1022))),(7,.one (.sl .tok x7 (some 107))),(8,.one (.int .i64 x8))],[107,1020,1022]⟩
def D2Y(a0:Aa)(x2:Ah):S6:=⟨[(2,.one (.sl .tok x2 (some 107)))],[107]⟩
def B5k{R:Type}(nn:Nat)(a0:Aa)(x5:Aa)(x6:List A7)(x7:Ah)(x8:Int)(k1:(Ah)->Option R)(k2:(Aa)->(List A7)->(Ah)->Int->Option R):Option R:=let r8:=F55 x5 x6 x8;gd (okR [.agg .tok] r8) (let z1:=(A1T (gL r8 0));gd (A2 (Aw x7+1) 72) (let j2:(Aa)->(List A7)->(Ah)->A0->Bool->Option R:=λz3 z4 z5 z6 z7=>k2 z3 z4 z5 z6.to_;bif(z1.kind==0)==false then(bif(z1.kind==1)then(k1 (x7++[z1]))else(j2 x5 x6 (x7++[z1]) z1 (z1.kind==1)))else(bif true then(k1 (x7++[z1]))else(j2 x5 x6 (x7++[z1]) z1 true))))
def A5f{R:Type}(nn:Nat)(a0:Aa):Nat->(Aa)->(List A7)->(Ah)->Int->((Ah)->Option R)->Option R
 |0,_,_,_,_,_=>none
 |n+1,x5,x6,x7,x8,k1=>B5k nn a0 x5 x6 x7 x8 k1 (λx5 x6 x7 x8=>A5f nn a0 n x5 x6 x7 x8 k1)
theorem C1w{R:Type}(nn:Nat)(a0:Aa):∀(n:Nat)(x5:Aa)(x6:List A7)(x7:Ah)(x8:Int)(K:Ex->S6->Option R),LP E24 nn Dj [1,1,1,1,1,1,0,0] 10006 n (B9q a0 x5 x6 x7 x8) K=A5f nn a0 n x5 x6 x7 x8 (λx2=>K .ret (D2Y a0 x2))
 |0,_,_,_,_,_=>rfl
 |n+1,x5,x6,x7,x8,K=>by
  rw[A5f];simp only[<-C1w nn a0 n _ _ _ _ K];kernel_rfl
def A9L(nn:Nat)(a0:Aa):Ad:=gd (okR [.sl .i32 (some 1),.int .i64] (F52 a0)) (let z1:=(A6W (gL (F52 a0) 0));let z2:=(lI (gL (F52 a0) 1));let r4:=F53 z1 (z2==(Aw a0:Int));gd (okR [.sl .i32 (some 1)] r4) (gd (okR [.sl .pos (some 1)] (F54 z1)) (A5f nn a0 nn (A6W (gL r4 0)) (B3w (gL (F54 z1) 0)) [] 0 (λz3=>some (.one (.sl .tok z3 (some 1)))))))
def F24(a0:Aa):Ad:=A9L NN a0
theorem D7T(nn:Nat){a0:Aa}:A3 E24 nn Dj [.sl .u8 a0 none]=A9L nn a0:=by
 have h:A3 E24 nn Dj [.sl .u8 a0 none]=gd (okR [.sl .i32 (some 1),.int .i64] (F52 a0)) (let z1:=(A6W (gL (F52 a0) 0));let z2:=(lI (gL (F52 a0) 1));let r4:=F53 z1 (z2==(Aw a0:Int));gd (okR [.sl .i32 (some 1)] r4) (gd (okR [.sl .pos (some 1)] (F54 z1)) (LP E24 nn Dj [1,1,1,1,1,1,0,0] 10006 nn (B9q a0 (A6W (gL r4 0)) (B3w (gL (F54 z1) 0)) [] 0) (A5 0 (A9 E24 Tryz.f24.results.toList))))):=by kernel_rfl
 rw[h];simp only[C1w];show _=_;kernel_rfl
def S24:S1T
 |[.sl .u8 a0 none]=>pR [.sl .tok (some 1)] (F24 a0)
 |_=>none
def E34:Env Ty6 A4:=mkE [(77,S77)] [] (lkD [(0,[2,1000106]),(1,[1000106]),(2,[1000106]),(3,[9,10,11,1000106]),(4,[13,14,1000106]),(5,[12,15,16,17,18,19,1000106]),(6,[20,21,22,23]),(9,[24,25,26]),(10,[28,29,45]),(11,[27,30,31,32,33]),(12,[7,34,35,36,37,38,39,40]),(14,[34,41,42,43,44]),(15,[45,46,47,48,49,50,51,52]),(16,[5,7,8,27,53,54,55,56,57,58]),(17,[6,59,60,61,62,1000106]),(18,[0,3,4,12,63,1000106]),(10003,[1000106])]) 64 [6,23] 0 [] [(23,106)]
def B6w(a0:Ag)(x3:An)(x4:Int):S6:=⟨[(0,.one (.sl .str a0 none)),(3,.one (.sl .rule x3 (some 103))),(4,.one (.int .i64 x4))],[103]⟩
def C1T(a0:Ag)(x3:An)(x4:Int)(cN:Bool):S6:=⟨[(0,.one (.sl .str a0 none)),(3,.one (.sl .rule x3 (some 103))),(4,.one (.int .i64 x4)),(12,.one (.bool cN))],[103]⟩
def C4G(a0:Ag)(x3:An)(x4:Int)(x5 x7:Ag)(x8:Int)(ah:Ab)(ai:List Ag):S6:=⟨[(0,.one (.sl .str a0 none)),(3,.one (.sl .rule x3 (some 103))),(4,.one (.int .i64 x4)),(5,.one (.sl .str x5 (some 1019))),(6,.one (.ptr 106 0)),(7,.one (.sl .str x7 (some 107))),(8,.one (.int .i64 x8)),(1000106,.bx 106 [.str ah,.sl .strs ai (some 2010601)])],[103,106,107,1019,2010601]⟩
def D7p(a0:Ag)(x3:An)(x4:Int)(x5 x7:Ag)(x8:Int)(dQ:Bool)(ah:Ab)(ai:List Ag):S6:=⟨[(0,.one (.sl .str a0 none)),(3,.one (.sl .rule x3 (some 103))),(4,.one (.int .i64 x4)),(5,.one (.sl .str x5 (some 1019))),(6,.one (.ptr 106 0)),(7,.one (.sl .str x7 (some 107))),(8,.one (.int .i64 x8)),(27,.one (.bool dQ)),(1000106,.bx 106 [.str ah,.sl .strs ai (some 2010601)])],[103,106,107,1019,2010601]⟩
def C7o{R:Type}(nn:Nat)(a0:Ag)(x3:An)(x4:Int)(x5 x7:Ag)(x8:Int)(ah:Ab)(ai:List Ag)(k1:(An)->Int->(Ag)->(Ag)->Int->(Ab)->(List Ag)->Option R)(k2:(An)->Int->(Ag)->(Ag)->Int->Bool->(Ab)->(List Ag)->Option R):Option R:=let z1:=decide (x8<(Aw x5:Int));bif z1 then(let j2:(An)->Int->(Ag)->(Ag)->Int->(Ab)->(List Ag)->Option R:=λz3 z4 z5 z6 z7 z8 z9=>k1 z3 z4 z5 z6 (Ax .i64 (z7+1)) z8 z9;match idx x5 x8 with|none=>none|some gp=>(bif(gp==[47])then(gd (A2 (Aw ai+1) 24) (j2 x3 x4 x5 [] x8 ah (ai++[x7])))else(match idx x5 x8 with|none=>none|some lc=>(bif(!(lc==[45]))then(match idx x5 x8 with|none=>none|some mB=>(gd (A2 (Aw x7+1) 16) (j2 x3 x4 x5 (x7++[mB]) x8 ah ai)))else(k1 x3 x4 x5 x7 (Ax .i64 (x8+1)) ah ai)))))else(k2 x3 x4 x5 x7 x8 z1 ah ai)
def B1W{R:Type}(nn:Nat)(a0:Ag):Nat->(An)->Int->(Ag)->(Ag)->Int->(Ab)->(List Ag)->((An)->Int->(Ag)->(Ag)->Int->Bool->(Ab)->(List Ag)->Option R)->Option R
 |0,_,_,_,_,_,_,_,_=>none
 |n+1,x3,x4,x5,x7,x8,ah,ai,k2=>C7o nn a0 x3 x4 x5 x7 x8 ah ai (λx3 x4 x5 x7 x8 ah ai=>B1W nn a0 n x3 x4 x5 x7 x8 ah ai k2) k2
theorem C2Q{R:Type}(nn:Nat)(a0:Ag):∀(n:Nat)(x3:An)(x4:Int)(x5 x7:Ag)(x8:Int)(ah:Ab)(ai:List Ag)(K:Ex->S6->Option R),LP E34 nn Bm [1,1,0,1,0,0,1,0,0,1,1,1,0,1,0,0] 10009 n (C4G a0 x3 x4 x5 x7 x8 ah ai) K=B1W nn a0 n x3 x4 x5 x7 x8 ah ai (λx3 x4 x5 x7 x8 dQ ah ai=>K (.exit 2) (D7p a0 x3 x4 x5 x7 x8 dQ ah ai))
 |0,_,_,_,_,_,_,_,_=>rfl
 |n+1,x3,x4,x5,x7,x8,ah,ai,K=>by
  rw[B1W];simp only[<-C2Q nn a0 n _ _ _ _ _ _ _ K];kernel_rfl
def D1h{R:Type}(nn:Nat)(a0:Ag)(x3:An)(x4:Int)(k1:(An)->Int->Option R)(k2:(An)->Int->Bool->Option R):Option R:=let z1:=decide (x4<(Aw a0:Int));bif z1 then(match idx a0 x4 with|none=>none|some y2=>(gd (okR [.sl .str (some 1)] (F77 y2)) (let z3:=(H8 (gL (F77 y2) 0));match idx z3 0 with|none=>none|some y4=>(B1W nn a0 nn x3 x4 z3 [] 2 y4 [] (λz5 z6 z7 z8 z9 dH cF di=>gd (A2 (Aw di+1) 24) (gd (A2 (Aw z5+1) 40) (k1 (z5++[(⟨cF,(di++[z8])⟩:B5)]) (Ax .i64 (z6+1)))))))))else(k2 x3 x4 z1)
def B03{R:Type}(nn:Nat)(a0:Ag):Nat->(An)->Int->((An)->Int->Bool->Option R)->Option R
 |0,_,_,_=>none
 |n+1,x3,x4,k2=>D1h nn a0 x3 x4 (λx3 x4=>B03 nn a0 n x3 x4 k2) k2
theorem C4Q{R:Type}(nn:Nat)(a0:Ag):∀(n:Nat)(x3:An)(x4:Int)(K:Ex->S6->Option R),LP E34 nn Bm [1,1,0,1,0,0] 10003 n (B6w a0 x3 x4) K=B03 nn a0 n x3 x4 (λx3 x4 cN=>K (.exit 0) (C1T a0 x3 x4 cN))
 |0,_,_,_=>rfl
 |n+1,x3,x4,K=>by
  rw[B03];simp only[<-C4Q nn a0 n _ _ K];have h:LP E34 nn Bm [1,1,0,1,0,0] 10003 (n+1) (B6w a0 x3 x4) K=let z1:=decide (x4<(Aw a0:Int));bif z1 then(match idx a0 x4 with|none=>none|some y2=>(gd (okR [.sl .str (some 1)] (F77 y2)) (let z3:=(H8 (gL (F77 y2) 0));match idx z3 0 with|none=>none|some y4=>(LP E34 nn Bm [1,1,0,1,0,0,1,0,0,1,1,1,0,1,0,0] 10009 nn (C4G a0 x3 x4 z3 [] 2 y4 []) (A5 2 (sk E34 nn Bm [1,1,0,1,0,0,1,0,0,1,1,1,1] (A5 1 (sk E34 nn Bm [1,1,0,1,0,0,1,1] (A12 (E34.drop 10003) (A10 (lbN nn E34 (A1 Bm [1,1,0,1,0,0]) 10003) n K))))))))))else(K (.exit 0) (C1T a0 x3 x4 z1)):=by kernel_rfl
  rw[h];simp only[C2Q];show _=_;kernel_rfl
def B7V(nn:Nat)(a0:Ag):Ad:=B03 nn a0 nn [] 0 (λz1 z2 z3=>some (.one (.sl .rule z1 (some 1))))
def F34(a0:Ag):Ad:=B7V NN a0
theorem B31(nn:Nat){a0:Ag}:A3 E34 nn Bm [.sl .str a0 none]=B7V nn a0:=by
 have h:A3 E34 nn Bm [.sl .str a0 none]=LP E34 nn Bm [1,1,0,1,0,0] 10003 nn (B6w a0 [] 0) (A5 0 (sk E34 nn Bm [1,1,1] (A9 E34 Tryz.f34.results.toList))):=by kernel_rfl
 rw[h];simp only[C4Q];show _=_;kernel_rfl
def S34:S1T
 |[.sl .str a0 none]=>pR [.sl .rule (some 1)] (F34 a0)
 |_=>none
end Go.Aev
namespace Go.Aev
theorem A2U{n:Int}(h1: -9223372036854775808<=n)(h2:n<9223372036854775808):Ax .i64 n=n:=by
 exact Go.IntWalk.i64_in n ⟨h1,by omega⟩
def sw{α:Type}(f:α->Nat):List α->Nat
 |[]=>0
 |x::r=>f x+sw f r
theorem B14{α:Type}(f:α->Nat):∀(a b:List α),sw f (a++b)=sw f a+sw f b
 |[],b=>by simp[sw]
 |x::a,b=>by simp[sw,B14 f a b];omega
theorem A8V{α:Type}(f:α->Nat):∀(l:List α),(∀x∈l,1<=f x)->l.length<=sw f l
 |[],_=>by simp[sw]
 |x::l,h=>by
  have:=A8V f l (λy hy=>h y (Dy _ hy));have:=h x Do;simp[sw];omega
theorem A8n{α:Type}(f:α->Nat):∀(l:List α)(x:α),x∈l->f x<=sw f l
 |[],_,h=>by cases h
 |y::l,x,h=>by
  rcases List.mem_cons.1 h with rfl|h
  ·simp[sw]
  ·have:=A8n f l x h;simp[sw];omega
def A0z:Ab:=[97,98,99,100,101,102,103,104,105,106,107,108,109,110,111,112,113,114,115,116,117,118,119,120,121,122,65,66,67,68,69,70,71,72,73,74,75,76,77,78,79,80,81,82,83,84,85,86,87,88,89,90,95]
def A0m:Ab:=[48,49,50,51,52,53,54,55,56,57]
def clI(c:Int):Int:=bif inF c A0z then 3 else bif inF c A0m||c==45 then 4 else 2
def cls:Ab->Int
 |[]=>0
 |x::_=>clI x.toNat
def D3Z(t:A0):Prop:=t.kind<6->cls t.text=0\/(2<=t.kind/\cls t.text=bif t.kind==5 then 4 else t.kind)
def A2H(t:A0):Prop:=t.text.length<=8400000/\t.value.length<=8400000/\(t.kind=7->(btF t.value).2=true)/\(D3Z t/\0<=t.kind/\t.kind<=7)
structure TW(ts:Ah):Prop where
 ne:0<ts.length
 len:ts.length<=1100000
 ok:∀t∈ts,A2H t
 lst:∀i t,ts[i]?=some t->2<=t.kind->i+1<ts.length
def O4:Nat->LitT->Prop
 |0,_=>False
 |d+1,v=>1<=v.kind/\v.kind<=9/\v.text.length<=8400000/\(v.kind=4->v.block=true->(btF v.text).2=true)/\(∀x∈v.items,O4 d x)/\∀f∈v.fields,f.name.length<=8400000/\O4 d f.value
def wt:Nat->LitT->Nat
 |0,_=>0
 |d+1,v=>1+sw (wt d) v.items+sw (λ(f:LfT)=>1+wt d f.value) v.fields
theorem B65{d:Nat}(h:0<d)(v:LitT):1<=wt d v:=by
 cases d with
 |zero=>omega
 |succ d=>simp only[wt];omega
def W(d:Nat)(v:LitT):Nat:=1+sw (wt d) v.items+sw (λ(f:LfT)=>1+wt d f.value) v.fields
theorem C5P{d:Nat}(hd:0<d)(v:LitT):v.items.length<=W d v:=by
 have:=A8V (wt d) v.items (λx _=>B65 hd x);unfold W;omega
theorem C9E{d:Nat}(v:LitT):v.fields.length<=W d v:=by
 have:=A8V (λ(f:LfT)=>1+wt d f.value) v.fields (λx _=>by omega);unfold W;omega
end Go.Aev
namespace Go.Aev
open Go.Proofs
def E35:Env Ty6 A4:=mkE [] [] noD 2 [] 0 [] []
def F35:Ad:=some (.one (.sl .str [[68,79,67,32,61,32,68,69,70,32,68,69,70,83,32,46,101,110,100],[68,69,70,83,32,61,32,68,69,70,32,68,69,70,83,32,47,32,45],[68,69,70,32,61,32,46,115,116,114,32,66,79,68,89,32,47,32,66,79,68,89,32,47,32,39,101,120,116,101,110,100,32,88,66,79,68,89],[66,79,68,89,32,61,32,39,115,99,104,101,109,97,32,68,73,82,83,32,82,79,79,84,83,32,47,32,39,115,99,97,108,97,114,32,46,110,97,109,101,32,68,73,82,83,32,47,32,39,116,121,112,101,32,46,110,97,109,101,32,73,70,65,67,69,83,32,68,73,82,83,32,70,73,69,76,68,83,32,47,32,39,105,110,116,101,114,102,97,99,101,32,46,110,97,109,101,32,73,70,65,67,69,83,32,68,73,82,83,32,70,73,69,76,68,83,32,47,32,39,117,110,105,111,110,32,46,110,97,109,101,32,68,73,82,83,32,77,69,77,66,69,82,83,32,47,32,39,101,110,117,109,32,46,110,97,109,101,32,68,73,82,83,32,67,65,83,69,83,32,47,32,39,105,110,112,117,116,32,46,110,97,109,101,32,68,73,82,83,32,66,76,65,78,75,83,32,47,32,39,100,105,114,101,99,116,105,118,101,32,64,32,46,110,97,109,101,32,73,78,80,85,84,83,32,82,69,80,69,65,84,32,39,111,110,32,66,65,82,32,46,112,108,97,99,101,32,80,76,65,67,69,83],[88,66,79,68,89,32,61,32,39,115,99,104,101,109,97,32,88,83,67,72,69,77,65,32,47,32,39,115,99,97,108,97,114,32,46,110,97,109,101,32,68,73,82,32,68,73,82,83,32,47,32,39,116,121,112,101,32,46,110,97,109,101,32,88,79,66,74,69,67,84,32,47,32,39,105,110,116,101,114,102,97,99,101,32,46,110,97,109,101,32,88,79,66,74,69,67,84,32,47,32,39,117,110,105,111,110,32,46,110,97,109,101,32,88,85,78,73,79,78,32,47,32,39,101,110,117,109,32,46,110,97,109,101,32,88,69,78,85,77,32,47,32,39,105,110,112,117,116,32,46,110,97,109,101,32,88,73,78,80,85,84],[88,83,67,72,69,77,65,32,61,32,68,73,82,32,68,73,82,83,32,82,79,79,84,83,48,32,47,32,82,79,79,84,83],[82,79,79,84,83,48,32,61,32,82,79,79,84,83,32,47,32,45],[82,79,79,84,83,32,61,32,123,32,82,79,79,84,32,82,79,79,84,76,32,125],[82,79,79,84,76,32,61,32,82,79,79,84,32,82,79,79,84,76,32,47,32,45],[82,79,79,84,32,61,32,46,114,111,111,116,32,58,32,46,110,97,109,101],[88,79,66,74,69,67,84,32,61,32,73,70,65,67,69,83,49,32,68,73,82,83,32,70,73,69,76,68,83,32,47,32,68,73,82,32,68,73,82,83,32,70,73,69,76,68,83,32,47,32,70,73,69,76,68,83,49],[73,70,65,67,69,83,32,61,32,73,70,65,67,69,83,49,32,47,32,45],[73,70,65,67,69,83,49,32,61,32,39,105,109,112,108,101,109,101,110,116,115,32,65,77,80,32,46,110,97,109,101,32,73,70,65,67,69,76],[65,77,80,32,61,32,38,32,47,32,45],[73,70,65,67,69,76,32,61,32,38,32,46,110,97,109,101,32,73,70,65,67,69,76,32,47,32,45],[70,73,69,76,68,83,32,61,32,70,73,69,76,68,83,49,32,47,32,45],[70,73,69,76,68,83,49,32,61,32,123,32,70,73,69,76,68,32,70,73,69,76,68,76,32,125],[70,73,69,76,68,76,32,61,32,70,73,69,76,68,32,70,73,69,76,68,76,32,47,32,45],[70,73,69,76,68,32,61,32,46,115,116,114,32,70,73,69,76,68,48,32,47,32,70,73,69,76,68,48],[70,73,69,76,68,48,32,61,32,46,110,97,109,101,32,73,78,80,85,84,83,32,58,32,84,89,80,69,32,68,73,82,83],[73,78,80,85,84,83,32,61,32,40,32,86,65,76,85,69,32,86,65,76,85,69,76,32,41,32,47,32,45],[86,65,76,85,69,76,32,61,32,86,65,76,85,69,32,86,65,76,85,69,76,32,47,32,45],[86,65,76,85,69,32,61,32,46,115,116,114,32,86,65,76,85,69,48,32,47,32,86,65,76,85,69,48],[86,65,76,85,69,48,32,61,32,46,110,97,109,101,32,58,32,84,89,80,69,32,68,69,70,65,85,76,84,32,68,73,82,83],[68,69,70,65,85,76,84,32,61,32,61,32,76,73,84,32,47,32,45],[77,69,77,66,69,82,83,32,61,32,77,69,77,66,69,82,83,49,32,47,32,45],[77,69,77,66,69,82,83,49,32,61,32,61,32,66,65,82,32,46,110,97,109,101,32,77,69,77,66,69,82,76],[77,69,77,66,69,82,76,32,61,32,124,32,46,110,97,109,101,32,77,69,77,66,69,82,76,32,47,32,45],[66,65,82,32,61,32,124,32,47,32,45],[88,85,78,73,79,78,32,61,32,68,73,82,32,68,73,82,83,32,77,69,77,66,69,82,83,32,47,32,77,69,77,66,69,82,83,49],[67,65,83,69,83,32,61,32,67,65,83,69,83,49,32,47,32,45],[67,65,83,69,83,49,32,61,32,123,32,67,65,83,69,32,67,65,83,69,76,32,125],[67,65,83,69,76,32,61,32,67,65,83,69,32,67,65,83,69,76,32,47,32,45],[67,65,83,69,32,61,32,46,115,116,114,32,67,65,83,69,48,32,47,32,67,65,83,69,48],[67,65,83,69,48,32,61,32,46,99,97,115,101,32,68,73,82,83],[88,69,78,85,77,32,61,32,68,73,82,32,68,73,82,83,32,67,65,83,69,83,32,47,32,67,65,83,69,83,49],[66,76,65,78,75,83,32,61,32,66,76,65,78,75,83,49,32,47,32,45],[66,76,65,78,75,83,49,32,61,32,123,32,86,65,76,85,69,32,86,65,76,85,69,76,32,125],[88,73,78,80,85,84,32,61,32,68,73,82,32,68,73,82,83,32,66,76,65,78,75,83,32,47,32,66,76,65,78,75,83,49],[82,69,80,69,65,84,32,61,32,39,114,101,112,101,97,116,97,98,108,101,32,47,32,45],[80,76,65,67,69,83,32,61,32,124,32,46,112,108,97,99,101,32,80,76,65,67,69,83,32,47,32,45],[68,73,82,83,32,61,32,68,73,82,32,68,73,82,83,32,47,32,45],[68,73,82,32,61,32,64,32,46,110,97,109,101,32,65,82,71,83],[65,82,71,83,32,61,32,40,32,65,82,71,32,65,82,71,76,32,41,32,47,32,45],[65,82,71,76,32,61,32,65,82,71,32,65,82,71,76,32,47,32,45],[65,82,71,32,61,32,46,110,97,109,101,32,58,32,76,73,84],[76,73,84,32,61,32,46,110,97,109,101,32,47,32,46,115,116,114,32,47,32,46,110,117,109,32,47,32,91,32,76,73,84,76,32,93,32,47,32,123,32,79,66,74,76,32,125],[76,73,84,76,32,61,32,76,73,84,32,76,73,84,76,32,47,32,45],[79,66,74,76,32,61,32,46,110,97,109,101,32,58,32,76,73,84,32,79,66,74,76,32,47,32,45],[84,89,80,69,32,61,32,84,89,80,69,48,32,66,65,78,71],[84,89,80,69,48,32,61,32,46,110,97,109,101,32,47,32,91,32,84,89,80,69,32,93],[66,65,78,71,32,61,32,33,32,47,32,45]] (some 1)))
theorem B2O:A3 E35 NN Tryz.f35 []=F35:=by kernel_rfl
def S35:S1T
 |[]=>pR [.sl .str (some 1)] (F35)
 |_=>none
def E78:Env Ty6 A4:=mkE [] [] noD 36 [2,3] 1 [] []
def F78(ae:Ah)(ac:Int):Af:=match idx ae ac with|none=>none|some y1=>(let j2:Int->Int->Int->Int->Int->(Ab)->(Ab)->Af:=λz3 z4 z5 z6 z7 z8 z9=>some ([.agg .note (⟨true,(z3==7),z9⟩:G3)],[[.sl .tok ae none,.int .i64 (Ax .i64 (ac+1))]]);bif(y1.kind !=6)==true then(bif(y1.kind !=7)then(some ([.agg .note (⟨false,false,[]⟩:G3)],[[.sl .tok ae none,.int .i64 ac]]))else(j2 y1.kind y1.pos.line y1.pos.col y1.from_ y1.to_ y1.text y1.value))else(bif false then(some ([.agg .note (⟨false,false,[]⟩:G3)],[[.sl .tok ae none,.int .i64 ac]]))else(j2 y1.kind y1.pos.line y1.pos.col y1.from_ y1.to_ y1.text y1.value)))
theorem D3q{ae:Ah}{ac:Int}:C8 E78 NN Tryz.f78 [0] [.ptr 900000 0] [bxT ae ac]=F78 ae ac:=by kernel_rfl
def S78:S2T
 |[.ptr d0 o0],[[.sl .tok ae none,.int .i64 ac]]=>bif bq d0 o0 then pB [.agg .note] [[.sl .tok none,.int .i64]] (F78 ae ac)else none
 |_,_=>none
def B7I:Env Ty6 A4:=mkE [] [] noD 30 [5] 1 [] []
def A1H(a1:Ab)(ae:Ah)(ac:Int):Af:=match idx ae ac with|none=>none|some y1=>(bif(y1.text==a1)==true then(bif(y1.kind !=6)==true then(some ([.bool (y1.kind !=7)],[[.sl .tok ae none,.int .i64 ac]]))else(some ([.bool false],[[.sl .tok ae none,.int .i64 ac]])))else(some ([.bool false],[[.sl .tok ae none,.int .i64 ac]])))
theorem D3O{a1:Ab}{ae:Ah}{ac:Int}:C8 B7I NN Tryz.f150 [0] [.ptr 900000 0,.str a1] [bxT ae ac]=A1H a1 ae ac:=by kernel_rfl
def A99:S2T
 |[.ptr d0 o0,.str a1],[[.sl .tok ae none,.int .i64 ac]]=>bif bq d0 o0 then pB [.bool] [[.sl .tok none,.int .i64]] (A1H a1 ae ac)else none
 |_,_=>none
def E79:Env Ty6 A4:=mkE [] [(150,A99)] noD 16 [] 1 [] []
def F79(a1:Ab)(ae:Ah)(ac:Int):Af:=let r3:=A1H a1 ae ac;gd (okB [.bool] [[.sl .tok none,.int .i64]] r3) (let z1:=(gT r3);let z2:=(gQ r3);bif(!(lB (gB r3 0)))then(some ([.bool false],[[.sl .tok z1 none,.int .i64 z2]]))else(some ([.bool true],[[.sl .tok z1 none,.int .i64 (Ax .i64 (z2+1))]])))
theorem D0Y{a1:Ab}{ae:Ah}{ac:Int}:C8 E79 NN Tryz.f79 [0] [.ptr 900000 0,.str a1] [bxT ae ac]=F79 a1 ae ac:=by kernel_rfl
def S79:S2T
 |[.ptr d0 o0,.str a1],[[.sl .tok ae none,.int .i64 ac]]=>bif bq d0 o0 then pB [.bool] [[.sl .tok none,.int .i64]] (F79 a1 ae ac)else none
 |_,_=>none
def C0S:Env Ty6 A4:=mkE [] [] noD 33 [2,3] 1 [] []
def T4(ae:Ah)(ac:Int):Af:=match idx ae ac with|none=>none|some y1=>(let j2:Int->Int->Int->Int->Int->(Ab)->(Ab)->Int->Af:=λz3 z4 z5 z6 z7 z8 z9 dH=>some ([.agg .tok (⟨z3,(⟨z4,z5⟩:A7),z6,z7,z8,z9⟩:A0)],[[.sl .tok ae none,.int .i64 dH]]);bif(decide ((Ax .i64 (ac+1))<(Aw ae:Int)))then(j2 y1.kind y1.pos.line y1.pos.col y1.from_ y1.to_ y1.text y1.value (Ax .i64 (ac+1)))else(j2 y1.kind y1.pos.line y1.pos.col y1.from_ y1.to_ y1.text y1.value ac))
theorem C9k{ae:Ah}{ac:Int}:C8 C0S NN Tryz.f151 [0] [.ptr 900000 0] [bxT ae ac]=T4 ae ac:=by kernel_rfl
def A4r:S2T
 |[.ptr d0 o0],[[.sl .tok ae none,.int .i64 ac]]=>bif bq d0 o0 then pB [.agg .tok] [[.sl .tok none,.int .i64]] (T4 ae ac)else none
 |_,_=>none
def E80:Env Ty6 A4:=mkE [] [(151,A4r)] noD 11 [2] 1 [] []
def F80(ae:Ah)(ac:Int):Af:=let r2:=T4 ae ac;gd (okB [.agg .tok] [[.sl .tok none,.int .i64]] r2) (let z1:=(A1T (gB r2 0));some ([.agg .named (⟨z1.text,(⟨z1.pos.line,z1.pos.col⟩:A7)⟩:E2)],[[.sl .tok (gT r2) none,.int .i64 (gQ r2)]]))
theorem C7s{ae:Ah}{ac:Int}:C8 E80 NN Tryz.f80 [0] [.ptr 900000 0] [bxT ae ac]=F80 ae ac:=by kernel_rfl
def S80:S2T
 |[.ptr d0 o0],[[.sl .tok ae none,.int .i64 ac]]=>bif bq d0 o0 then pB [.agg .named] [[.sl .tok none,.int .i64]] (F80 ae ac)else none
 |_,_=>none
def E81:Env Ty6 A4:=mkE [(77,S77)] [] (lkD [(0,[2]),(1,[5]),(3,[6,7,8]),(4,[10,11,17]),(5,[9,12,13,14,15,16]),(6,[0,3,4,17,18,19]),(7,[0,3,4,9])]) 20 [] 0 [] []
def C4A(a0:Ab)(x3:Ag)(x4:Int):S6:=⟨[(0,.one (.str a0)),(3,.one (.sl .str x3 (some 1005))),(4,.one (.int .i64 x4))],[1005]⟩
def C7J(a0:Ab)(x3:Ag)(x4:Int)(x9:Bool):S6:=⟨[(0,.one (.str a0)),(3,.one (.sl .str x3 (some 1005))),(4,.one (.int .i64 x4)),(9,.one (.bool x9))],[1005]⟩
def D5F(a0:Ab)(x2:Int):S6:=⟨[(2,.one (.int .i64 x2))],[]⟩
def D8N{R:Type}(nn:Nat)(a0:Ab)(x3:Ag)(x4:Int)(k1:Int->Option R)(k2:(Ag)->Int->Option R)(k3:(Ag)->Int->Bool->Option R):Option R:=let z1:=decide (x4<(Aw x3:Int));bif z1 then(match idx x3 x4 with|none=>none|some y2=>(bif(y2==a0)then(k1 (Ax .i64 (x4+1)))else(k2 x3 (Ax .i64 (x4+1)))))else(k3 x3 x4 z1)
def B1x{R:Type}(nn:Nat)(a0:Ab):Nat->(Ag)->Int->(Int->Option R)->((Ag)->Int->Bool->Option R)->Option R
 |0,_,_,_,_=>none
 |n+1,x3,x4,k1,k3=>D8N nn a0 x3 x4 k1 (λx3 x4=>B1x nn a0 n x3 x4 k1 k3) k3
theorem C3U{R:Type}(nn:Nat)(a0:Ab):∀(n:Nat)(x3:Ag)(x4:Int)(K:Ex->S6->Option R),LP E81 nn Ck [1,1,0,1,0,0] 10003 n (C4A a0 x3 x4) K=B1x nn a0 n x3 x4 (λx2=>K .ret (D5F a0 x2)) (λx3 x4 x9=>K (.exit 0) (C7J a0 x3 x4 x9))
 |0,_,_,_=>rfl
 |n+1,x3,x4,K=>by
  rw[B1x];simp only[<-C3U nn a0 n _ _ K];kernel_rfl
def B74(nn:Nat)(a0:Ab):Ad:=let r5:=F77 [115,99,104,101,109,97,32,115,99,97,108,97,114,32,116,121,112,101,32,105,110,116,101,114,102,97,99,101,32,117,110,105,111,110,32,101,110,117,109,32,105,110,112,117,116,32,100,105,114,101,99,116,105,118,101];gd (okR [.sl .str (some 1)] r5) (B1x nn a0 nn (H8 (gL r5 0)) 0 (λz1=>some (.one (.int .i64 z1))) (λz2 z3 z4=>some (.one (.int .i64 0))))
def F81(a0:Ab):Ad:=B74 NN a0
theorem C7l(nn:Nat){a0:Ab}:A3 E81 nn Ck [.str a0]=B74 nn a0:=by
 have h:A3 E81 nn Ck [.str a0]=let r5:=F77 [115,99,104,101,109,97,32,115,99,97,108,97,114,32,116,121,112,101,32,105,110,116,101,114,102,97,99,101,32,117,110,105,111,110,32,101,110,117,109,32,105,110,112,117,116,32,100,105,114,101,99,116,105,118,101];gd (okR [.sl .str (some 1)] r5) (LP E81 nn Ck [1,1,0,1,0,0] 10003 nn (C4A a0 (H8 (gL r5 0)) 0) (A5 0 (sk E81 nn Ck [1,1,1] (A9 E81 Tryz.f81.results.toList)))):=by kernel_rfl
 rw[h];simp only[C3U];show _=_;kernel_rfl
def S81:S1T
 |[.str a0]=>pR [.int .i64] (F81 a0)
 |_=>none
def C0O:Env Ty6 A4:=mkE [] [] noD 23 [2,12,17,22] 0 [2] [(12,102),(17,102),(22,102)]
def P6(a0:A0):Ad:=let j1:Ad:=some (.one (.agg .lit (LitT.mk 7 a0.text false [] [] (⟨a0.pos.line,a0.pos.col⟩:A7))));let j2:(Ab)->Bool->Ad:=λz3 z4=>bif z4 then(some (.one (.agg .lit (LitT.mk 5 a0.text false [] [] (⟨a0.pos.line,a0.pos.col⟩:A7)))))else(bif(z3==[110,117,108,108])then(some (.one (.agg .lit (LitT.mk 6 [] false [] [] (⟨a0.pos.line,a0.pos.col⟩:A7)))))else j1);let z5:=a0.text==[116,114,117,101];bif z5 then(j2 a0.text z5)else(j2 a0.text (a0.text==[102,97,108,115,101]))
theorem C6a{a0:A0}:A3 C0O NN Tryz.f189 [.agg .tok a0]=P6 a0:=by kernel_rfl
def B3N:S1T
 |[.agg .tok a0]=>pR [.agg .lit] (P6 a0)
 |_=>none
def B1J(g:(Ah)->Int->Af):S2T
 |[.ptr d0 o0],[[.sl .tok ae none,.int .i64 ac]]=>bif bq d0 o0 then pB [.agg .lit] [[.sl .tok none,.int .i64]] (g ae ac)else none
 |_,_=>none
def R6(aP:(Ah)->Int->Af):Env Ty6 A4:=mkE [(189,B3N)] [(79,S79),(80,S80),(151,A4r),(153,B1J aP)] (lkD [(0,[1000103,1000104,1000105,1000106,1000107,1000108]),(1,[9,10,1000104,1000105,1000106,1000107,1000108]),(2,[11,1000104,1000105,1000106,1000107,1000108]),(3,[14,1000104,1000105,1000106,1000107,1000108]),(4,[3,12,13,15,16,1000103,1000104,1000105,1000106,1000107,1000108]),(5,[13,18,1000104,1000105,1000106,1000107,1000108]),(6,[3,12,17,19,20,21,22,23,1000103,1000104,1000105,1000106,1000107,1000108]),(7,[17,25,1000104,1000105,1000106,1000107,1000108]),(8,[3,12,24,26,27,28,29,30,1000103,1000104,1000105,1000106,1000107,1000108]),(9,[24,32,1000104,1000105,1000106,1000107,1000108]),(10,[12,33,1000104,1000105,1000106,1000107,1000108]),(11,[3,12,31,34,35,36,37,38,39,40,41,1000103,1000104,1000105,1000106,1000107,1000108]),(12,[12,31,42,43,1000104,1000105,1000106,1000107,1000108]),(13,[3,44,45,46,47,1000103,1000105,1000106,1000107,1000108]),(14,[48,49,1000103,1000105,1000106,1000107,1000108]),(15,[50,51,52,1000103,1000106,1000107,1000108]),(16,[5,53,54,55,56,57,58,1000103,1000105,1000106,1000107,1000108]),(17,[4,50,59,1000103,1000104,1000105,1000106,1000107,1000108]),(18,[3,44,60,61,62,1000103,1000104,1000105,1000107,1000108]),(19,[63,64,1000103,1000104,1000105,1000107,1000108]),(20,[65,66,67,1000103,1000104,1000105,1000108]),(21,[68,69,1000103,1000104,1000105,1000108]),(22,[70,71,1000103,1000104,1000105]),(23,[7,8,72,73,74,75,76,77,78,79,80,81,82,1000103,1000104,1000105,1000107,1000108]),(24,[6,65,83,1000103,1000104,1000105,1000106,1000107,1000108]),(10014,[1000103,1000105,1000106,1000107,1000108]),(10019,[1000103,1000104,1000105,1000107,1000108])]) 84 [2,4,6,23,30,41,47,62] 1 [2] [(23,102),(30,102),(41,102),(47,104),(62,106)]
def B6t(ae:Ah)(ac:Int)(ax:List LitT)(aD aE:Int)(aa:Ah)(ab:Int):S6:=⟨[(0,.one (.ptr 900000 0)),(2,.one (.ptr 102 0)),(4,.one (.ptr 104 0)),(1000102,.bx 102 [.int .i64 0,.str [],.bool false,.sl .lit [] (some 2010203),.sl .lf [] (some 2010204),.int .i64 0,.int .i64 0]),(1000104,.bx 104 [.int .i64 8,.str [],.bool false,.sl .lit ax (some 2010403),.sl .lf [] (some 2010404),.int .i64 aD,.int .i64 aE]),zT aa ab],[102,104,900000,2010203,2010204,2010403,2010404]⟩
def D4Y(ae:Ah)(ac:Int)(eQ:Bool)(ax:List LitT)(aD aE:Int)(aa:Ah)(ab:Int):S6:=⟨[(0,.one (.ptr 900000 0)),(2,.one (.ptr 102 0)),(4,.one (.ptr 104 0)),(50,.one (.bool eQ)),(1000102,.bx 102 [.int .i64 0,.str [],.bool false,.sl .lit [] (some 2010203),.sl .lf [] (some 2010204),.int .i64 0,.int .i64 0]),(1000104,.bx 104 [.int .i64 8,.str [],.bool false,.sl .lit ax (some 2010403),.sl .lf [] (some 2010404),.int .i64 aD,.int .i64 aE]),zT aa ab],[102,104,900000,2010203,2010204,2010403,2010404]⟩
def B4E(ae:Ah)(ac:Int)(ay:List LfT)(aF aG:Int)(aa:Ah)(ab:Int):S6:=⟨[(0,.one (.ptr 900000 0)),(2,.one (.ptr 102 0)),(6,.one (.ptr 106 0)),(1000102,.bx 102 [.int .i64 0,.str [],.bool false,.sl .lit [] (some 2010203),.sl .lf [] (some 2010204),.int .i64 0,.int .i64 0]),(1000106,.bx 106 [.int .i64 9,.str [],.bool false,.sl .lit [] (some 2010603),.sl .lf ay (some 2010604),.int .i64 aF,.int .i64 aG]),zT aa ab],[102,106,900000,2010203,2010204,2010603,2010604]⟩
def D8b(ae:Ah)(ac:Int)(tQ:Bool)(ay:List LfT)(aF aG:Int)(aa:Ah)(ab:Int):S6:=⟨[(0,.one (.ptr 900000 0)),(2,.one (.ptr 102 0)),(6,.one (.ptr 106 0)),(65,.one (.bool tQ)),(1000102,.bx 102 [.int .i64 0,.str [],.bool false,.sl .lit [] (some 2010203),.sl .lf [] (some 2010204),.int .i64 0,.int .i64 0]),(1000106,.bx 106 [.int .i64 9,.str [],.bool false,.sl .lit [] (some 2010603),.sl .lf ay (some 2010604),.int .i64 aF,.int .i64 aG]),zT aa ab],[102,106,900000,2010203,2010204,2010603,2010604]⟩
def B29{R:Type}(nn:Nat)(aP:(Ah)->Int->Af)(ae:Ah)(ac:Int)(ax:List LitT)(aD aE:Int)(aa:Ah)(ab:Int)(k1:(List LitT)->Int->Int->(Ah)->Int->Option R)(k2:Bool->(List LitT)->Int->Int->(Ah)->Int->Option R):Option R:=let r4:=F79 [93] aa ab;gd (okB [.bool] [[.sl .tok none,.int .i64]] r4) (let z1:= !(lB (gB r4 0));let z2:=(gT r4);let z3:=(gQ r4);bif z1 then(gd (okB [.agg .lit] [[.sl .tok none,.int .i64]] (aP z2 z3)) (gd (A2 (Aw ax+1) 96) (k1 (ax++[(M0 (gB (aP z2 z3) 0))]) aD aE (gT (aP z2 z3)) (gQ (aP z2 z3)))))else(k2 z1 ax aD aE z2 z3))
def A4g{R:Type}(nn:Nat)(aP:(Ah)->Int->Af)(ae:Ah)(ac:Int):Nat->(List LitT)->Int->Int->(Ah)->Int->(Bool->(List LitT)->Int->Int->(Ah)->Int->Option R)->Option R
 |0,_,_,_,_,_,_=>none
 |n+1,ax,aD,aE,aa,ab,k2=>B29 nn aP ae ac ax aD aE aa ab (λax aD aE aa ab=>A4g nn aP ae ac n ax aD aE aa ab k2) k2
theorem C4s{R:Type}(nn:Nat)(aP:(Ah)->Int->Af)(ae:Ah)(ac:Int):∀(n:Nat)(ax:List LitT)(aD aE:Int)(aa:Ah)(ab:Int)(K:Ex->S6->Option R),LP (R6 aP) nn Bh [1,1,1,0,1,0,1,0,0,0] 10014 n (B6t ae ac ax aD aE aa ab) K=A4g nn aP ae ac n ax aD aE aa ab (λeQ ax aD aE aa ab=>K (.exit 1) (D4Y ae ac eQ ax aD aE aa ab))
 |0,_,_,_,_,_,_=>rfl
 |n+1,ax,aD,aE,aa,ab,K=>by
  rw[A4g];simp only[<-C4s nn aP ae ac n _ _ _ _ _ K];kernel_rfl
def B2I{R:Type}(nn:Nat)(aP:(Ah)->Int->Af)(ae:Ah)(ac:Int)(ay:List LfT)(aF aG:Int)(aa:Ah)(ab:Int)(k1:(List LfT)->Int->Int->(Ah)->Int->Option R)(k2:Bool->(List LfT)->Int->Int->(Ah)->Int->Option R):Option R:=let dI:=F79 [125] aa ab;gd (okB [.bool] [[.sl .tok none,.int .i64]] dI) (let z1:= !(lB (gB dI 0));let z2:=(gT dI);let z3:=(gQ dI);bif z1 then(gd (okB [.agg .named] [[.sl .tok none,.int .i64]] (F80 z2 z3)) (let z4:=(A0g (gB (F80 z2 z3) 0));let z5:=(gT (F80 z2 z3));let z6:=(gQ (F80 z2 z3));let bY:=F79 [58] z5 z6;gd (okB [.bool] [[.sl .tok none,.int .i64]] bY) (let z7:=(gT bY);let z8:=(gQ bY);gd (okB [.agg .lit] [[.sl .tok none,.int .i64]] (aP z7 z8)) (let z9:=(M0 (gB (aP z7 z8) 0));gd (A2 (Aw ay+1) 128) (k1 (ay++[(⟨z4.name,(LitT.mk z9.kind z9.text z9.block z9.items z9.fields z9.pos),z4.pos⟩:LfT)]) aF aG (gT (aP z7 z8)) (gQ (aP z7 z8)))))))else(k2 z1 ay aF aG z2 z3))
def A3Y{R:Type}(nn:Nat)(aP:(Ah)->Int->Af)(ae:Ah)(ac:Int):Nat->(List LfT)->Int->Int->(Ah)->Int->(Bool->(List LfT)->Int->Int->(Ah)->Int->Option R)->Option R
 |0,_,_,_,_,_,_=>none
 |n+1,ay,aF,aG,aa,ab,k2=>B2I nn aP ae ac ay aF aG aa ab (λay aF aG aa ab=>A3Y nn aP ae ac n ay aF aG aa ab k2) k2
theorem C1r{R:Type}(nn:Nat)(aP:(Ah)->Int->Af)(ae:Ah)(ac:Int):∀(n:Nat)(ay:List LfT)(aF aG:Int)(aa:Ah)(ab:Int)(K:Ex->S6->Option R),LP (R6 aP) nn Bh [1,1,1,1,1,0,0,0] 10019 n (B4E ae ac ay aF aG aa ab) K=A3Y nn aP ae ac n ay aF aG aa ab (λtQ ay aF aG aa ab=>K (.exit 3) (D8b ae ac tQ ay aF aG aa ab))
 |0,_,_,_,_,_,_=>rfl
 |n+1,ay,aF,aG,aa,ab,K=>by
  rw[A3Y];simp only[<-C1r nn aP ae ac n _ _ _ _ _ K];kernel_rfl
def B4o(nn:Nat)(aP:(Ah)->Int->Af)(ae:Ah)(ac:Int):Af:=let rJ:=T4 ae ac;gd (okB [.agg .tok] [[.sl .tok none,.int .i64]] rJ) (let z1:=(A1T (gB rJ 0));let z2:=(gT rJ);let z3:=(gQ rJ);bif(z1.kind==3)then(gd (okR [.agg .lit] (P6 z1)) (some ([.agg .lit (LitT.mk ((M0 (gL (P6 z1) 0)).kind) ((M0 (gL (P6 z1) 0)).text) ((M0 (gL (P6 z1) 0)).block) ((M0 (gL (P6 z1) 0)).items) ((M0 (gL (P6 z1) 0)).fields) (⟨(((M0 (gL (P6 z1) 0)).pos).line),(((M0 (gL (P6 z1) 0)).pos).col)⟩:A7))],[[.sl .tok z2 none,.int .i64 z3]])))else(bif(z1.kind==4)then(some ([.agg .lit (LitT.mk 2 z1.text false [] [] (⟨z1.pos.line,z1.pos.col⟩:A7))],[[.sl .tok z2 none,.int .i64 z3]]))else(bif(z1.kind==5)then(some ([.agg .lit (LitT.mk 3 z1.text false [] [] (⟨z1.pos.line,z1.pos.col⟩:A7))],[[.sl .tok z2 none,.int .i64 z3]]))else(bif(z1.kind==6)then(bif(z1.kind==6)then(some ([.agg .lit (LitT.mk 4 z1.value (z1.kind==7) [] [] (⟨z1.pos.line,z1.pos.col⟩:A7))],[[.sl .tok z2 none,.int .i64 z3]]))else(let z4:=z1.text==[91];bif z4 then(A4g nn aP ae ac nn [] z1.pos.line z1.pos.col z2 z3 (λz5 z6 z7 z8 z9 dH=>some ([.agg .lit (LitT.mk 8 [] false z6 [] (⟨z7,z8⟩:A7))],[[.sl .tok z9 none,.int .i64 dH]])))else(A3Y nn aP ae ac nn [] z1.pos.line z1.pos.col z2 z3 (λcF di dB dj dK fw=>some ([.agg .lit (LitT.mk 9 [] false [] di (⟨dB,dj⟩:A7))],[[.sl .tok dK none,.int .i64 fw]])))))else(bif(z1.kind==7)then(some ([.agg .lit (LitT.mk 4 z1.value (z1.kind==7) [] [] (⟨z1.pos.line,z1.pos.col⟩:A7))],[[.sl .tok z2 none,.int .i64 z3]]))else(let gX:=z1.text==[91];bif gX then(A4g nn aP ae ac nn [] z1.pos.line z1.pos.col z2 z3 (λgW fE z20 z21 qx mD=>some ([.agg .lit (LitT.mk 8 [] false fE [] (⟨z20,z21⟩:A7))],[[.sl .tok qx none,.int .i64 mD]])))else(A3Y nn aP ae ac nn [] z1.pos.line z1.pos.col z2 z3 (λrH ye lg tP yf yg=>some ([.agg .lit (LitT.mk 9 [] false [] ye (⟨lg,tP⟩:A7))],[[.sl .tok yf none,.int .i64 yg]])))))))))
def B7S(aP:(Ah)->Int->Af)(ae:Ah)(ac:Int):Af:=B4o NN aP ae ac
theorem D8P(nn:Nat)(aP:(Ah)->Int->Af){ae:Ah}{ac:Int}:C8 (R6 aP) nn Bh [0] [.ptr 900000 0] [bxT ae ac]=B4o nn aP ae ac:=by
 have h:C8 (R6 aP) nn Bh [0] [.ptr 900000 0] [bxT ae ac]=let rK:=T4 ae ac;gd (okB [.agg .tok] [[.sl .tok none,.int .i64]] rK) (let z1:=(A1T (gB rK 0));let z2:=(gT rK);let z3:=(gQ rK);bif(z1.kind==3)then(gd (okR [.agg .lit] (P6 z1)) (some ([.agg .lit (LitT.mk ((M0 (gL (P6 z1) 0)).kind) ((M0 (gL (P6 z1) 0)).text) ((M0 (gL (P6 z1) 0)).block) ((M0 (gL (P6 z1) 0)).items) ((M0 (gL (P6 z1) 0)).fields) (⟨(((M0 (gL (P6 z1) 0)).pos).line),(((M0 (gL (P6 z1) 0)).pos).col)⟩:A7))],[bxT z2 z3])))else(bif(z1.kind==4)then(some ([.agg .lit (LitT.mk 2 z1.text false [] [] (⟨z1.pos.line,z1.pos.col⟩:A7))],[bxT z2 z3]))else(bif(z1.kind==5)then(some ([.agg .lit (LitT.mk 3 z1.text false [] [] (⟨z1.pos.line,z1.pos.col⟩:A7))],[bxT z2 z3]))else(bif(z1.kind==6)then(bif(z1.kind==6)then(some ([.agg .lit (LitT.mk 4 z1.value (z1.kind==7) [] [] (⟨z1.pos.line,z1.pos.col⟩:A7))],[bxT z2 z3]))else(let z4:=z1.text==[91];bif z4 then(LP (R6 aP) nn Bh [1,1,1,0,1,0,1,0,0,0] 10014 nn (B6t ae ac [] z1.pos.line z1.pos.col z2 z3) (A5 1 (sk (R6 aP) nn Bh [1,1,1,0,1,0,1,1] (sk (R6 aP) nn Bh [1,1,1,1] (J3 (R6 aP) Tryz.f153.results.toList [0] [bxT ae ac])))))else(LP (R6 aP) nn Bh [1,1,1,1,1,0,0,0] 10019 nn (B4E ae ac [] z1.pos.line z1.pos.col z2 z3) (A5 3 (sk (R6 aP) nn Bh [1,1,1,1,1,1] (J3 (R6 aP) Tryz.f153.results.toList [0] [bxT ae ac]))))))else(bif(z1.kind==7)then(some ([.agg .lit (LitT.mk 4 z1.value (z1.kind==7) [] [] (⟨z1.pos.line,z1.pos.col⟩:A7))],[bxT z2 z3]))else(let gX:=z1.text==[91];bif gX then(LP (R6 aP) nn Bh [1,1,1,0,1,0,1,0,0,0] 10014 nn (B6t ae ac [] z1.pos.line z1.pos.col z2 z3) (A5 1 (sk (R6 aP) nn Bh [1,1,1,0,1,0,1,1] (sk (R6 aP) nn Bh [1,1,1,1] (J3 (R6 aP) Tryz.f153.results.toList [0] [bxT ae ac])))))else(LP (R6 aP) nn Bh [1,1,1,1,1,0,0,0] 10019 nn (B4E ae ac [] z1.pos.line z1.pos.col z2 z3) (A5 3 (sk (R6 aP) nn Bh [1,1,1,1,1,1] (J3 (R6 aP) Tryz.f153.results.toList [0] [bxT ae ac])))))))))):=by kernel_rfl
 rw[h];simp only[C4s,C1r];show _=_;kernel_rfl
def A19:Nat->(Ah)->Int->Af
 |0,_,_=>none
 |d+1,ae,ac=>B7S (A19 d) ae ac
def A4h(ae:Ah)(ac:Int):Af:=A19 DD ae ac
def B5U:S2T
 |[.ptr d0 o0],[[.sl .tok ae none,.int .i64 ac]]=>bif bq d0 o0 then pB [.agg .lit] [[.sl .tok none,.int .i64]] (A4h ae ac)else none
 |_,_=>none
def E84:Env Ty6 A4:=mkE [] [(79,S79),(80,S80),(150,A99),(151,A4r),(153,B5U)] (lkD [(0,[2,1000104,1000105,1000106,1000107,1000108]),(1,[1000104,1000105,1000106,1000107,1000108]),(2,[9,1000104,1000105,1000106,1000107,1000108]),(3,[10,11,12,1000105,1000106,1000107,1000108]),(4,[13,14,1000106,1000107,1000108]),(5,[4,5,15,16,17,18,19,1000104,1000105,1000107,1000108]),(6,[20,1000104,1000105,1000107,1000108]),(7,[22,23,1000104,1000105,1000107,1000108]),(8,[24,25,26,1000104,1000105,1000108]),(9,[27,28,1000104,1000105,1000108]),(10,[29,30,1000104,1000105]),(11,[7,8,31,32,33,34,35,36,37,38,39,40,41,1000104,1000105,1000107,1000108]),(12,[6,21,24,42,43,44,45,1000104,1000105,1000106,1000107,1000108]),(13,[3,10,46,1000104,1000105,1000106,1000107,1000108]),(10002,[1000104,1000105,1000106,1000107,1000108]),(10007,[21,1000104,1000105,1000107,1000108])]) 47 [6,19] 1 [] [(19,106)]
def B0j(ae:Ah)(ac:Int)(x3:List D0)(aa:Ah)(ab:Int):S6:=⟨[(0,.one (.ptr 900000 0)),(3,.one (.sl .dir x3 (some 103))),zT aa ab],[103,900000]⟩
def C0F(ae:Ah)(ac:Int)(x3:List D0)(aC:Bool)(aa:Ah)(ab:Int):S6:=⟨[(0,.one (.ptr 900000 0)),(3,.one (.sl .dir x3 (some 103))),(10,.one (.bool aC)),zT aa ab],[103,900000]⟩
def C3T(ae:Ah)(ac:Int)(x3:List D0)(ah:Ab)(ai:List H0)(aH aI:Int)(aa:Ah)(ab:Int):S6:=⟨[(0,.one (.ptr 900000 0)),(3,.one (.sl .dir x3 (some 103))),(6,.one (.ptr 106 0)),(1000106,.bx 106 [.str ah,.sl .arg ai (some 2010601),.int .i64 aH,.int .i64 aI]),zT aa ab],[103,106,900000,2010601]⟩
def C7N(ae:Ah)(ac:Int)(x3:List D0)(gV:Bool)(ah:Ab)(ai:List H0)(aH aI:Int)(aa:Ah)(ab:Int):S6:=⟨[(0,.one (.ptr 900000 0)),(3,.one (.sl .dir x3 (some 103))),(6,.one (.ptr 106 0)),(24,.one (.bool gV)),(1000106,.bx 106 [.str ah,.sl .arg ai (some 2010601),.int .i64 aH,.int .i64 aI]),zT aa ab],[103,106,900000,2010601]⟩
def B47{R:Type}(nn:Nat)(ae:Ah)(ac:Int)(x3:List D0)(ah:Ab)(ai:List H0)(aH aI:Int)(aa:Ah)(ab:Int)(k1:(List D0)->(Ab)->(List H0)->Int->Int->(Ah)->Int->Option R)(k2:(List D0)->Bool->(Ab)->(List H0)->Int->Int->(Ah)->Int->Option R):Option R:=let dI:=F79 [41] aa ab;gd (okB [.bool] [[.sl .tok none,.int .i64]] dI) (let z1:= !(lB (gB dI 0));let z2:=(gT dI);let z3:=(gQ dI);bif z1 then(gd (okB [.agg .named] [[.sl .tok none,.int .i64]] (F80 z2 z3)) (let z4:=(A0g (gB (F80 z2 z3) 0));let z5:=(gT (F80 z2 z3));let z6:=(gQ (F80 z2 z3));let bY:=F79 [58] z5 z6;gd (okB [.bool] [[.sl .tok none,.int .i64]] bY) (let z7:=(gT bY);let z8:=(gQ bY);gd (okB [.agg .lit] [[.sl .tok none,.int .i64]] (A4h z7 z8)) (let z9:=(M0 (gB (A4h z7 z8) 0));gd (A2 (Aw ai+1) 128) (k1 x3 ah (ai++[(⟨z4.name,(LitT.mk z9.kind z9.text z9.block z9.items z9.fields z9.pos),z4.pos⟩:H0)]) aH aI (gT (A4h z7 z8)) (gQ (A4h z7 z8)))))))else(k2 x3 z1 ah ai aH aI z2 z3))
def A5T{R:Type}(nn:Nat)(ae:Ah)(ac:Int):Nat->(List D0)->(Ab)->(List H0)->Int->Int->(Ah)->Int->((List D0)->Bool->(Ab)->(List H0)->Int->Int->(Ah)->Int->Option R)->Option R
 |0,_,_,_,_,_,_,_,_=>none
 |n+1,x3,ah,ai,aH,aI,aa,ab,k2=>B47 nn ae ac x3 ah ai aH aI aa ab (λx3 ah ai aH aI aa ab=>A5T nn ae ac n x3 ah ai aH aI aa ab k2) k2
theorem C1k{R:Type}(nn:Nat)(ae:Ah)(ac:Int):∀(n:Nat)(x3:List D0)(ah:Ab)(ai:List H0)(aH aI:Int)(aa:Ah)(ab:Int)(K:Ex->S6->Option R),LP E84 nn Bl [1,1,0,0,0,1,0,1,1,1,0,1,0,0,0] 10007 n (C3T ae ac x3 ah ai aH aI aa ab) K=A5T nn ae ac n x3 ah ai aH aI aa ab (λx3 gV ah ai aH aI aa ab=>K (.exit 2) (C7N ae ac x3 gV ah ai aH aI aa ab))
 |0,_,_,_,_,_,_,_,_=>rfl
 |n+1,x3,ah,ai,aH,aI,aa,ab,K=>by
  rw[A5T];simp only[<-C1k nn ae ac n _ _ _ _ _ _ _ K];kernel_rfl
def A8F{R:Type}(nn:Nat)(ae:Ah)(ac:Int)(x3:List D0)(aa:Ah)(ab:Int)(k1:(List D0)->(Ah)->Int->Option R)(k2:(List D0)->Bool->(Ah)->Int->Option R):Option R:=let eR:=A1H [64] aa ab;gd (okB [.bool] [[.sl .tok none,.int .i64]] eR) (let z1:=(lB (gB eR 0));let z2:=(gT eR);let z3:=(gQ eR);bif z1 then(gd (okB [.agg .tok] [[.sl .tok none,.int .i64]] (T4 z2 z3)) (let z4:=(A1T (gB (T4 z2 z3) 0));let z5:=(gT (T4 z2 z3));let z6:=(gQ (T4 z2 z3));gd (okB [.agg .named] [[.sl .tok none,.int .i64]] (F80 z5 z6)) (let z7:=(A0g (gB (F80 z5 z6) 0));let z8:=(gT (F80 z5 z6));let z9:=(gQ (F80 z5 z6));let gr:=F79 [40] z8 z9;gd (okB [.bool] [[.sl .tok none,.int .i64]] gr) (let dH:=(lB (gB gr 0));let cF:=(gT gr);let di:=(gQ gr);bif dH then(A5T nn ae ac nn x3 z7.name [] z4.pos.line z4.pos.col cF di (λdB dj dK fw gX gW fE z20=>gd (A2 (Aw dB+1) 56) (k1 (dB++[(⟨dK,fw,(⟨gX,gW⟩:A7)⟩:D0)]) fE z20)))else(gd (A2 (Aw x3+1) 56) (k1 (x3++[(⟨z7.name,[],(⟨z4.pos.line,z4.pos.col⟩:A7)⟩:D0)]) cF di))))))else(k2 x3 z1 z2 z3))
def W4{R:Type}(nn:Nat)(ae:Ah)(ac:Int):Nat->(List D0)->(Ah)->Int->((List D0)->Bool->(Ah)->Int->Option R)->Option R
 |0,_,_,_,_=>none
 |n+1,x3,aa,ab,k2=>A8F nn ae ac x3 aa ab (λx3 aa ab=>W4 nn ae ac n x3 aa ab k2) k2
theorem C2p{R:Type}(nn:Nat)(ae:Ah)(ac:Int):∀(n:Nat)(x3:List D0)(aa:Ah)(ab:Int)(K:Ex->S6->Option R),LP E84 nn Bl [1,1,0,0,0] 10002 n (B0j ae ac x3 aa ab) K=W4 nn ae ac n x3 aa ab (λx3 aC aa ab=>K (.exit 0) (C0F ae ac x3 aC aa ab))
 |0,_,_,_,_=>rfl
 |n+1,x3,aa,ab,K=>by
  rw[W4];simp only[<-C2p nn ae ac n _ _ _ K];have h:LP E84 nn Bl [1,1,0,0,0] 10002 (n+1) (B0j ae ac x3 aa ab) K=let eR:=A1H [64] aa ab;gd (okB [.bool] [[.sl .tok none,.int .i64]] eR) (let z1:=(lB (gB eR 0));let z2:=(gT eR);let z3:=(gQ eR);bif z1 then(gd (okB [.agg .tok] [[.sl .tok none,.int .i64]] (T4 z2 z3)) (let z4:=(A1T (gB (T4 z2 z3) 0));let z5:=(gT (T4 z2 z3));let z6:=(gQ (T4 z2 z3));gd (okB [.agg .named] [[.sl .tok none,.int .i64]] (F80 z5 z6)) (let z7:=(A0g (gB (F80 z5 z6) 0));let z8:=(gT (F80 z5 z6));let z9:=(gQ (F80 z5 z6));let gr:=F79 [40] z8 z9;gd (okB [.bool] [[.sl .tok none,.int .i64]] gr) (let dH:=(lB (gB gr 0));let cF:=(gT gr);let di:=(gQ gr);bif dH then(LP E84 nn Bl [1,1,0,0,0,1,0,1,1,1,0,1,0,0,0] 10007 nn (C3T ae ac x3 z7.name [] z4.pos.line z4.pos.col cF di) (A5 2 (sk E84 nn Bl [1,1,0,0,0,1,0,1,1,1,1] (A5 1 (A12 (E84.drop 10002) (A10 (lbN nn E84 (A1 Bl [1,1,0,0,0]) 10002) n K))))))else(gd (A2 (Aw x3+1) 56) (LP E84 nn Bl [1,1,0,0,0] 10002 n (B0j ae ac (x3++[(⟨z7.name,[],(⟨z4.pos.line,z4.pos.col⟩:A7)⟩:D0)]) cF di) K))))))else(K (.exit 0) (C0F ae ac x3 z1 z2 z3))):=by kernel_rfl
  rw[h];simp only[C1k];show _=_;kernel_rfl
def C4K(nn:Nat)(ae:Ah)(ac:Int):Af:=W4 nn ae ac nn [] ae ac (λz1 z2 z3 z4=>some ([.sl .dir z1 (some 1)],[[.sl .tok z3 none,.int .i64 z4]]))
def F84(ae:Ah)(ac:Int):Af:=C4K NN ae ac
theorem D2X(nn:Nat){ae:Ah}{ac:Int}:C8 E84 nn Bl [0] [.ptr 900000 0] [bxT ae ac]=C4K nn ae ac:=by
 have h:C8 E84 nn Bl [0] [.ptr 900000 0] [bxT ae ac]=LP E84 nn Bl [1,1,0,0,0] 10002 nn (B0j ae ac [] ae ac) (A5 0 (sk E84 nn Bl [1,1,1] (J3 E84 Tryz.f84.results.toList [0] [bxT ae ac]))):=by kernel_rfl
 rw[h];simp only[C2p];show _=_;kernel_rfl
def S84:S2T
 |[.ptr d0 o0],[[.sl .tok ae none,.int .i64 ac]]=>bif bq d0 o0 then pB [.sl .dir (some 1)] [[.sl .tok none,.int .i64]] (F84 ae ac)else none
 |_,_=>none
def B0o(g:(Ah)->Int->Af):S2T
 |[.ptr d0 o0],[[.sl .tok ae none,.int .i64 ac]]=>bif bq d0 o0 then pB [.agg .tref] [[.sl .tok none,.int .i64]] (g ae ac)else none
 |_,_=>none
def C0D(jl:(Ah)->Int->Af):Env Ty6 A4:=mkE [] [(79,S79),(151,A4r),(152,B0o jl)] noD 27 [2,3] 1 [] []
def B3K(jl:(Ah)->Int->Af)(ae:Ah)(ac:Int):Af:=let j1:(Ab)->(Ab)->(Ah)->Int->Af:=λz2 z3 z4 z5=>let j6:(Ab)->(Ab)->(Ah)->Int->Af:=λz7 z8 z9 dH=>some ([.agg .tref (⟨z7,z8⟩:I4)],[[.sl .tok z9 none,.int .i64 dH]]);let dJ:=F79 [33] z4 z5;gd (okB [.bool] [[.sl .tok none,.int .i64]] dJ) (let cF:=(gT dJ);let di:=(gQ dJ);bif(lB (gB dJ 0))then(gd (decide (Aw z3+Aw [33]<=9223372036854775807)) (j6 z2 (z3++[33]) cF di))else(j6 z2 z3 cF di));let eR:=F79 [91] ae ac;gd (okB [.bool] [[.sl .tok none,.int .i64]] eR) (let dj:=(gT eR);let dK:=(gQ eR);bif(lB (gB eR 0))then(let qy:=jl dj dK;gd (okB [.agg .tref] [[.sl .tok none,.int .i64]] qy) (let fw:=(A6E (gB qy 0)).wrap;let gX:=(gT qy);let gW:=(gQ qy);let tR:=F79 [93] gX gW;gd (okB [.bool] [[.sl .tok none,.int .i64]] tR) (gd (decide (Aw fw+Aw [93]<=9223372036854775807)) (j1 ((A6E (gB qy 0)).name) (fw++[93]) (gT tR) (gQ tR)))))else(let gr:=T4 dj dK;gd (okB [.agg .tok] [[.sl .tok none,.int .i64]] gr) (j1 ((A1T (gB gr 0)).text) [] (gT gr) (gQ gr))))
theorem D7x(jl:(Ah)->Int->Af){ae:Ah}{ac:Int}:C8 (C0D jl) NN Tryz.f152 [0] [.ptr 900000 0] [bxT ae ac]=B3K jl ae ac:=by kernel_rfl
def A4W:Nat->(Ah)->Int->Af
 |0,_,_=>none
 |d+1,ae,ac=>B3K (A4W d) ae ac
def B1F(ae:Ah)(ac:Int):Af:=A4W DD ae ac
def B2U:S2T
 |[.ptr d0 o0],[[.sl .tok ae none,.int .i64 ac]]=>bif bq d0 o0 then pB [.agg .tref] [[.sl .tok none,.int .i64]] (B1F ae ac)else none
 |_,_=>none
def E82:Env Ty6 A4:=mkE [] [(78,S78),(79,S79),(80,S80),(84,S84),(152,B2U),(153,B5U)] (lkD [(0,[6,1000108,1000109]),(1,[1000108,1000109]),(2,[1,10,11,12,1000108,1000109]),(3,[2,7,13,1000108,1000109]),(4,[14,15,16,1000108,1000109]),(5,[17,1000109]),(6,[18,19,20,1000109]),(7,[21,22]),(8,[23,24,25]),(9,[9,26,27,28,1000109]),(10,[29,30,1000109]),(11,[31,32,33,1000109]),(12,[34,35,36,1000109]),(13,[37,1000109]),(14,[38,39,40,41,1000109]),(15,[38,42,43,44,1000109]),(16,[8,45,46,47,48,1000108,1000109]),(17,[2,7,17,49,1000108,1000109]),(10004,[13,1000108,1000109])]) 50 [8] 1 [8] []
def C0z(a1 a2:Ab)(ae:Ah)(ac:Int)(x7:List IvT)(aa:Ah)(ab:Int):S6:=⟨[(0,.one (.ptr 900000 0)),(2,.one (.str a2)),(7,.one (.sl .iv x7 (some 107))),zT aa ab],[107,900000]⟩
def D3J(a1 a2:Ab)(ae:Ah)(ac:Int)(x7:List IvT)(nQ:Bool)(aa:Ah)(ab:Int):S6:=⟨[(0,.one (.ptr 900000 0)),(2,.one (.str a2)),(7,.one (.sl .iv x7 (some 107))),(17,.one (.bool nQ)),zT aa ab],[107,900000]⟩
def A9T{R:Type}(nn:Nat)(a1 a2:Ab)(ae:Ah)(ac:Int)(x7:List IvT)(aa:Ah)(ab:Int)(k1:(List IvT)->(Ah)->Int->Option R)(k2:(List IvT)->Bool->(Ah)->Int->Option R):Option R:=let rL:=F79 a2 aa ab;gd (okB [.bool] [[.sl .tok none,.int .i64]] rL) (let z1:= !(lB (gB rL 0));let z2:=(gT rL);let z3:=(gQ rL);bif z1 then(gd (okB [.agg .note] [[.sl .tok none,.int .i64]] (F78 z2 z3)) (let z4:=(A3d (gB (F78 z2 z3) 0)).has;let z5:=(A3d (gB (F78 z2 z3) 0)).block;let z6:=(A3d (gB (F78 z2 z3) 0)).text;let z7:=(gT (F78 z2 z3));let z8:=(gQ (F78 z2 z3));gd (okB [.agg .named] [[.sl .tok none,.int .i64]] (F80 z7 z8)) (let z9:=(A0g (gB (F80 z7 z8) 0));let dH:=(gT (F80 z7 z8));let cF:=(gQ (F80 z7 z8));let nR:=F79 [58] dH cF;gd (okB [.bool] [[.sl .tok none,.int .i64]] nR) (let di:=(gT nR);let dB:=(gQ nR);let mE:=B1F di dB;gd (okB [.agg .tref] [[.sl .tok none,.int .i64]] mE) (let dj:=(A6E (gB mE 0)).name;let dK:=(A6E (gB mE 0)).wrap;let fw:=(gT mE);let gX:=(gQ mE);let nS:=F79 [61] fw gX;gd (okB [.bool] [[.sl .tok none,.int .i64]] nS) (let gW:=(lB (gB nS 0));let fE:=(gT nS);let z20:=(gQ nS);bif gW then(let jm:=A4h fE z20;gd (okB [.agg .lit] [[.sl .tok none,.int .i64]] jm) (let z21:=(gT jm);let qx:=(gQ jm);let lh:=F84 z21 qx;gd (okB [.sl .dir (some 1)] [[.sl .tok none,.int .i64]] lh) (gd (A2 (Aw x7+1) 216) (k1 (x7++[(⟨(⟨z4,z5,z6⟩:G3),z9.name,(⟨dj,dK⟩:I4),gW,(LitT.mk ((M0 (gB jm 0)).kind) ((M0 (gB jm 0)).text) ((M0 (gB jm 0)).block) ((M0 (gB jm 0)).items) ((M0 (gB jm 0)).fields) (⟨(((M0 (gB jm 0)).pos).line),(((M0 (gB jm 0)).pos).col)⟩:A7)),(A1J (gB lh 0)),(⟨z9.pos.line,z9.pos.col⟩:A7)⟩:IvT)]) (gT lh) (gQ lh)))))else(let mF:=F84 fE z20;gd (okB [.sl .dir (some 1)] [[.sl .tok none,.int .i64]] mF) (gd (A2 (Aw x7+1) 216) (k1 (x7++[(⟨(⟨z4,z5,z6⟩:G3),z9.name,(⟨dj,dK⟩:I4),gW,(LitT.mk 0 [] false [] [] (⟨0,0⟩:A7)),(A1J (gB mF 0)),(⟨z9.pos.line,z9.pos.col⟩:A7)⟩:IvT)]) (gT mF) (gQ mF))))))))))else(k2 x7 z1 z2 z3))
def A1r{R:Type}(nn:Nat)(a1 a2:Ab)(ae:Ah)(ac:Int):Nat->(List IvT)->(Ah)->Int->((List IvT)->Bool->(Ah)->Int->Option R)->Option R
 |0,_,_,_,_=>none
 |n+1,x7,aa,ab,k2=>A9T nn a1 a2 ae ac x7 aa ab (λx7 aa ab=>A1r nn a1 a2 ae ac n x7 aa ab k2) k2
theorem C1g{R:Type}(nn:Nat)(a1 a2:Ab)(ae:Ah)(ac:Int):∀(n:Nat)(x7:List IvT)(aa:Ah)(ab:Int)(K:Ex->S6->Option R),LP E82 nn Cj [1,1,1,0,0,0] 10004 n (C0z a1 a2 ae ac x7 aa ab) K=A1r nn a1 a2 ae ac n x7 aa ab (λx7 nQ aa ab=>K (.exit 0) (D3J a1 a2 ae ac x7 nQ aa ab))
 |0,_,_,_,_=>rfl
 |n+1,x7,aa,ab,K=>by
  rw[A1r];simp only[<-C1g nn a1 a2 ae ac n _ _ _ K];kernel_rfl
def A9W(nn:Nat)(a1 a2:Ab)(ae:Ah)(ac:Int):Af:=let r8:=F79 a1 ae ac;gd (okB [.bool] [[.sl .tok none,.int .i64]] r8) (let z1:= !(lB (gB r8 0));let z2:=(gT r8);let z3:=(gQ r8);bif z1 then(some ([.sl .iv [] (some 1)],[[.sl .tok z2 none,.int .i64 z3]]))else(A1r nn a1 a2 ae ac nn [] z2 z3 (λz4 z5 z6 z7=>some ([.sl .iv z4 (some 1)],[[.sl .tok z6 none,.int .i64 z7]]))))
def F82(a1 a2:Ab)(ae:Ah)(ac:Int):Af:=A9W NN a1 a2 ae ac
theorem D3x(nn:Nat){a1 a2:Ab}{ae:Ah}{ac:Int}:C8 E82 nn Cj [0] [.ptr 900000 0,.str a1,.str a2] [bxT ae ac]=A9W nn a1 a2 ae ac:=by
 have h:C8 E82 nn Cj [0] [.ptr 900000 0,.str a1,.str a2] [bxT ae ac]=let r8:=F79 a1 ae ac;gd (okB [.bool] [[.sl .tok none,.int .i64]] r8) (let z1:= !(lB (gB r8 0));let z2:=(gT r8);let z3:=(gQ r8);bif z1 then(some ([.sl .iv [] (some 1)],[bxT z2 z3]))else(LP E82 nn Cj [1,1,1,0,0,0] 10004 nn (C0z a1 a2 ae ac [] z2 z3) (A5 0 (sk E82 nn Cj [1,1,1,1] (J3 E82 Tryz.f82.results.toList [0] [bxT ae ac]))))):=by kernel_rfl
 rw[h];simp only[C1g];show _=_;kernel_rfl
def S82:S2T
 |[.ptr d0 o0,.str a1,.str a2],[[.sl .tok ae none,.int .i64 ac]]=>bif bq d0 o0 then pB [.sl .iv (some 1)] [[.sl .tok none,.int .i64]] (F82 a1 a2 ae ac)else none
 |_,_=>none
def E83:Env Ty6 A4:=mkE [] [(79,S79),(80,S80)] (lkD [(0,[4,1000107]),(1,[1000107]),(2,[1000107]),(3,[8,9,10,1000107]),(4,[6,1000107]),(5,[11,12,13]),(6,[7,14,15,16,17,1000107]),(7,[18,19,20,1000107]),(8,[1,5,11,21,1000107]),(10004,[1000107])]) 22 [] 1 [] []
def B8l(a1:Ab)(ae:Ah)(ac:Int)(x5:List E2)(x6:Bool)(aa:Ah)(ab:Int):S6:=⟨[(0,.one (.ptr 900000 0)),(1,.one (.str a1)),(5,.one (.sl .named x5 (some 105))),(6,.one (.bool x6)),zT aa ab],[105,900000]⟩
def D6j(a1:Ab)(ae:Ah)(ac:Int)(x5:List E2)(cM:Bool)(aa:Ah)(ab:Int):S6:=⟨[(0,.one (.ptr 900000 0)),(1,.one (.str a1)),(5,.one (.sl .named x5 (some 105))),(11,.one (.bool cM)),zT aa ab],[105,900000]⟩
def B3D{R:Type}(nn:Nat)(a1:Ab)(ae:Ah)(ac:Int)(x5:List E2)(x6:Bool)(aa:Ah)(ab:Int)(k1:(List E2)->Bool->(Ah)->Int->Option R)(k2:(List E2)->Bool->(Ah)->Int->Option R):Option R:=bif x6 then(let r4:=F80 aa ab;gd (okB [.agg .named] [[.sl .tok none,.int .i64]] r4) (let z1:=(gT r4);let z2:=(gQ r4);gd (A2 (Aw x5+1) 32) (let r3:=F79 a1 z1 z2;gd (okB [.bool] [[.sl .tok none,.int .i64]] r3) (k1 (x5++[(A0g (gB r4 0))]) (lB (gB r3 0)) (gT r3) (gQ r3)))))else(k2 x5 x6 aa ab)
def A3f{R:Type}(nn:Nat)(a1:Ab)(ae:Ah)(ac:Int):Nat->(List E2)->Bool->(Ah)->Int->((List E2)->Bool->(Ah)->Int->Option R)->Option R
 |0,_,_,_,_,_=>none
 |n+1,x5,x6,aa,ab,k2=>B3D nn a1 ae ac x5 x6 aa ab (λx5 x6 aa ab=>A3f nn a1 ae ac n x5 x6 aa ab k2) k2
theorem C29{R:Type}(nn:Nat)(a1:Ab)(ae:Ah)(ac:Int):∀(n:Nat)(x5:List E2)(x6:Bool)(aa:Ah)(ab:Int)(K:Ex->S6->Option R),LP E83 nn Ci [1,1,1,1,0,0,0] 10004 n (B8l a1 ae ac x5 x6 aa ab) K=A3f nn a1 ae ac n x5 x6 aa ab (λx5 cM aa ab=>K (.exit 0) (D6j a1 ae ac x5 cM aa ab))
 |0,_,_,_,_,_=>rfl
 |n+1,x5,x6,aa,ab,K=>by
  rw[A3f];simp only[<-C29 nn a1 ae ac n _ _ _ _ K];kernel_rfl
def B6P(nn:Nat)(a1:Ab)(ae:Ah)(ac:Int):Af:=let r5:=F79 a1 ae ac;gd (okB [.bool] [[.sl .tok none,.int .i64]] r5) (A3f nn a1 ae ac nn [] true (gT r5) (gQ r5) (λz1 z2 z3 z4=>some ([.sl .named z1 (some 1)],[[.sl .tok z3 none,.int .i64 z4]])))
def F83(a1:Ab)(ae:Ah)(ac:Int):Af:=B6P NN a1 ae ac
theorem D2A(nn:Nat){a1:Ab}{ae:Ah}{ac:Int}:C8 E83 nn Ci [0] [.ptr 900000 0,.str a1] [bxT ae ac]=B6P nn a1 ae ac:=by
 have h:C8 E83 nn Ci [0] [.ptr 900000 0,.str a1] [bxT ae ac]=let r5:=F79 a1 ae ac;gd (okB [.bool] [[.sl .tok none,.int .i64]] r5) (LP E83 nn Ci [1,1,1,1,0,0,0] 10004 nn (B8l a1 ae ac [] true (gT r5) (gQ r5)) (A5 0 (sk E83 nn Ci [1,1,1,1,1] (J3 E83 Tryz.f83.results.toList [0] [bxT ae ac])))):=by kernel_rfl
 rw[h];simp only[C29];show _=_;kernel_rfl
def S83:S2T
 |[.ptr d0 o0,.str a1],[[.sl .tok ae none,.int .i64 ac]]=>bif bq d0 o0 then pB [.sl .named (some 1)] [[.sl .tok none,.int .i64]] (F83 a1 ae ac)else none
 |_,_=>none
def C4O:Env Ty6 A4:=mkE [] [(78,S78),(79,S79),(80,S80),(82,S82),(84,S84),(151,A4r),(152,B2U)] noD 94 [9,72] 2 [] [(72,109)]
def bxS(d:A6):Ae:=[.int .i64 d.kind,.bool d.extd,.bool d.note.has,.bool d.note.block,.str d.note.text,.str d.name,.sl .named d.ifaces (some 92000106),.sl .dir d.dirs (some 92000107),.sl .fd d.fields (some 92000108),.sl .iv d.inputs (some 92000109),.sl .named d.members (some 92000110),.sl .vald d.values (some 92000111),.sl .rd d.roots (some 92000112),.bool d.repeatable,.sl .named d.places (some 92000114),.int .i64 d.pos.line,.int .i64 d.pos.col]
def kS:List KD:=[.int .i64,.bool,.bool,.bool,.str,.str,.sl .named (some 92000106),.sl .dir (some 92000107),.sl .fd (some 92000108),.sl .iv (some 92000109),.sl .named (some 92000110),.sl .vald (some 92000111),.sl .rd (some 92000112),.bool,.sl .named (some 92000114),.int .i64,.int .i64]
def unS(r:Af):A6:=⟨lI (gC r 1 0),lB (gC r 1 1),⟨lB (gC r 1 2),lB (gC r 1 3),lS (gC r 1 4)⟩,lS (gC r 1 5),A2K (gC r 1 6),A1J (gC r 1 7),D6B (gC r 1 8),A7S (gC r 1 9),A2K (gC r 1 10),D4K (gC r 1 11),D5r (gC r 1 12),lB (gC r 1 13),A2K (gC r 1 14),⟨lI (gC r 1 15),lI (gC r 1 16)⟩⟩
def rk_(s:List KD)(r:Af)(K:Ah->Int->Af):Af:=gd (okB s [kT] r) (K (gT r) (gQ r))
def A1g(T:Ah)(q:Int)(d:A6):Af:=
 let a:=F78 T q
 rk_ [.agg .note] a λT q=>let w:=F80 T q;rk_ [.agg .named] w λT q=>let w:=A0g (gB w 0);bif d.kind==1
  then rk_ [.bool] (F79 [58] T q) λT q=>let t:=T4 T q;rk_ [.agg .tok] t λT q=>
   let j:Int->Af:=λk=>let j:Int->Af:=λk=>gd (A2 (Aw d.roots+1) 40) (some ([],[bxT T q,bxS {d with roots:=d.roots++[⟨k,(A1T (gB t 0)).text,w.pos⟩]}]))
    bif w.name==[115,117,98,115,99,114,105,112,116,105,111,110]then j 3 else j k
   bif w.name==[109,117,116,97,116,105,111,110]then j 2 else j 1
  else bif d.kind==6 then(let e:=F84 T q;rk_ [.sl .dir (some 1)] e λT q=>gd (A2 (Aw d.values+1) 80) (some ([],[bxT T q,bxS {d with values:=d.values++[⟨A3d (gB a 0),w.name,A1J (gB e 0),w.pos⟩]}])))
  else let v:=F82 [40] [41] T q;rk_ [.sl .iv (some 1)] v λT q=>rk_ [.bool] (F79 [58] T q) λT q=>let r:=B1F T q;rk_ [.agg .tref] r λT q=>let e:=F84 T q;rk_ [.sl .dir (some 1)] e λT q=>
   gd (A2 (Aw d.fields+1) 136) (some ([],[bxT T q,bxS {d with fields:=d.fields++[⟨A3d (gB a 0),w.name,A7S (gB v 0),A6E (gB r 0),A1J (gB e 0),w.pos⟩]}]))
theorem C96{T:Ah}{q:Int}{d:A6}:C8 C4O NN Tryz.f154 [0,1] [.ptr 900000 0,.ptr 900001 0] [bxT T q,bxS d]=A1g T q d:=by kernel_rfl
def ofS:Ae->Option A6
 |[.int .i64 b0,.bool b1,.bool b2,.bool b3,.str b4,.str b5,.sl .named b6 (some n6),.sl .dir b7 (some n7),.sl .fd b8 (some n8),.sl .iv b9 (some n9),.sl .named yh (some yi),.sl .vald yj (some yk),.sl .rd yl (some ym),.bool yn,.sl .named yo (some yp),.int .i64 yq,.int .i64 yr]=>
  bif(Az n6 92000106)&&(Az n7 92000107)&&(Az n8 92000108)&&(Az n9 92000109)&&(Az yi 92000110)&&(Az yk 92000111)&&(Az ym 92000112)&&(Az yp 92000114)then some ⟨b0,b1,⟨b2,b3,b4⟩,b5,b6,b7,b8,b9,yh,yj,yl,yn,yo,⟨yq,yr⟩⟩else none
 |_=>none
theorem C5u{l:Ae}{d:A6}(h:ofS l=some d):l=bxS d:=by
 unfold ofS at h;split at h
 ·obtain⟨hc,h⟩:=B8 h;simp only[Du,Nat.beq_eq]at hc;obtain⟨⟨⟨⟨⟨⟨⟨rfl,rfl⟩,rfl⟩,rfl⟩,rfl⟩,rfl⟩,rfl⟩,rfl⟩:=hc;cases h;rfl
 ·cases h
def S2S(F:Ah->Int->A6->Af):S2T
 |[.ptr d0 o0,.ptr d1 o1],[[.sl .tok T none,.int .i64 q],l]=>bif bq d0 o0&&(Az d1 900001&&Az o1 0)then(match ofS l with|some d=>pB [] [kT,kS] (F T q d)|none=>none)else none
 |_,_=>none
def B6V:S2T:=S2S A1g
def E85:Env Ty6 A4:=mkE [] [(79,S79),(82,S82),(154,B6V)] (lkD [(0,[4,5,6]),(1,[9]),(2,[7,8,10,11,12,13,14]),(3,[8,16]),(4,[17]),(5,[18]),(6,[7,19]),(7,[7,15,20,21]),(8,[23,24]),(9,[25,26,27,28]),(10008,[22])]) 29 [] 2 [] []
def C1y(T:Ah)(q:Int)(d:A6):S6:=⟨[(0,.one (.ptr 900000 0)),(1,.one (.ptr 900001 0)),(1900000,.bx 900000 (bxT T q)),(1900001,.bx 900001 (bxS d))],[900000,900001,92000106,92000107,92000108,92000109,92000110,92000111,92000112,92000114]⟩
def D4t(x:Bool)(T:Ah)(q:Int)(d:A6):S6:=⟨[(0,.one (.ptr 900000 0)),(1,.one (.ptr 900001 0)),(25,.one (.bool x)),(1900000,.bx 900000 (bxT T q)),(1900001,.bx 900001 (bxS d))],[900000,900001,92000106,92000107,92000108,92000109,92000110,92000111,92000112,92000114]⟩
def A06{R:Type}:Nat->Ah->Int->A6->(Bool->Ah->Int->A6->Option R)->Option R
 |0,_,_,_,_=>none
 |n+1,T,q,d,k=>let r:=F79 [125] T q;gd (okB [.bool] [kT] r) (let T:=gT r;let q:=gQ r;bif !(lB (gB r 0))then(let r:=A1g T q d;gd (okB [] [kT,kS] r) (A06 n (gT r) (gQ r) (unS r) k))else k (!(lB (gB r 0))) T q d)
theorem B9o{R:Type}(nn:Nat):∀(n:Nat)(T:Ah)(q:Int)(d:A6)(K:Ex->S6->Option R),LP E85 nn Dn [1,0,1,1,1,0,1,0,0] 10008 n (C1y T q d) K=A06 n T q d (λx T q d=>K (.exit 1) (D4t x T q d))
 |0,_,_,_,_=>rfl
 |n+1,T,q,d,K=>by
  rw[A06];simp only[<-B9o nn n _ _ _ K];kernel_rfl
def c85(T:Ah)(q:Int)(d:A6)(K:Ah->Int->Af):Af:=
 bif d.kind==7 then(let r:=F82 [123] [125] T q;gd (okB [.sl .iv (some 1)] [kT] r) (some ([],[bxT (gT r) (gQ r),bxS {d with inputs:=A7S (gB r 0)}])))
 else(let b:Af:=(let r:=F79 [123] T q;gd (okB [.bool] [kT] r) (let T:=gT r;let q:=gQ r;bif !(lB (gB r 0))then some ([],[bxT T q,bxS d])else K T q))
  let j:Bool->Af:=λx=>bif x then b else some ([],[bxT T q,bxS d])
  bif d.kind==1 then j (d.kind==1)else bif d.kind==3 then j (d.kind==3)else bif d.kind==4 then j (d.kind==4)else bif d.kind==6 then b else some ([],[bxT T q,bxS d]))
def B2A(nn:Nat)(T:Ah)(q:Int)(d:A6):Af:=c85 T q d λT q=>A06 nn T q d λ_ T q d=>some ([],[bxT T q,bxS d])
def F85(T:Ah)(q:Int)(d:A6):Af:=B2A NN T q d
theorem D7E(nn:Nat){T:Ah}{q:Int}{d:A6}:C8 E85 nn Dn [0,1] [.ptr 900000 0,.ptr 900001 0] [bxT T q,bxS d]=B2A nn T q d:=by
 refine .trans (b:=c85 T q d λT' q'=>LP E85 nn Dn [1,0,1,1,1,0,1,0,0] 10008 nn (C1y T' q' d) (A5 1 (A5 0 (J3 E85 Tryz.f85.results.toList [0,1] [bxT T q,bxS d])))) (by kernel_rfl) ?_;simp only[B9o];show _=_;kernel_rfl
def S85:S2T:=S2S F85
def E36:Env Ty6 A4:=mkE [(81,S81)] [(78,S78),(79,S79),(80,S80),(82,S82),(83,S83),(84,S84),(85,S85)] noD 85 [2,3] 1 [2,3] []
def w36(k:Int)(x:Bool)(n:G3)(nm:Ab)(pos:A7)(ifs:List E2)(ds:List D0)(mbs:List E2)(T:Ah)(q:Int):Af:=
 let r:=F85 T q ⟨k,x,n,nm,ifs,ds,[],[],mbs,[],[],false,[],pos⟩
 gd (okB [] [kT,kS] r) (some ([.agg .sys (unS r)],[bxT (gT r) (gQ r)]))
def d36(k:Int)(x:Bool)(n:G3)(nm:Ab)(pos:A7)(ifs:List E2)(T:Ah)(q:Int):Af:=
 let r:=F84 T q
 rk_ [.sl .dir (some 1)] r λT q=>bif(k==5)==true
  then(let s:=F79 [61] T q;rk_ [.bool] s λT q=>bif lB (gB s 0)then(let u:=F83 [124] T q;rk_ [.sl .named (some 1)] u λT q=>w36 k x n nm pos ifs (A1J (gB r 0)) (A2K (gB u 0)) T q)else w36 k x n nm pos ifs (A1J (gB r 0)) [] T q)
  else bif false then(let u:=F83 [124] T q;rk_ [.sl .named (some 1)] u λT q=>w36 k x n nm pos ifs (A1J (gB r 0)) (A2K (gB u 0)) T q)else w36 k x n nm pos ifs (A1J (gB r 0)) [] T q
def i36(c:Bool)(k:Int)(x:Bool)(n:G3)(nm:Ab)(pos:A7)(T:Ah)(q:Int):Af:=
 bif c==true
  then(let s:=F79 [105,109,112,108,101,109,101,110,116,115] T q;rk_ [.bool] s λT q=>bif lB (gB s 0)then(let u:=F83 [38] T q;rk_ [.sl .named (some 1)] u λT q=>d36 k x n nm pos (A2K (gB u 0)) T q)else d36 k x n nm pos [] T q)
  else bif false then(let u:=F83 [38] T q;rk_ [.sl .named (some 1)] u λT q=>d36 k x n nm pos (A2K (gB u 0)) T q)else d36 k x n nm pos [] T q
def t36(k:Int)(x:Bool)(n:G3)(nm:Ab)(pos:A7)(T:Ah)(q:Int):Af:=
 bif k==8
  then(let r:=F82 [40] [41] T q;rk_ [.sl .iv (some 1)] r λT q=>let s:=F79 [114,101,112,101,97,116,97,98,108,101] T q;rk_ [.bool] s λT q=>rk_ [.bool] (F79 [111,110] T q) λT q=>let u:=F83 [124] T q
   gd (okB [.sl .named (some 1)] [[.sl .tok none,.int .i64]] u) (some ([.agg .sys ⟨k,x,n,nm,[],[],[],A7S (gB r 0),[],[],[],lB (gB s 0),A2K (gB u 0),pos⟩],[[.sl .tok (gT u) none,.int .i64 (gQ u)]])))
  else bif(k==3)==false then i36 (k==4) k x n nm pos T q else i36 true k x n nm pos T q
def n36(k:Int)(x:Bool)(n:G3)(pos:A7)(T:Ah)(q:Int):Af:=
 bif k !=1 then(let r:=F80 T q;rk_ [.agg .named] r λT q=>t36 k x n (A0g (gB r 0)).name (A0g (gB r 0)).pos T q)else t36 k x n [] pos T q
def F36(T:Ah)(q:Int):Af:=
 let a:=F78 T q
 rk_ [.agg .note] a λT q=>let e:=F79 [101,120,116,101,110,100] T q;rk_ [.bool] e λT q=>let w:=F80 T q;rk_ [.agg .named] w λT q=>let r:=F81 (A0g (gB w 0)).name
  gd (okR [.int .i64] r) (bif lI (gL r 0)==8 then rk_ [.bool] (F79 [64] T q) (n36 (lI (gL r 0)) (lB (gB e 0)) (A3d (gB a 0)) (A0g (gB w 0)).pos)else n36 (lI (gL r 0)) (lB (gB e 0)) (A3d (gB a 0)) (A0g (gB w 0)).pos T q)
theorem D5w{ae:Ah}{ac:Int}:C8 E36 NN Tryz.f36 [0] [.ptr 900000 0] [bxT ae ac]=F36 ae ac:=by kernel_rfl
def S36:S2T
 |[.ptr d0 o0],[[.sl .tok ae none,.int .i64 ac]]=>bif bq d0 o0 then pB [.agg .sys] [[.sl .tok none,.int .i64]] (F36 ae ac)else none
 |_,_=>none
def smN(n:Nat):Bool:=Nat.ble n 1099511627776
def Q2(bu:An)(toks:Ah)(depth:Int):Nat->Ag->Nat->Int->Option (Int×A7)
 |0,_,_,_=>none
 |_+1,[],_,_=>some (0,⟨0,0⟩)
 |f+1,cG::anq,at_,op=>
  match toks[at_]? with
  |none=>none
  |some t=>
   bif okR [.bool] (F73 cG)then
    bif lB (gL (F73 cG) 0)then
     bif okR [.slc .str,.bool] (F74 bu cG t)then
      bif lB (gL (F74 bu cG t) 1)then
       bif smN ((H8 (gL (F74 bu cG t) 0)).length+anq.length)then Q2 bu toks depth f (H8 (gL (F74 bu cG t) 0)++anq) at_ op else none
      else some (70,t.pos)
     else none
    else
     bif okR [.bool] (F75 cG t)then
      bif lB (gL (F75 cG t) 0)then
       bif okR [.int .i64] (F76 cG)then
        bif(lI (gL (F76 cG) 0)==1)&&decide (depth<=op)then some (71,t.pos)
        else Q2 bu toks depth f anq (bif Nat.blt (at_+1) toks.length then at_+1 else at_) (Ax .i64 (op+lI (gL (F76 cG) 0)))
       else none
      else some (70,t.pos)
     else none
   else none
def F33(a0:An)(a1:Ab)(a2:Ah)(a3:Int):Ad:=
 bif smN a2.length then
  match Q2 a0 a2 a3 NN [a1] 0 0 with
  |some (k,p)=>some (.tup [.int .i64 k,.agg .pos p])
  |none=>none
 else none
def S33:Ae->Option (Bool×E6)
 |[.sl .rule a0 none,.str a1,.sl .tok a2 none,.int .i64 a3]=>some (okR [.int .i64,.agg .pos] (F33 a0 a1 a2 a3),M1 [.int .i64,.agg .pos] (F33 a0 a1 a2 a3))
 |_=>none
def E11:Env Ty6 A4:=mkE [(24,S24),(33,S33),(34,S34),(35,S35)] [(36,S36)] (lkD [(0,[4,1000108,1000111,1000134]),(1,[12,1000108,1000111,1000134]),(2,[13,1000108,1000111,1000134]),(3,[13,14,1000108,1000111,1000134]),(4,[15,1000108,1000111,1000134]),(5,[0,15,16,17,1000108,1000111,1000134]),(6,[1,18,19,20,21,22,23,24,25,1000111,1000134]),(7,[26,1000111,1000134]),(8,[6,7,8,27,28,29,30,31,1000108,1000111,1000134]),(9,[6,7,8,27,32,33,34,1000108,1000111]),(10,[1000108,1000111]),(11,[35,36,37,38,39,40,41,42,43,44,45,1000108,1000111]),(12,[46,47,48,1000108]),(13,[11,49,50,51,52,1000108,1000111]),(14,[9,10,46,53,54,1000108,1000111,1000134]),(10011,[1000108,1000111])]) 55 [5,8,33,34,54] 0 [5] [(33,134),(54,105)]
def C0a(a0:Aa)(a1:Int)(aC:List A6)(az:Ah)(aA:Int):S6:=⟨[(5,.one (.ptr 105 0)),(9,.one (.ptr 134 0)),(10,.one (.sl .sys aC (some 110))),(1000105,.bx 105 [.int .i64 0,.sl .pos [] (some 2010501),.sl .step [] (some 2010502)]),(1000134,.bx 134 [.sl .tok az none,.int .i64 aA])],[105,110,134,2010501,2010502]⟩
def D3e(a0:Aa)(a1:Int)(aC:List A6)(tS:Bool)(az:Ah)(aA:Int):S6:=⟨[(5,.one (.ptr 105 0)),(9,.one (.ptr 134 0)),(10,.one (.sl .sys aC (some 110))),(46,.one (.bool tS)),(1000105,.bx 105 [.int .i64 0,.sl .pos [] (some 2010501),.sl .step [] (some 2010502)]),(1000134,.bx 134 [.sl .tok az none,.int .i64 aA])],[105,110,134,2010501,2010502]⟩
def B3s{R:Type}(nn:Nat)(a0:Aa)(a1:Int)(aC:List A6)(az:Ah)(aA:Int)(k1:(List A6)->(Ah)->Int->Option R)(k2:(List A6)->Bool->(Ah)->Int->Option R):Option R:=match idx az aA with|none=>none|some y1=>(bif(y1.kind !=0)then(let r2:=F36 az aA;gd (okB [.agg .sys] [[.sl .tok none,.int .i64]] r2) (gd (A2 (Aw aC+1) 272) (k1 (aC++[(C4r (gB r2 0))]) (gT r2) (gQ r2))))else(k2 aC (y1.kind !=0) az aA))
def A2v{R:Type}(nn:Nat)(a0:Aa)(a1:Int):Nat->(List A6)->(Ah)->Int->((List A6)->Bool->(Ah)->Int->Option R)->Option R
 |0,_,_,_,_=>none
 |n+1,aC,az,aA,k2=>B3s nn a0 a1 aC az aA (λaC az aA=>A2v nn a0 a1 n aC az aA k2) k2
theorem C1f{R:Type}(nn:Nat)(a0:Aa)(a1:Int):∀(n:Nat)(aC:List A6)(az:Ah)(aA:Int)(K:Ex->S6->Option R),LP E11 nn Dk [1,1,1,1,1,1,1,1,0,0,0] 10011 n (C0a a0 a1 aC az aA) K=A2v nn a0 a1 n aC az aA (λaC tS az aA=>K (.exit 0) (D3e a0 a1 aC tS az aA))
 |0,_,_,_,_=>rfl
 |n+1,aC,az,aA,K=>by
  rw[A2v];simp only[<-C1f nn a0 a1 n _ _ _ K];kernel_rfl
def c11(lp:Ah->Ad)(a0:Aa)(D:Int):Ad:=gd (okR [.sl .tok (some 1)] (F24 a0)) (let T:=(A4U (gL (F24 a0) 0));gd (okR [.sl .str (some 1)] F35) (let r:=F34 (H8 (gL F35 0));gd (okR [.sl .rule (some 1)] r) (let r:=F33 (C3c (gL r 0)) [68,79,67] T D;gd (okR [.int .i64,.agg .pos] r) (bif(lI (gL r 0) !=0)then(some (.tup [.sl .sys [] none,.agg .fault (⟨lI (gL r 0),[B7O (gL r 1)],[]⟩:A0F)]))else lp T))))
def d11(lp:Ah->Ad)(a0:Aa)(a1:Int):Ad:=bif decide (a1<0)then(bif false then c11 lp a0 200 else c11 lp a0 0)else bif decide (a1>200)then c11 lp a0 200 else c11 lp a0 a1
def A8v(nn:Nat)(a0:Aa)(a1:Int):Ad:=d11 (λT=>A2v nn a0 a1 nn [] T 0 (λz6 z7 z8 z9=>some (.tup [.sl .sys z6 (some 1),.agg .fault (⟨0,[],[]⟩:A0F)]))) a0 a1
def F11(a0:Aa)(a1:Int):Ad:=A8v NN a0 a1
theorem D2l(nn:Nat){a0:Aa}{a1:Int}:A3 E11 nn Dk [.sl .u8 a0 none,.int .i64 a1]=A8v nn a0 a1:=by
 refine .trans (b:=d11 (λz2=>LP E11 nn Dk [1,1,1,1,1,1,1,1,0,0,0] 10011 nn (C0a a0 a1 [] z2 0) (A5 0 (sk E11 nn Dk [1,1,1,1,1,1,1,1,1] (A9 E11 Tryz.f11.results.toList)))) a0 a1) (by kernel_rfl) ?_;simp only[C1f];show _=_;kernel_rfl
def S11:S1T
 |[.sl .u8 a0 none,.int .i64 a1]=>pR [.slc .sys,.agg .fault] (F11 a0 a1)
 |_=>none
def E62:Env Ty6 A4:=mkE [] [(138,B1I)] noD 19 [] 1 [] []
def F62(a1:Ab)(ac:Aa):Af:=gd (okB [] kP (A5V ac)) (let z1:=(gP (A5V ac));gd (A2 (Aw z1+Aw a1) 1) (some ([.int .i64 (Aw a1:Int),.any],[[.ptr 900000 C4,.sl .u8 (z1++Dp (λ(c:UInt8)=>(c.toNat:Int)) a1) (some 92000001)]])))
theorem B39{a1:Ab}{ac:Aa}:C8 E62 NN Tryz.f62 [0] [.ptr 900000 0,.str a1] (B9 ac)=F62 a1 ac:=by kernel_rfl
def S62:S2T
 |[.ptr d0 o0,.str a1],[[.ptr p0 q0,.sl .u8 ac (some aQ)]]=>bif bq d0 o0&&pq p0 q0&&(Az aQ 92000001)then pB [.int .i64,.any] kP (F62 a1 ac)else none
 |_,_=>none
def E27:Env Ty6 A4:=mkE [] [(62,S62)] (lkD [(0,[1]),(2,[9,10,11]),(3,[5,12,13,14,15,16]),(4,[17])]) 18 [] 1 [] []
def C41(a1:Ag)(ac:Aa)(x7 x8:Int)(ab:Aa):S6:=⟨[(0,.one (.ptr 900000 0)),(6,.one (.sl .str a1 none)),(7,.one (.int .i64 x7)),(8,.one (.int .i64 x8)),zP ab],[900000,900000,92000001]⟩
def D8u(a1:Ag)(ac:Aa)(x7 x8:Int)(x9:Bool)(ab:Aa):S6:=⟨[(0,.one (.ptr 900000 0)),(6,.one (.sl .str a1 none)),(7,.one (.int .i64 x7)),(8,.one (.int .i64 x8)),(9,.one (.bool x9)),zP ab],[900000,900000,92000001]⟩
def B1H{R:Type}(nn:Nat)(a1:Ag)(ac:Aa)(x7 x8:Int)(ab:Aa)(k1:Int->Int->(Aa)->Option R)(k2:Int->Int->Bool->(Aa)->Option R):Option R:=let z1:=decide (x8<x7);bif z1 then(match idx a1 x8 with|none=>none|some y2=>(let r3:=F62 y2 ab;gd (okB [.int .i64,.any] kP r3) (k1 x7 (Ax .i64 (x8+1)) (gP r3))))else(k2 x7 x8 z1 ab)
def A6b{R:Type}(nn:Nat)(a1:Ag)(ac:Aa):Nat->Int->Int->(Aa)->(Int->Int->Bool->(Aa)->Option R)->Option R
 |0,_,_,_,_=>none
 |n+1,x7,x8,ab,k2=>B1H nn a1 ac x7 x8 ab (λx7 x8 ab=>A6b nn a1 ac n x7 x8 ab k2) k2
theorem C32{R:Type}(nn:Nat)(a1:Ag)(ac:Aa):∀(n:Nat)(x7 x8:Int)(ab:Aa)(K:Ex->S6->Option R),LP E27 nn Di [1,0,0] 10001 n (C41 a1 ac x7 x8 ab) K=A6b nn a1 ac n x7 x8 ab (λx7 x8 x9 ab=>K (.exit 0) (D8u a1 ac x7 x8 x9 ab))
 |0,_,_,_,_=>rfl
 |n+1,x7,x8,ab,K=>by
  rw[A6b];simp only[<-C32 nn a1 ac n _ _ _ K];kernel_rfl
def A8j(nn:Nat)(a1:Ag)(ac:Aa):Af:=A6b nn a1 ac nn (Aw a1:Int) 0 ac (λz1 z2 z3 z4=>some ([],[[.ptr 900000 C4,.sl .u8 z4 (some 92000001)]]))
def F27(a1:Ag)(ac:Aa):Af:=A8j NN a1 ac
theorem B3J(nn:Nat){a1:Ag}{ac:Aa}:C8 E27 nn Di [0] [.ptr 900000 0,.sl .str a1 none] (B9 ac)=A8j nn a1 ac:=by
 have h:C8 E27 nn Di [0] [.ptr 900000 0,.sl .str a1 none] (B9 ac)=LP E27 nn Di [1,0,0] 10001 nn (C41 a1 ac (Aw a1:Int) 0 ac) (A5 0 (J3 E27 Tryz.f27.results.toList [0] (B9 ac))):=by kernel_rfl
 rw[h];simp only[C32];show _=_;kernel_rfl
def S27:S2T
 |[.ptr d0 o0,.sl .str a1 none],[[.ptr p0 q0,.sl .u8 ac (some aQ)]]=>bif bq d0 o0&&pq p0 q0&&(Az aQ 92000001)then pB [] kP (F27 a1 ac)else none
 |_,_=>none
def E86:Env Ty6 A4:=mkE [(155,B0t),(156,A9I)] [] noD 22 [] 0 [] []
def F86(a0:Bool)(a1:Ab):Ad:=bif a0 then(gd (okR [.str,.bool] (A4c a1)) (some (.one (.str (lS (gL (A4c a1) 0))))))else(gd (okR [.str,.int .i64] (A3l a1)) (some (.one (.str (lS (gL (A3l a1) 0))))))
theorem D8Q{a0:Bool}{a1:Ab}:A3 E86 NN Tryz.f86 [.bool a0,.str a1]=F86 a0 a1:=by kernel_rfl
def S86:S1T
 |[.bool a0,.str a1]=>pR [.str] (F86 a0 a1)
 |_=>none
def E37:Env Ty6 A4:=mkE [(86,S86)] [(27,S27)] noD 17 [] 1 [] []
def F37(a1:G3)(a2:Ab)(ac:Aa):Af:=bif a1.has then(let r2:=F86 a1.block a1.text;gd (okR [.str] r2) (let r1:=F27 [(lS (gL r2 0)),a2] ac;gd (okB [] kP r1) (some ([],[[.ptr 900000 C4,.sl .u8 (gP r1) (some 92000001)]]))))else(some ([],[[.ptr 900000 C4,.sl .u8 ac (some 92000001)]]))
theorem B2N{a1:G3}{a2:Ab}{ac:Aa}:C8 E37 NN Tryz.f37 [0] [.ptr 900000 0,.agg .note a1,.str a2] (B9 ac)=F37 a1 a2 ac:=by kernel_rfl
def S37:S2T
 |[.ptr d0 o0,.agg .note a1,.str a2],[[.ptr p0 q0,.sl .u8 ac (some aQ)]]=>bif bq d0 o0&&pq p0 q0&&(Az aQ 92000001)then pB [] kP (F37 a1 a2 ac)else none
 |_,_=>none
def C4x:Env Ty6 A4:=mkE [(47,S47)] [(27,S27)] noD 9 [] 1 [] []
def A1b(a1:Int)(ac:Aa):Af:=let r2:=F47 [32,32] a1;gd (okR [.str] r2) (let r1:=F27 [(lS (gL r2 0))] ac;gd (okB [] kP r1) (some ([],[[.ptr 900000 C4,.sl .u8 (gP r1) (some 92000001)]])))
theorem D6u{a1:Int}{ac:Aa}:C8 C4x NN Tryz.f139 [0] [.ptr 900000 0,.int .i64 a1] (B9 ac)=A1b a1 ac:=by kernel_rfl
def B2f:S2T
 |[.ptr d0 o0,.int .i64 a1],[[.ptr p0 q0,.sl .u8 ac (some aQ)]]=>bif bq d0 o0&&pq p0 q0&&(Az aQ 92000001)then pB [] kP (A1b a1 ac)else none
 |_,_=>none
def E64:Env Ty6 A4:=mkE [] [] (lkD [(0,[2,1000105]),(1,[1000105]),(2,[0,1000105]),(3,[1000105]),(4,[9,10,11]),(5,[5,12,13,14,15,16,1000105]),(6,[17,1000105]),(7,[3,6,7,8,9,18,1000105]),(10003,[1000105])]) 19 [] 0 [] []
def B9l(a0:List SelT)(x3:Al)(x7 x8:Int):S6:=⟨[(3,.one (.sl .part x3 (some 103))),(6,.one (.sl .sel a0 none)),(7,.one (.int .i64 x7)),(8,.one (.int .i64 x8))],[103]⟩
def C6X(a0:List SelT)(x3:Al)(x7 x8:Int)(x9:Bool):S6:=⟨[(3,.one (.sl .part x3 (some 103))),(6,.one (.sl .sel a0 none)),(7,.one (.int .i64 x7)),(8,.one (.int .i64 x8)),(9,.one (.bool x9))],[103]⟩
def D4W{R:Type}(nn:Nat)(a0:List SelT)(x3:Al)(x7 x8:Int)(k1:(Al)->Int->Int->Option R)(k2:(Al)->Int->Int->Bool->Option R):Option R:=let z1:=decide (x8<x7);bif z1 then(match idx a0 x8 with|none=>none|some y2=>(gd (A2 (Aw x3+1) 16) (k1 (x3++[PartT.sel y2]) x7 (Ax .i64 (x8+1)))))else(k2 x3 x7 x8 z1)
def B1N{R:Type}(nn:Nat)(a0:List SelT):Nat->(Al)->Int->Int->((Al)->Int->Int->Bool->Option R)->Option R
 |0,_,_,_,_=>none
 |n+1,x3,x7,x8,k2=>D4W nn a0 x3 x7 x8 (λx3 x7 x8=>B1N nn a0 n x3 x7 x8 k2) k2
theorem C1h{R:Type}(nn:Nat)(a0:List SelT):∀(n:Nat)(x3:Al)(x7 x8:Int)(K:Ex->S6->Option R),LP E64 nn Cn [1,1,0,1,0,0] 10003 n (B9l a0 x3 x7 x8) K=B1N nn a0 n x3 x7 x8 (λx3 x7 x8 x9=>K (.exit 0) (C6X a0 x3 x7 x8 x9))
 |0,_,_,_,_=>rfl
 |n+1,x3,x7,x8,K=>by
  rw[B1N];simp only[<-C1h nn a0 n _ _ _ K];kernel_rfl
def C3u(nn:Nat)(a0:List SelT):Ad:=B1N nn a0 nn [] (Aw a0:Int) 0 (λz1 z2 z3 z4=>some (.one (.sl .part z1 (some 1))))
def F64(a0:List SelT):Ad:=C3u NN a0
theorem C7O(nn:Nat){a0:List SelT}:A3 E64 nn Cn [.sl .sel a0 none]=C3u nn a0:=by
 have h:A3 E64 nn Cn [.sl .sel a0 none]=LP E64 nn Cn [1,1,0,1,0,0] 10003 nn (B9l a0 [] (Aw a0:Int) 0) (A5 0 (sk E64 nn Cn [1,1,1] (A9 E64 Tryz.f64.results.toList))):=by kernel_rfl
 rw[h];simp only[C1h];show _=_;kernel_rfl
def S64:S1T
 |[.sl .sel a0 none]=>pR [.sl .part (some 1)] (F64 a0)
 |_=>none
def B8a:Env Ty6 A4:=mkE [] [(27,S27)] noD 9 [] 1 [] []
def A1m(a1:Int)(ac:Aa):Af:=bif(decide (a1>0))then(let r1:=F27 [[44,32]] ac;gd (okB [] kP r1) (some ([],[[.ptr 900000 C4,.sl .u8 (gP r1) (some 92000001)]])))else(some ([],[[.ptr 900000 C4,.sl .u8 ac (some 92000001)]]))
theorem C6O{a1:Int}{ac:Aa}:C8 B8a NN Tryz.f101 [0] [.ptr 900000 0,.int .i64 a1] (B9 ac)=A1m a1 ac:=by kernel_rfl
def A6P:S2T
 |[.ptr d0 o0,.int .i64 a1],[[.ptr p0 q0,.sl .u8 ac (some aQ)]]=>bif bq d0 o0&&pq p0 q0&&(Az aQ 92000001)then pB [] kP (A1m a1 ac)else none
 |_,_=>none
def B1U(g:LitT->(Aa)->Af):S2T
 |[.ptr d0 o0,.agg .lit a1],[[.ptr p0 q0,.sl .u8 ac (some aQ)]]=>bif bq d0 o0&&pq p0 q0&&(Az aQ 92000001)then pB [] kP (g a1 ac)else none
 |_,_=>none
def E44(dm:LitT->(Aa)->Af):Env Ty6 A4:=mkE [(86,S86)] [(27,S27),(44,B1U dm),(101,A6P)] (lkD [(0,[1,1000105,1000107]),(1,[8,1000105,1000107]),(2,[11,1000105,1000107]),(3,[3,9,10,12,13,14,15,16,1000103,1000105,1000107]),(4,[10,18,1000105,1000107]),(5,[19,1000105,1000107]),(6,[20,1000105,1000107]),(7,[21,1000105,1000107]),(8,[3,9,17,22,23,24,25,26,1000103,1000105,1000107]),(9,[17,28,1000105,1000107]),(10,[3,9,27,29,30,31,1000103,1000105,1000107]),(11,[27,33,1000105,1000107]),(12,[3,9,32,34,35,36,37,38,39,40,41,1000103,1000105,1000107]),(13,[32,43,1000105,1000107]),(14,[9,42,44,45,46,1000105,1000107]),(15,[3,47,1000103,1000105,1000107]),(16,[1000103,1000105,1000107]),(17,[51,52,53,54,1000103,1000107]),(18,[4,55,56,57,1000103,1000107]),(19,[5,58,59,60,1000103,1000105,1000107]),(20,[61,1000103,1000105,1000107]),(21,[48,49,50,51,62,63,64,1000103,1000105,1000107]),(22,[9,42,66,1000105,1000107]),(23,[65,67,68,69,1000105,1000107]),(24,[3,70,1000103,1000105,1000107]),(25,[1000103,1000105,1000107]),(26,[74,75,76,77,1000103,1000105]),(27,[6,78,79,80,1000103,1000105]),(28,[81,82,83,84,85,1000103,1000105]),(29,[7,86,87,88,89,1000103,1000105,1000107]),(30,[90,1000103,1000105,1000107]),(31,[71,72,73,74,91,92,93,1000103,1000105,1000107]),(10016,[1000103,1000105,1000107]),(10025,[1000103,1000105,1000107])]) 94 [5,7] 1 [] []
def B9L(a1:LitT)(ac:Aa)(gu:List LitT)(gv eQ:Int)(ab:Aa):S6:=⟨[(0,.one (.ptr 900000 0)),(48,.one (.sl .lit gu none)),(49,.one (.int .i64 gv)),(50,.one (.int .i64 eQ)),zP ab],[900000,900000,92000001]⟩
def D0S(a1:LitT)(ac:Aa)(gu:List LitT)(gv eQ:Int)(tT:Bool)(ab:Aa):S6:=⟨[(0,.one (.ptr 900000 0)),(48,.one (.sl .lit gu none)),(49,.one (.int .i64 gv)),(50,.one (.int .i64 eQ)),(51,.one (.bool tT)),zP ab],[900000,900000,92000001]⟩
def C3b(a1:LitT)(ac:Aa)(gw:List LfT)(gx fF:Int)(ab:Aa):S6:=⟨[(0,.one (.ptr 900000 0)),(71,.one (.sl .lf gw none)),(72,.one (.int .i64 gx)),(73,.one (.int .i64 fF)),zP ab],[900000,900000,92000001]⟩
def D4m(a1:LitT)(ac:Aa)(gw:List LfT)(gx fF:Int)(tU:Bool)(ab:Aa):S6:=⟨[(0,.one (.ptr 900000 0)),(71,.one (.sl .lf gw none)),(72,.one (.int .i64 gx)),(73,.one (.int .i64 fF)),(74,.one (.bool tU)),zP ab],[900000,900000,92000001]⟩
def A6k{R:Type}(nn:Nat)(dm:LitT->(Aa)->Af)(a1:LitT)(ac:Aa)(gu:List LitT)(gv eQ:Int)(ab:Aa)(k1:(List LitT)->Int->Int->(Aa)->Option R)(k2:(List LitT)->Int->Int->Bool->(Aa)->Option R):Option R:=let z1:=decide (eQ<gv);bif z1 then(match idx gu eQ with|none=>none|some y2=>(let r5:=A1m eQ ab;gd (okB [] kP r5) (let z3:=(gP r5);let r4:=dm (LitT.mk y2.kind y2.text y2.block y2.items y2.fields (⟨y2.pos.line,y2.pos.col⟩:A7)) z3;gd (okB [] kP r4) (k1 gu gv (Ax .i64 (eQ+1)) (gP r4)))))else(k2 gu gv eQ z1 ab)
def A5W{R:Type}(nn:Nat)(dm:LitT->(Aa)->Af)(a1:LitT)(ac:Aa):Nat->(List LitT)->Int->Int->(Aa)->((List LitT)->Int->Int->Bool->(Aa)->Option R)->Option R
 |0,_,_,_,_,_=>none
 |n+1,gu,gv,eQ,ab,k2=>A6k nn dm a1 ac gu gv eQ ab (λgu gv eQ ab=>A5W nn dm a1 ac n gu gv eQ ab k2) k2
theorem C1X{R:Type}(nn:Nat)(dm:LitT->(Aa)->Af)(a1:LitT)(ac:Aa):∀(n:Nat)(gu:List LitT)(gv eQ:Int)(ab:Aa)(K:Ex->S6->Option R),LP (E44 dm) nn By [1,1,0,1,1,1,1,1,1,1,1,1,0,1,0,1,0,0] 10016 n (B9L a1 ac gu gv eQ ab) K=A5W nn dm a1 ac n gu gv eQ ab (λgu gv eQ tT ab=>K (.exit 1) (D0S a1 ac gu gv eQ tT ab))
 |0,_,_,_,_,_=>rfl
 |n+1,gu,gv,eQ,ab,K=>by
  rw[A5W];simp only[<-C1X nn dm a1 ac n _ _ _ _ K];kernel_rfl
def A7m{R:Type}(nn:Nat)(dm:LitT->(Aa)->Af)(a1:LitT)(ac:Aa)(gw:List LfT)(gx fF:Int)(ab:Aa)(k1:(List LfT)->Int->Int->(Aa)->Option R)(k2:(List LfT)->Int->Int->Bool->(Aa)->Option R):Option R:=let z1:=decide (fF<gx);bif z1 then(match idx gw fF with|none=>none|some y2=>(let z3:=y2.value.fields;let z4:=y2.value.pos.line;let z5:=y2.value.pos.col;let bY:=A1m fF ab;gd (okB [] kP bY) (let z6:=(gP bY);let r9:=F27 [y2.name,[58,32]] z6;gd (okB [] kP r9) (let z7:=(gP r9);let r8:=dm (LitT.mk y2.value.kind y2.value.text y2.value.block y2.value.items z3 (⟨z4,z5⟩:A7)) z7;gd (okB [] kP r8) (k1 gw gx (Ax .i64 (fF+1)) (gP r8))))))else(k2 gw gx fF z1 ab)
def A5N{R:Type}(nn:Nat)(dm:LitT->(Aa)->Af)(a1:LitT)(ac:Aa):Nat->(List LfT)->Int->Int->(Aa)->((List LfT)->Int->Int->Bool->(Aa)->Option R)->Option R
 |0,_,_,_,_,_=>none
 |n+1,gw,gx,fF,ab,k2=>A7m nn dm a1 ac gw gx fF ab (λgw gx fF ab=>A5N nn dm a1 ac n gw gx fF ab k2) k2
theorem B75{R:Type}(nn:Nat)(dm:LitT->(Aa)->Af)(a1:LitT)(ac:Aa):∀(n:Nat)(gw:List LfT)(gx fF:Int)(ab:Aa)(K:Ex->S6->Option R),LP (E44 dm) nn By [1,1,0,1,1,1,1,1,1,1,1,1,1,1,0,1,0,1,0,0] 10025 n (C3b a1 ac gw gx fF ab) K=A5N nn dm a1 ac n gw gx fF ab (λgw gx fF tU ab=>K (.exit 3) (D4m a1 ac gw gx fF tU ab))
 |0,_,_,_,_,_=>rfl
 |n+1,gw,gx,fF,ab,K=>by
  rw[A5N];simp only[<-B75 nn dm a1 ac n _ _ _ _ K];kernel_rfl
def A5A(nn:Nat)(dm:LitT->(Aa)->Af)(a1:LitT)(ac:Aa):Af:=bif(a1.kind==1)then(let r1:=F27 [[36],a1.text] ac;gd (okB [] kP r1) (some ([],[[.ptr 900000 C4,.sl .u8 (gP r1) (some 92000001)]])))else(let j2:Int->Bool->Af:=λz3 z4=>bif z4 then(let r5:=F27 [a1.text] ac;gd (okB [] kP r5) (some ([],[[.ptr 900000 C4,.sl .u8 (gP r5) (some 92000001)]])))else(bif(z3==6)then(let r6:=F27 [[110,117,108,108]] ac;gd (okB [] kP r6) (some ([],[[.ptr 900000 C4,.sl .u8 (gP r6) (some 92000001)]])))else(bif(z3==4)then(let r8:=F86 a1.block a1.text;gd (okR [.str] r8) (let r7:=F27 [(lS (gL r8 0))] ac;gd (okB [] kP r7) (some ([],[[.ptr 900000 C4,.sl .u8 (gP r7) (some 92000001)]]))))else(bif(z3==8)then(let fQ:=F27 [[91]] ac;gd (okB [] kP fQ) (A5W nn dm a1 ac nn a1.items (Aw a1.items:Int) 0 (gP fQ) (λz9 dH cF di dB=>let iu:=F27 [[93]] dB;gd (okB [] kP iu) (some ([],[[.ptr 900000 C4,.sl .u8 (gP iu) (some 92000001)]])))))else(bif(z3==9)then(let eR:=F27 [[123]] ac;gd (okB [] kP eR) (A5N nn dm a1 ac nn a1.fields (Aw a1.fields:Int) 0 (gP eR) (λfw gX gW fE z20=>let gr:=F27 [[125]] z20;gd (okB [] kP gr) (some ([],[[.ptr 900000 C4,.sl .u8 (gP gr) (some 92000001)]])))))else(some ([],[[.ptr 900000 C4,.sl .u8 ac (some 92000001)]]))))));bif(a1.kind==2)then(j2 a1.kind (a1.kind==2))else(bif(a1.kind==3)then(j2 a1.kind (a1.kind==3))else(bif(a1.kind==5)then(j2 a1.kind (a1.kind==5))else(j2 a1.kind (a1.kind==7)))))
def A4E(dm:LitT->(Aa)->Af)(a1:LitT)(ac:Aa):Af:=A5A NN dm a1 ac
theorem B4U(nn:Nat)(dm:LitT->(Aa)->Af){a1:LitT}{ac:Aa}:C8 (E44 dm) nn By [0] [.ptr 900000 0,.agg .lit a1] (B9 ac)=A5A nn dm a1 ac:=by
 have h:C8 (E44 dm) nn By [0] [.ptr 900000 0,.agg .lit a1] (B9 ac)=bif(a1.kind==1)then(let r1:=F27 [[36],a1.text] ac;gd (okB [] kP r1) (some ([],[[.ptr 900000 C4,.sl .u8 (gP r1) (some 92000001)]])))else(let j2:Int->Bool->Af:=λz3 z4=>bif z4 then(let r5:=F27 [a1.text] ac;gd (okB [] kP r5) (some ([],[[.ptr 900000 C4,.sl .u8 (gP r5) (some 92000001)]])))else(bif(z3==6)then(let r6:=F27 [[110,117,108,108]] ac;gd (okB [] kP r6) (some ([],[[.ptr 900000 C4,.sl .u8 (gP r6) (some 92000001)]])))else(bif(z3==4)then(let r8:=F86 a1.block a1.text;gd (okR [.str] r8) (let r7:=F27 [(lS (gL r8 0))] ac;gd (okB [] kP r7) (some ([],[[.ptr 900000 C4,.sl .u8 (gP r7) (some 92000001)]]))))else(bif(z3==8)then(let fQ:=F27 [[91]] ac;gd (okB [] kP fQ) (LP (E44 dm) nn By [1,1,0,1,1,1,1,1,1,1,1,1,0,1,0,1,0,0] 10016 nn (B9L a1 ac a1.items (Aw a1.items:Int) 0 (gP fQ)) (A5 1 (sk (E44 dm) nn By [1,1,0,1,1,1,1,1,1,1,1,1,0,1,1] (A5 0 (J3 (E44 dm) Tryz.f44.results.toList [0] (B9 ac)))))))else(bif(z3==9)then(let eR:=F27 [[123]] ac;gd (okB [] kP eR) (LP (E44 dm) nn By [1,1,0,1,1,1,1,1,1,1,1,1,1,1,0,1,0,1,0,0] 10025 nn (C3b a1 ac a1.fields (Aw a1.fields:Int) 0 (gP eR)) (A5 3 (sk (E44 dm) nn By [1,1,0,1,1,1,1,1,1,1,1,1,1,1,0,1,1] (A5 0 (J3 (E44 dm) Tryz.f44.results.toList [0] (B9 ac)))))))else(some ([],(B9 ac)))))));bif(a1.kind==2)then(j2 a1.kind (a1.kind==2))else(bif(a1.kind==3)then(j2 a1.kind (a1.kind==3))else(bif(a1.kind==5)then(j2 a1.kind (a1.kind==5))else(j2 a1.kind (a1.kind==7))))):=by kernel_rfl
 rw[h];simp only[C1X,B75];show _=_;kernel_rfl
def R44:Nat->LitT->(Aa)->Af
 |0,_,_=>none
 |d+1,a1,ac=>A4E (R44 d) a1 ac
def F44(a1:LitT)(ac:Aa):Af:=R44 DD a1 ac
def S44:S2T
 |[.ptr d0 o0,.agg .lit a1],[[.ptr p0 q0,.sl .u8 ac (some aQ)]]=>bif bq d0 o0&&pq p0 q0&&(Az aQ 92000001)then pB [] kP (F44 a1 ac)else none
 |_,_=>none
def A5u:Env Ty6 A4:=mkE [] [(27,S27),(44,S44),(101,A6P)] (lkD [(0,[6,7,1000105]),(1,[8,9,10,11,1000105]),(2,[1,1000105]),(3,[1000105]),(4,[15,16,17,18]),(5,[4,19,20,21]),(6,[22,23,24,25,26]),(7,[5,27,28,29,30,1000105]),(8,[31,1000105]),(9,[12,13,14,15,32,33,34,1000105]),(10003,[1000105])]) 35 [5] 1 [] []
def C3I(a1:List H0)(ac:Aa)(bv bB:Int)(ab:Aa):S6:=⟨[(0,.one (.ptr 900000 0)),(12,.one (.sl .arg a1 none)),(13,.one (.int .i64 bv)),(14,.one (.int .i64 bB)),zP ab],[900000,900000,92000001]⟩
def C8N(a1:List H0)(ac:Aa)(bv bB:Int)(cu:Bool)(ab:Aa):S6:=⟨[(0,.one (.ptr 900000 0)),(12,.one (.sl .arg a1 none)),(13,.one (.int .i64 bv)),(14,.one (.int .i64 bB)),(15,.one (.bool cu)),zP ab],[900000,900000,92000001]⟩
def B6g{R:Type}(nn:Nat)(a1:List H0)(ac:Aa)(bv bB:Int)(ab:Aa)(k1:Int->Int->(Aa)->Option R)(k2:Int->Int->Bool->(Aa)->Option R):Option R:=let z1:=decide (bB<bv);bif z1 then(match idx a1 bB with|none=>none|some y2=>(let z3:=y2.value.fields;let z4:=y2.value.pos.line;let z5:=y2.value.pos.col;let bY:=A1m bB ab;gd (okB [] kP bY) (let z6:=(gP bY);let r9:=F27 [y2.name,[58,32]] z6;gd (okB [] kP r9) (let z7:=(gP r9);let r8:=F44 (LitT.mk y2.value.kind y2.value.text y2.value.block y2.value.items z3 (⟨z4,z5⟩:A7)) z7;gd (okB [] kP r8) (k1 bv (Ax .i64 (bB+1)) (gP r8))))))else(k2 bv bB z1 ab)
def A2t{R:Type}(nn:Nat)(a1:List H0)(ac:Aa):Nat->Int->Int->(Aa)->(Int->Int->Bool->(Aa)->Option R)->Option R
 |0,_,_,_,_=>none
 |n+1,bv,bB,ab,k2=>B6g nn a1 ac bv bB ab (λbv bB ab=>A2t nn a1 ac n bv bB ab k2) k2
theorem C1D{R:Type}(nn:Nat)(a1:List H0)(ac:Aa):∀(n:Nat)(bv bB:Int)(ab:Aa)(K:Ex->S6->Option R),LP A5u nn Da [1,1,0,1,0,0] 10003 n (C3I a1 ac bv bB ab) K=A2t nn a1 ac n bv bB ab (λbv bB cu ab=>K (.exit 0) (C8N a1 ac bv bB cu ab))
 |0,_,_,_,_=>rfl
 |n+1,bv,bB,ab,K=>by
  rw[A2t];simp only[<-C1D nn a1 ac n _ _ _ K];kernel_rfl
def B60(nn:Nat)(a1:List H0)(ac:Aa):Af:=let z1:=(Aw a1:Int)==0;bif z1 then(some ([],[[.ptr 900000 C4,.sl .u8 ac (some 92000001)]]))else(let r7:=F27 [[40]] ac;gd (okB [] kP r7) (A2t nn a1 ac nn (Aw a1:Int) 0 (gP r7) (λz2 z3 z4 z5=>let r6:=F27 [[41]] z5;gd (okB [] kP r6) (some ([],[[.ptr 900000 C4,.sl .u8 (gP r6) (some 92000001)]])))))
def A8X(a1:List H0)(ac:Aa):Af:=B60 NN a1 ac
theorem C6c(nn:Nat){a1:List H0}{ac:Aa}:C8 A5u nn Da [0] [.ptr 900000 0,.sl .arg a1 none] (B9 ac)=B60 nn a1 ac:=by
 have h:C8 A5u nn Da [0] [.ptr 900000 0,.sl .arg a1 none] (B9 ac)=let z1:=(Aw a1:Int)==0;bif z1 then(some ([],(B9 ac)))else(let r7:=F27 [[40]] ac;gd (okB [] kP r7) (LP A5u nn Da [1,1,0,1,0,0] 10003 nn (C3I a1 ac (Aw a1:Int) 0 (gP r7)) (A5 0 (sk A5u nn Da [1,1,1] (J3 A5u Tryz.f142.results.toList [0] (B9 ac)))))):=by kernel_rfl
 rw[h];simp only[C1D];show _=_;kernel_rfl
def B1T:S2T
 |[.ptr d0 o0,.sl .arg a1 none],[[.ptr p0 q0,.sl .u8 ac (some aQ)]]=>bif bq d0 o0&&pq p0 q0&&(Az aQ 92000001)then pB [] kP (A8X a1 ac)else none
 |_,_=>none
def E68:Env Ty6 A4:=mkE [] [(27,S27),(142,B1T)] (lkD [(0,[1,1000105]),(1,[1000105]),(2,[9,10,11]),(3,[12,13,14,15,16]),(4,[5,17,18,19,20,1000105]),(5,[21,1000105]),(10001,[1000105])]) 22 [] 1 [] []
def C0e(a1:List D0)(ac:Aa)(x7 x8:Int)(ab:Aa):S6:=⟨[(0,.one (.ptr 900000 0)),(6,.one (.sl .dir a1 none)),(7,.one (.int .i64 x7)),(8,.one (.int .i64 x8)),zP ab],[900000,900000,92000001]⟩
def D3N(a1:List D0)(ac:Aa)(x7 x8:Int)(x9:Bool)(ab:Aa):S6:=⟨[(0,.one (.ptr 900000 0)),(6,.one (.sl .dir a1 none)),(7,.one (.int .i64 x7)),(8,.one (.int .i64 x8)),(9,.one (.bool x9)),zP ab],[900000,900000,92000001]⟩
def B40{R:Type}(nn:Nat)(a1:List D0)(ac:Aa)(x7 x8:Int)(ab:Aa)(k1:Int->Int->(Aa)->Option R)(k2:Int->Int->Bool->(Aa)->Option R):Option R:=let z1:=decide (x8<x7);bif z1 then(match idx a1 x8 with|none=>none|some y2=>(let r5:=F27 [[32,64],y2.name] ab;gd (okB [] kP r5) (let z3:=(gP r5);let r4:=A8X y2.args z3;gd (okB [] kP r4) (k1 x7 (Ax .i64 (x8+1)) (gP r4)))))else(k2 x7 x8 z1 ab)
def A2B{R:Type}(nn:Nat)(a1:List D0)(ac:Aa):Nat->Int->Int->(Aa)->(Int->Int->Bool->(Aa)->Option R)->Option R
 |0,_,_,_,_=>none
 |n+1,x7,x8,ab,k2=>B40 nn a1 ac x7 x8 ab (λx7 x8 ab=>A2B nn a1 ac n x7 x8 ab k2) k2
theorem C1x{R:Type}(nn:Nat)(a1:List D0)(ac:Aa):∀(n:Nat)(x7 x8:Int)(ab:Aa)(K:Ex->S6->Option R),LP E68 nn Dh [1,0,0] 10001 n (C0e a1 ac x7 x8 ab) K=A2B nn a1 ac n x7 x8 ab (λx7 x8 x9 ab=>K (.exit 0) (D3N a1 ac x7 x8 x9 ab))
 |0,_,_,_,_=>rfl
 |n+1,x7,x8,ab,K=>by
  rw[A2B];simp only[<-C1x nn a1 ac n _ _ _ K];kernel_rfl
def C0s(nn:Nat)(a1:List D0)(ac:Aa):Af:=A2B nn a1 ac nn (Aw a1:Int) 0 ac (λz1 z2 z3 z4=>some ([],[[.ptr 900000 C4,.sl .u8 z4 (some 92000001)]]))
def F68(a1:List D0)(ac:Aa):Af:=C0s NN a1 ac
theorem D2O(nn:Nat){a1:List D0}{ac:Aa}:C8 E68 nn Dh [0] [.ptr 900000 0,.sl .dir a1 none] (B9 ac)=C0s nn a1 ac:=by
 have h:C8 E68 nn Dh [0] [.ptr 900000 0,.sl .dir a1 none] (B9 ac)=LP E68 nn Dh [1,0,0] 10001 nn (C0e a1 ac (Aw a1:Int) 0 ac) (A5 0 (J3 E68 Tryz.f68.results.toList [0] (B9 ac))):=by kernel_rfl
 rw[h];simp only[C1x];show _=_;kernel_rfl
def S68:S2T
 |[.ptr d0 o0,.sl .dir a1 none],[[.ptr p0 q0,.sl .u8 ac (some aQ)]]=>bif bq d0 o0&&pq p0 q0&&(Az aQ 92000001)then pB [] kP (F68 a1 ac)else none
 |_,_=>none
def E66:Env Ty6 A4:=mkE [] [] noD 8 [] 0 [] []
def F66(a0:Int):Ad:=bif(a0==2)then(some (.one (.str [109,117,116,97,116,105,111,110])))else(bif(a0==3)then(some (.one (.str [115,117,98,115,99,114,105,112,116,105,111,110])))else(some (.one (.str [113,117,101,114,121]))))
theorem D1d{a0:Int}:A3 E66 NN Tryz.f66 [.int .i64 a0]=F66 a0:=by kernel_rfl
def S66:S1T
 |[.int .i64 a0]=>pR [.str] (F66 a0)
 |_=>none
def B7H:Env Ty6 A4:=mkE [(66,S66)] [(27,S27)] noD 14 [] 2 [] []
def B0v(a0:RdT)(a2:Int)(ac:Aa):Af:=gd (okR [.str] (F66 a0.op)) (let r1:=F27 [(lS (gL (F66 a0.op) 0)),[58,32],a0.type_] ac;gd (okB [] kP r1) (some ([],[[.ptr 900000 C4,.sl .u8 (gP r1) (some 92000001)]])))
theorem D30{a0:RdT}{a2:Int}{ac:Aa}:C8 B7H NN Tryz.f264 [1] [.agg .rd a0,.ptr 900000 0,.int .i64 a2] (B9 ac)=B0v a0 a2 ac:=by kernel_rfl
def B2Y:S2T
 |[.agg .rd a0,.ptr d0 o0,.int .i64 a2],[[.ptr p0 q0,.sl .u8 ac (some aQ)]]=>bif bq d0 o0&&pq p0 q0&&(Az aQ 92000001)then pB [] kP (B0v a0 a2 ac)else none
 |_,_=>none
def E18:Env Ty6 A4:=mkE [(47,S47),(48,S48)] [] noD 13 [] 0 [] []
def F18(a0:I4):Ad:=let r2:=F48 a0.wrap [93];gd (okR [.int .i64] r2) (let r1:=F47 [91] (lI (gL r2 0));gd (okR [.str] r1) (gd (decide (Aw (lS (gL r1 0))+Aw a0.name<=9223372036854775807)) (gd (decide (Aw ((lS (gL r1 0))++a0.name)+Aw a0.wrap<=9223372036854775807)) (some (.one (.str (((lS (gL r1 0))++a0.name)++a0.wrap)))))))
theorem D1y{a0:I4}:A3 E18 NN Tryz.f18 [.agg .tref a0]=F18 a0:=by kernel_rfl
def S18:S1T
 |[.agg .tref a0]=>pR [.str] (F18 a0)
 |_=>none
def C1o:Env Ty6 A4:=mkE [] [(27,S27),(44,S44)] noD 13 [] 1 [] []
def A7p(a1:Bool)(a2:LitT)(ac:Aa):Af:=bif a1 then(let r2:=F27 [[32,61,32]] ac;gd (okB [] kP r2) (let z1:=(gP r2);gd (okB [] kP (F44 a2 z1)) (some ([],[[.ptr 900000 C4,.sl .u8 (gP (F44 a2 z1)) (some 92000001)]]))))else(some ([],[[.ptr 900000 C4,.sl .u8 ac (some 92000001)]]))
theorem C5Q{a1:Bool}{a2:LitT}{ac:Aa}:C8 C1o NN Tryz.f141 [0] [.ptr 900000 0,.bool a1,.agg .lit a2] (B9 ac)=A7p a1 a2 ac:=by kernel_rfl
def B6d:S2T
 |[.ptr d0 o0,.bool a1,.agg .lit a2],[[.ptr p0 q0,.sl .u8 ac (some aQ)]]=>bif bq d0 o0&&pq p0 q0&&(Az aQ 92000001)then pB [] kP (A7p a1 a2 ac)else none
 |_,_=>none
def B8m:Env Ty6 A4:=mkE [(18,S18)] [(27,S27),(68,S68),(141,B6d)] noD 22 [] 1 [] []
def A1K(a1:IvT)(ac:Aa):Af:=let r6:=F18 a1.type_;gd (okR [.str] r6) (let r5:=F27 [a1.name,[58,32],(lS (gL r6 0))] ac;gd (okB [] kP r5) (let z1:=(gP r5);let r4:=A7p a1.hasDefault (LitT.mk a1.dflt.kind a1.dflt.text a1.dflt.block a1.dflt.items a1.dflt.fields a1.dflt.pos) z1;gd (okB [] kP r4) (let z2:=(gP r4);let r3:=F68 a1.dirs z2;gd (okB [] kP r3) (some ([],[[.ptr 900000 C4,.sl .u8 (gP r3) (some 92000001)]])))))
theorem D7Z{a1:IvT}{ac:Aa}:C8 B8m NN Tryz.f157 [0] [.ptr 900000 0,.agg .iv a1] (B9 ac)=A1K a1 ac:=by kernel_rfl
def B1g:S2T
 |[.ptr d0 o0,.agg .iv a1],[[.ptr p0 q0,.sl .u8 ac (some aQ)]]=>bif bq d0 o0&&pq p0 q0&&(Az aQ 92000001)then pB [] kP (A1K a1 ac)else none
 |_,_=>none
def E88:Env Ty6 A4:=mkE [] [(27,S27),(37,S37),(101,A6P),(157,B1g)] (lkD [(0,[6,7,1000105]),(1,[8,9,10,11,1000105]),(2,[1,1000105]),(3,[1000105]),(4,[15,16,17,18]),(5,[4,19,20,21]),(6,[22,23,24,25]),(7,[5,26,27,28,1000105]),(8,[29,1000105]),(9,[12,13,14,15,30,31,32,1000105]),(10003,[1000105])]) 33 [5] 1 [] []
def C4t(a1:List IvT)(ac:Aa)(bv bB:Int)(ab:Aa):S6:=⟨[(0,.one (.ptr 900000 0)),(12,.one (.sl .iv a1 none)),(13,.one (.int .i64 bv)),(14,.one (.int .i64 bB)),zP ab],[900000,900000,92000001]⟩
def D6m(a1:List IvT)(ac:Aa)(bv bB:Int)(cu:Bool)(ab:Aa):S6:=⟨[(0,.one (.ptr 900000 0)),(12,.one (.sl .iv a1 none)),(13,.one (.int .i64 bv)),(14,.one (.int .i64 bB)),(15,.one (.bool cu)),zP ab],[900000,900000,92000001]⟩
def B6H{R:Type}(nn:Nat)(a1:List IvT)(ac:Aa)(bv bB:Int)(ab:Aa)(k1:Int->Int->(Aa)->Option R)(k2:Int->Int->Bool->(Aa)->Option R):Option R:=let z1:=decide (bB<bv);bif z1 then(match idx a1 bB with|none=>none|some y2=>(let z3:=y2.dflt.pos.line;let z4:=y2.dflt.pos.col;let r9:=A1m bB ab;gd (okB [] kP r9) (let z5:=(gP r9);let r8:=F37 (⟨y2.note.has,y2.note.block,y2.note.text⟩:G3) [32] z5;gd (okB [] kP r8) (let z6:=(gP r8);let r7:=A1K (⟨(⟨y2.note.has,y2.note.block,y2.note.text⟩:G3),y2.name,(⟨y2.type_.name,y2.type_.wrap⟩:I4),y2.hasDefault,(LitT.mk y2.dflt.kind y2.dflt.text y2.dflt.block y2.dflt.items y2.dflt.fields (⟨z3,z4⟩:A7)),y2.dirs,(⟨y2.pos.line,y2.pos.col⟩:A7)⟩:IvT) z6;gd (okB [] kP r7) (k1 bv (Ax .i64 (bB+1)) (gP r7))))))else(k2 bv bB z1 ab)
def A2O{R:Type}(nn:Nat)(a1:List IvT)(ac:Aa):Nat->Int->Int->(Aa)->(Int->Int->Bool->(Aa)->Option R)->Option R
 |0,_,_,_,_=>none
 |n+1,bv,bB,ab,k2=>B6H nn a1 ac bv bB ab (λbv bB ab=>A2O nn a1 ac n bv bB ab k2) k2
theorem B8g{R:Type}(nn:Nat)(a1:List IvT)(ac:Aa):∀(n:Nat)(bv bB:Int)(ab:Aa)(K:Ex->S6->Option R),LP E88 nn Ch [1,1,0,1,0,0] 10003 n (C4t a1 ac bv bB ab) K=A2O nn a1 ac n bv bB ab (λbv bB cu ab=>K (.exit 0) (D6m a1 ac bv bB cu ab))
 |0,_,_,_,_=>rfl
 |n+1,bv,bB,ab,K=>by
  rw[A2O];simp only[<-B8g nn a1 ac n _ _ _ K];kernel_rfl
def B3I(nn:Nat)(a1:List IvT)(ac:Aa):Af:=let z1:=(Aw a1:Int)==0;bif z1 then(some ([],[[.ptr 900000 C4,.sl .u8 ac (some 92000001)]]))else(let r7:=F27 [[40]] ac;gd (okB [] kP r7) (A2O nn a1 ac nn (Aw a1:Int) 0 (gP r7) (λz2 z3 z4 z5=>let r6:=F27 [[41]] z5;gd (okB [] kP r6) (some ([],[[.ptr 900000 C4,.sl .u8 (gP r6) (some 92000001)]])))))
def F88(a1:List IvT)(ac:Aa):Af:=B3I NN a1 ac
theorem D5T(nn:Nat){a1:List IvT}{ac:Aa}:C8 E88 nn Ch [0] [.ptr 900000 0,.sl .iv a1 none] (B9 ac)=B3I nn a1 ac:=by
 have h:C8 E88 nn Ch [0] [.ptr 900000 0,.sl .iv a1 none] (B9 ac)=let z1:=(Aw a1:Int)==0;bif z1 then(some ([],(B9 ac)))else(let r7:=F27 [[40]] ac;gd (okB [] kP r7) (LP E88 nn Ch [1,1,0,1,0,0] 10003 nn (C4t a1 ac (Aw a1:Int) 0 (gP r7)) (A5 0 (sk E88 nn Ch [1,1,1] (J3 E88 Tryz.f88.results.toList [0] (B9 ac)))))):=by kernel_rfl
 rw[h];simp only[B8g];show _=_;kernel_rfl
def S88:S2T
 |[.ptr d0 o0,.sl .iv a1 none],[[.ptr p0 q0,.sl .u8 ac (some aQ)]]=>bif bq d0 o0&&pq p0 q0&&(Az aQ 92000001)then pB [] kP (F88 a1 ac)else none
 |_,_=>none
def C5k:Env Ty6 A4:=mkE [] [(37,S37),(139,B2f)] noD 14 [] 1 [] []
def A4k(a1:G3)(a2:Int)(ac:Aa):Af:=bif a1.has then(let r2:=F37 a1 [10] ac;gd (okB [] kP r2) (let z1:=(gP r2);gd (okB [] kP (A1b a2 z1)) (some ([],[[.ptr 900000 C4,.sl .u8 (gP (A1b a2 z1)) (some 92000001)]]))))else(some ([],[[.ptr 900000 C4,.sl .u8 ac (some 92000001)]]))
theorem D64{a1:G3}{a2:Int}{ac:Aa}:C8 C5k NN Tryz.f266 [0] [.ptr 900000 0,.agg .note a1,.int .i64 a2] (B9 ac)=A4k a1 a2 ac:=by kernel_rfl
def A8r:S2T
 |[.ptr d0 o0,.agg .note a1,.int .i64 a2],[[.ptr p0 q0,.sl .u8 ac (some aQ)]]=>bif bq d0 o0&&pq p0 q0&&(Az aQ 92000001)then pB [] kP (A4k a1 a2 ac)else none
 |_,_=>none
def B71:Env Ty6 A4:=mkE [(18,S18)] [(27,S27),(68,S68),(88,S88),(266,A8r)] noD 30 [] 2 [] []
def A9n(a0:FdT)(a2:Int)(ac:Aa):Af:=let bY:=A4k a0.note a2 ac;gd (okB [] kP bY) (let z1:=(gP bY);let r9:=F27 [a0.name] z1;gd (okB [] kP r9) (let z2:=(gP r9);let r8:=F88 a0.args z2;gd (okB [] kP r8) (let z3:=(gP r8);let r7:=F18 a0.type_;gd (okR [.str] r7) (let r6:=F27 [[58,32],(lS (gL r7 0))] z3;gd (okB [] kP r6) (let z4:=(gP r6);let r5:=F68 a0.dirs z4;gd (okB [] kP r5) (some ([],[[.ptr 900000 C4,.sl .u8 (gP r5) (some 92000001)]])))))))
theorem C78{a0:FdT}{a2:Int}{ac:Aa}:C8 B71 NN Tryz.f265 [1] [.agg .fd a0,.ptr 900000 0,.int .i64 a2] (B9 ac)=A9n a0 a2 ac:=by kernel_rfl
def B4q:S2T
 |[.agg .fd a0,.ptr d0 o0,.int .i64 a2],[[.ptr p0 q0,.sl .u8 ac (some aQ)]]=>bif bq d0 o0&&pq p0 q0&&(Az aQ 92000001)then pB [] kP (A9n a0 a2 ac)else none
 |_,_=>none
def C05:Env Ty6 A4:=mkE [] [(27,S27),(68,S68),(266,A8r)] noD 20 [] 2 [] []
def B2l(a0:P0)(a2:Int)(ac:Aa):Af:=let r5:=A4k a0.note a2 ac;gd (okB [] kP r5) (let z1:=(gP r5);let r4:=F27 [a0.name] z1;gd (okB [] kP r4) (let z2:=(gP r4);let r3:=F68 a0.dirs z2;gd (okB [] kP r3) (some ([],[[.ptr 900000 C4,.sl .u8 (gP r3) (some 92000001)]]))))
theorem D50{a0:P0}{a2:Int}{ac:Aa}:C8 C05 NN Tryz.f267 [1] [.agg .vald a0,.ptr 900000 0,.int .i64 a2] (B9 ac)=B2l a0 a2 ac:=by kernel_rfl
def B6c:S2T
 |[.agg .vald a0,.ptr d0 o0,.int .i64 a2],[[.ptr p0 q0,.sl .u8 ac (some aQ)]]=>bif bq d0 o0&&pq p0 q0&&(Az aQ 92000001)then pB [] kP (B2l a0 a2 ac)else none
 |_,_=>none
def B7U:Env Ty6 A4:=mkE [] [(157,B1g),(266,A8r)] noD 14 [] 2 [] []
def B0q(a0:IvT)(a2:Int)(ac:Aa):Af:=let r2:=A4k a0.note a2 ac;gd (okB [] kP r2) (let z1:=(gP r2);gd (okB [] kP (A1K a0 z1)) (some ([],[[.ptr 900000 C4,.sl .u8 (gP (A1K a0 z1)) (some 92000001)]])))
theorem D24{a0:IvT}{a2:Int}{ac:Aa}:C8 B7U NN Tryz.f268 [1] [.agg .iv a0,.ptr 900000 0,.int .i64 a2] (B9 ac)=B0q a0 a2 ac:=by kernel_rfl
def B3m:S2T
 |[.agg .iv a0,.ptr d0 o0,.int .i64 a2],[[.ptr p0 q0,.sl .u8 ac (some aQ)]]=>bif bq d0 o0&&pq p0 q0&&(Az aQ 92000001)then pB [] kP (B0q a0 a2 ac)else none
 |_,_=>none
def B17(g:(Al)->Int->(Aa)->Af):S2T
 |[.ptr d0 o0,.sl .part a1 none,.int .i64 a2],[[.ptr p0 q0,.sl .u8 ac (some aQ)]]=>bif bq d0 o0&&pq p0 q0&&(Az aQ 92000001)then pB [] kP (g a1 a2 ac)else none
 |_,_=>none
def B0W(g:SelT->Int->(Aa)->Af):S2T
 |[.agg .sel a0,.ptr d0 o0,.int .i64 a2],[[.ptr p0 q0,.sl .u8 ac (some aQ)]]=>bif bq d0 o0&&pq p0 q0&&(Az aQ 92000001)then pB [] kP (g a0 a2 ac)else none
 |_,_=>none
def FI(bC:SelT->Int->Aa->Af)(x:PartT)(lv:Int)(b:Aa):Af:=
 match x with
 | .sel s=>bC s lv b
 | .root r=>B0v r lv b
 | .field f=>A9n f lv b
 | .value v=>B2l v lv b
 | .input i=>B0q i lv b
def TI(bC:SelT->Int->Aa->Af):String->Ae->Ao->Option (Bool×Ae×Ao):=λnm ls cs=>
 match ls,cs with
 |[.one1 .part x,.ptr d0 o0,.int .i64 a2],[[.ptr p0 q0,.sl .u8 ac (some aQ)]]=>
  bif decide (nm= "pergola/printer.print")&&((Az d0 900000&&Az o0 0)&&((Az p0 900000&&Az q0 C4)&&Az aQ 92000001))then
   some (okB [] [[.ptr 900000 C4,.sl .u8 (some 92000001)]] (FI bC x a2 ac),rsR [] (FI bC x a2 ac),csR [[.ptr 900000 C4,.sl .u8 (some 92000001)]] (FI bC x a2 ac))else none
 |_,_=>none
def biI:String->Aj:=λ_=>[1]
def E63(dV:(Al)->Int->(Aa)->Af)(bC:SelT->Int->(Aa)->Af):Env Ty6 A4:={mkE [] [(27,S27),(139,B2f)] (lkD [(0,[8,9]),(1,[10,11,12,13]),(2,[1]),(4,[17,18,19]),(5,[20,21,22,23]),(6,[7,24,25,26,27,28]),(7,[29,30,31]),(8,[32]),(9,[2,14,15,16,17,33,34,35]),(10,[36,37,38])]) 39 [] 1 [] []with TIg:=TI bC,bi:=biI}
def B7L(a1:Al)(a2:Int)(ac:Aa)(cu dU:Int)(ab:Aa):S6:=⟨[(0,.one (.ptr 900000 0)),(2,.one (.int .i64 a2)),(14,.one (.sl .part a1 none)),(15,.one (.int .i64 cu)),(16,.one (.int .i64 dU)),zP ab],[900000,900000,92000001]⟩
def D6c(a1:Al)(a2:Int)(ac:Aa)(cu dU:Int)(nQ:Bool)(ab:Aa):S6:=⟨[(0,.one (.ptr 900000 0)),(2,.one (.int .i64 a2)),(14,.one (.sl .part a1 none)),(15,.one (.int .i64 cu)),(16,.one (.int .i64 dU)),(17,.one (.bool nQ)),zP ab],[900000,900000,92000001]⟩
def B5E{R:Type}(nn:Nat)(dV:(Al)->Int->(Aa)->Af)(bC:SelT->Int->(Aa)->Af)(a1:Al)(a2:Int)(ac:Aa)(cu dU:Int)(ab:Aa)(k1:Int->Int->(Aa)->Option R)(k2:Int->Int->Bool->(Aa)->Option R):Option R:=let z1:=decide (dU<cu);bif z1 then(match idx a1 dU with|none=>none|some y2=>(let r7:=A1b (Ax .i64 (a2+1)) ab;gd (okB [] kP r7) (let z3:=(gP r7);let r6:=FI bC y2 (Ax .i64 (a2+1)) z3;gd (okB [] kP r6) (let z4:=(gP r6);let r5:=F27 [[10]] z4;gd (okB [] kP r5) (k1 cu (Ax .i64 (dU+1)) (gP r5))))))else(k2 cu dU z1 ab)
def A2p{R:Type}(nn:Nat)(dV:(Al)->Int->(Aa)->Af)(bC:SelT->Int->(Aa)->Af)(a1:Al)(a2:Int)(ac:Aa):Nat->Int->Int->(Aa)->(Int->Int->Bool->(Aa)->Option R)->Option R
 |0,_,_,_,_=>none
 |n+1,cu,dU,ab,k2=>B5E nn dV bC a1 a2 ac cu dU ab (λcu dU ab=>A2p nn dV bC a1 a2 ac n cu dU ab k2) k2
theorem C4J{R:Type}(nn:Nat)(dV:(Al)->Int->(Aa)->Af)(bC:SelT->Int->(Aa)->Af)(a1:Al)(a2:Int)(ac:Aa):∀(n:Nat)(cu dU:Int)(ab:Aa)(K:Ex->S6->Option R),LP (E63 dV bC) nn Co [1,1,0,1,0,0] 10003 n (B7L a1 a2 ac cu dU ab) K=A2p nn dV bC a1 a2 ac n cu dU ab (λcu dU nQ ab=>K (.exit 0) (D6c a1 a2 ac cu dU nQ ab))
 |0,_,_,_,_=>rfl
 |n+1,cu,dU,ab,K=>by
  rw[A2p];simp only[<-C4J nn dV bC a1 a2 ac n _ _ _ K];kernel_rfl
def B5D(nn:Nat)(dV:(Al)->Int->(Aa)->Af)(bC:SelT->Int->(Aa)->Af)(a1:Al)(a2:Int)(ac:Aa):Af:=let z1:=(Aw a1:Int)==0;bif z1 then(some ([],[[.ptr 900000 C4,.sl .u8 ac (some 92000001)]]))else(let r8:=F27 [[32,123,10]] ac;gd (okB [] kP r8) (A2p nn dV bC a1 a2 ac nn (Aw a1:Int) 0 (gP r8) (λz2 z3 z4 z5=>gd (okB [] kP (A1b a2 z5)) (let z6:=(gP (A1b a2 z5));let r7:=F27 [[125]] z6;gd (okB [] kP r7) (some ([],[[.ptr 900000 C4,.sl .u8 (gP r7) (some 92000001)]]))))))
def B5s(dV:(Al)->Int->(Aa)->Af)(bC:SelT->Int->(Aa)->Af)(a1:Al)(a2:Int)(ac:Aa):Af:=B5D NN dV bC a1 a2 ac
theorem D4X(nn:Nat)(dV:(Al)->Int->(Aa)->Af)(bC:SelT->Int->(Aa)->Af){a1:Al}{a2:Int}{ac:Aa}:C8 (E63 dV bC) nn Co [0] [.ptr 900000 0,.sl .part a1 none,.int .i64 a2] (B9 ac)=B5D nn dV bC a1 a2 ac:=by
 have h:C8 (E63 dV bC) nn Co [0] [.ptr 900000 0,.sl .part a1 none,.int .i64 a2] (B9 ac)=let z1:=(Aw a1:Int)==0;bif z1 then(some ([],(B9 ac)))else(let r8:=F27 [[32,123,10]] ac;gd (okB [] kP r8) (LP (E63 dV bC) nn Co [1,1,0,1,0,0] 10003 nn (B7L a1 a2 ac (Aw a1:Int) 0 (gP r8)) (A5 0 (sk (E63 dV bC) nn Co [1,1,1] (J3 (E63 dV bC) Tryz.f63.results.toList [0] (B9 ac)))))):=by kernel_rfl
 rw[h];simp only[C4J];show _=_;kernel_rfl
def B7i(dV:(Al)->Int->(Aa)->Af)(bC:SelT->Int->(Aa)->Af):Env Ty6 A4:=mkE [(64,S64)] [(27,S27),(63,B17 dV),(68,S68),(142,B1T)] noD 60 [] 2 [] []
def C27(dV:(Al)->Int->(Aa)->Af)(bC:SelT->Int->(Aa)->Af)(a0:SelT)(a2:Int)(ac:Aa):Af:=let j1:(Aa)->Af:=λz2=>let r6:=F68 a0.dirs z2;gd (okB [] kP r6) (let z3:=(gP r6);bif(a0.kind !=2)then(let r5:=F64 a0.sels;gd (okR [.sl .part (some 1)] r5) (let r4:=dV (B5e (gL r5 0)) a2 z3;gd (okB [] kP r4) (some ([],[[.ptr 900000 C4,.sl .u8 (gP r4) (some 92000001)]]))))else(some ([],[[.ptr 900000 C4,.sl .u8 z3 (some 92000001)]])));bif(a0.kind==1)then(let j7:(Aa)->Af:=λz8=>let dI:=F27 [a0.name] z8;gd (okB [] kP dI) (let z9:=(gP dI);let bY:=A8X a0.args z9;gd (okB [] kP bY) (j1 (gP bY)));bif(!(a0.alias_==[]))then(let fv:=F27 [a0.alias_,[58,32]] ac;gd (okB [] kP fv) (j7 (gP fv)))else(j7 ac))else(bif(a0.kind==2)then(let dJ:=F27 [[46,46,46],a0.name] ac;gd (okB [] kP dJ) (j1 (gP dJ)))else(bif(a0.kind==3)then(let ky:=F27 [[46,46,46]] ac;gd (okB [] kP ky) (let dj:=(gP ky);bif(!(a0.on_==[]))then(let fQ:=F27 [[32,111,110,32],a0.on_] dj;gd (okB [] kP fQ) (j1 (gP fQ)))else(j1 dj)))else(j1 ac)))
theorem C8H(dV:(Al)->Int->(Aa)->Af)(bC:SelT->Int->(Aa)->Af){a0:SelT}{a2:Int}{ac:Aa}:C8 (B7i dV bC) NN Tryz.f263 [1] [.agg .sel a0,.ptr 900000 0,.int .i64 a2] (B9 ac)=C27 dV bC a0 a2 ac:=by kernel_rfl
def S8:Nat->((Al)->Int->(Aa)->Af)×(SelT->Int->(Aa)->Af)
 |0=>(λ_ _ _=>none,λ_ _ _=>none)
 |d+1=>(B5s (S8 d).1 (S8 d).2,C27 (S8 d).1 (S8 d).2)
def F63(a1:Al)(a2:Int)(ac:Aa):Af:=(S8 DD).1 a1 a2 ac
def S63:S2T
 |[.ptr d0 o0,.sl .part a1 none,.int .i64 a2],[[.ptr p0 q0,.sl .u8 ac (some aQ)]]=>bif bq d0 o0&&pq p0 q0&&(Az aQ 92000001)then pB [] kP (F63 a1 a2 ac)else none
 |_,_=>none
def E87:Env Ty6 A4:=mkE [] [(27,S27)] (lkD [(0,[1,1000107]),(1,[1000107]),(2,[11,12,13,14]),(3,[6,15]),(4,[16,17,18,19,20]),(5,[7,16,21,22,23,24,25,1000107]),(6,[26,1000107]),(10001,[1000107])]) 27 [7] 1 [] []
def C48(a1:List E2)(a2:Ab)(ac:Aa)(x9 aC:Int)(ab:Aa):S6:=⟨[(0,.one (.ptr 900000 0)),(2,.one (.str a2)),(8,.one (.sl .named a1 none)),(9,.one (.int .i64 x9)),(10,.one (.int .i64 aC)),zP ab],[900000,900000,92000001]⟩
def D0C(a1:List E2)(a2:Ab)(ac:Aa)(x9 aC:Int)(cM:Bool)(ab:Aa):S6:=⟨[(0,.one (.ptr 900000 0)),(2,.one (.str a2)),(8,.one (.sl .named a1 none)),(9,.one (.int .i64 x9)),(10,.one (.int .i64 aC)),(11,.one (.bool cM)),zP ab],[900000,900000,92000001]⟩
def B0N{R:Type}(nn:Nat)(a1:List E2)(a2:Ab)(ac:Aa)(x9 aC:Int)(ab:Aa)(k1:Int->Int->(Aa)->Option R)(k2:Int->Int->Bool->(Aa)->Option R):Option R:=let z1:=decide (aC<x9);bif z1 then(let j2:Int->Int->(Aa)->Option R:=λz3 z4 z5=>k1 z3 (Ax .i64 (z4+1)) z5;match idx a1 aC with|none=>none|some y6=>(let z7:=decide (aC>0);bif z7 then(let bY:=F27 [[32],a2,[32]] ab;gd (okB [] kP bY) (let z8:=(gP bY);let r9:=F27 [y6.name] z8;gd (okB [] kP r9) (j2 x9 aC (gP r9))))else(let dI:=F27 [y6.name] ab;gd (okB [] kP dI) (j2 x9 aC (gP dI)))))else(k2 x9 aC z1 ab)
def A24{R:Type}(nn:Nat)(a1:List E2)(a2:Ab)(ac:Aa):Nat->Int->Int->(Aa)->(Int->Int->Bool->(Aa)->Option R)->Option R
 |0,_,_,_,_=>none
 |n+1,x9,aC,ab,k2=>B0N nn a1 a2 ac x9 aC ab (λx9 aC ab=>A24 nn a1 a2 ac n x9 aC ab k2) k2
theorem B7u{R:Type}(nn:Nat)(a1:List E2)(a2:Ab)(ac:Aa):∀(n:Nat)(x9 aC:Int)(ab:Aa)(K:Ex->S6->Option R),LP E87 nn Df [1,0,0] 10001 n (C48 a1 a2 ac x9 aC ab) K=A24 nn a1 a2 ac n x9 aC ab (λx9 aC cM ab=>K (.exit 0) (D0C a1 a2 ac x9 aC cM ab))
 |0,_,_,_,_=>rfl
 |n+1,x9,aC,ab,K=>by
  rw[A24];simp only[<-B7u nn a1 a2 ac n _ _ _ K];kernel_rfl
def C2e(nn:Nat)(a1:List E2)(a2:Ab)(ac:Aa):Af:=A24 nn a1 a2 ac nn (Aw a1:Int) 0 ac (λz1 z2 z3 z4=>some ([],[[.ptr 900000 C4,.sl .u8 z4 (some 92000001)]]))
def F87(a1:List E2)(a2:Ab)(ac:Aa):Af:=C2e NN a1 a2 ac
theorem D3f(nn:Nat){a1:List E2}{a2:Ab}{ac:Aa}:C8 E87 nn Df [0] [.ptr 900000 0,.sl .named a1 none,.str a2] (B9 ac)=C2e nn a1 a2 ac:=by
 have h:C8 E87 nn Df [0] [.ptr 900000 0,.sl .named a1 none,.str a2] (B9 ac)=LP E87 nn Df [1,0,0] 10001 nn (C48 a1 a2 ac (Aw a1:Int) 0 ac) (A5 0 (J3 E87 Tryz.f87.results.toList [0] (B9 ac))):=by kernel_rfl
 rw[h];simp only[B7u];show _=_;kernel_rfl
def S87:S2T
 |[.ptr d0 o0,.sl .named a1 none,.str a2],[[.ptr p0 q0,.sl .u8 ac (some aQ)]]=>bif bq d0 o0&&pq p0 q0&&(Az aQ 92000001)then pB [] kP (F87 a1 a2 ac)else none
 |_,_=>none
def E89:Env Ty6 A4:=mkE [] [] (lkD [(0,[0,2,1000105,1000107,1000109,1000111]),(1,[1000105,1000107,1000109,1000111]),(2,[12,1000105,1000107,1000109,1000111]),(3,[1000105,1000107,1000109,1000111]),(4,[16,17,18,1000107,1000109,1000111]),(5,[5,19,20,21,22,23,1000105,1000107,1000109,1000111]),(6,[24,1000105,1000107,1000109,1000111]),(7,[13,14,15,16,25,1000105,1000107,1000109,1000111]),(8,[1000105,1000107,1000109,1000111]),(9,[29,30,31,1000105,1000109,1000111]),(10,[7,32,33,34,35,36,1000105,1000107,1000109,1000111]),(11,[37,1000105,1000107,1000109,1000111]),(12,[26,27,28,29,38,1000105,1000107,1000109,1000111]),(13,[1000105,1000107,1000109,1000111]),(14,[42,43,44,1000105,1000107,1000111]),(15,[9,45,46,47,48,49,1000105,1000107,1000109,1000111]),(16,[50,1000105,1000107,1000109,1000111]),(17,[39,40,41,42,51,52,1000105,1000107,1000109,1000111]),(18,[1,53,54,1000101,1000105,1000107,1000109,1000111]),(19,[1000101,1000105,1000107,1000109,1000111]),(20,[58,59,60,1000101,1000105,1000107,1000109]),(21,[11,61,62,63,64,65,1000101,1000105,1000107,1000109,1000111]),(22,[66,1000101,1000105,1000107,1000109,1000111]),(23,[1,3,53,55,56,57,58,67,1000101,1000105,1000107,1000109,1000111]),(10003,[1000105,1000107,1000109,1000111]),(10008,[1000105,1000107,1000109,1000111]),(10013,[1000105,1000107,1000109,1000111]),(10019,[1000101,1000105,1000107,1000109,1000111])]) 68 [] 0 [] []
def C2r(a0:A6)(x3:Al)(bv:List RdT)(bB cu:Int):S6:=⟨[(1,.one (.elem .sys a0 0)),(3,.one (.sl .part x3 (some 103))),(13,.one (.sl .rd bv none)),(14,.one (.int .i64 bB)),(15,.one (.int .i64 cu))],[103]⟩
def C3w(a0:A6)(x3:Al)(bv:List RdT)(bB cu:Int)(dU:Bool):S6:=⟨[(1,.one (.elem .sys a0 0)),(3,.one (.sl .part x3 (some 103))),(13,.one (.sl .rd bv none)),(14,.one (.int .i64 bB)),(15,.one (.int .i64 cu)),(16,.one (.bool dU))],[103]⟩
def B8o(a0:A6)(x3:Al)(dA:List FdT)(dQ fR:Int):S6:=⟨[(1,.one (.elem .sys a0 0)),(3,.one (.sl .part x3 (some 103))),(26,.one (.sl .fd dA none)),(27,.one (.int .i64 dQ)),(28,.one (.int .i64 fR))],[103]⟩
def B98(a0:A6)(x3:Al)(dA:List FdT)(dQ fR:Int)(qk:Bool):S6:=⟨[(1,.one (.elem .sys a0 0)),(3,.one (.sl .part x3 (some 103))),(26,.one (.sl .fd dA none)),(27,.one (.int .i64 dQ)),(28,.one (.int .i64 fR)),(29,.one (.bool qk))],[103]⟩
def C1V(a0:A6)(x3:Al)(gy:List P0)(eP eW:Int):S6:=⟨[(1,.one (.elem .sys a0 0)),(3,.one (.sl .part x3 (some 103))),(39,.one (.sl .vald gy none)),(40,.one (.int .i64 eP)),(41,.one (.int .i64 eW))],[103]⟩
def C2n(a0:A6)(x3:Al)(gy:List P0)(eP eW:Int)(tV:Bool):S6:=⟨[(1,.one (.elem .sys a0 0)),(3,.one (.sl .part x3 (some 103))),(39,.one (.sl .vald gy none)),(40,.one (.int .i64 eP)),(41,.one (.int .i64 eW)),(42,.one (.bool tV))],[103]⟩
def C1b(a0:A6)(x3:Al)(gz:List IvT)(gA fS:Int):S6:=⟨[(3,.one (.sl .part x3 (some 103))),(55,.one (.sl .iv gz none)),(56,.one (.int .i64 gA)),(57,.one (.int .i64 fS))],[103]⟩
def D60(a0:A6)(x3:Al)(gz:List IvT)(gA fS:Int)(tW:Bool):S6:=⟨[(3,.one (.sl .part x3 (some 103))),(55,.one (.sl .iv gz none)),(56,.one (.int .i64 gA)),(57,.one (.int .i64 fS)),(58,.one (.bool tW))],[103]⟩
def B33{R:Type}(nn:Nat)(a0:A6)(x3:Al)(bv:List RdT)(bB cu:Int)(k1:(Al)->(List RdT)->Int->Int->Option R)(k2:(Al)->(List RdT)->Int->Int->Bool->Option R):Option R:=let z1:=decide (cu<bB);bif z1 then(match idx bv cu with|none=>none|some y2=>(gd (A2 (Aw x3+1) 16) (k1 (x3++[PartT.root y2]) bv bB (Ax .i64 (cu+1)))))else(k2 x3 bv bB cu z1)
def A32{R:Type}(nn:Nat)(a0:A6):Nat->(Al)->(List RdT)->Int->Int->((Al)->(List RdT)->Int->Int->Bool->Option R)->Option R
 |0,_,_,_,_,_=>none
 |n+1,x3,bv,bB,cu,k2=>B33 nn a0 x3 bv bB cu (λx3 bv bB cu=>A32 nn a0 n x3 bv bB cu k2) k2
theorem B81{R:Type}(nn:Nat)(a0:A6):∀(n:Nat)(x3:Al)(bv:List RdT)(bB cu:Int)(K:Ex->S6->Option R),LP E89 nn Be [1,1,0,1,0,0] 10003 n (C2r a0 x3 bv bB cu) K=A32 nn a0 n x3 bv bB cu (λx3 bv bB cu dU=>K (.exit 0) (C3w a0 x3 bv bB cu dU))
 |0,_,_,_,_,_=>rfl
 |n+1,x3,bv,bB,cu,K=>by
  rw[A32];simp only[<-B81 nn a0 n _ _ _ _ K];kernel_rfl
def B43{R:Type}(nn:Nat)(a0:A6)(x3:Al)(dA:List FdT)(dQ fR:Int)(k1:(Al)->(List FdT)->Int->Int->Option R)(k2:(Al)->(List FdT)->Int->Int->Bool->Option R):Option R:=let z1:=decide (fR<dQ);bif z1 then(match idx dA fR with|none=>none|some y2=>(gd (A2 (Aw x3+1) 16) (k1 (x3++[PartT.field y2]) dA dQ (Ax .i64 (fR+1)))))else(k2 x3 dA dQ fR z1)
def A35{R:Type}(nn:Nat)(a0:A6):Nat->(Al)->(List FdT)->Int->Int->((Al)->(List FdT)->Int->Int->Bool->Option R)->Option R
 |0,_,_,_,_,_=>none
 |n+1,x3,dA,dQ,fR,k2=>B43 nn a0 x3 dA dQ fR (λx3 dA dQ fR=>A35 nn a0 n x3 dA dQ fR k2) k2
theorem C3S{R:Type}(nn:Nat)(a0:A6):∀(n:Nat)(x3:Al)(dA:List FdT)(dQ fR:Int)(K:Ex->S6->Option R),LP E89 nn Be [1,1,1,0,1,0,0] 10008 n (B8o a0 x3 dA dQ fR) K=A35 nn a0 n x3 dA dQ fR (λx3 dA dQ fR qk=>K (.exit 2) (B98 a0 x3 dA dQ fR qk))
 |0,_,_,_,_,_=>rfl
 |n+1,x3,dA,dQ,fR,K=>by
  rw[A35];simp only[<-C3S nn a0 n _ _ _ _ K];kernel_rfl
def B5j{R:Type}(nn:Nat)(a0:A6)(x3:Al)(gy:List P0)(eP eW:Int)(k1:(Al)->(List P0)->Int->Int->Option R)(k2:(Al)->(List P0)->Int->Int->Bool->Option R):Option R:=let z1:=decide (eW<eP);bif z1 then(match idx gy eW with|none=>none|some y2=>(gd (A2 (Aw x3+1) 16) (k1 (x3++[PartT.value y2]) gy eP (Ax .i64 (eW+1)))))else(k2 x3 gy eP eW z1)
def A4f{R:Type}(nn:Nat)(a0:A6):Nat->(Al)->(List P0)->Int->Int->((Al)->(List P0)->Int->Int->Bool->Option R)->Option R
 |0,_,_,_,_,_=>none
 |n+1,x3,gy,eP,eW,k2=>B5j nn a0 x3 gy eP eW (λx3 gy eP eW=>A4f nn a0 n x3 gy eP eW k2) k2
theorem C5n{R:Type}(nn:Nat)(a0:A6):∀(n:Nat)(x3:Al)(gy:List P0)(eP eW:Int)(K:Ex->S6->Option R),LP E89 nn Be [1,1,1,1,0,1,0,0] 10013 n (C1V a0 x3 gy eP eW) K=A4f nn a0 n x3 gy eP eW (λx3 gy eP eW tV=>K (.exit 4) (C2n a0 x3 gy eP eW tV))
 |0,_,_,_,_,_=>rfl
 |n+1,x3,gy,eP,eW,K=>by
  rw[A4f];simp only[<-C5n nn a0 n _ _ _ _ K];kernel_rfl
def B48{R:Type}(nn:Nat)(a0:A6)(x3:Al)(gz:List IvT)(gA fS:Int)(k1:(Al)->(List IvT)->Int->Int->Option R)(k2:(Al)->(List IvT)->Int->Int->Bool->Option R):Option R:=let z1:=decide (fS<gA);bif z1 then(match idx gz fS with|none=>none|some y2=>(gd (A2 (Aw x3+1) 16) (k1 (x3++[PartT.input y2]) gz gA (Ax .i64 (fS+1)))))else(k2 x3 gz gA fS z1)
def A3U{R:Type}(nn:Nat)(a0:A6):Nat->(Al)->(List IvT)->Int->Int->((Al)->(List IvT)->Int->Int->Bool->Option R)->Option R
 |0,_,_,_,_,_=>none
 |n+1,x3,gz,gA,fS,k2=>B48 nn a0 x3 gz gA fS (λx3 gz gA fS=>A3U nn a0 n x3 gz gA fS k2) k2
theorem C4Z{R:Type}(nn:Nat)(a0:A6):∀(n:Nat)(x3:Al)(gz:List IvT)(gA fS:Int)(K:Ex->S6->Option R),LP E89 nn Be [1,1,1,1,1,0,1,0,1,0,0] 10019 n (C1b a0 x3 gz gA fS) K=A3U nn a0 n x3 gz gA fS (λx3 gz gA fS tW=>K (.exit 6) (D60 a0 x3 gz gA fS tW))
 |0,_,_,_,_,_=>rfl
 |n+1,x3,gz,gA,fS,K=>by
  rw[A3U];simp only[<-C4Z nn a0 n _ _ _ _ K];kernel_rfl
def C4R(nn:Nat)(a0:A6):Ad:=A32 nn a0 nn [] a0.roots (Aw a0.roots:Int) 0 (λz1 z2 z3 z4 z5=>A35 nn a0 nn z1 a0.fields (Aw a0.fields:Int) 0 (λz6 z7 z8 z9 dH=>A4f nn a0 nn z6 a0.values (Aw a0.values:Int) 0 (λcF di dB dj dK=>bif(a0.kind==7)then(A3U nn a0 nn cF a0.inputs (Aw a0.inputs:Int) 0 (λfw gX gW fE z20=>some (.one (.sl .part fw (some 1)))))else(some (.one (.sl .part cF (some 1)))))))
def F89(a0:A6):Ad:=C4R NN a0
theorem D4y(nn:Nat){a0:A6}:A3 E89 nn Be [.agg .sys a0]=C4R nn a0:=by
 have h:A3 E89 nn Be [.agg .sys a0]=LP E89 nn Be [1,1,0,1,0,0] 10003 nn (C2r a0 [] a0.roots (Aw a0.roots:Int) 0) (A5 0 (sk E89 nn Be [1,1,1] (A9 E89 Tryz.f89.results.toList))):=by kernel_rfl
 have h0:∀(z1:Al)(z2:List RdT)(z3:Int)(z4:Int)(z5:Bool),(A5 0 (sk E89 nn Be [1,1,1] (A9 E89 Tryz.f89.results.toList))) (.exit 0) (C3w a0 z1 z2 z3 z4 z5)=LP E89 nn Be [1,1,1,0,1,0,0] 10008 nn (B8o a0 z1 a0.fields (Aw a0.fields:Int) 0) (A5 2 (sk E89 nn Be [1,1,1,1] (A9 E89 Tryz.f89.results.toList))):=by intros;kernel_rfl
 have h1:∀(z6:Al)(z7:List FdT)(z8:Int)(z9:Int)(dH:Bool),(A5 2 (sk E89 nn Be [1,1,1,1] (A9 E89 Tryz.f89.results.toList))) (.exit 2) (B98 a0 z6 z7 z8 z9 dH)=LP E89 nn Be [1,1,1,1,0,1,0,0] 10013 nn (C1V a0 z6 a0.values (Aw a0.values:Int) 0) (A5 4 (sk E89 nn Be [1,1,1,1,1] (A9 E89 Tryz.f89.results.toList))):=by intros;kernel_rfl
 have h2:∀(cF:Al)(di:List P0)(dB:Int)(dj:Int)(dK:Bool),(A5 4 (sk E89 nn Be [1,1,1,1,1] (A9 E89 Tryz.f89.results.toList))) (.exit 4) (C2n a0 cF di dB dj dK)=bif(a0.kind==7)then(LP E89 nn Be [1,1,1,1,1,0,1,0,1,0,0] 10019 nn (C1b a0 cF a0.inputs (Aw a0.inputs:Int) 0) (A5 6 (sk E89 nn Be [1,1,1,1,1,1] (A9 E89 Tryz.f89.results.toList))))else(some (.one (.sl .part cF (some 1)))):=by intros;kernel_rfl
 rw[h];simp only[B81,C3S,C5n,C4Z,h0,h1,h2];show _=_;kernel_rfl
def S89:S1T
 |[.agg .sys a0]=>pR [.sl .part (some 1)] (F89 a0)
 |_=>none
def E38:Env Ty6 A4:=mkE [(89,S89)] [(27,S27),(63,S63),(68,S68),(87,S87),(88,S88)] noD 113 [] 1 [] []
def A4m:Ab:=[32,105,109,112,108,101,109,101,110,116,115,32]
def A29:Ab:=[32,114,101,112,101,97,116,97,98,108,101]
def A2T:Ab:=[101,120,116,101,110,100,32]
def j38(d:A6)(z:Aa):Af:=gd (okR [.sl .part (some 1)] (F89 d)) (let r6:=F63 (B5e (gL (F89 d) 0)) 0 z;gd (okB [] kP r6) (some ([],B9 (gP r6))))
def m38(d:A6)(z:Aa):Af:=let r9:=F27 [[32,61,32]] z;gd (okB [] kP r9) (let r8:=F87 d.members [124] (gP r9);gd (okB [] kP r8) (j38 d (gP r8)))
def t38(d:A6)(z:Aa):Af:=let dJ:=F68 d.dirs z;gd (okB [] kP dJ) (bif(d.kind==5)==true then(bif decide ((Aw d.members:Int)>0)then m38 d (gP dJ)else j38 d (gP dJ))else(bif false then m38 d (gP dJ)else j38 d (gP dJ)))
def w38(s:Ag)(f:Aa->Af)(z:Aa):Af:=let r:=F27 s z;gd (okB [] kP r) (f (gP r))
def i38(d:A6)(z:Aa):Af:=bif decide ((Aw d.ifaces:Int)>0)then(let lh:=F27 [A4m] z;gd (okB [] kP lh) (let eR:=F87 d.ifaces [38] (gP lh);gd (okB [] kP eR) (t38 d (gP eR))))else t38 d z
def q38(d:A6)(z:Aa):Af:=w38 [[32,111,110,32]] (λz=>let r:=F87 d.places [124] z;gd (okB [] kP r) (some ([],B9 (gP r)))) z
def o38(d:A6)(b:Aa)(k:Int)(c:Bool):Af:=bif c then(bif d.kind==3 then w38 [[116,121,112,101,32],d.name] (i38 d) b else w38 [[105,110,116,101,114,102,97,99,101,32],d.name] (i38 d) b)
 else bif k==5 then w38 [[117,110,105,111,110,32],d.name] (t38 d) b else bif k==6 then w38 [[101,110,117,109,32],d.name] (t38 d) b else bif k==7 then w38 [[105,110,112,117,116,32],d.name] (t38 d) b
 else bif k==8 then w38 [[100,105,114,101,99,116,105,118,101,32,64],d.name] (λz=>let r:=F88 d.inputs z;gd (okB [] kP r) (bif d.repeatable then w38 [A29] (q38 d) (gP r)else q38 d (gP r))) b else t38 d b
def F38(d:A6)(b:Aa):Af:=bif d.kind==1 then w38 [[115,99,104,101,109,97]] (t38 d) b else bif d.kind==2 then w38 [[115,99,97,108,97,114,32],d.name] (t38 d) b
 else bif d.kind==3 then o38 d b d.kind (d.kind==3)else o38 d b d.kind (d.kind==4)
theorem B2r{a1:A6}{ac:Aa}:C8 E38 NN Tryz.f38 [0] [.ptr 900000 0,.agg .sys a1] (B9 ac)=F38 a1 ac:=by kernel_rfl
def S38:S2T
 |[.ptr d0 o0,.agg .sys a1],[[.ptr p0 q0,.sl .u8 ac (some aQ)]]=>bif bq d0 o0&&pq p0 q0&&(Az aQ 92000001)then pB [] kP (F38 a1 ac)else none
 |_,_=>none
def E12:Env Ty6 A4:=mkE [] [(27,S27),(29,S29),(37,S37),(38,S38)] (lkD [(0,[2,1000105,1000107]),(1,[6,7,1000105]),(2,[0,1000105]),(3,[1000105]),(4,[11,12,13,14]),(5,[4,15]),(6,[16,17,18,19]),(7,[16,20,21,22,23]),(8,[24]),(9,[25,26,27,28]),(10,[5,25,29,30,31,1000105]),(11,[32,33,34,1000105]),(12,[35,1000105]),(13,[3,8,9,10,11,36,37,38,39,1000105,1000107]),(10003,[1000105])]) 40 [5,6,7] 0 [] [(6,107)]
def C2d(a0:List A6)(x9 aC:Int)(aB:Aa):S6:=⟨[(3,.one (.ptr 107 0)),(8,.one (.sl .sys a0 none)),(9,.one (.int .i64 x9)),(10,.one (.int .i64 aC)),(1000107,.bx 107 [.ptr 107 C4,.sl .u8 aB (some 2010701)])],[107,2010701]⟩
def D3R(a0:List A6)(x9 aC:Int)(cM:Bool)(aB:Aa):S6:=⟨[(3,.one (.ptr 107 0)),(8,.one (.sl .sys a0 none)),(9,.one (.int .i64 x9)),(10,.one (.int .i64 aC)),(11,.one (.bool cM)),(1000107,.bx 107 [.ptr 107 C4,.sl .u8 aB (some 2010701)])],[107,2010701]⟩
def B0O{R:Type}(nn:Nat)(a0:List A6)(x9 aC:Int)(aB:Aa)(k1:Int->Int->(Aa)->Option R)(k2:Int->Int->Bool->(Aa)->Option R):Option R:=let z1:=decide (aC<x9);bif z1 then(match idx a0 aC with|none=>none|some y6=>(
 let v:Aa->Option R:=λz=>let r:=F38 y6 z;gd (okB [] kP r) (let r:=F27 [[10]] (gP r);gd (okB [] kP r) (k1 x9 (Ax .i64 (aC+1)) (gP r)))
 let t:Aa->Option R:=λz=>let r:=F37 y6.note [10] z;gd (okB [] kP r) (bif y6.extd then(let r:=F27 [A2T] (gP r);gd (okB [] kP r) (v (gP r)))else v (gP r))
 bif decide (aC>0)then(let r:=F27 [[10]] aB;gd (okB [] kP r) (t (gP r)))else t aB))else(k2 x9 aC z1 aB)
def A1n{R:Type}(nn:Nat)(a0:List A6):Nat->Int->Int->(Aa)->(Int->Int->Bool->(Aa)->Option R)->Option R
 |0,_,_,_,_=>none
 |n+1,x9,aC,aB,k2=>B0O nn a0 x9 aC aB (λx9 aC aB=>A1n nn a0 n x9 aC aB k2) k2
theorem B9W{R:Type}(nn:Nat)(a0:List A6):∀(n:Nat)(x9 aC:Int)(aB:Aa)(K:Ex->S6->Option R),LP E12 nn Dd [1,1,0,1,0,0] 10003 n (C2d a0 x9 aC aB) K=A1n nn a0 n x9 aC aB (λx9 aC cM aB=>K (.exit 0) (D3R a0 x9 aC cM aB))
 |0,_,_,_,_=>rfl
 |n+1,x9,aC,aB,K=>by
  rw[A1n];simp only[<-B9W nn a0 n _ _ _ K];kernel_rfl
def C0P(nn:Nat)(a0:List A6):Ad:=A1n nn a0 nn (Aw a0:Int) 0 [] (λz1 z2 z3 z4=>gd (okB [.str] kP (F29 z4)) (some (.one (.str (lS (gB (F29 z4) 0))))))
def F12(a0:List A6):Ad:=C0P NN a0
theorem D8M(nn:Nat){a0:List A6}:A3 E12 nn Dd [.sl .sys a0 none]=C0P nn a0:=by
 have h:A3 E12 nn Dd [.sl .sys a0 none]=LP E12 nn Dd [1,1,0,1,0,0] 10003 nn (C2d a0 (Aw a0:Int) 0 []) (A5 0 (sk E12 nn Dd [1,1,1] (A9 E12 Tryz.f12.results.toList))):=by kernel_rfl
 rw[h];simp only[B9W];show _=_;kernel_rfl
def S12:S1T
 |[.sl .sys a0 none]=>pR [.str] (F12 a0)
 |_=>none
def E32:Env Ty6 A4:=mkE [] [] noD 13 [] 1 [] []
def F32(a1:Ab)(ae:Aa):Af:=gd (A2 (Aw ae+Aw a1) 1) (some ([],[[.sl .u8 (ae++Dp (λ(c:UInt8)=>(c.toNat:Int)) a1) (some 92000000)]]))
theorem B6E{a1:Ab}{ae:Aa}:C8 E32 NN Tryz.f32 [0] [.ptr 900000 0,.str a1] (C3 ae)=F32 a1 ae:=by kernel_rfl
def S32:S2T
 |[.ptr d0 o0,.str a1],[[.sl .u8 ae (some bR)]]=>bif bq d0 o0&&(Az bR 92000000)then pB [] kO (F32 a1 ae)else none
 |_,_=>none
def E30:Env Ty6 A4:=mkE [] [(32,S32)] noD 11 [] 1 [] []
def F30(a1:Int)(a2:Ab)(ae:Aa):Af:=bif(decide (a1>0))then(let r1:=F32 a2 ae;gd (okB [] kO r1) (some ([],[[.sl .u8 (gO r1) (some 92000000)]])))else(some ([],[[.sl .u8 ae (some 92000000)]]))
theorem B3X{a1:Int}{a2:Ab}{ae:Aa}:C8 E30 NN Tryz.f30 [0] [.ptr 900000 0,.int .i64 a1,.str a2] (C3 ae)=F30 a1 a2 ae:=by kernel_rfl
def S30:S2T
 |[.ptr d0 o0,.int .i64 a1,.str a2],[[.sl .u8 ae (some bR)]]=>bif bq d0 o0&&(Az bR 92000000)then pB [] kO (F30 a1 a2 ae)else none
 |_,_=>none
def C30:Env Ty6 A4:=mkE [(163,A9d),(164,B1b)] [(32,S32)] noD 28 [] 1 [] []
def A3x(a1:Bool)(a2:Ab)(ae:Aa):Af:=bif a1 then(gd (okR [.str,.bool] (A2A a2)) (let z1:=(lS (gL (A2A a2) 0));bif(lB (gL (A2A a2) 1))then(let r2:=F32 z1 ae;gd (okB [] kO r2) (some ([],[[.sl .u8 (gO r2) (some 92000000)]])))else(gd (okR [.str,.int .i64] (A1N a2)) (let z3:=(lS (gL (A1N a2) 0));let r4:=F32 z3 ae;gd (okB [] kO r4) (some ([],[[.sl .u8 (gO r4) (some 92000000)]]))))))else(gd (okR [.str,.int .i64] (A1N a2)) (let z5:=(lS (gL (A1N a2) 0));let r6:=F32 z5 ae;gd (okB [] kO r6) (some ([],[[.sl .u8 (gO r6) (some 92000000)]]))))
theorem D7s{a1:Bool}{a2:Ab}{ae:Aa}:C8 C30 NN Tryz.f102 [0] [.ptr 900000 0,.bool a1,.str a2] (C3 ae)=A3x a1 a2 ae:=by kernel_rfl
def B02:S2T
 |[.ptr d0 o0,.bool a1,.str a2],[[.sl .u8 ae (some bR)]]=>bif bq d0 o0&&(Az bR 92000000)then pB [] kO (A3x a1 a2 ae)else none
 |_,_=>none
def A9m(g:LitT->(Aa)->Af):S2T
 |[.ptr d0 o0,.agg .lit a1],[[.sl .u8 ae (some bR)]]=>bif bq d0 o0&&(Az bR 92000000)then pB [] kO (g a1 ae)else none
 |_,_=>none
def E45(dk:LitT->(Aa)->Af):Env Ty6 A4:=mkE [] [(30,S30),(32,S32),(45,A9m dk),(102,B02)] (lkD [(0,[1]),(1,[6]),(2,[3,8,9,10,11,55,1000103]),(3,[13]),(4,[7,12,14,15]),(5,[3,16,17,18,19,1000103]),(6,[12,21]),(7,[3,7,20,22,23,1000103]),(8,[20,25]),(9,[3,7,24,26,27,28,29,30,31,1000103]),(10,[24,33]),(11,[7,32,34,35]),(13,[36,37,38,39]),(14,[41,42]),(15,[40,43,44,45]),(16,[46,47,48,49,50,51,52]),(17,[3,4,40,53,54,1000103]),(18,[7,32,56]),(19,[55,57,58]),(21,[59,60,61,62]),(22,[64,65]),(23,[63,66,67,68]),(24,[69,70,71,72,73,74,75,76]),(25,[77,78]),(26,[79,80,81,82,83,84,85,86]),(27,[3,5,63,87,88,1000103])]) 89 [] 1 [] []
def C1n(a1:LitT)(ae:Aa)(x4:Int)(aa:Aa):S6:=⟨[(0,.one (.ptr 900000 0)),(3,.one (.elem .lit a1 0)),(4,.one (.int .i64 x4)),zO aa],[900000,92000000]⟩
def C6Z(a1:LitT)(ae:Aa)(x4:Int)(eP:Bool)(aa:Aa):S6:=⟨[(0,.one (.ptr 900000 0)),(3,.one (.elem .lit a1 0)),(4,.one (.int .i64 x4)),(40,.one (.bool eP)),zO aa],[900000,92000000]⟩
def B9X(a1:LitT)(ae:Aa)(x5:Int)(aa:Aa):S6:=⟨[(0,.one (.ptr 900000 0)),(3,.one (.elem .lit a1 0)),(5,.one (.int .i64 x5)),zO aa],[900000,92000000]⟩
def D40(a1:LitT)(ae:Aa)(x5:Int)(tX:Bool)(aa:Aa):S6:=⟨[(0,.one (.ptr 900000 0)),(3,.one (.elem .lit a1 0)),(5,.one (.int .i64 x5)),(63,.one (.bool tX)),zO aa],[900000,92000000]⟩
def A6p{R:Type}(nn:Nat)(dk:LitT->(Aa)->Af)(a1:LitT)(ae:Aa)(x4:Int)(aa:Aa)(k1:Int->(Aa)->Option R)(k2:Int->Bool->(Aa)->Option R):Option R:=let z1:=decide (x4<(Aw a1.items:Int));bif z1 then(let r4:=F30 x4 [44,32] aa;gd (okB [] kO r4) (let z2:=(gO r4);match idx a1.items x4 with|none=>none|some y3=>(gd (okB [] kO (dk y3 z2)) (k1 (Ax .i64 (x4+1)) (gO (dk y3 z2))))))else(k2 x4 z1 aa)
def A5P{R:Type}(nn:Nat)(dk:LitT->(Aa)->Af)(a1:LitT)(ae:Aa):Nat->Int->(Aa)->(Int->Bool->(Aa)->Option R)->Option R
 |0,_,_,_=>none
 |n+1,x4,aa,k2=>A6p nn dk a1 ae x4 aa (λx4 aa=>A5P nn dk a1 ae n x4 aa k2) k2
theorem B8B{R:Type}(nn:Nat)(dk:LitT->(Aa)->Af)(a1:LitT)(ae:Aa):∀(n:Nat)(x4:Int)(aa:Aa)(K:Ex->S6->Option R),LP (E45 dk) nn Bx [1,1,0,1,1,1,1,1,1,1,0,1,0,1,0,0] 10013 n (C1n a1 ae x4 aa) K=A5P nn dk a1 ae n x4 aa (λx4 eP aa=>K (.exit 1) (C6Z a1 ae x4 eP aa))
 |0,_,_,_=>rfl
 |n+1,x4,aa,K=>by
  rw[A5P];simp only[<-B8B nn dk a1 ae n _ _ K];kernel_rfl
def A6l{R:Type}(nn:Nat)(dk:LitT->(Aa)->Af)(a1:LitT)(ae:Aa)(x5:Int)(aa:Aa)(k1:Int->(Aa)->Option R)(k2:Int->Bool->(Aa)->Option R):Option R:=let z1:=decide (x5<(Aw a1.fields:Int));bif z1 then(let bY:=F30 x5 [44,32] aa;gd (okB [] kO bY) (let z2:=(gO bY);match idx a1.fields x5 with|none=>none|some y3=>(let r9:=F32 y3.name z2;gd (okB [] kO r9) (let z4:=(gO r9);let r8:=F32 [58,32] z4;gd (okB [] kO r8) (let z5:=(gO r8);match idx a1.fields x5 with|none=>none|some y6=>(let r7:=dk (LitT.mk y6.value.kind y6.value.text y6.value.block y6.value.items y6.value.fields y6.value.pos) z5;gd (okB [] kO r7) (k1 (Ax .i64 (x5+1)) (gO r7))))))))else(k2 x5 z1 aa)
def A46{R:Type}(nn:Nat)(dk:LitT->(Aa)->Af)(a1:LitT)(ae:Aa):Nat->Int->(Aa)->(Int->Bool->(Aa)->Option R)->Option R
 |0,_,_,_=>none
 |n+1,x5,aa,k2=>A6l nn dk a1 ae x5 aa (λx5 aa=>A46 nn dk a1 ae n x5 aa k2) k2
theorem C3l{R:Type}(nn:Nat)(dk:LitT->(Aa)->Af)(a1:LitT)(ae:Aa):∀(n:Nat)(x5:Int)(aa:Aa)(K:Ex->S6->Option R),LP (E45 dk) nn Bx [1,1,0,1,1,1,1,1,1,1,1,1,0,1,0,1,0,0] 10021 n (B9X a1 ae x5 aa) K=A46 nn dk a1 ae n x5 aa (λx5 tX aa=>K (.exit 3) (D40 a1 ae x5 tX aa))
 |0,_,_,_=>rfl
 |n+1,x5,aa,K=>by
  rw[A46];simp only[<-C3l nn dk a1 ae n _ _ K];kernel_rfl
def A4x(nn:Nat)(dk:LitT->(Aa)->Af)(a1:LitT)(ae:Aa):Af:=bif(a1.kind==1)then(let r3:=F32 [36] ae;gd (okB [] kO r3) (let z1:=(gO r3);let r2:=F32 a1.text z1;gd (okB [] kO r2) (some ([],[[.sl .u8 (gO r2) (some 92000000)]]))))else(bif(a1.kind==6)then(let r4:=F32 [110,117,108,108] ae;gd (okB [] kO r4) (some ([],[[.sl .u8 (gO r4) (some 92000000)]])))else(bif(a1.kind==4)then(let r5:=A3x a1.block a1.text ae;gd (okB [] kO r5) (some ([],[[.sl .u8 (gO r5) (some 92000000)]])))else(bif(a1.kind==8)then(let bY:=F32 [91] ae;gd (okB [] kO bY) (A5P nn dk a1 ae nn 0 (gO bY) (λz6 z7 z8=>let r9:=F32 [93] z8;gd (okB [] kO r9) (some ([],[[.sl .u8 (gO r9) (some 92000000)]])))))else(bif(a1.kind==9)then(let fQ:=F32 [123] ae;gd (okB [] kO fQ) (A46 nn dk a1 ae nn 0 (gO fQ) (λcF di dB=>let iu:=F32 [125] dB;gd (okB [] kO iu) (some ([],[[.sl .u8 (gO iu) (some 92000000)]])))))else(let ky:=F32 a1.text ae;gd (okB [] kO ky) (some ([],[[.sl .u8 (gO ky) (some 92000000)]])))))))
def A5D(dk:LitT->(Aa)->Af)(a1:LitT)(ae:Aa):Af:=A4x NN dk a1 ae
theorem B4m(nn:Nat)(dk:LitT->(Aa)->Af){a1:LitT}{ae:Aa}:C8 (E45 dk) nn Bx [0] [.ptr 900000 0,.agg .lit a1] (C3 ae)=A4x nn dk a1 ae:=by
 have h:C8 (E45 dk) nn Bx [0] [.ptr 900000 0,.agg .lit a1] (C3 ae)=bif(a1.kind==1)then(let r3:=F32 [36] ae;gd (okB [] kO r3) (let z1:=(gO r3);let r2:=F32 a1.text z1;gd (okB [] kO r2) (some ([],[[.sl .u8 (gO r2) (some 92000000)]]))))else(bif(a1.kind==6)then(let r4:=F32 [110,117,108,108] ae;gd (okB [] kO r4) (some ([],[[.sl .u8 (gO r4) (some 92000000)]])))else(bif(a1.kind==4)then(let r5:=A3x a1.block a1.text ae;gd (okB [] kO r5) (some ([],[[.sl .u8 (gO r5) (some 92000000)]])))else(bif(a1.kind==8)then(let bY:=F32 [91] ae;gd (okB [] kO bY) (LP (E45 dk) nn Bx [1,1,0,1,1,1,1,1,1,1,0,1,0,1,0,0] 10013 nn (C1n a1 ae 0 (gO bY)) (A5 1 (sk (E45 dk) nn Bx [1,1,0,1,1,1,1,1,1,1,0,1,1] (A5 0 (J3 (E45 dk) Tryz.f45.results.toList [0] (C3 ae)))))))else(bif(a1.kind==9)then(let fQ:=F32 [123] ae;gd (okB [] kO fQ) (LP (E45 dk) nn Bx [1,1,0,1,1,1,1,1,1,1,1,1,0,1,0,1,0,0] 10021 nn (B9X a1 ae 0 (gO fQ)) (A5 3 (sk (E45 dk) nn Bx [1,1,0,1,1,1,1,1,1,1,1,1,0,1,1] (A5 0 (J3 (E45 dk) Tryz.f45.results.toList [0] (C3 ae)))))))else(let ky:=F32 a1.text ae;gd (okB [] kO ky) (some ([],[[.sl .u8 (gO ky) (some 92000000)]]))))))):=by kernel_rfl
 rw[h];simp only[B8B,C3l];show _=_;kernel_rfl
def R45:Nat->LitT->(Aa)->Af
 |0,_,_=>none
 |d+1,a1,ae=>A5D (R45 d) a1 ae
def F45(a1:LitT)(ae:Aa):Af:=R45 DD a1 ae
def S45:S2T
 |[.ptr d0 o0,.agg .lit a1],[[.sl .u8 ae (some bR)]]=>bif bq d0 o0&&(Az bR 92000000)then pB [] kO (F45 a1 ae)else none
 |_,_=>none
def A5z:Env Ty6 A4:=mkE [] [(30,S30),(32,S32),(45,S45)] (lkD [(0,[5,6]),(1,[7,8,9]),(3,[10,11,12]),(4,[14,15]),(5,[13,16,17,18]),(6,[19,20,21,22,23,24,25]),(7,[26,27]),(8,[28,29,30,31,32,33,34]),(9,[1,4,13,35,36])]) 37 [] 1 [] []
def C0k(a1:List H0)(ae:Aa)(x4:Int)(aa:Aa):S6:=⟨[(0,.one (.ptr 900000 0)),(1,.one (.sl .arg a1 none)),(4,.one (.int .i64 x4)),zO aa],[900000,92000000]⟩
def C8k(a1:List H0)(ae:Aa)(x4:Int)(bv:Bool)(aa:Aa):S6:=⟨[(0,.one (.ptr 900000 0)),(1,.one (.sl .arg a1 none)),(4,.one (.int .i64 x4)),(13,.one (.bool bv)),zO aa],[900000,92000000]⟩
def B5y{R:Type}(nn:Nat)(a1:List H0)(ae:Aa)(x4:Int)(aa:Aa)(k1:Int->(Aa)->Option R)(k2:Int->Bool->(Aa)->Option R):Option R:=let z1:=decide (x4<(Aw a1:Int));bif z1 then(let bY:=F30 x4 [44,32] aa;gd (okB [] kO bY) (let z2:=(gO bY);match idx a1 x4 with|none=>none|some y3=>(let r9:=F32 y3.name z2;gd (okB [] kO r9) (let z4:=(gO r9);let r8:=F32 [58,32] z4;gd (okB [] kO r8) (let z5:=(gO r8);match idx a1 x4 with|none=>none|some y6=>(let r7:=F45 (LitT.mk y6.value.kind y6.value.text y6.value.block y6.value.items y6.value.fields y6.value.pos) z5;gd (okB [] kO r7) (k1 (Ax .i64 (x4+1)) (gO r7))))))))else(k2 x4 z1 aa)
def A22{R:Type}(nn:Nat)(a1:List H0)(ae:Aa):Nat->Int->(Aa)->(Int->Bool->(Aa)->Option R)->Option R
 |0,_,_,_=>none
 |n+1,x4,aa,k2=>B5y nn a1 ae x4 aa (λx4 aa=>A22 nn a1 ae n x4 aa k2) k2
theorem C0C{R:Type}(nn:Nat)(a1:List H0)(ae:Aa):∀(n:Nat)(x4:Int)(aa:Aa)(K:Ex->S6->Option R),LP A5z nn Cz [1,1,0,1,0,0] 10003 n (C0k a1 ae x4 aa) K=A22 nn a1 ae n x4 aa (λx4 bv aa=>K (.exit 0) (C8k a1 ae x4 bv aa))
 |0,_,_,_=>rfl
 |n+1,x4,aa,K=>by
  rw[A22];simp only[<-C0C nn a1 ae n _ _ K];kernel_rfl
def B3V(nn:Nat)(a1:List H0)(ae:Aa):Af:=let z1:=(Aw a1:Int)==0;bif z1 then(some ([],[[.sl .u8 ae (some 92000000)]]))else(let r6:=F32 [40] ae;gd (okB [] kO r6) (A22 nn a1 ae nn 0 (gO r6) (λz2 z3 z4=>let r5:=F32 [41] z4;gd (okB [] kO r5) (some ([],[[.sl .u8 (gO r5) (some 92000000)]])))))
def B18(a1:List H0)(ae:Aa):Af:=B3V NN a1 ae
theorem D8g(nn:Nat){a1:List H0}{ae:Aa}:C8 A5z nn Cz [0] [.ptr 900000 0,.sl .arg a1 none] (C3 ae)=B3V nn a1 ae:=by
 have h:C8 A5z nn Cz [0] [.ptr 900000 0,.sl .arg a1 none] (C3 ae)=let z1:=(Aw a1:Int)==0;bif z1 then(some ([],(C3 ae)))else(let r6:=F32 [40] ae;gd (okB [] kO r6) (LP A5z nn Cz [1,1,0,1,0,0] 10003 nn (C0k a1 ae 0 (gO r6)) (A5 0 (sk A5z nn Cz [1,1,1] (J3 A5z Tryz.f145.results.toList [0] (C3 ae)))))):=by kernel_rfl
 rw[h];simp only[C0C];show _=_;kernel_rfl
def B4C:S2T
 |[.ptr d0 o0,.sl .arg a1 none],[[.sl .u8 ae (some bR)]]=>bif bq d0 o0&&(Az bR 92000000)then pB [] kO (B18 a1 ae)else none
 |_,_=>none
end Go.Aev
namespace Go.Aev
def bI(s:Ab):Aa:=s.map λ(c:UInt8)=>(c.toNat:Int)
theorem C9(a b:Ab):bI (a++b)=bI a++bI b:=Dz
theorem B7(a:Ab):(bI a).length=a.length:=Ea ..
theorem C1F(s:Ab):toB (bI s)=s:=by
 unfold toB bI;rw[List.map_map];have:((λ(n:Int)=>Dm n.toNat)∘λ(c:UInt8)=>(c.toNat:Int))=id:=by
  funext c
  simp
 rw[this,List.map_id]
def MB:Nat:=140737488355328
theorem B3Z{n:Nat}(h:n<=MB):A2 n 1=true:=by
 unfold A2 MB at*;simp;exact h
theorem o44(l:Aa):okB [] [[.ptr 900000 C4,.sl .u8 (some 92000001)]] (some ([],B9 l))=true:=rfl
theorem F3(r:Ae)(l:Aa):A3H (gC (some (r,B9 l)) 0 1)=l:=rfl
theorem o45(l:Aa):okB [] [[.sl .u8 (some 92000000)]] (some ([],C3 l))=true:=rfl
theorem F9(r:Ae)(l:Aa):A3H (gC (some (r,C3 l)) 0 0)=l:=rfl
theorem o62(k:Int)(l:Aa):okB [.int .i64,.any] [[.ptr 900000 C4,.sl .u8 (some 92000001)]] (some ([.int .i64 k,.any],B9 l))=true:=rfl
theorem C73(b:Aa):A5V b=some ([],B9 b):=rfl
theorem P7{a:Ab}{b:Aa}(h:b.length+a.length<=MB):F32 a b=some ([],C3 (b++bI a)):=by
 simp only[F32,gd,kC,kP,kO,B3Z h,Ap];rfl
theorem C6y{a:Ab}{b:Aa}(h:b.length+a.length<=MB):F62 a b=some ([.int .i64 (a.length:Int),.any],B9 (b++bI a)):=by
 simp only[F62,gd,kC,kP,kO,C73,o44,F3,B3Z h,Ap];rfl
theorem E1{α:Type}(l:List α)(i:Nat):idx l (i:Int)=l[i]? :=by
 unfold idx;simp
theorem N7{i:Nat}(h:i<=4611686018427387904):Ax .i64 ((i:Int)+1)=((i+1:Nat):Int):=by
 rw[A2U (by omega) (by omega)];omega
theorem C5c{R:Type}{nn:Nat}{a1:Ag}{b0:Aa}{k2:Int->Int->Bool->(Aa)->Option R}(hs:a1.length<=1000):∀(n i:Nat)(buf:Aa),i<=a1.length->a1.length<n+i->buf.length+(a1.drop i).flatten.length<=MB->
  A6b nn a1 b0 n (a1.length:Int) (i:Int) buf k2=k2 (a1.length:Int) (a1.length:Int) false (buf++bI (a1.drop i).flatten)
 |0,i,buf,h1,h2,h3=>by omega
 |n+1,i,buf,h1,h2,h3=>by
  unfold A6b;by_cases hi:i<a1.length
  ·have hg:a1[i]?=some a1[i]:=Bw hi;have hd:a1.drop i=a1[i]::a1.drop (i+1):=Cd hi;rw[hd]at h3 ⊢;rw[Eb,Ba]at h3;have ap:decide ((i:Int)<(a1.length:Int))=true:=Ar (by omega);simp only[F27,A8j,B1H,gd,kC,kP,kO,ap,Ap,E1,hg,C6y (a:=a1[i]) (b:=buf) (by omega),o62,F3,N7 (i:=i) (by omega)];rw[C5c hs n (i+1) (buf++bI a1[i]) (by omega) (by omega) (by rw[Ba,B7];omega),Eb,C9,Bj]
  ·have bJ:i=a1.length:=by omega
   subst bJ;have ap:decide ((a1.length:Int)<(a1.length:Int))=false:=As (by omega);simp only[F27,A8j,B1H,gd,kC,kP,kO,ap,Aq];rw[Cc];simp[bI]
theorem Y9{a:Ag}{b:Aa}(hs:a.length<=1000)(h:b.length+a.flatten.length<=MB):F27 a b=some ([],B9 (b++bI a.flatten)):=by
 have jB:NN=18446744073709551616:=rfl;have bG:=C5c (nn:=NN) (b0:=b) (k2:=λ(x7:Int)(x8:Int)(x9:Bool)(x:Aa)=>some (([]:Ae),[[(.ptr 900000 C4:L6),.sl .u8 x (some 92000001)]])) hs NN 0 b (by omega) (by rw[jB];omega) (by simpa using h);simp only[F27,A8j,B1H,gd,kC,kP,kO];exact bG
theorem B3f{i:Nat}{b:Aa}(h:b.length+2<=MB):A1m (i:Int) b=some ([],B9 (b++bI (if i=0 then []else [44,32]))):=by
 simp only[A1m,gd,kC,kP,kO,Y9 (a:=[[44,32]]) (b:=b) (by decide) (by simpa using h),o44,F3,Ap];by_cases hi:i=0
 ·subst hi;simp[bI];rfl
 ·have:decide ((i:Int)>0)=true:=Ar (by omega);rw[this,At hi];rfl
theorem A76{i:Nat}{s:Ab}{b:Aa}(h:b.length+s.length<=MB):F30 (i:Int) s b=some ([],C3 (b++bI (if i=0 then []else s))):=by
 simp only[F30,gd,kC,kP,kO,P7 (a:=s) (b:=b) h,o45,F9,Ap];by_cases hi:i=0
 ·subst hi;simp[bI];rfl
 ·have:decide ((i:Int)>0)=true:=Ar (by omega);rw[this,At hi];rfl
def qq(block:Bool)(text:Ab):Ab:=bif block then(btF text).1 else(qtF text).1
theorem D4a{t:Ab}(h:smS t=true):A4c t=some (.tup [.str (btF t).1,.bool (btF t).2]):=by unfold A4c;rw[h];rfl
theorem D6w{t:Ab}(h:smS t=true):A3l t=some (.tup [.str (qtF t).1,.int .i64 (qtF t).2]):=by unfold A3l;rw[h];rfl
theorem C8S{t:Ab}(h:smS t=true):A2A t=some (.tup [.str (btF t).1,.bool (btF t).2]):=by unfold A2A;rw[h];rfl
theorem D4L{t:Ab}(h:smS t=true):A1N t=some (.tup [.str (qtF t).1,.int .i64 (qtF t).2]):=by unfold A1N;rw[h];rfl
theorem oS(s:Ab)(b:Bool):okR [.str,.bool] (some (.tup [.str s,.bool b]))=true:=rfl
theorem oSi(s:Ab)(b:Int):okR [.str,.int .i64] (some (.tup [.str s,.int .i64 b]))=true:=rfl
theorem gS(s:Ab)(r:Ae):lS (gL (some (.tup (.str s::r))) 0)=s:=rfl
theorem gS1(s:Ab):lS (gL (some (.one (.str s))) 0)=s:=rfl
theorem gSb(l:L6)(b:Bool)(r:Ae):lB (gL (some (.tup (l::.bool b::r))) 1)=b:=rfl
theorem oS1(s:Ab):okR [.str] (some (.one (.str s)))=true:=rfl
theorem C4w{t:Ab}(h:smS t=true)(bl:Bool):F86 bl t=some (.one (.str (qq bl t))):=by
 simp only[F86,gd,kC,kP,kO,D4a h,D6w h,oS,oSi,gS,Ap];cases bl<;>rfl
theorem C4F{t:Ab}{b:Aa}(h:smS t=true)(bl:Bool)(hb:bl=true->(btF t).2=true)(hl:b.length+(qq bl t).length<=MB):A3x bl t b=some ([],C3 (b++bI (qq bl t))):=by
 simp only[A3x,gd,kC,kP,kO,C8S h,D4L h,oS,oSi,gS,gSb,Ap];cases bl with
 |true=>
  have h1:qq true t=(btF t).1:=rfl;rw[h1]at hl ⊢;rw[hb rfl];simp only[Ap,P7 hl,o45,F9];rfl
 |false=>
  have h1:qq false t=(qtF t).1:=rfl;rw[h1]at hl ⊢;simp only[Aq,P7 hl,o45,F9,Ap];rfl
def jn:Nat->Ag->Ab
 |_,[]=>[]
 |i,x::r=>(if i=0 then []else [44,32])++x++jn (i+1) r
section
variable {R:Type}{p:LitT->Ab}
theorem C1O{nn:Nat}{g:LitT->(Aa)->Option (Ae×Ao)}{a1:LitT}{b0:Aa}{k2:(List LitT)->Int->Int->Bool->(Aa)->Option R}{xs:List LitT}(hs:xs.length<=4611686018427387904)
  (hg:∀x∈xs,∀b:Aa,b.length+(p x).length+4<=MB->g x b=some ([],B9 (b++bI (p x)))):∀(n i:Nat)(buf:Aa),i<=xs.length->xs.length<n+i->buf.length+(jn i ((xs.drop i).map p)).length+4<=MB->
  A5W nn g a1 b0 n xs (xs.length:Int) (i:Int) buf k2=k2 xs (xs.length:Int) (xs.length:Int) false (buf++bI (jn i ((xs.drop i).map p)))
 |0,i,buf,h1,h2,h3=>by omega
 |n+1,i,buf,h1,h2,h3=>by
  unfold A5W;by_cases hi:i<xs.length
  ·have db:xs[i]?=some xs[i]:=Bw hi;have hd:xs.drop i=xs[i]::xs.drop (i+1):=Cd hi;have ce:xs[i]∈xs:=Dl hi;generalize xs[i]=y at*;rw[hd]at h3 ⊢;simp only[Ce,jn,Ba]at h3 ⊢;have ap:decide ((i:Int)<(xs.length:Int))=true:=Ar (by omega);have hc:(bI (if i=0 then []else [44,32])).length<=2:=by rw[B7];split<;>simp
   have cq:(bI (if i=0 then []else [44,32])).length=(if i=0 then []else([44,32]:Ab)).length:=B7 _;have e:LitT.mk y.kind y.text y.block y.items y.fields ⟨y.pos.line,y.pos.col⟩=y:=LitT.eta y;simp only[F44,A4E,A5A,A6k,A7m,gd,kC,kP,kO,ap,Ap,E1,db,B3f (i:=i) (b:=buf) (by omega),o44,F3,N7 (i:=i) (by omega),e];rw[hg y ce _ (by rw[Ba];omega)];simp only[o44,F3,Ap];rw[C1O hs hg n (i+1) _ (by omega) (by omega) (by simp only[Ba,B7]at*;omega)];simp only[C9,Bj]
  ·have bJ:i=xs.length:=by omega
   subst bJ;have ap:decide ((xs.length:Int)<(xs.length:Int))=false:=As (by omega);simp only[F44,A4E,A5A,A6k,A7m,gd,kC,kP,kO,ap,Aq];rw[Cc];simp[bI,jn]
theorem B8s{nn:Nat}{g:LitT->(Aa)->Option (Ae×Ao)}{a1:LitT}{b0:Aa}{k2:Int->Bool->(Aa)->Option R}(hs:a1.items.length<=4611686018427387904)
  (hg:∀x∈a1.items,∀b:Aa,b.length+(p x).length+4<=MB->g x b=some ([],C3 (b++bI (p x)))):∀(n i:Nat)(buf:Aa),i<=a1.items.length->a1.items.length<n+i->buf.length+(jn i ((a1.items.drop i).map p)).length+4<=MB->
  A5P nn g a1 b0 n (i:Int) buf k2=k2 (a1.items.length:Int) false (buf++bI (jn i ((a1.items.drop i).map p)))
 |0,i,buf,h1,h2,h3=>by omega
 |n+1,i,buf,h1,h2,h3=>by
  unfold A5P;by_cases hi:i<a1.items.length
  ·have db:a1.items[i]?=some a1.items[i]:=Bw hi;have hd:a1.items.drop i=a1.items[i]::a1.items.drop (i+1):=Cd hi;have ce:a1.items[i]∈a1.items:=Dl hi;generalize a1.items[i]=y at*;rw[hd]at h3 ⊢;simp only[Ce,jn,Ba]at h3 ⊢;have ap:decide ((i:Int)<(a1.items.length:Int))=true:=Ar (by omega);have cq:(bI (if i=0 then []else [44,32])).length=(if i=0 then []else([44,32]:Ab)).length:=B7 _;have hc:(if i=0 then []else([44,32]:Ab)).length<=2:=by split<;>simp
   have e:LitT.mk y.kind y.text y.block y.items y.fields ⟨y.pos.line,y.pos.col⟩=y:=LitT.eta y;simp only[F45,A5D,A4x,A6p,A6l,gd,kC,kP,kO,ap,Ap,E1,db,A76 (i:=i) (s:=[44,32]) (b:=buf) (by show buf.length+2<=MB;omega),o45,F9,N7 (i:=i) (by omega),e];rw[hg y ce _ (by rw[Ba];omega)];simp only[o45,F9,Ap];rw[B8s hs hg n (i+1) _ (by omega) (by omega) (by simp only[Ba,B7]at*;omega)];simp only[C9,Bj]
  ·have bJ:i=a1.items.length:=by omega
   have ap:decide ((i:Int)<(a1.items.length:Int))=false:=As (by omega);simp only[F45,A5D,A4x,A6p,A6l,gd,kC,kP,kO,ap,Aq];rw[bJ,Cc];simp[bI,jn]
def fp(p:LitT->Ab)(f:LfT):Ab:=f.name++[58,32]++p f.value
theorem C0Z{nn:Nat}{g:LitT->(Aa)->Option (Ae×Ao)}{a1:LitT}{b0:Aa}{k2:(List LfT)->Int->Int->Bool->(Aa)->Option R}{xs:List LfT}(hs:xs.length<=4611686018427387904)
  (hg:∀x∈xs,∀b:Aa,b.length+(p x.value).length+4<=MB->g x.value b=some ([],B9 (b++bI (p x.value)))):∀(n i:Nat)(buf:Aa),i<=xs.length->xs.length<n+i->buf.length+(jn i ((xs.drop i).map (fp p))).length+4<=MB->
  A5N nn g a1 b0 n xs (xs.length:Int) (i:Int) buf k2=k2 xs (xs.length:Int) (xs.length:Int) false (buf++bI (jn i ((xs.drop i).map (fp p))))
 |0,i,buf,h1,h2,h3=>by omega
 |n+1,i,buf,h1,h2,h3=>by
  unfold A5N;by_cases hi:i<xs.length
  ·have db:xs[i]?=some xs[i]:=Bw hi;have hd:xs.drop i=xs[i]::xs.drop (i+1):=Cd hi;have ce:xs[i]∈xs:=Dl hi;generalize xs[i]=y at*;rw[hd]at h3 ⊢;simp only[Ce,jn,Ba,fp]at h3 ⊢;have ap:decide ((i:Int)<(xs.length:Int))=true:=Ar (by omega);have cq:(bI (if i=0 then []else [44,32])).length=(if i=0 then []else([44,32]:Ab)).length:=B7 _;have hc:(if i=0 then []else([44,32]:Ab)).length<=2:=by split<;>simp
   have yu:([58,32]:Ab).length=2:=rfl;have hn:([y.name,[58,32]]:Ag).flatten=y.name++[58,32]:=by simp
   have e:LitT.mk y.value.kind y.value.text y.value.block y.value.items y.value.fields ⟨y.value.pos.line,y.value.pos.col⟩=y.value:=LitT.eta y.value;have yv:F27 [y.name,[58,32]] (buf++bI (if i=0 then []else [44,32]))=some ([],B9 ((buf++bI (if i=0 then []else [44,32]))++bI (y.name++[58,32]))):=by
    have:=Y9 (a:=[y.name,[58,32]]) (b:=buf++bI (if i=0 then []else [44,32])) (by simp) (by rw[hn,Ba,Ba];omega);rw[hn]at this;exact this
   simp only[F44,A4E,A5A,A6k,A7m,gd,kC,kP,kO,ap,Ap,E1,db,B3f (i:=i) (b:=buf) (by omega),o44,F3,N7 (i:=i) (by omega),e,yv];rw[hg y ce _ (by simp only[Ba,B7]at*;omega)];simp only[o44,F3,Ap];rw[C0Z hs hg n (i+1) _ (by omega) (by omega) (by simp only[Ba,B7]at*;omega)];simp only[C9,Bj]
  ·have bJ:i=xs.length:=by omega
   subst bJ;have ap:decide ((xs.length:Int)<(xs.length:Int))=false:=As (by omega);simp only[F44,A4E,A5A,A6k,A7m,gd,kC,kP,kO,ap,Aq];rw[Cc];simp[bI,jn]
theorem C04{nn:Nat}{g:LitT->(Aa)->Option (Ae×Ao)}{a1:LitT}{b0:Aa}{k2:Int->Bool->(Aa)->Option R}(hs:a1.fields.length<=4611686018427387904)
  (hg:∀x∈a1.fields,∀b:Aa,b.length+(p x.value).length+4<=MB->g x.value b=some ([],C3 (b++bI (p x.value)))):∀(n i:Nat)(buf:Aa),i<=a1.fields.length->a1.fields.length<n+i->buf.length+(jn i ((a1.fields.drop i).map (fp p))).length+4<=MB->
  A46 nn g a1 b0 n (i:Int) buf k2=k2 (a1.fields.length:Int) false (buf++bI (jn i ((a1.fields.drop i).map (fp p))))
 |0,i,buf,h1,h2,h3=>by omega
 |n+1,i,buf,h1,h2,h3=>by
  unfold A46;by_cases hi:i<a1.fields.length
  ·have db:a1.fields[i]?=some a1.fields[i]:=Bw hi;have hd:a1.fields.drop i=a1.fields[i]::a1.fields.drop (i+1):=Cd hi;have ce:a1.fields[i]∈a1.fields:=Dl hi;generalize a1.fields[i]=y at*;rw[hd]at h3 ⊢;simp only[Ce,jn,Ba,fp]at h3 ⊢;have ap:decide ((i:Int)<(a1.fields.length:Int))=true:=Ar (by omega);have cq:(bI (if i=0 then []else [44,32])).length=(if i=0 then []else([44,32]:Ab)).length:=B7 _;have hc:(if i=0 then []else([44,32]:Ab)).length<=2:=by split<;>simp
   have yu:([58,32]:Ab).length=2:=rfl;have e:LitT.mk y.value.kind y.value.text y.value.block y.value.items y.value.fields ⟨y.value.pos.line,y.value.pos.col⟩=y.value:=LitT.eta y.value;have e1:F32 y.name (buf++bI (if i=0 then []else [44,32]))=some ([],C3 ((buf++bI (if i=0 then []else [44,32]))++bI y.name)):=P7 (by simp only[Ba,B7]at*;omega);have e2:F32 [58,32] ((buf++bI (if i=0 then []else [44,32]))++bI y.name)=some ([],C3 (((buf++bI (if i=0 then []else [44,32]))++bI y.name)++bI [58,32])):=P7 (by simp only[Ba,B7]at*;omega);simp only[F45,A5D,A4x,A6p,A6l,gd,kC,kP,kO,ap,Ap,E1,db,A76 (i:=i) (s:=[44,32]) (b:=buf) (by show buf.length+2<=MB;omega),o45,F9,N7 (i:=i) (by omega),e,e1,e2];rw[hg y ce _ (by simp only[Ba,B7]at*;omega)];simp only[o45,F9,Ap];rw[C04 hs hg n (i+1) _ (by omega) (by omega) (by simp only[Ba,B7]at*;omega)];simp only[C9,Bj]
  ·have bJ:i=a1.fields.length:=by omega
   have ap:decide ((i:Int)<(a1.fields.length:Int))=false:=As (by omega);simp only[F45,A5D,A4x,A6p,A6l,gd,kC,kP,kO,ap,Aq];rw[bJ,Cc];simp[bI,jn]
end
def prN:Nat->LitT->Ab
 |0,_=>[]
 |d+1,v=>if v.kind=1 then [36]++v.text else if v.kind=6 then [110,117,108,108]else if v.kind=4 then qq v.block v.text
  else if v.kind=8 then [91]++(jn 0 (v.items.map (prN d))++[93])else if v.kind=9 then [123]++(jn 0 (v.fields.map (fp (prN d)))++[125])else v.text
theorem A8w{α:Type}{f:α->Ab}{g:α->Nat}:∀(i:Nat)(l:List α),(∀x∈l,(f x).length+2<=g x)->(jn i (l.map f)).length<=sw g l
 |_,[],_=>by simp[jn,sw]
 |i,x::r,h=>by
  have h1:=h x Do;have h2:=A8w (i+1) r (λy hy=>h y (Dy _ hy));have hc:(if i=0 then []else([44,32]:Ab)).length<=2:=by split<;>simp
  simp only[Ce,jn,Ba,sw];omega
theorem B6X{α:Type}(k:Nat)(f:α->Nat):∀(l:List α),sw (λx=>k*f x) l=k*sw f l
 |[]=>by simp[sw]
 |x::l=>by simp only[sw,B6X k f l,Nat.mul_add]
theorem A0j(l:Aa):(toB l).length=l.length:=Ea ..
theorem B0r(l:Aa):(B2 l).length<=4*l.length:=by
 unfold B2;rw[A0j];exact Bv.flat_u8F_len l
theorem A9Q(a b:Aa):B2 (a++b)=B2 a++B2 b:=by
 unfold B2 toB;rw[List.flatMap_append,Dz]
theorem A0n(c:Int)(l:Aa):(B2 (c::l)).length=(u8F c).length+(B2 l).length:=by
 unfold B2;rw[A0j,A0j,Ec,Ba]
theorem C3s(v:Ab):(C5 v).1.length<=v.length:=by
 obtain⟨_,_,h1,h2⟩:=Bv.decF_enc v.length v (Bu _);omega
theorem A60{c:Int}(h:c<128):(u8F c).length=1:=by
 unfold u8F;rw[Au h];rfl
theorem A9w(n:Int)(h:n<16):Q4 n<128:=by
 unfold Q4;split<;>omega
theorem A45(c:Int):(B2 (H6 c)).length=6:=by
 unfold H6;rw[A0n,A0n,A0n,A0n,A0n,A0n,A60 (by decide),A60 (by decide),A60 (A9w _ (by omega)),A60 (A9w _ (by omega)),A60 (A9w _ (by omega)),A60 (A9w _ (by omega))];rfl
theorem A7Y(c:Int):(B2 (wrF c)).length<=12:=by
 unfold wrF;have iS:∀a b:Int,(B2 [a,b]).length<=12:=λa b=>by
  have:=B0r [a,b];simp at this;omega
 split
 ·exact iS _ _
 ·split
  ·exact iS _ _
  ·split
   ·exact iS _ _
   ·split
    ·exact iS _ _
    ·split
     ·exact iS _ _
     ·split
      ·exact iS _ _
      ·split
       ·rw[A9Q,Ba,A45,A45];exact Bu _
       ·split
        ·rw[A45];decide
        ·have:=B0r [c];simp at this;omega
theorem C5x(cs:Aa):(B2 (qtC cs)).length<=2+12*cs.length:=by
 have h:∀l:Aa,(B2 (l.flatMap wrF)).length<=12*l.length:=λl=>by
  induction l with
  |nil=>simp[B2,toB]
  |cons c l ih=>
   have:=A7Y c;rw[Ec,A9Q,Ba,Bf];omega
 have e:qtC cs=[34]++cs.flatMap wrF++[34]:=rfl;have wj:(B2 [34]).length=1:=by decide
 rw[e,A9Q,A9Q,Ba,Ba,wj];have:=h cs;omega
theorem A9J(l:Aa):(maskF l).length<=2*l.length:=by
 induction l using maskF.induct with
 |case1 r ih=>simp only[maskF,Bf];omega
 |case2 c r h ih=>rw[maskF];simp only[Bf];omega;exact h
 |case3=>simp[maskF]
theorem D2u(cs:Aa):(B2 (btC cs)).length<=32+8*cs.length:=by
 have h1:=B0r (btC cs);have h2:=A9J cs;have h3:(btC cs).length<=8+(maskF cs).length:=by
  unfold btC;simp only[Ba];have:(if(decide (1<(B3 cs).length)|| !K4 (cs.headD 0))=true then [10]else([]:Aa)).length<=1:=by split<;>simp
  simp only[Bf,Bp];omega
 omega
theorem C1Q(b:Bool){t:Ab}(h:t.length<=8400000):(qq b t).length+2<=101000000:=by
 have hd:=C3s t;cases b with
 |true=>
  show(btF t).1.length+2<=_;unfold btF;split
  ·simp
  ·split
   ·simp
   ·split
    ·simp
    ·split
     ·simp
     ·have:=D2u (C5 t).1;show(B2 (btC (C5 t).1)).length+2<=_;omega
 |false=>
  show(qtF t).1.length+2<=_;unfold qtF;split
  ·simp
  ·have:=C5x (C5 t).1;show(B2 (qtC (C5 t).1)).length+2<=_;omega
theorem A7Z:∀(d:Nat)(v:LitT),O4 d v->(prN d v).length+2<=101000000*wt d v
 |0,v,h=>h.elim
 |d+1,v,h=>by
  obtain⟨h1,h2,h3,h4,h5,h6⟩:=h;have hi:(jn 0 (v.items.map (prN d))).length<=101000000*sw (wt d) v.items:=by
   rw[<-B6X];exact A8w 0 v.items λx hx=>A7Z d x (h5 x hx)
  have hf:(jn 0 (v.fields.map (fp (prN d)))).length<=101000000*sw (λ(f:LfT)=>1+wt d f.value) v.fields:=by
   rw[<-B6X];refine A8w 0 v.fields λf hf=>?_;obtain⟨k1,k2⟩:=h6 f hf;have:=A7Z d f.value k2;show(f.name++[58,32]++prN d f.value).length+2<=101000000*(1+wt d f.value);simp only[Ba,Bf,Bp];omega
  have hq:=C1Q v.block h3;simp only[prN,wt];split
  ·simp only[Ba,Bf,Bp];omega
  ·split
   ·simp only[Bf,Bp];omega
   ·split
    ·omega
    ·split
     ·simp only[Ba,Bf,Bp];omega
     ·split
      ·simp only[Ba,Bf,Bp];omega
      ·omega
theorem A78{t:Ab}(h:t.length<=8400000):smS t=true:=by
 unfold smS;exact Ar (by omega)
theorem C1j{d:Nat}{v:LitT}(h:wt (d+1) v<=4611686018427387903)(hg:O4 (d+1) v):v.items.length<=4611686018427387904:=by
 cases d with
 |zero=>
  have:v.items=[]:=by
   cases hv:v.items with
   |nil=>rfl
   |cons x r=>exact absurd (hg.2.2.2.2.1 x (by rw[hv];exact Do)) (λh=>h)
  rw[this];simp
 |succ d=>
  have:=C5P (d:=d+1) (Nat.succ_pos d) v;have h2:wt (d+1+1) v=W (d+1) v:=rfl;omega
theorem C3n{d:Nat}{v:LitT}(h:wt (d+1) v<=4611686018427387903):v.fields.length<=4611686018427387904:=by
 have:=C9E (d:=d) v;have h2:wt (d+1) v=W d v:=rfl;omega
theorem B4f:∀(d:Nat)(v:LitT)(b:Aa),O4 d v->wt d v<=1100000->b.length+(prN d v).length+4<=MB->R44 d v b=some ([],B9 (b++bI (prN d v)))
 |0,v,b,h,_,_=>h.elim
 |d+1,v,b,h,hw,hl=>by
  have hg:=h;obtain⟨h1,h2,h3,h4,h5,h6⟩:=h;have yw:=A7Z (d+1) v hg;have io:=C1j (by omega) hg;have jX:=C3n (v:=v) (d:=d) (by omega);have qz:∀x∈v.items,wt d x<=1100000:=λx hx=>by
   have:=A8n (wt d) v.items x hx;have h2:wt (d+1) v=W d v:=rfl;unfold W at h2;omega
  have qA:∀f∈v.fields,wt d f.value<=1100000:=λf hf=>by
   have:=A8n (λ(f:LfT)=>1+wt d f.value) v.fields f hf;have h2:wt (d+1) v=W d v:=rfl;unfold W at h2;have h3:(λ(f:LfT)=>1+wt d f.value) f=1+wt d f.value:=rfl;omega
  have jB:NN=18446744073709551616:=rfl;have eX:=A78 h3;show A4E (R44 d) v b=_;have hk:v.kind=1\/v.kind=2\/v.kind=3\/v.kind=4\/v.kind=5\/v.kind=6\/v.kind=7\/v.kind=8\/v.kind=9:=by omega
  have text:∀(k:Int),v.kind=k->k=2\/k=3\/k=5\/k=7->prN (d+1) v=v.text:=λk e h=>by
   simp only[prN];rw[At (by omega),At (by omega),At (by omega),At (by omega),At (by omega)]
  simp only[F44,A4E,A5A,A6k,A7m,gd,kC,kP,kO];rcases hk with hk|hk|hk|hk|hk|hk|hk|hk|hk
  ·have hp:prN (d+1) v=([[36],v.text]:Ag).flatten:=by simp[prN,hk]
   rw[hp]at hl ⊢;have e:=Y9 (a:=[[36],v.text]) (b:=b) (by simp) (by omega);simp only[hk,e,o44,F3,Ap];rfl
  ·have hp:=text 2 hk (by omega);rw[hp]at hl ⊢;have e:=Y9 (a:=[v.text]) (b:=b) (by simp) (by simp;omega);rw[show([v.text]:Ag).flatten=v.text by simp]at e;simp only[hk,e,o44,F3,Ap];rfl
  ·have hp:=text 3 hk (by omega);rw[hp]at hl ⊢;have e:=Y9 (a:=[v.text]) (b:=b) (by simp) (by simp;omega);rw[show([v.text]:Ag).flatten=v.text by simp]at e;simp only[hk,e,o44,F3,Ap];rfl
  ·have hp:prN (d+1) v=qq v.block v.text:=by simp[prN,hk]
   rw[hp]at hl ⊢;have e:=Y9 (a:=[qq v.block v.text]) (b:=b) (by simp) (by simp;omega);rw[show([qq v.block v.text]:Ag).flatten=qq v.block v.text by simp]at e;simp only[hk,C4w eX,oS1,gS1,e,o44,F3,Ap];rfl
  ·have hp:=text 5 hk (by omega);rw[hp]at hl ⊢;have e:=Y9 (a:=[v.text]) (b:=b) (by simp) (by simp;omega);rw[show([v.text]:Ag).flatten=v.text by simp]at e;simp only[hk,e,o44,F3,Ap];rfl
  ·have hp:prN (d+1) v=[110,117,108,108]:=by simp[prN,hk]
   rw[hp]at hl ⊢;have e:=Y9 (a:=[[110,117,108,108]]) (b:=b) (by simp) (by simp at hl ⊢;omega);rw[show([[110,117,108,108]]:Ag).flatten=[110,117,108,108]by simp]at e;simp only[hk,e,o44,F3,Ap];rfl
  ·have hp:=text 7 hk (by omega);rw[hp]at hl ⊢;have e:=Y9 (a:=[v.text]) (b:=b) (by simp) (by simp;omega);rw[show([v.text]:Ag).flatten=v.text by simp]at e;simp only[hk,e,o44,F3,Ap];rfl
  ·have hp:prN (d+1) v=[91]++(jn 0 (v.items.map (prN d))++[93]):=by simp[prN,hk]
   rw[hp]at hl ⊢;simp only[Ba,Bf,Bp]at hl;have e:=Y9 (a:=[[91]]) (b:=b) (by simp) (by simp;omega);have e2:=Y9 (a:=[[93]]) (b:=(b++bI [91])++bI (jn 0 (v.items.map (prN d)))) (by simp) (by simp[B7,Ba];omega);rw[show([[91]]:Ag).flatten=[91]by simp]at e;rw[show([[93]]:Ag).flatten=[93]by simp]at e2;simp only[hk,e,o44,F3,Ap];show A5W NN (R44 d) v b NN v.items (v.items.length:Int) ((0:Nat):Int) (b++bI [91]) _=_;rw[C1O (p:=prN d) io (λx hx b' aY=>B4f d x b' (h5 x hx) (qz x hx) (by omega)) NN 0 (b++bI [91]) (by omega) (by rw[jB];omega) (by simp[B7,Ba];omega)];rw[Cb];simp only[e2,o44,F3,Ap,C9];simp only[Bj];rfl
  ·have hp:prN (d+1) v=[123]++(jn 0 (v.fields.map (fp (prN d)))++[125]):=by simp[prN,hk]
   rw[hp]at hl ⊢;simp only[Ba,Bf,Bp]at hl;have e:=Y9 (a:=[[123]]) (b:=b) (by simp) (by simp;omega);have e2:=Y9 (a:=[[125]]) (b:=(b++bI [123])++bI (jn 0 (v.fields.map (fp (prN d))))) (by simp) (by simp[B7,Ba];omega);rw[show([[123]]:Ag).flatten=[123]by simp]at e;rw[show([[125]]:Ag).flatten=[125]by simp]at e2;simp only[hk,e,o44,F3,Ap];show A5N NN (R44 d) v b NN v.fields (v.fields.length:Int) ((0:Nat):Int) (b++bI [123]) _=_;rw[C0Z (p:=prN d) jX (λx hx b' aY=>B4f d x.value b' (h6 x hx).2 (qA x hx) (by omega)) NN 0 (b++bI [123]) (by omega) (by rw[jB];omega) (by simp[B7,Ba];omega)];rw[Cb];simp only[e2,o44,F3,Ap,C9];simp only[Bj];rfl
theorem B7g:∀(d:Nat)(v:LitT)(b:Aa),O4 d v->wt d v<=1100000->b.length+(prN d v).length+4<=MB->R45 d v b=some ([],C3 (b++bI (prN d v)))
 |0,v,b,h,_,_=>h.elim
 |d+1,v,b,h,hw,hl=>by
  have hg:=h;obtain⟨h1,h2,h3,h4,h5,h6⟩:=h;have yw:=A7Z (d+1) v hg;have io:=C1j (by omega) hg;have jX:=C3n (v:=v) (d:=d) (by omega);have qz:∀x∈v.items,wt d x<=1100000:=λx hx=>by
   have:=A8n (wt d) v.items x hx;have h2:wt (d+1) v=W d v:=rfl;unfold W at h2;omega
  have qA:∀f∈v.fields,wt d f.value<=1100000:=λf hf=>by
   have:=A8n (λ(f:LfT)=>1+wt d f.value) v.fields f hf;have h2:wt (d+1) v=W d v:=rfl;unfold W at h2;have h3:(λ(f:LfT)=>1+wt d f.value) f=1+wt d f.value:=rfl;omega
  have jB:NN=18446744073709551616:=rfl;have eX:=A78 h3;show A5D (R45 d) v b=_;have hk:v.kind=1\/v.kind=2\/v.kind=3\/v.kind=4\/v.kind=5\/v.kind=6\/v.kind=7\/v.kind=8\/v.kind=9:=by omega
  have text:∀(k:Int),v.kind=k->k=2\/k=3\/k=5\/k=7->prN (d+1) v=v.text:=λk e h=>by
   simp only[prN];rw[At (by omega),At (by omega),At (by omega),At (by omega),At (by omega)]
  simp only[F45,A5D,A4x,A6p,A6l,gd,kC,kP,kO];rcases hk with hk|hk|hk|hk|hk|hk|hk|hk|hk
  ·have hp:prN (d+1) v=[36]++v.text:=by simp[prN,hk]
   rw[hp]at hl ⊢;simp only[Ba,Bf,Bp]at hl;have e:=P7 (a:=[36]) (b:=b) (by simp;omega);have e2:=P7 (a:=v.text) (b:=b++bI [36]) (by simp[B7,Ba];omega);simp only[hk,e,e2,o45,F9,Ap,C9];simp only[Bj];rfl
  ·have hp:=text 2 hk (by omega);rw[hp]at hl ⊢;have e:=P7 (a:=v.text) (b:=b) (by omega);simp only[hk,e,o45,F9,Ap];rfl
  ·have hp:=text 3 hk (by omega);rw[hp]at hl ⊢;have e:=P7 (a:=v.text) (b:=b) (by omega);simp only[hk,e,o45,F9,Ap];rfl
  ·have hp:prN (d+1) v=qq v.block v.text:=by simp[prN,hk]
   rw[hp]at hl ⊢;have e:=C4F (b:=b) eX v.block (λhb=>h4 hk hb) (by omega);simp only[hk,e,o45,F9,Ap];rfl
  ·have hp:=text 5 hk (by omega);rw[hp]at hl ⊢;have e:=P7 (a:=v.text) (b:=b) (by omega);simp only[hk,e,o45,F9,Ap];rfl
  ·have hp:prN (d+1) v=[110,117,108,108]:=by simp[prN,hk]
   rw[hp]at hl ⊢;have e:=P7 (a:=[110,117,108,108]) (b:=b) (by simp at hl ⊢;omega);simp only[hk,e,o45,F9,Ap];rfl
  ·have hp:=text 7 hk (by omega);rw[hp]at hl ⊢;have e:=P7 (a:=v.text) (b:=b) (by omega);simp only[hk,e,o45,F9,Ap];rfl
  ·have hp:prN (d+1) v=[91]++(jn 0 (v.items.map (prN d))++[93]):=by simp[prN,hk]
   rw[hp]at hl ⊢;simp only[Ba,Bf,Bp]at hl;have e:=P7 (a:=[91]) (b:=b) (by simp;omega);have e2:=P7 (a:=[93]) (b:=(b++bI [91])++bI (jn 0 (v.items.map (prN d)))) (by simp[B7,Ba];omega);simp only[hk,e,o45,F9,Ap];show A5P NN (R45 d) v b NN ((0:Nat):Int) (b++bI [91]) _=_;rw[B8s (p:=prN d) io (λx hx b' aY=>B7g d x b' (h5 x hx) (qz x hx) (by omega)) NN 0 (b++bI [91]) (by omega) (by rw[jB];omega) (by simp[B7,Ba];omega)];rw[Cb];simp only[e2,o45,F9,Ap,C9];simp only[Bj];rfl
  ·have hp:prN (d+1) v=[123]++(jn 0 (v.fields.map (fp (prN d)))++[125]):=by simp[prN,hk]
   rw[hp]at hl ⊢;simp only[Ba,Bf,Bp]at hl;have e:=P7 (a:=[123]) (b:=b) (by simp;omega);have e2:=P7 (a:=[125]) (b:=(b++bI [123])++bI (jn 0 (v.fields.map (fp (prN d))))) (by simp[B7,Ba];omega);simp only[hk,e,o45,F9,Ap];show A46 NN (R45 d) v b NN ((0:Nat):Int) (b++bI [123]) _=_;rw[C04 (p:=prN d) jX (λx hx b' aY=>B7g d x.value b' (h6 x hx).2 (qA x hx) (by omega)) NN 0 (b++bI [123]) (by omega) (by rw[jB];omega) (by simp[B7,Ba];omega)];rw[Cb];simp only[e2,o45,F9,Ap,C9];simp only[Bj];rfl
end Go.Aev
namespace Go.Aev
open Go.Proofs
def E72:Env Ty6 A4:=mkE [] [(32,S32),(145,B4C)] (lkD [(1,[5,6,7]),(2,[9,10]),(3,[8,11,12]),(4,[13,14,15,16,17,18,19]),(5,[20,21,22,23,24,25,26])]) 27 [] 1 [] []
def B9j(a1:List D0)(ae:Aa)(x4:Int)(aa:Aa):S6:=⟨[(0,.one (.ptr 900000 0)),(1,.one (.sl .dir a1 none)),(4,.one (.int .i64 x4)),zO aa],[900000,92000000]⟩
def C6x(a1:List D0)(ae:Aa)(x4:Int)(x8:Bool)(aa:Aa):S6:=⟨[(0,.one (.ptr 900000 0)),(1,.one (.sl .dir a1 none)),(4,.one (.int .i64 x4)),(8,.one (.bool x8)),zO aa],[900000,92000000]⟩
def B4l{R:Type}(nn:Nat)(a1:List D0)(ae:Aa)(x4:Int)(aa:Aa)(k1:Int->(Aa)->Option R)(k2:Int->Bool->(Aa)->Option R):Option R:=let z1:=decide (x4<(Aw a1:Int));bif z1 then(let r8:=F32 [32,64] aa;gd (okB [] kO r8) (let z2:=(gO r8);match idx a1 x4 with|none=>none|some y3=>(let r7:=F32 y3.name z2;gd (okB [] kO r7) (let z4:=(gO r7);match idx a1 x4 with|none=>none|some y5=>(let r6:=B18 y5.args z4;gd (okB [] kO r6) (k1 (Ax .i64 (x4+1)) (gO r6)))))))else(k2 x4 z1 aa)
def A2d{R:Type}(nn:Nat)(a1:List D0)(ae:Aa):Nat->Int->(Aa)->(Int->Bool->(Aa)->Option R)->Option R
 |0,_,_,_=>none
 |n+1,x4,aa,k2=>B4l nn a1 ae x4 aa (λx4 aa=>A2d nn a1 ae n x4 aa k2) k2
theorem C2B{R:Type}(nn:Nat)(a1:List D0)(ae:Aa):∀(n:Nat)(x4:Int)(aa:Aa)(K:Ex->S6->Option R),LP E72 nn Dg [1,0,0] 10001 n (B9j a1 ae x4 aa) K=A2d nn a1 ae n x4 aa (λx4 x8 aa=>K (.exit 0) (C6x a1 ae x4 x8 aa))
 |0,_,_,_=>rfl
 |n+1,x4,aa,K=>by
  rw[A2d];simp only[<-C2B nn a1 ae n _ _ K];kernel_rfl
def C0f(nn:Nat)(a1:List D0)(ae:Aa):Af:=A2d nn a1 ae nn 0 ae (λz1 z2 z3=>some ([],[[.sl .u8 z3 (some 92000000)]]))
def F72(a1:List D0)(ae:Aa):Af:=C0f NN a1 ae
theorem D1Y(nn:Nat){a1:List D0}{ae:Aa}:C8 E72 nn Dg [0] [.ptr 900000 0,.sl .dir a1 none] (C3 ae)=C0f nn a1 ae:=by
 have h:C8 E72 nn Dg [0] [.ptr 900000 0,.sl .dir a1 none] (C3 ae)=LP E72 nn Dg [1,0,0] 10001 nn (B9j a1 ae 0 ae) (A5 0 (J3 E72 Tryz.f72.results.toList [0] (C3 ae))):=by kernel_rfl
 rw[h];simp only[C2B];show _=_;kernel_rfl
def S72:S2T
 |[.ptr d0 o0,.sl .dir a1 none],[[.sl .u8 ae (some bR)]]=>bif bq d0 o0&&(Az bR 92000000)then pB [] kO (F72 a1 ae)else none
 |_,_=>none
def E90:Env Ty6 A4:=mkE [] [(102,B02)] noD 15 [] 1 [] []
def F90(a1:G3)(ae:Aa):Af:=let j1:(Aa)->Af:=λz2=>some ([.bool a1.has],[[.sl .u8 z2 (some 92000000)]]);bif a1.has then(let r3:=A3x a1.block a1.text ae;gd (okB [] kO r3) (j1 (gO r3)))else(j1 ae)
theorem C7W{a1:G3}{ae:Aa}:C8 E90 NN Tryz.f90 [0] [.ptr 900000 0,.agg .note a1] (C3 ae)=F90 a1 ae:=by kernel_rfl
def S90:S2T
 |[.ptr d0 o0,.agg .note a1],[[.sl .u8 ae (some bR)]]=>bif bq d0 o0&&(Az bR 92000000)then pB [.bool] kO (F90 a1 ae)else none
 |_,_=>none
def E49:Env Ty6 A4:=mkE [] [(32,S32)] (lkD [(0,[1]),(2,[5,6,7,8]),(3,[10,11,16]),(4,[9,12,13,14,15]),(5,[16,17,18]),(6,[4,9,19,20,21,22]),(7,[3,23,24,25,26,1000103])]) 27 [] 1 [] []
def B9O(a1:I4)(ae:Aa)(x4:Int)(aa:Aa):S6:=⟨[(0,.one (.ptr 900000 0)),(3,.one (.elem .tref a1 0)),(4,.one (.int .i64 x4)),zO aa],[900000,92000000]⟩
def C6V(a1:I4)(ae:Aa)(x4:Int)(x9:Bool)(aa:Aa):S6:=⟨[(0,.one (.ptr 900000 0)),(3,.one (.elem .tref a1 0)),(4,.one (.int .i64 x4)),(9,.one (.bool x9)),zO aa],[900000,92000000]⟩
def A7L{R:Type}(nn:Nat)(a1:I4)(ae:Aa)(x4:Int)(aa:Aa)(k1:Int->(Aa)->Option R)(k2:Int->Bool->(Aa)->Option R):Option R:=let z1:=decide (x4<(Aw a1.wrap:Int));bif z1 then(match idx a1.wrap x4 with|none=>none|some y2=>(let z3:=(Bi y2:Int)==93;bif z3 then(let r4:=F32 [91] aa;gd (okB [] kO r4) (k1 (Ax .i64 (x4+1)) (gO r4)))else(k1 (Ax .i64 (x4+1)) aa)))else(k2 x4 z1 aa)
def A4v{R:Type}(nn:Nat)(a1:I4)(ae:Aa):Nat->Int->(Aa)->(Int->Bool->(Aa)->Option R)->Option R
 |0,_,_,_=>none
 |n+1,x4,aa,k2=>A7L nn a1 ae x4 aa (λx4 aa=>A4v nn a1 ae n x4 aa k2) k2
theorem B8U{R:Type}(nn:Nat)(a1:I4)(ae:Aa):∀(n:Nat)(x4:Int)(aa:Aa)(K:Ex->S6->Option R),LP E49 nn Cq [1,0,1,0,0] 10002 n (B9O a1 ae x4 aa) K=A4v nn a1 ae n x4 aa (λx4 x9 aa=>K (.exit 0) (C6V a1 ae x4 x9 aa))
 |0,_,_,_=>rfl
 |n+1,x4,aa,K=>by
  rw[A4v];simp only[<-B8U nn a1 ae n _ _ K];kernel_rfl
def A6R(nn:Nat)(a1:I4)(ae:Aa):Af:=A4v nn a1 ae nn 0 ae (λz1 z2 z3=>let r6:=F32 a1.name z3;gd (okB [] kO r6) (let z4:=(gO r6);let r5:=F32 a1.wrap z4;gd (okB [] kO r5) (some ([],[[.sl .u8 (gO r5) (some 92000000)]]))))
def F49(a1:I4)(ae:Aa):Af:=A6R NN a1 ae
theorem B4x(nn:Nat){a1:I4}{ae:Aa}:C8 E49 nn Cq [0] [.ptr 900000 0,.agg .tref a1] (C3 ae)=A6R nn a1 ae:=by
 have h:C8 E49 nn Cq [0] [.ptr 900000 0,.agg .tref a1] (C3 ae)=LP E49 nn Cq [1,0,1,0,0] 10002 nn (B9O a1 ae 0 ae) (A5 0 (sk E49 nn Cq [1,1] (J3 E49 Tryz.f49.results.toList [0] (C3 ae)))):=by kernel_rfl
 rw[h];simp only[B8U];show _=_;kernel_rfl
def S49:S2T
 |[.ptr d0 o0,.agg .tref a1],[[.sl .u8 ae (some bR)]]=>bif bq d0 o0&&(Az bR 92000000)then pB [] kO (F49 a1 ae)else none
 |_,_=>none
def C0W:Env Ty6 A4:=mkE [] [(32,S32),(45,S45),(49,S49),(72,S72)] noD 26 [] 1 [] []
def A23(a1:IvT)(ae:Aa):Af:=let fv:=F32 a1.name ae;gd (okB [] kO fv) (let z1:=(gO fv);let dI:=F32 [58,32] z1;gd (okB [] kO dI) (let z2:=(gO dI);let bY:=F49 a1.type_ z2;gd (okB [] kO bY) (let z3:=(gO bY);let j4:(Aa)->Af:=λz5=>let r6:=F72 a1.dirs z5;gd (okB [] kO r6) (some ([],[[.sl .u8 (gO r6) (some 92000000)]]));bif a1.hasDefault then(let r9:=F32 [32,61,32] z3;gd (okB [] kO r9) (let z7:=(gO r9);let r8:=F45 (LitT.mk a1.dflt.kind a1.dflt.text a1.dflt.block a1.dflt.items a1.dflt.fields a1.dflt.pos) z7;gd (okB [] kO r8) (j4 (gO r8))))else(j4 z3))))
theorem D0e{a1:IvT}{ae:Aa}:C8 C0W NN Tryz.f158 [0] [.ptr 900000 0,.agg .iv a1] (C3 ae)=A23 a1 ae:=by kernel_rfl
def A9R:S2T
 |[.ptr d0 o0,.agg .iv a1],[[.sl .u8 ae (some bR)]]=>bif bq d0 o0&&(Az bR 92000000)then pB [] kO (A23 a1 ae)else none
 |_,_=>none
def E91:Env Ty6 A4:=mkE [] [(30,S30),(32,S32),(90,S90),(158,A9R)] (lkD [(0,[6,7]),(1,[8,9,10]),(3,[11,12,13]),(4,[15,16]),(5,[14,17,18,19]),(6,[20,21,22,23,24,25,26]),(7,[5]),(8,[27,28,29]),(9,[27,30,31,32,33,34,35]),(10,[1,4,14,36,37])]) 38 [] 1 [] []
def B8Q(a1:List IvT)(ae:Aa)(x4:Int)(aa:Aa):S6:=⟨[(0,.one (.ptr 900000 0)),(1,.one (.sl .iv a1 none)),(4,.one (.int .i64 x4)),zO aa],[900000,92000000]⟩
def D4r(a1:List IvT)(ae:Aa)(x4:Int)(bB:Bool)(aa:Aa):S6:=⟨[(0,.one (.ptr 900000 0)),(1,.one (.sl .iv a1 none)),(4,.one (.int .i64 x4)),(14,.one (.bool bB)),zO aa],[900000,92000000]⟩
def B1Q{R:Type}(nn:Nat)(a1:List IvT)(ae:Aa)(x4:Int)(aa:Aa)(k1:Int->(Aa)->Option R)(k2:Int->Bool->(Aa)->Option R):Option R:=let z1:=decide (x4<(Aw a1:Int));bif z1 then(let j2:Int->(Aa)->Option R:=λz3 z4=>k1 (Ax .i64 (z3+1)) z4;let ky:=F30 x4 [44,32] aa;gd (okB [] kO ky) (let z5:=(gO ky);match idx a1 x4 with|none=>none|some y6=>(let fQ:=F90 y6.note z5;gd (okB [.bool] kO fQ) (let z7:=(lB (gB fQ 0));let z8:=(gO fQ);bif z7 then(let fv:=F32 [32] z8;gd (okB [] kO fv) (let z9:=(gO fv);match idx a1 x4 with|none=>none|some gp=>(let dI:=A23 gp z9;gd (okB [] kO dI) (j2 x4 (gO dI)))))else(match idx a1 x4 with|none=>none|some oJ=>(let iu:=A23 oJ z8;gd (okB [] kO iu) (j2 x4 (gO iu))))))))else(k2 x4 z1 aa)
def A3a{R:Type}(nn:Nat)(a1:List IvT)(ae:Aa):Nat->Int->(Aa)->(Int->Bool->(Aa)->Option R)->Option R
 |0,_,_,_=>none
 |n+1,x4,aa,k2=>B1Q nn a1 ae x4 aa (λx4 aa=>A3a nn a1 ae n x4 aa k2) k2
theorem C0l{R:Type}(nn:Nat)(a1:List IvT)(ae:Aa):∀(n:Nat)(x4:Int)(aa:Aa)(K:Ex->S6->Option R),LP E91 nn Cg [1,1,0,1,0,0] 10003 n (B8Q a1 ae x4 aa) K=A3a nn a1 ae n x4 aa (λx4 bB aa=>K (.exit 0) (D4r a1 ae x4 bB aa))
 |0,_,_,_=>rfl
 |n+1,x4,aa,K=>by
  rw[A3a];simp only[<-C0l nn a1 ae n _ _ K];kernel_rfl
def B5a(nn:Nat)(a1:List IvT)(ae:Aa):Af:=let z1:=(Aw a1:Int)==0;bif z1 then(some ([],[[.sl .u8 ae (some 92000000)]]))else(let r6:=F32 [40] ae;gd (okB [] kO r6) (A3a nn a1 ae nn 0 (gO r6) (λz2 z3 z4=>let r5:=F32 [41] z4;gd (okB [] kO r5) (some ([],[[.sl .u8 (gO r5) (some 92000000)]])))))
def F91(a1:List IvT)(ae:Aa):Af:=B5a NN a1 ae
theorem D7r(nn:Nat){a1:List IvT}{ae:Aa}:C8 E91 nn Cg [0] [.ptr 900000 0,.sl .iv a1 none] (C3 ae)=B5a nn a1 ae:=by
 have h:C8 E91 nn Cg [0] [.ptr 900000 0,.sl .iv a1 none] (C3 ae)=let z1:=(Aw a1:Int)==0;bif z1 then(some ([],(C3 ae)))else(let r6:=F32 [40] ae;gd (okB [] kO r6) (LP E91 nn Cg [1,1,0,1,0,0] 10003 nn (B8Q a1 ae 0 (gO r6)) (A5 0 (sk E91 nn Cg [1,1,1] (J3 E91 Tryz.f91.results.toList [0] (C3 ae)))))):=by kernel_rfl
 rw[h];simp only[C0l];show _=_;kernel_rfl
def S91:S2T
 |[.ptr d0 o0,.sl .iv a1 none],[[.sl .u8 ae (some bR)]]=>bif bq d0 o0&&(Az bR 92000000)then pB [] kO (F91 a1 ae)else none
 |_,_=>none
end Go.Aev
namespace Go.Aev
theorem B89:∀(n:Nat),Ds [91] n=Bz n 91
 |0=>rfl
 |n+1=>by rw[Ds,B89 n];rfl
theorem B3z{R:Type}{nn:Nat}{a1:I4}{b0:Aa}{k2:Int->Bool->(Aa)->Option R}(hs:a1.wrap.length<=1000):∀(n i:Nat)(buf:Aa),i<=a1.wrap.length->a1.wrap.length<n+i->buf.length+(a1.wrap.drop i).length<=MB->
  A4v nn a1 b0 n (i:Int) buf k2=k2 (a1.wrap.length:Int) false (buf++bI (Bz ((a1.wrap.drop i).count 93) 91))
 |0,i,buf,h1,h2,h3=>by omega
 |n+1,i,buf,h1,h2,h3=>by
  unfold A4v;by_cases hi:i<a1.wrap.length
  ·have db:a1.wrap[i]?=some a1.wrap[i]:=Bw hi;have hd:a1.wrap.drop i=a1.wrap[i]::a1.wrap.drop (i+1):=Cd hi;generalize a1.wrap[i]=y at*;rw[hd]at h3 ⊢;rw[Bf]at h3;have ap:decide ((i:Int)<(a1.wrap.length:Int))=true:=Ar (by omega);have e:=P7 (a:=[91]) (b:=buf) (by show buf.length+1<=MB;omega);by_cases hy:y=93
   ·subst hy;have tY:((Bi 93:Nat):Int)==93:=rfl;simp only[F49,A6R,A7L,gd,kC,kP,kO,ap,Ap,E1,db,tY,e,o45,F9,N7 (i:=i) (by omega)];rw[B3z hs n (i+1) (buf++bI [91]) (by omega) (by omega) (by rw[Ba,B7];show buf.length+1+_<=_;omega)];rw[List.count_cons_self,List.replicate_succ,Bj];rfl
   ·have hn:((Bi y:Nat):Int)==93↔False:=by
     simp only[beq_iff_eq,iff_false];intro h;apply hy;have:y.toNat=93:=by omega
     exact UInt8.toNat_inj.1 this
    have tY:(((Bi y:Nat):Int)==93)=false:=by
     cases h:((Bi y:Nat):Int)==93 with
     |false=>rfl
     |true=>exact absurd (hn.1 h) (λh=>h)
    simp only[F49,A6R,A7L,gd,kC,kP,kO,ap,Ap,E1,db,tY,Aq,N7 (i:=i) (by omega)];rw[B3z hs n (i+1) buf (by omega) (by omega) (by omega)];rw[List.count_cons_of_ne hy]
  ·have bJ:i=a1.wrap.length:=by omega
   have ap:decide ((i:Int)<(a1.wrap.length:Int))=false:=As (by omega);simp only[F49,A6R,A7L,gd,kC,kP,kO,ap,Aq];rw[bJ,Cc];simp[bI]
theorem oI(k:Int):okR [.int .i64] (some (.one (.int .i64 k)):Ad)=true:=rfl
theorem gI(k:Int):lI (gL (some (.one (.int .i64 k)):Ad) 0)=k:=rfl
def prT(r:I4):Ab:=Bz (r.wrap.count 93) 91++r.name++r.wrap
theorem C79(r:I4):(prT r).length<=2*r.wrap.length+r.name.length:=by
 have:r.wrap.count 93<=r.wrap.length:=Ed;unfold prT;rw[Ba,Ba,Cf];omega
theorem C2c{r:I4}(h1:r.name.length<=8400000)(h2:r.wrap.length<=1000){b:Aa}(hb:b.length+(prT r).length+r.wrap.length<=MB):
  F18 r=some (.one (.str (prT r)))/\F49 r b=some ([],C3 (b++bI (prT r))):=by
 have hc:r.wrap.count 93<=1000:=Dx Ed h2;have hl:(prT r).length=r.wrap.count 93+r.name.length+r.wrap.length:=by unfold prT;rw[Ba,Ba,Cf]
 constructor
 ·have yx:F48 r.wrap [93]=some (.one (.int .i64 ((r.wrap.count 93:Nat):Int))):=by
   unfold F48;rw[A78 (by omega)];rfl
  have yy:F47 [91] ((r.wrap.count 93:Nat):Int)=some (.one (.str (Bz (r.wrap.count 93) 91))):=by
   unfold F47;rw[Ar (by decide),Ar (by omega),Ar (by omega)];show(some (.one (.str (Ds [91] ((r.wrap.count 93:Nat):Int).toNat))):Ad)=_;rw[Int.toNat_natCast,B89]
  have d1:Aw (Bz (r.wrap.count 93) (91:UInt8))+Aw r.name<=9223372036854775807:=by rw[Cf];omega
  have d2:Aw (Bz (r.wrap.count 93) (91:UInt8)++r.name)+Aw r.wrap<=9223372036854775807:=by rw[Ba,Cf];omega
  simp only[F18,gd,kC,kP,kO,yx,oI,gI,yy,oS1,gS1,Ap,d1,d2,decide_true];rfl
 ·have jB:NN=18446744073709551616:=rfl;have e1:=P7 (a:=r.name) (b:=b++bI (Bz (r.wrap.count 93) 91)) (by rw[Ba,B7,Cf];omega);have e2:=P7 (a:=r.wrap) (b:=(b++bI (Bz (r.wrap.count 93) 91))++bI r.name) (by rw[Ba,Ba,B7,B7,Cf];omega);simp only[F49,A6R,A7L,gd,kC,kP,kO];show A4v NN r b NN ((0:Nat):Int) b _=_;rw[B3z h2 NN 0 b (by omega) (by rw[jB];omega) (by rw[Cb];omega),Cb];simp only[e1,e2,o45,F9,Ap];unfold prT;simp only[C9,Bj];rfl
theorem oB1(b:Bool):okR [.bool] (some (.one (.bool b)):Ad)=true:=rfl
theorem gB1(b:Bool):lB (gL (some (.one (.bool b)):Ad) 0)=b:=rfl
theorem NNv:NN=18446744073709551616:=rfl
theorem C2q{n:Int}(h1: -2147483648<=n)(h2:n<2147483648):Ax .i32 n=n:=by
 have h3:=Ef n ⟨h1,by omega⟩;exact h3
theorem C4p{R:Type}{nn:Nat}{c:Int}{t:Ab}{k1:Option R}{k3:Int->Bool->Option R}(hs:t.length<=1000):∀(n i:Nat),i<=t.length->t.length<n+i->
  A5M nn c t n (i:Int) k1 k3=if inF c (t.drop i)then k1 else k3 (t.length:Int) false
 |0,i,h1,h2=>by omega
 |n+1,i,h1,h2=>by
  unfold A5M;by_cases hi:i<t.length
  ·have db:t[i]?=some t[i]:=Bw hi;have hd:t.drop i=t[i]::t.drop (i+1):=Cd hi;generalize t[i]=y at*;have ap:decide ((i:Int)<(t.length:Int))=true:=Ar (by omega);have hy:=y.toNat_lt;have hw:Ax .i32 ((y.toNat:Nat):Int)=((y.toNat:Nat):Int):=C2q (by omega) (by omega);rw[hd];simp only[X2,A7z,B1l,gd,kC,kP,kO,ap,Ap,E1,db,hw,N7 (i:=i) (by omega),inF,List.any_cons];by_cases hc:(((y.toNat:Nat):Int)==c)=true
   ·simp only[hc,Ap,Bool.true_or,if_true]
   ·have cq:(((y.toNat:Nat):Int)==c)=false:=by simpa using hc
    simp only[cq,Aq,Bool.false_or];exact C4p hs n (i+1) (by omega) (by omega)
  ·have bJ:i=t.length:=by omega
   have ap:decide ((i:Int)<(t.length:Int))=false:=As (by omega);simp only[X2,A7z,B1l,gd,kC,kP,kO,ap,Aq];rw[bJ,Cc];simp[inF]
theorem A69{c:Int}{t:Ab}(hs:t.length<=1000):X2 c t=some (.one (.bool (inF c t))):=by
 simp only[X2,A7z,B1l,gd,kC,kP,kO];show A5M NN c t NN ((0:Nat):Int) _ _=_;rw[C4p hs NN 0 (by omega) (by rw[NNv];omega),Cb];cases inF c t<;>rfl
theorem C1Z{c:Int}{t:Ab}(h:inF c t=true):0<=c:=by
 unfold inF at h;obtain⟨b,_,hb⟩:=List.any_eq_true.1 h;have:=(beq_iff_eq).1 hb;omega
theorem D8q(c:Int):A6G c=some (.one (.bool (inF c A0z))):=by
 have e:X2 c A0z=_:=A69 (c:=c) (t:=A0z) (by decide);unfold A0z at*;simp only[A6G,gd,kC,kP,kO,e,oB1,gB1,Ap]
theorem C6g(c:Int):A68 c=some (.one (.bool (inF c A0m))):=by
 have e:X2 c A0m=_:=A69 (c:=c) (t:=A0m) (by decide);unfold A0m at*;simp only[A68,gd,kC,kP,kO,e,oB1,gB1,Ap]
theorem C3C(c:Int):A3L c=some (.one (.bool (inF c A0z||inF c A0m))):=by
 have e:X2 c A0z=_:=A69 (c:=c) (t:=A0z) (by decide);have e2:X2 c A0m=_:=A69 (c:=c) (t:=A0m) (by decide);unfold A0z at*;unfold A0m at*;simp only[A3L,gd,kC,kP,kO,e,e2,oB1,gB1,Ap];cases inF c [97,98,99,100,101,102,103,104,105,106,107,108,109,110,111,112,113,114,115,116,117,118,119,120,121,122,65,66,67,68,69,70,71,72,73,74,75,76,77,78,79,80,81,82,83,84,85,86,87,88,89,90,95]<;>rfl
theorem D0G(c:Int):∃b,A3M c=some (.one (.bool b))/\(b=true->0<=c):=by
 have e2:=A69 (c:=c) (t:=[9,10,13,32,44]) (by decide);refine⟨(c==65279)||inF c [9,10,13,32,44],?_,λh=>?_⟩
 ·simp only[A3M,gd,kC,kP,kO,e2,oB1,gB1,Ap];cases c==65279<;>rfl
 ·rw[Eh]at h;rcases h with h|h
  ·have:=(beq_iff_eq).1 h;omega
  ·exact C1Z h
theorem E5{α:Type}{P:α->Prop}{c:Bool}{a b:α}(h1:c=true->P a)(h2:c=false->P b):P (bif c then a else b):=by
 cases c with
 |true=>exact h1 rfl
 |false=>exact h2 rfl
theorem D0P(c:Int):∃b,A0L c=some (.one (.bool b)):=by
 let P:Ad->Prop:=λo=>∃b,o=some (.one (.bool b))
 show P (A0L c);simp only[A0L,gd,kC,kP,kO]
 repeat' (refine E5 (P:=P) (λ_=>?_) (λ_=>?_))
 all_goals exact⟨_,rfl⟩
theorem C8c(c:Int):∃b,A5B c=some (.one (.bool b)):=by
 let P:Ad->Prop:=λo=>∃b,o=some (.one (.bool b))
 show P (A5B c);have e:=A69 (c:=c) (t:=[9,10,13]) (by decide);obtain⟨b,e2⟩:=D0P c;simp only[A5B,gd,kC,kP,kO,e,e2,oB1,gB1,Ap]
 repeat' (refine E5 (P:=P) (λ_=>?_) (λ_=>?_))
 all_goals exact⟨_,rfl⟩
theorem C6q(c:Int):∃b,A0L c=some (.one (.bool b))/\(b=true->0<=c/\c<=1114111):=by
 let P:Ad->Prop:=λo=>∃b,o=some (.one (.bool b))/\(b=true->0<=c/\c<=1114111)
 show P (A0L c);simp only[A0L,gd,kC,kP,kO];have no:P (some (.one (.bool false))):=⟨_,rfl,λh=>by cases h⟩
 repeat' (first|exact no|refine E5 (P:=P) (λ_=>?_) (λ_=>?_))
 all_goals exact⟨_,rfl,λh=>by simp_all⟩
theorem w8{n:Int}(h:0<=n)(h2:n<256):Ax .u8 n=n:=Go.IntWalk.u8_in n ⟨h,by omega⟩
theorem w32{n:Int}(h:0<=n)(h2:n<2147483648):Ax .i32 n=n:=Ef n ⟨by omega,by omega⟩
theorem C7p(c:Int):∃l:Aa,A5F c=some (.one (.sl .u8 l (some 1)))/\l.length<=4/\∀x r,l=x::r->0<=x/\x<256/\(x=c\/128<=x/\128<=c):=by
 let P:Ad->Prop:=λo=>∃l:Aa,o=some (.one (.sl .u8 l (some 1)))/\l.length<=4/\∀x r,l=x::r->0<=x/\x<256/\(x=c\/128<=x/\128<=c)
 show P (A5F c);obtain⟨b,e2,hb⟩:=C6q c;simp only[A5F,gd,kC,kP,kO,e2,oB1,gB1,Ap];refine E5 (P:=P) (λ_=>⟨_,rfl,by simp,λx r h=>by cases h⟩) (λh=>?_);obtain⟨h0,h1⟩:=hb (by simpa using h);refine E5 (P:=P) (λh=>⟨_,rfl,by simp,λx r hx=>?_⟩) (λh=>?_)
 ·have h:=Av h;rw[w8 h0 (by omega)]at hx;cases hx;exact⟨h0,by omega,.inl rfl⟩
 have yz:=of_decide_eq_false h;have hd:∀k m:Int,0<k->0<=m->m<=240->Ca c k<256 - m->192<=m->∀q x r,Ax .u8 (Ax .i32 (m+(Ax .i32 (Ca c k))))::q=x::r->0<=x/\x<256/\(x=c\/128<=x/\128<=c):=λk m hk hm dW hc jY q x r hx=>by
  have hp:0<=Ca c k:=Int.tdiv_nonneg h0 (by omega);rw[w32 hp (by omega),w32 (by omega) (by omega),w8 (by omega) (by omega)]at hx;cases hx;exact⟨by omega,by omega,.inr ⟨by omega,by omega⟩⟩
 refine E5 (P:=P) (λh=>⟨_,rfl,by simp,hd 64 192 (by omega) (by omega) (by omega) (by have:=Av h;rw[Dr h0];omega) (by omega) _⟩) (λh=>?_);refine E5 (P:=P) (λh=>⟨_,rfl,by simp,hd 4096 224 (by omega) (by omega) (by omega) (by have:=Av h;rw[Dr h0];omega) (by omega) _⟩) (λh=>⟨_,rfl,by simp,hd 262144 240 (by omega) (by omega) (by omega) (by rw[Dr h0];omega) (by omega) _⟩)
def Hd(b l:Aa):Prop:=∀x r,b=x::r->∃y q,l=y::q/\0<=x/\x<256/\(x=y\/128<=x/\128<=y)
theorem oU(l:Aa):okR [.sl .u8 (some 1)] (some (.one (.sl .u8 l (some 1))):Ad)=true:=rfl
theorem gU(l:Aa):A3H (gL (some (.one (.sl .u8 l (some 1))):Ad) 0)=l:=rfl
section
variable {R:Type}{P:Option R->Prop}
theorem C2X{nn:Nat}{l:Aa}{k1:Option R}{k3:(Aa)->Int->Bool->Option R}(hs:l.length<=1099511627776)(h1:P k1)(h3:∀b:Aa,b.length<=4*l.length->Hd b l->P (k3 b (l.length:Int) false)):
  ∀(n i:Nat)(buf:Aa),i<=l.length->l.length<n+i->buf.length<=4*i->Hd buf l->(i=0\/buf≠[])->P (A6S nn l n buf (i:Int) k1 k3)
 |0,i,buf,a1,a2,a3,_,_=>by omega
 |n+1,i,buf,a1,a2,a3,a4,a5=>by
  unfold A6S;by_cases hi:i<l.length
  ·have db:l[i]?=some l[i]:=Bw hi;generalize l[i]=y at*;have ap:decide ((i:Int)<(l.length:Int))=true:=Ar (by omega);obtain⟨u,e,hu,si⟩:=C7p y;have hr:=B3Z (n:=buf.length+u.length) (by unfold MB;omega);simp only[A3v,A8E,B1j,gd,kC,kP,kO,ap,Ap,E1,db,e,oU,gU,hr,N7 (i:=i) (by omega)];refine E5 (P:=P) (λ_=>h1) (λhz=>?_);have yA:u≠[]:=λh=>by rw[h]at hz;cases hz
   refine C2X hs h1 h3 n (i+1) (buf++u) (by omega) (by omega) (by rw[Ba];omega) ?_ (.inr (by simp[yA]))
   match buf,a4,a5 with
   |[],_,_=>
    intro x r hx;have io:i=0:=by simp_all
    subst io;cases l with
    |nil=>cases db
    |cons z q=>
     cases db;exact⟨_,q,rfl,si x r hx⟩
   |b::bs,a4,_=>
    intro x r hx;cases hx;exact a4 _ _ rfl
  ·have bJ:i=l.length:=by omega
   have ap:decide ((i:Int)<(l.length:Int))=false:=As (by omega);simp only[A3v,A8E,B1j,gd,kC,kP,kO,ap,Aq];subst bJ;exact h3 buf a3 a4
theorem l53{nn:Nat}{l:Aa}{a1:Bool}{k2:(Aa)->Int->Bool->Option R}(hs:l.length<=1099511627776)(h2:∀b:Aa,b.length=l.length->P (k2 b (l.length:Int) false)):
  ∀(n i:Nat)(buf:Aa),i<=l.length->l.length<n+i->buf.length=i->P (A62 nn l a1 n buf (i:Int) k2)
 |0,i,buf,a1,a2,a3=>by omega
 |n+1,i,buf,a1,a2,a3=>by
  unfold A62;by_cases hi:i<l.length
  ·have db:l[i]?=some l[i]:=Bw hi;generalize l[i]=y at*;have ap:decide ((i:Int)<(l.length:Int))=true:=Ar (by omega);obtain⟨b,e⟩:=C8c y;have hr:A2 (buf.length+1) 4=true:=by unfold A2;exact Ar (by omega)
   simp only[F53,A7F,B1v,gd,kC,kP,kO,ap,Ap,E1,db,e,oB1,gB1,hr,N7 (i:=i) (by omega)];refine E5 (P:=P) (λ_=>?_) (λ_=>?_)
   ·exact l53 hs h2 n (i+1) (buf++[y]) (by omega) (by omega) (by rw[Ba];simp;omega)
   ·exact l53 hs h2 n (i+1) (buf++[-1]) (by omega) (by omega) (by rw[Ba];simp;omega)
  ·have bJ:i=l.length:=by omega
   have ap:decide ((i:Int)<(l.length:Int))=false:=As (by omega);simp only[F53,A7F,B1v,gd,kC,kP,kO,ap,Aq];subst bJ;exact h2 buf a3
end
theorem D6Y{l:Aa}(hs:l.length<=1099511627776):∃t b,A3v l=some (.tup [.str t,.bool b])/\t.length<=4*l.length/\∀x r,t=x::r->∃y q,l=y::q/\((x.toNat:Int)=y\/128<=(x.toNat:Int)/\128<=y):=by
 let P:Ad->Prop:=λo=>∃t b,o=some (.tup [.str t,.bool b])/\t.length<=4*l.length/\∀x r,t=x::r->∃y q,l=y::q/\((x.toNat:Int)=y\/128<=(x.toNat:Int)/\128<=y)
 show P (A3v l);simp only[A3v,A8E,B1j,gd,kC,kP,kO];refine C2X (P:=P) hs ?_ ?_ NN 0 [] (by omega) (by rw[NNv];omega) (by simp) (λx r h=>by cases h) (.inl rfl)
 ·exact⟨[],false,rfl,by simp,λx r h=>by cases h⟩
 ·intro b hb h4;refine⟨_,true,rfl,by simpa using hb,λx r hx=>?_⟩
  match b,h4,hx with
  |z::bs,h4,hx=>
   obtain⟨y,q,e,h0,h1,h2⟩:=h4 z bs rfl;refine⟨y,q,e,?_⟩;simp only[Ce,List.cons.injEq]at hx;rw[<-hx.1];have:((Dm z.toNat).toNat:Int)=z:=by
    rw[UInt8.toNat_ofNat'];omega
   rw[this];rcases h2 with h2|h2
   ·exact .inl h2
   ·exact .inr h2
theorem D8H{l:Aa}(a1:Bool)(hs:l.length<=1099511627776):∃s:Aa,F53 l a1=some (.one (.sl .i32 s (some 1)))/\s.length<=l.length+2/\∃x:Int,s[l.length]?=some x/\x<0:=by
 let P:Ad->Prop:=λo=>∃s:Aa,o=some (.one (.sl .i32 s (some 1)))/\s.length<=l.length+2/\∃x:Int,s[l.length]?=some x/\x<0
 show P (F53 l a1);simp only[F53,A7F,B1v,gd,kC,kP,kO];refine l53 (P:=P) hs ?_ NN 0 [] (by omega) (by rw[NNv];omega) rfl;intro b hb;have r1:A2 (b.length+1) 4=true:=by unfold A2;exact Ar (by omega)
 have r2:A2 ((b++[(-1:Int)]).length+1) 4=true:=by unfold A2;exact Ar (by simp;omega)
 simp only[r1,r2,Ap];refine E5 (P:=P) (λ_=>?_) (λ_=>?_)
 ·refine⟨_,rfl,by simp;omega, -1,?_,by decide⟩;rw[<-hb];simp
 ·refine⟨_,rfl,by simp;omega, -2,?_,by decide⟩;rw[<-hb];simp
structure Stp(s:Aa)(M:Nat):Prop where
 x:∃x:Int,s[M]?=some x/\x<0
 pos:∀j,j<M->∃y:Int,s[j]?=some y/\0<=y
 sz:M<=1048576
theorem Stp.at{s:Aa}{M i:Nat}(h:Stp s M)(hi:i<=M):∃y:Int,s[i]?=some y/\(0<=y->i<M)/\(y<0->i=M):=by
 rcases Dw i M with h1|h1
 ·obtain⟨y,h2,h3⟩:=h.pos i h1;exact⟨y,h2,λ_=>h1,λh4=>by omega⟩
 ·obtain⟨x,h2,h3⟩:=h.x;have:i=M:=by omega
  subst this;exact⟨x,h2,λh4=>by omega,λ_=>rfl⟩
theorem beqT{b:Bool}:((b==true)=true)=(b=true):=by cases b<;>simp
theorem beqF{b:Bool}:((b==false)=true)=(b=false):=by cases b<;>simp
section
variable {R:Type}{P:Option R->Prop}{s:Aa}{M:Nat}
theorem C1i{nn:Nat}{a1:Int}{k2:Int->Bool->Option R}(hs:Stp s M):∀(n i:Nat),i<=M->M<n+i->(∀j b,i<=j->j<=M->(∀y,s[i]?=some y->inF y A0z=true->i<j)->P (k2 ((j:Nat):Int) b))->P (A7f nn s a1 n (i:Int) k2)
 |0,i,a2,a3,_=>by omega
 |n+1,i,a2,a3,h2=>by
  obtain⟨y,hy,hp,hn⟩:=hs.at a2;have ao:=hs.sz;unfold A7f;simp only[A5J,A9F,B5F,gd,kC,kP,kO,E1,hy,C3C,oB1,gB1,Ap,N7 (i:=i) (by omega)];refine E5 (P:=P) (λhc=>?_) (λhc=>?_)
  ·have h0:0<=y:=by
    rw[Eh]at hc;rcases hc with hc|hc<;>exact C1Z hc
   have:=hp h0;exact C1i hs n (i+1) (by omega) (by omega) λj b h3 h4 _=>h2 j b (by omega) h4 λ_ _ _=>by omega
  ·refine h2 i _ (Bu _) a2 λy' gY hl=>?_;rw[hy]at gY;cases gY;rw[hl]at hc;cases hc
theorem D4u(hs:Stp s M){i:Nat}(hi:i<=M):∃j:Nat,A5J s (i:Int)=some (.one (.int .i64 (j:Int)))/\i<=j/\j<=M/\(∀y,s[i]?=some y->inF y A0z=true->i<j):=by
 let P:Ad->Prop:=λo=>∃j:Nat,o=some (.one (.int .i64 (j:Int)))/\i<=j/\j<=M/\(∀y,s[i]?=some y->inF y A0z=true->i<j)
 show P (A5J s (i:Int));have ao:=hs.sz;simp only[A5J,A9F,B5F,gd,kC,kP,kO];exact C1i (P:=P) hs NN i hi (by rw[NNv];omega) λj b h1 h2 h3=>⟨j,rfl,h1,h2,h3⟩
theorem B9x{nn:Nat}{a1:Int}{k2:Int->Bool->Option R}(hs:Stp s M):∀(n i:Nat),i<=M->M<n+i->(∀j b y,i<=j->j<=M->s[j]?=some y->(y<0\/y=10\/y=13)->P (k2 ((j:Nat):Int) b))->P (A7q nn s a1 n (i:Int) k2)
 |0,i,a2,a3,_=>by omega
 |n+1,i,a2,a3,h2=>by
  obtain⟨y,hy,hp,hn⟩:=hs.at a2;have ao:=hs.sz;unfold A7q;simp only[A30,A8t,B12,B2k,gd,kC,kP,kO,E1,hy,N7 (i:=i) (by omega)];have nT:∀b,(y<0\/y=10\/y=13)->P (k2 (i:Int) b):=λb h=>h2 i b y (Bu _) a2 hy h;refine E5 (P:=P) (λhc=>?_) (λhc=>?_)
  ·rw[beqT]at hc;have h0:=Av hc;have ap:=hp h0;refine E5 (P:=P) (λhc=>?_) (λhc=>?_)
   ·refine E5 (P:=P) (λhc=>?_) (λhc=>?_)
    ·exact B9x hs n (i+1) (by omega) (by omega) λj b y h3 h4=>h2 j b y (by omega) h4
    ·exact nT _ (.inr (.inr (by simpa using hc)))
   ·have:y=10:=by
     cases h:(y !=10)with
     |true=>rw[h]at hc;cases hc
     |false=>simpa using h
    exact nT _ (.inr (.inl this))
  ·have:¬(y>=0):=λh=>by rw[Ar h]at hc;cases hc
   exact nT _ (.inl (by omega))
theorem B5r{nn:Nat}{a1:Int}{k2:Int->Option R}(hs:Stp s M)(mZ:M<nn):∀(n i:Nat),i<=M->M<n+i->(∀j,i<=j->j<=M->P (k2 ((j:Nat):Int)))->P (A5E nn s a1 n (i:Int) k2)
 |0,i,a2,a3,_=>by omega
 |n+1,i,a2,a3,h2=>by
  obtain⟨y,hy,hp,hn⟩:=hs.at a2;have ao:=hs.sz;obtain⟨b,e,hb⟩:=D0G y;unfold A5E;simp only[A30,A8t,B12,B2k,gd,kC,kP,kO,E1,hy,e,oB1,gB1,Ap,N7 (i:=i) (by omega)];refine E5 (P:=P) (λhc=>?_) (λhc=>?_)
  ·have ap:=hp (hb hc);exact B5r hs mZ n (i+1) (by omega) (by omega) λj h3 h4=>h2 j (by omega) h4
  ·refine E5 (P:=P) (λhc=>?_) (λhc=>?_)
   ·exact h2 i (Bu _) a2
   ·have zB:y=35:=by simpa using hc
    refine B9x hs nn i a2 (by omega) λj b y' h3 h4 gY hx=>?_;have av:i≠j:=λe=>by
     subst e;rw[hy]at gY;cases gY;omega
    exact B5r hs mZ n j h4 (by omega) λj' h5 h6=>h2 j' (by omega) h6
theorem D1Q(hs:Stp s M){i:Nat}(hi:i<=M):∃j:Nat,A30 s (i:Int)=some (.one (.int .i64 (j:Int)))/\i<=j/\j<=M:=by
 let P:Ad->Prop:=λo=>∃j:Nat,o=some (.one (.int .i64 (j:Int)))/\i<=j/\j<=M
 show P (A30 s (i:Int));have ao:=hs.sz;simp only[A30,A8t,B12,B2k,gd,kC,kP,kO];exact B5r (P:=P) hs (by rw[NNv];omega) NN i hi (by rw[NNv];omega) λj h1 h2=>⟨j,rfl,h1,h2⟩
end
theorem D5P(x:Int):∃k,A4N x=some (.one (.int .i64 k)):=by
 let P:Ad->Prop:=λo=>∃k,o=some (.one (.int .i64 k))
 show P (A4N x);simp only[A4N,gd,kC,kP,kO]
 repeat' (refine E5 (P:=P) (λ_=>?_) (λ_=>?_))
 all_goals exact⟨_,rfl⟩
theorem D82(x c:Int):∃k,A3c x c=some (.one (.int .i64 k))/\(c<0->k<0):=by
 by_cases hc:c<0
 ·let P:Ad->Prop:=λo=>∃k,o=some (.one (.int .i64 k))/\(c<0->k<0)
  show P (A3c x c);have h1:decide (c>=48)=false:=As (by omega);have h2:(c==45)=false:=by simp;omega
  have h3:(c==48)=false:=by simp;omega
  have h4:(c==46)=false:=by simp;omega
  have h5:(c==101)=false:=by simp;omega
  have h6:(c==69)=false:=by simp;omega
  have h7:(c==43)=false:=by simp;omega
  simp only[A3c,gd,kC,kP,kO,h1,h2,h3,h4,h5,h6,h7]
  repeat' (refine E5 (P:=P) (λ_=>?_) (λ_=>?_))
  all_goals first|exact⟨_,rfl,λ_=>by decide⟩|exact absurd (by assumption:(false==true)=true) (by decide)|exact absurd (by assumption:(false==false)=false) (by decide)|exact absurd (by assumption:false=true) (by decide)
 ·let P:Ad->Prop:=λo=>∃k,o=some (.one (.int .i64 k))/\(c<0->k<0)
  show P (A3c x c);simp only[A3c,gd,kC,kP,kO]
  repeat' (refine E5 (P:=P) (λ_=>?_) (λ_=>?_))
  all_goals exact⟨_,rfl,λh=>absurd h hc⟩
section
variable {R:Type}{P:Option R->Prop}{s:Aa}{M:Nat}
theorem A2i{α:Type}{l:List α}{i:Nat}{y:α}(h:l[i]?=some y):i<l.length:=(List.getElem?_eq_some_iff.1 h).1
theorem B5J{nn:Nat}{a1:Int}{k1:Int->Int->Int->Option R}{k3:Int->Int->Int->Int->Bool->Option R}(hs:Stp s M)(i0:Nat)(h1:∀(j:Nat) a b,i0<=j->j<=M->P (k1 (j:Int) a b)):
  ∀(n i x7:Nat)(x8 x9:Int),i<=M->M<n+i->i0<=x7->x7<=i->P (A6u nn s a1 n (x7:Int) x8 x9 (i:Int) k1 k3)
 |0,i,x7,x8,x9,a2,a3,_,_=>by omega
 |n+1,i,x7,x8,x9,a2,a3,a4,a5=>by
  obtain⟨y,hy,hp,hn⟩:=hs.at a2;have ao:=hs.sz;have hl:=A2i hy;obtain⟨k,e,hk⟩:=D82 x9 y;obtain⟨k',e'⟩:=D5P k;have ap:decide ((i:Int)<(s.length:Int))=true:=Ar (by omega);unfold A6u;simp only[A3g,A9P,B4O,gd,kC,kP,kO,ap,Ap,E1,hy,e,e',oI,gI,N7 (i:=i) (by omega)];refine E5 (P:=P) (λhc=>?_) (λhc=>?_)
  ·exact h1 x7 _ _ a4 (by omega)
  ·have jf:¬k<0:=λh=>by rw[Ar h]at hc;cases hc
   have ap:=hp (by rcases Int.lt_or_le y 0 with h|h;exact absurd (hk h) jf;exact h);refine E5 (P:=P) (λhc=>?_) (λhc=>?_)
   ·exact B5J hs i0 h1 n (i+1) (i+1) _ _ (by omega) (by omega) (by omega) (by omega)
   ·exact B5J hs i0 h1 n (i+1) x7 _ _ (by omega) (by omega) (by omega) (by omega)
theorem C82(hs:Stp s M){i:Nat}(hi:i<=M):∃(j:Nat)(a b:Int),A3g s (i:Int)=some (.tup [.int .i64 (j:Int),.int .i64 a,.int .i64 b])/\i<=j/\j<=M:=by
 let P:Ad->Prop:=λo=>∃(j:Nat)(a b:Int),o=some (.tup [.int .i64 (j:Int),.int .i64 a,.int .i64 b])/\i<=j/\j<=M
 show P (A3g s (i:Int));have ao:=hs.sz;obtain⟨y,hy,_,_⟩:=hs.at hi;have hl:=A2i hy;have d1:decide ((i:Int)<0)=false:=As (by omega);have d2:decide ((i:Int)>(s.length:Int))=false:=As (by omega);simp only[A3g,A9P,B4O,gd,kC,kP,kO,d1,d2,beq_self_eq_true,Ap,Aq];exact B5J (P:=P) hs i (λj a b h1 h2=>⟨j,a,b,rfl,h1,h2⟩) NN i i 0 0 hi (by rw[NNv];omega) (Bu _) (Bu _)
theorem o3i(a b c:Int):okR [.int .i64,.int .i64,.int .i64] (some (.tup [.int .i64 a,.int .i64 b,.int .i64 c]):Ad)=true:=rfl
theorem B6f(a:Int)(r:Ae):lI (gL (some (.tup (.int .i64 a::r)):Ad) 0)=a:=rfl
theorem A52(l:L6)(a:Int)(r:Ae):lI (gL (some (.tup (l::.int .i64 a::r)):Ad) 1)=a:=rfl
theorem C8V(l l':L6)(a:Int)(r:Ae):lI (gL (some (.tup (l::l'::.int .i64 a::r)):Ad) 2)=a:=rfl
theorem C7b(hs:Stp s M){i:Nat}(hi:i<=M):∃(j:Nat)(k:Int),A03 s (i:Int)=some (.tup [.int .i64 (j:Int),.int .i64 k])/\i<=j/\j<=M/\((k=1/\j=i)\/((k=4\/k=5)/\i<j)):=by
 let P:Ad->Prop:=λo=>∃(j:Nat)(k:Int),o=some (.tup [.int .i64 (j:Int),.int .i64 k])/\i<=j/\j<=M/\((k=1/\j=i)\/((k=4\/k=5)/\i<j))
 show P (A03 s (i:Int));obtain⟨j,a,b,e,h1,h2⟩:=C82 hs hi;obtain⟨y,hy,_,_⟩:=hs.at h2;simp only[A03,gd,kC,kP,kO,e,o3i,B6f,A52,C8V,Ap,E1,hy,C3C,oB1,gB1];have li:P (some (.tup [.int .i64 (i:Int),.int .i64 1])):=⟨i,1,rfl,Bu _,hi,.inl ⟨rfl,rfl⟩⟩;have qB:∀k,(k=4\/k=5)->((j:Int)==(i:Int))=false->P (some (.tup [.int .i64 (j:Int),.int .i64 k])):=λk hk av=>⟨j,k,rfl,h1,h2,.inr ⟨hk,by
  have:(j:Int)≠(i:Int):=by simpa using av
  omega⟩⟩
 cases dP:(j:Int)==(i:Int)with
 |true=>exact li
 |false=>
  simp only[beq_self_eq_true,Ap]
  repeat' (refine E5 (P:=P) (λ_=>?_) (λ_=>?_))
  all_goals first|exact li|exact qB 4 (.inl rfl) dP|exact qB 5 (.inr rfl) dP
end
end Go.Aev
