/- the given statement Rows.PrinterDocumentsUptoCardSaid (the text of every document that a source is read as) -/
import Derived.Test.YtolabkginnkhgaaGreatDoorCards
import Derived.Test.YtolabkginnkhgaaGreatDoorTie
import Derived.Test.YtolabkginnkhgaaGreatDoorX4
set_option maxRecDepth 100000
set_option linter.unusedVariables false
set_option linter.unusedSimpArgs false
set_option linter.defProp false
open Go.Proofs.Tryz renaming prog→Ew,f33→Fi,f8→Fm,f3→Fo,call263→Fp,func3→Fv,checked→Fw,call7→Fx,call63→Fy,underlying3→Gi,params3→Gj,call9→Gk,call8→Gl,call69→Gm,call68→Gn,call67→Gp,call66→Gq,call45→Gr,call44→Gt,call37→Gu,call28→Gv,call268→Gw,call267→Gx,call265→Gy,call264→Gz,call144→Ha,call142→Hb,call141→Hc
open Go renaming FuncId→Ey,wpList_plain→Fa,wpList_nil→Fc,TypeId→Fe,trodAll_cons_mk→Fu
open Nat renaming beq→Ez,le_refl→Ff,zero_add→Fj,lt_succ_self→Fs,blt→Ft,mul_one→Hf,le_trans→Hg
open List renaming mem_cons→Fb,not_mem_nil→Fg,getElem?_eq_getElem→Fk,mem_singleton→Gb,getElem?_eq_some_iff→Gc,reverse_cons→Hh,nil_append→Hi,mem_cons_of_mem→Hj,map_append→Hk,length_cons→Hl,length_append→Hm,getElem_of_mem→Hn,getElem_mem→Ho
open Go.Value renaming slice→Fh,okWide→Gf,int→Gg
open Bool renaming and_eq_true→Fl
open Go.IntKind renaming wrap→Fq
open Option.some renaming inj→Fz,injEq→Hr
open Go.Made renaming depth→Ga
open Go.World renaming holding→Ge
open Go.Region renaming wanted→He
open Go.Exit renaming inBlock→Hp
open Go.DataW renaming TrodAll→Hq
namespace Go.Aev
open Go.Proofs
def B8v:Program.underlying Ew 28=some (.slice 44):=En
structure Ow(w0 w:World)(m:Nat->Nat)(b:Nat)(us:Ea):Prop where
 bk:Bk w b us
 mz:m b=0
 hi:w0.heap.size<=b
section
variable {w0 w w':World}{m0 m m':Nat->Nat}{S:Nat->Prop}{b:Nat}{us vs:Ea}
def Ow.keep(h:Ow w0 w m b us)(k:KM w m w' m' S)(hS:¬S b):Ow w0 w' m' b us:=⟨k.bk h.bk hS,by rw[k.mark h.bk.lt hS];exact h.mz,h.hi⟩
def D58(vs us:Ea)(h:vs.length=us.length):T5 vs 0 us=us:=by
 unfold T5;rw[List.take_zero,Hi,List.drop_eq_nil_of_le Du,List.append_nil]
def Ow.arr{n sz:Nat}(h:Ow w0 w m b us)(hl:us.length=n*sz):ArrN w sz (.slice (some ⟨b,0,none⟩) n n) n us:=by
 obtain⟨c,e,fz,k1,k2,k3,k4⟩:=h.bk;exact⟨hl,some ⟨b,0,none⟩,n,rfl,Ff _,.inr ⟨b,c,e,fz,rfl,k1,Du,Du,k4⟩⟩
def Ow.store(h:Ow w0 w m b us)(hk:KM w0 m0 w m λ_=>False)(hl:us.length=vs.length)(a8:∀v∈vs,v.oneCell'=true):
  (storeCells ⟨b,0,none⟩ vs).run Ew w=.ok () (D5 w b 0 vs)/\Ow w0 (D5 w b 0 vs) m b vs/\KM w m (D5 w b 0 vs) m (λk=>k=b)/\KM w0 m0 (D5 w b 0 vs) m λ_=>False:=by
 obtain⟨q1,q2,q3⟩:=h.bk.store (m:=m) Ew (off:=0) (vs:=vs) Du a8 h.mz hk.zero;rw[D58 us vs hl]at q2;exact⟨q1,⟨q2,h.mz,h.hi⟩,q3,hk.trans q3 λd hd e=>by subst e;have:=h.hi;omega⟩
def A7I(hk:KM w0 m0 w m λ_=>False)(us:Ea)(t:Fe):Ow w0 (w.alloc (.cells us.toArray t)) m w.heap.size us/\KM w m (w.alloc (.cells us.toArray t)) m (λ_=>False)/\KM w0 m0 (w.alloc (.cells us.toArray t)) m λ_=>False:=
 have k:=A0r w m (.cells us.toArray t) hk.zero
 ⟨⟨A5n,hk.zero _ (Ff _),hk.size⟩,k,hk.trans k λ_ _ h=>h⟩
end
def C0C{w:World}{m:Nat->Nat}{t:Ty6}{x:A4 t}{us:Ea}(h:LsC U6 w m (U6.cells t x) us):∀u∈us,u.oneCell'=true:=λu hu=>by
 obtain⟨j,hj,rfl⟩:=Hn hu;have bC:j<(U6.cells t x).length:=by rw[h.len];exact hj
 obtain⟨v,h1,h2⟩:=h.get j _ (Fk bC);rw[Fk hj]at h1;cases h1;exact(h2.one u6_ok (u6_ok.solid t x _ (Ho bC))).1
def D2T{w:World}{m:Nat->Nat}{t:Ty6}{x:A4 t}{us:Ea}(h:LsC U6 w m (U6.cells t x) us):∀u∈us,u.oneCell'=true/\u.cells= #[u]:=λu hu=>by
 obtain⟨j,hj,rfl⟩:=Hn hu;have bC:j<(U6.cells t x).length:=by rw[h.len];exact hj
 obtain⟨v,h1,h2⟩:=h.get j _ (Fk bC);rw[Fk hj]at h1;cases h1;exact h2.one u6_ok (u6_ok.solid t x _ (Ho bC))
def C0f{w:World}{m:Nat->Nat}{t:Ty6}{x:A4 t}{v:Value}(h:CRep U6 w m (.agg t x) v):∃us:Ea,v=.agg us.toArray/\LsC U6 w m (U6.cells t x) us/\us.length=U6.size t:=by
 obtain⟨us,h1,h2⟩:=B5c h;exact⟨us,h1,h2,by rw[<-h2.len,u6_ok.len]⟩
section
variable {P:Program}{ops:Array Oper}{Q:Exit->Act->World->Prop}{S:World->Prop}{a:Act}{w:World}{o o':Oper}
def D4m{listed:Array Bool}{fuel i j:Nat}(hr:Region.ready .any ops listed=[i,j])(hi:ops[i]?=some o)(hj:ops[j]?=some o')(hg:o.guard=none)(rh:o'.guard=none)
  (h:∀K:Act->World->Prop,(∀a' w',S w'->wpAnyH P .any ops (J2 Q) S fuel (listed.setIfInBounds i true) a' w'->K a' w')->o.wp P a w K (J2 Q))
  (h':∀K:Act->World->Prop,(∀a' w',S w'->wpAnyH P .any ops (J2 Q) S fuel (listed.setIfInBounds j true) a' w'->K a' w')->o'.wp P a w K (J2 Q)):wpAnyH P .any ops (J2 Q) S (fuel+1) listed a w:=by
 refine wpAnyH_all hr Eo λk hk=>?_;rcases Fb.1 hk with rfl|hk
 ·unfold Go.wpOp;simp only[hi];rw[El (by simp[He,hg])];exact .inl (h _ λa' w' h1 h2=>⟨h1,h2⟩)
 ·rcases Gb.1 hk with rfl;unfold Go.wpOp;simp only[hj];rw[El (by simp[He,rh])];exact .inl (h' _ λa' w' h1 h2=>⟨h1,h2⟩)
end
def B2Q(w0:World)(m0:Nat->Nat)(r0:J1)(f0:A1Q)(Q:Exit->Act->World->Prop):Prop:=
 ∀a w m b1 b2 u1 u2,Tm a 34 [(4,.pointer (some ⟨b1,0,none⟩)),(5,.pointer (some ⟨b2,0,none⟩))]->Bk w b1 u1->Bk w b2 u2->LsC U6 w m (U6.cells .doc r0) u1->LsC U6 w m (U6.cells .fault f0) u2->KM w0 m0 w m (λ_=>False)->Q .ret a w
variable {I:Inv}{w0 w:World}{m0 m:Nat->Nat}{r0:J1}{f0:A1Q}{Q:Exit->Act->World->Prop}{a:Act}
def D2Y:LsC U6 w m (U6.cells .doc (⟨[]⟩:J1)) [.slice none 0 0]:=⟨.nil _ _ _ _,trivial⟩
def C1H{k:Int}{p:B1}{b1 b2 ab:Nat}(hQ:B2Q w0 m0 ⟨[]⟩ ⟨k,[p],[]⟩ Q)(hk:KM w0 m0 w m λ_=>False)(h1:Ow w0 w m b1 [.slice none 0 0])(h2:Ow w0 w m b2 [.int .i64 k,.slice (some ⟨ab,0,none⟩) 1 1,.slice none 0 0])(h3:Ow w0 w m ab (X7 p))
  (tm:Tm a 34 [(4,.pointer (some ⟨b1,0,none⟩)),(5,.pointer (some ⟨b2,0,none⟩))]):Q .ret a w:=by
 obtain⟨m',cq,nA⟩:=B0j (U:=U6) (m:=m) u6_ok (t:=.pos) (l:=[p]) (h3.arr (n:=1) rfl) rfl (λj lf hj=>by
  match j,hj with
  |0,hj=>cases hj;exact⟨_,rfl,.int _ _⟩
  |1,hj=>cases hj;exact⟨_,rfl,.int _ _⟩) (λb hb=>by rw[A0b Ep]at hb;cases hb;exact h3.mz) hk.zero
 exact hQ _ _ _ _ _ _ _ tm h1.bk h2.bk D2Y ⟨.int _ _,cq,.nil _ _ _ _,trivial⟩ (hk.trans nA λd hd e=>by rw[A0b Ep]at e;cases e;have:=h3.hi;omega)
def C8H{T:DZ}{j:Nat}{k:Int}{t:A0}{b1 b2:Nat}{vt:Value}(hT:T[j]?=some t)(hQ:B2Q w0 m0 ⟨[]⟩ ⟨k,[t.pos],[]⟩ Q)(hk:KM w0 m0 w m λ_=>False)(h1:Ow w0 w m b1 [.slice none 0 0])(h2:Ow w0 w m b2 [.int .i64 0,.slice none 0 0,.slice none 0 0])(aC:b1≠b2)(ht:CRep U6 w m (.sl .tok T none) vt)
  (tm:Tm a 34 [(4,.pointer (some ⟨b1,0,none⟩)),(5,.pointer (some ⟨b2,0,none⟩)),(6,vt),(8,.int .i64 (j:Int)),(9,.int .i64 k)]):(A2 Fm [1,1,1,1,0,1,0]).wp Ew Q a w:=by
 refine wsq rfl ?_;obtain⟨tb,mi,pT,mE,qJ⟩:=A7t ht hT;have hj:j<T.length:=(Gc.1 hT).1;refine D7p (S:=λw'=>∀(i:Nat) u,(T8 t)[i]?=some u->w'.cell? ⟨tb,mi+j*7+i,none⟩=some u) rfl 6 11 rfl rfl ?_;have kd:=B7r hk.zero;have hk:=hk.trans kd λ_ _ h=>h;have h1:=h1.keep kd (λh=>h);have h2:=h2.keep kd (λh=>h);have ht:=ht.mono u6_ok kd.ext;obtain⟨Db,tO,tP,mj,nC⟩:=A7t ht hT;rw[mE]at mj;cases mj;generalize ({w with drawn:=w.drawn+1}:World)=w at hk h1 h2 ht nC ⊢;clear kd qJ;have HS:=nC;have oA:∀{w' m'},CRep U6 w' m' (.sl .tok T none) vt->∀(i:Nat) u,(T8 t)[i]?=some u->w'.cell? ⟨tb,mi+j*7+i,none⟩=some u:=λh=>by
  obtain⟨Db,tO,tP,mj,nC⟩:=A7t h hT;rw[mE]at mj;cases mj;exact nC
 refine Dt tm 0 rfl (by exact HS) (λw hS=>A4J tm rfl rfl (cs:= #[.slice none 0 0]) En) λa tm=>?_;refine Dt tm 1 rfl (by exact HS) (λw hS=>A0Z tm) λa tm=>?_;refine Dt tm 2 rfl (by exact HS) (λw hS=>A0Z tm) λa tm=>?_;refine Dt tm 3 rfl (by exact HS) (λw hS=>A0Z tm) λa tm=>?_;refine Dt tm 4 rfl (by exact HS) (λw hS=>A1G tm A9U A0B rfl rfl mE rfl rfl hj) λa tm=>?_;refine Dt tm 5 rfl (by exact HS) (λw hS=>A07 tm D5Y) λa tm=>?_;refine Dt tm 6 rfl (by exact HS) (λw hS=>A3W tm C3J A67 rfl rfl (us:=X7 t.pos) rfl (λi u hi=>by
  rw[Nat.add_assoc];exact hS (1+i) u (by match i,hi with|0,hi=>exact hi|1,hi=>exact hi))) λa tm=>?_
 have one1:∀v∈[Fh none 0 0],v.oneCell'=true:=λv hv=>by simp only[Fb,Fg,or_false]at hv;rcases hv with rfl;rfl
 refine D4m (i:=7) (j:=9) En rfl rfl rfl rfl (λK hK=>?_) (λK hK=>?_)
 ·obtain⟨h3,k3,gJ⟩:=A7I hk (X7 t.pos) 44;refine A2s tm B8v A67 rfl rfl rfl rfl rfl (us:=X7 t.pos) rfl rfl rfl Ep Ep λa tm=>hK _ _ (oA (ht.mono u6_ok k3.ext)) ?_;have e1:w.heap.size≠b1:=λe=>by have:=h1.bk.lt;omega
  have e2:w.heap.size≠b2:=λe=>by have:=h2.bk.lt;omega
  have h1:=h1.keep k3 (λh=>h);have h2:=h2.keep k3 (λh=>h);have ht:=ht.mono u6_ok k3.ext;generalize w.heap.size=ab at*;generalize (w.alloc (.cells (X7 t.pos).toArray 44))=w at*;refine Dt tm 8 rfl (by exact oA ht) (λw hS=>B62 tm rfl rfl rfl rfl (cs:= #[.int .i64 k,.slice (some ⟨ab,0,none⟩) 1 1,.slice none 0 0]) En) λa tm=>?_;refine B0n (i:=9) En rfl rfl λK hK=>?_;obtain⟨q1,h1,q3,hk⟩:=h1.store gJ (vs:=[.slice none 0 0]) rfl one1;have ht:=ht.mono u6_ok q3.ext;refine A7g tm A9a rfl rfl rfl rfl (us:=[.slice none 0 0]) rfl rfl q1 (hK _ _ (oA ht) ?_);have h2:=h2.keep q3 (λe=>aC e.symm);have h3:=h3.keep q3 e1;generalize (D5 w b1 0 [.slice none 0 0])=w at*;refine B0n (i:=10) En rfl rfl λK hK=>?_;obtain⟨q1,h2,q3,hk⟩:=h2.store hk (vs:=[.int .i64 k,.slice (some ⟨ab,0,none⟩) 1 1,.slice none 0 0]) rfl (λv hv=>by simp only[Fb,Fg,or_false]at hv;rcases hv with rfl|rfl|rfl<;>rfl);refine A7g tm A8a rfl rfl rfl rfl (us:=[.int .i64 k,.slice (some ⟨ab,0,none⟩) 1 1,.slice none 0 0]) rfl rfl q1 (hK _ _ (oA (ht.mono u6_ok q3.ext)) ?_);refine C2r En ?_ _;show(A2 _ _).wp _ _ _ _;exact A5P rfl (C1H hQ hk (h1.keep q3 aC) h2 (h3.keep q3 e2) (tm.sub ⟨rfl,rfl,trivial⟩))
 ·obtain⟨q1,kY,q3,hk⟩:=h1.store hk (vs:=[.slice none 0 0]) rfl one1;have ht:=ht.mono u6_ok q3.ext;refine A7g tm A9a rfl rfl rfl rfl (us:=[.slice none 0 0]) rfl rfl q1 (hK _ _ (oA ht) ?_);have h2:=h2.keep q3 (λe=>aC e.symm);clear h1;generalize (D5 w b1 0 [.slice none 0 0])=w at*;refine B0n (i:=7) En rfl rfl λK hK=>?_;obtain⟨h3,k3,gJ⟩:=A7I hk (X7 t.pos) 44;refine A2s tm B8v A67 rfl rfl rfl rfl rfl (us:=X7 t.pos) rfl rfl rfl Ep Ep λa tm=>hK _ _ (oA (ht.mono u6_ok k3.ext)) ?_;have e1:w.heap.size≠b1:=λe=>by have:=kY.bk.lt;omega
  have e2:w.heap.size≠b2:=λe=>by have:=h2.bk.lt;omega
  have h1:=kY.keep k3 (λh=>h);have h2:=h2.keep k3 (λh=>h);have ht:=ht.mono u6_ok k3.ext;clear kY;generalize w.heap.size=ab at*;generalize (w.alloc (.cells (X7 t.pos).toArray 44))=w at*;refine Dt tm 8 rfl (by exact oA ht) (λw hS=>B62 tm rfl rfl rfl rfl (cs:= #[.int .i64 k,.slice (some ⟨ab,0,none⟩) 1 1,.slice none 0 0]) En) λa tm=>?_;refine B0n (i:=10) En rfl rfl λK hK=>?_;obtain⟨q1,h2,q3,hk⟩:=h2.store gJ (vs:=[.int .i64 k,.slice (some ⟨ab,0,none⟩) 1 1,.slice none 0 0]) rfl (λv hv=>by simp only[Fb,Fg,or_false]at hv;rcases hv with rfl|rfl|rfl<;>rfl);refine A7g tm A8a rfl rfl rfl rfl (us:=[.int .i64 k,.slice (some ⟨ab,0,none⟩) 1 1,.slice none 0 0]) rfl rfl q1 (hK _ _ (oA (ht.mono u6_ok q3.ext)) ?_);refine C2r En ?_ _;show(A2 _ _).wp _ _ _ _;exact A5P rfl (C1H hQ hk (h1.keep q3 aC) h2 (h3.keep q3 e2) (tm.sub ⟨rfl,rfl,trivial⟩))
def D4G(hb:HB I)(hI:I w0 m0)(hz:∀b,w0.heap.size<=b->m0 b=0){src:DS}{depth:Int}{pU:Value}(hs:CRep U6 w0 m0 (.sl .u8 src none) pU)(hP:F8 src depth=some (.tup [.agg .doc r0,.agg .fault f0]))(tm:Tm a 34 [(0,pU),(1,.int .i64 depth)])
  (hQ:B2Q w0 m0 r0 f0 Q):(A2 Fm []).wp Ew Q a w0:=by
 unfold F8 at hP;cases xL:okR [.sl .tok (some 1)] (F24 src)with
 |false=>rw[xL]at hP;cases hP
 |true=>
 rw[xL,Eg]at hP;cases eC:A0o (A2v (gL (F24 src) 0)).length with
 |false=>rw[eC]at hP;cases hP
 |true=>
 rw[eC,Eg]at hP;split at hP
 rotate_left
 ·cases hP
 rename_i d j k Dc;have tQ:F25 (A2v (gL (F24 src) 0)) (A0I depth)=some (.tup [.agg .tree d,.int .i64 (j:Int),.int .i64 k]):=by
  unfold F25;rw[eC,Eg,Dc]
 generalize hT:A2v (gL (F24 src) 0)=T at hP tQ;have xM:S25 [.sl .tok T none,.int .i64 (A0I depth)]=some (true,.tup [.agg .tree d,.int .i64 (j:Int),.int .i64 k]):=by
  show some (okR _ (F25 T (A0I depth)),N3 _ (F25 T (A0I depth)))=_;rw[tQ];rfl
 have dU:=KM.refl w0 m0 (λ_=>False) hz;refine wsq rfl ?_;obtain⟨h1,k1,eD⟩:=A7I dU [.slice none 0 0] 26;refine D4 0 2 rfl rfl ?_;refine Fa rfl λK hK=>A4m tm A9a rfl rfl rfl λa tm=>hK _ _ ?_;clear dU;generalize w0.heap.size=b1 at*;generalize (w0.alloc (.cells [Fh none 0 0].toArray 26))=w at*;obtain⟨h2,k2,hk⟩:=A7I eD [.int .i64 0,.slice none 0 0,.slice none 0 0] 31;refine Fa rfl λK hK=>A4m tm A8a rfl rfl rfl λa tm=>hK _ _ ?_;have aC:b1≠w.heap.size:=λe=>by have:=h1.bk.lt;omega
 have h1:=h1.keep k2 (λh=>h);generalize w.heap.size=b2 at*;generalize (w.alloc (.cells [Gg .i64 0,.slice none 0 0,.slice none 0 0].toArray 31))=w at*;clear k1 k2 eD;refine Wn ?_;refine wsq rfl ?_;have aw:∀a,Tm a 34 [(0,pU),(1,.int .i64 (A0I depth)),(4,.pointer (some ⟨b1,0,none⟩)),(5,.pointer (some ⟨b2,0,none⟩))]->(A2 Fm [1,1]).wp Ew Q a w:=λa tm=>by
  refine wsq rfl ?_;refine D4 3 3 rfl rfl ?_;refine Pm tm λa tm=>?_;refine Fa rfl λK hK=>A1u tm rfl rfl rfl (B6i hb).enter rfl (A6G tm rfl rfl) (A16 (B6i hb) (ls:=[.sl .u8 src none]) (A2j (r:=.one (.sl .tok T (some 1))) (by rw[<-hT];rfl) xL) (hb.mono _ _ _ _ hI hk.ext) hk.zero ⟨hs.mono u6_ok hk.ext,trivial⟩ rfl) ?_;rintro e w1 ⟨vt,m1,rfl,k1,e1⟩;have ht:CRep U6 w1 m1 (.sl .tok T none) vt:=CRep.own e1 none;clear e1;refine⟨_,rfl,λa tm=>hK _ _ ?_⟩;refine Pa tm λa tm=>?_;refine Wn ?_;have hk:=hk.trans k1 λ_ _ h=>h;have h1:=h1.keep k1 (λh=>h);have h2:=h2.keep k1 (λh=>h);clear k1 hs;have tm:=tm.keep [1,4,5,6];refine wsq rfl ?_;refine D4 4 11 rfl rfl ?_;refine Pm tm λa tm=>?_;refine Pm tm λa tm=>?_;refine Fa rfl λK hK=>A1u tm rfl rfl rfl (B2W hb).enter rfl (B0S tm rfl rfl rfl) (A16 (B2W hb) (ls:=[.sl .tok T none,.int .i64 (A0I depth)]) (r:=.tup [.agg .tree d,.int .i64 (j:Int),.int .i64 k]) (A2j xM rfl) (hb.mono _ _ _ _ hI hk.ext) hk.zero ⟨ht,.int _ _,trivial⟩ rfl) ?_;rintro e w2 ⟨v2,m2,rfl,k1,vs,rfl,e1⟩;have hk:=hk.trans k1 λ_ _ h=>h;have h1:=h1.keep k1 (λh=>h);have h2:=h2.keep k1 (λh=>h);have ht:=ht.mono u6_ok k1.ext;clear k1
  match vs,e1 with
  |[x,y,z],⟨e1,e2,e3,_⟩=>
  obtain rfl:=CRep.int_inv e2;obtain rfl:=CRep.int_inv e3;obtain⟨ud,rfl,hu,px⟩:=C0f e1;clear e1 e2 e3;refine⟨_,rfl,λa tm=>hK _ _ ?_⟩;refine Pm tm λa tm=>?_;refine Pv tm (A9i tm (vs:=[.agg ud.toArray,.int .i64 (j:Int),.int .i64 k])) λa tm=>?_;refine Pv tm (A9i tm (vs:=[.agg ud.toArray,.int .i64 (j:Int),.int .i64 k])) λa tm=>?_;refine Pv tm (A9i tm (vs:=[.agg ud.toArray,.int .i64 (j:Int),.int .i64 k])) λa tm=>?_;refine Fa rfl λK hK=>A4m tm A2g rfl rfl rfl λa tm=>hK _ _ ?_;obtain⟨h3,k1,hk⟩:=A7I hk [.slice none 0 0,.slice none 0 0] 97;have n1:b1≠w2.heap.size:=λe=>by have:=h1.bk.lt;omega
  have n2:b2≠w2.heap.size:=λe=>by have:=h2.bk.lt;omega
  have h1:=h1.keep k1 (λh=>h);have h2:=h2.keep k1 (λh=>h);have ht:=ht.mono u6_ok k1.ext;have hu:=hu.mono u6_ok k1.ext;generalize w2.heap.size=b3 at*;generalize (w2.alloc (.cells [Fh none 0 0,.slice none 0 0].toArray 97))=w2 at*;obtain⟨q1,h3,k1,hk⟩:=h3.store hk (vs:=ud) (by rw[px];rfl) (C0C (t:=.tree) hu);refine Ps tm A2g q1 ?_ (hl:=px);have h1:=h1.keep k1 n1;have h2:=h2.keep k1 n2;have ht:=ht.mono u6_ok k1.ext;have hu:=hu.mono u6_ok k1.ext;clear q1 k1;refine Pa tm λa tm=>?_;refine Pa tm λa tm=>?_;refine Wn ?_;have tm:=tm.keep [4,5,6,7,8,9];refine wsq rfl ?_;refine wsq rfl ?_;refine D4 5 2 rfl rfl ?_;refine Pm tm λa tm=>?_;refine Pv tm (D6Q tm) λa tm=>?_;refine Wn ?_;refine wcn tm rfl _ rfl ?_;unfold B1z at hP;cases lD:k !=0 with
  |true=>
   rw[lD,Eg]at hP;rw[El rfl];cases hj:T[j]? with
   |none=>rw[hj]at hP;cases hP
   |some t=>
    rw[hj]at hP;cases hP;exact C8H hj hQ hk h1 h2 aC ht (tm.sub ⟨rfl,rfl,rfl,rfl,rfl,trivial⟩)
  |false=>
   rw[lD]at hP;rw[Ek Eo];refine P7 rfl ?_;cases xN:okB [.agg .doc] kN (F26 d.nodes d.toks)with
   |false=>rw[xN]at hP;cases hP
   |true=>
   rw[xN]at hP;cases hP;show(A2 _ _).wp _ _ _ _;refine wsq rfl ?_;refine D4 7 4 rfl rfl ?_;refine Fa rfl λK hK=>A1u tm rfl rfl rfl (C11 hb).enter rfl (A6G tm rfl rfl) (C93 (C11 hb) (ls:=[]) (vs:=[]) (c:=U6.cells .tree d) (C8r (b:=okB [.agg .doc] kN (F26 d.nodes d.toks)) (r:=([.agg .doc (A9E (gB (F26 d.nodes d.toks) 0))],csR kN (F26 d.nodes d.toks))) rfl xN) (hb.mono _ _ _ _ hI hk.ext) hk.zero trivial rfl h3.bk (D2T (t:=.tree) hu) (by rw[px];decide) h3.mz hu rfl) ?_;rintro e w3 ⟨m3,rv,DP,rfl,k1,_,_,_,_,_,e1⟩;have hk:=hk.trans k1 λd hd e=>by subst e;have:=h3.hi;omega
   have h1:=h1.keep k1 n1;have h2:=h2.keep k1 n2;clear k1
   match rv,e1 with
   |[x],⟨e1,_⟩=>
   obtain⟨ux,rfl,hx,qR⟩:=C0f e1;clear e1;refine⟨_,rfl,λa tm=>hK _ _ ?_⟩;refine Pv tm (A4J tm rfl rfl (cs:= #[.int .i64 0,.slice none 0 0,.slice none 0 0]) En) λa tm=>?_;obtain⟨q1,h1,k1,hk⟩:=h1.store hk (vs:=ux) (by rw[qR];rfl) (C0C (t:=.doc) hx);refine Ps tm A9a q1 ?_ (hl:=qR);have h2:=h2.keep k1 (λe=>aC e.symm);have hx:=hx.mono u6_ok k1.ext;clear q1 k1;obtain⟨q1,h2,k1,hk⟩:=h2.store hk (vs:=[.int .i64 0,.slice none 0 0,.slice none 0 0]) rfl (λv hv=>by simp only[Fb,Fg,or_false]at hv;rcases hv with rfl|rfl|rfl<;>rfl);refine Ps tm A8a q1 ?_;have h1:=h1.keep k1 aC;have hx:=hx.mono u6_ok k1.ext;refine Wn ?_;exact A5P rfl (hQ _ _ _ _ _ _ _ (tm.sub ⟨rfl,rfl,trivial⟩) h1.bk h2.bk hx ⟨.int _ _,.nil _ _ _ _,.nil _ _ _ _,trivial⟩ hk)
 refine wsq rfl ?_;refine D4 1 2 rfl rfl ?_;refine Pm tm λa tm=>?_;refine Pv tm (B06 tm) λa tm=>?_;refine Wn ?_;refine wcn tm rfl _ rfl ?_;unfold A0I at aw;cases hd:decide (200<depth)with
 |true=>
  rw[hd]at aw;rw[El rfl];refine D4 2 1 rfl rfl ?_;refine Pa tm λa tm=>?_;exact Fc (aw _ (tm.sub ⟨rfl,rfl,rfl,rfl,trivial⟩))
 |false=>
  rw[hd]at aw;rw[Ek Eo];refine P7 rfl ?_;exact aw _ (tm.sub ⟨rfl,rfl,rfl,rfl,trivial⟩)
def D4U(hb:HB I):Sound Ew U6 I 8 (sG S8):=by
 refine⟨Gl,λls r hr=>?_⟩;unfold sG S8 at hr;split at hr
 ·rename_i src depth;obtain⟨h1,h2⟩:=A2Z hr;have hF:∃x f,F8 src depth=some (.tup [.agg .doc x,.agg .fault f]):=⟨_,_,B9v h1 rfl⟩;obtain⟨x,f,hF⟩:=hF;intro w0 g vs hI hz ax _ _
  match vs,ax with
  |[v1,v2],⟨e1,e2,_⟩=>
   obtain rfl:=CRep.int_inv e2.1;refine calls_of_wp Tryz.func8 (show Tryz.f8.body=some (A2 Fm [])from En) ?_;refine D4G hb hI hz e1.1 hF (C5g (vs:=[v1,.int .i64 depth]) (show 2<=34 from Ep) λi v h=>?_) λa w m b1 b2 u1 u2 tm mL cJ Ai pY hk=>?_
   ·unfold W5 at h
    match i,h with
    |0,h=>cases h;rfl
    |1,h=>cases h;rfl
   ·have jV:u1.length=1:=by rw[<-Ai.len];rfl
    have gw:u2.length=3:=by rw[<-pY.len];rfl
    refine⟨tm.dfr,.tuple #[.agg u1.toArray,.agg u2.toArray],?_,_,{g with wm:=m},rfl,?_⟩
    ·have h4:=tm.get 4 _ rfl;have h5:=tm.get 5 _ rfl;have qp:(loadVar 26 ⟨b1,0,none⟩).run Ew w=.ok (.agg u1.toArray) w:=A8R D6L A9a jV (λj u hj=>by rw[Fj];exact mL.cell hj);have wH:(loadVar 31 ⟨b2,0,none⟩).run Ew w=.ok (.agg u2.toArray) w:=A8R D5M A8a gw (λj u hj=>by rw[Fj];exact cJ.cell hj);exact A6H Ew Fm a w [.cell 4 26,.cell 5 31] En (vs:=[.agg u1.toArray,.agg u2.toArray]) (λf hf=>by
      simp[hf.tmp,hf.cell,h4,h5,asAddr,qp,wH])
    ·rw[<-h2,hF];exact B5W (ls:=[.agg .doc x,.agg .fault f]) (vs:=[.agg u1.toArray,.agg u2.toArray]) hk (λ_ h=>h.elim) ⟨A6e Ai,A6e pY,trivial⟩ rfl _ rfl
 ·cases hr
end Go.Aev
section
namespace Go.Aev
open Go.Proofs
def A6C{P:Program}{T f:Nat}{ie:TypeInfo}{me:Method}{v v1 v2:Value}{w:World}(hi:P.info? T=some ie)(hm:ie.methods= #[me])(hn:me.name= "pergola/printer.print")(hp:me.path= #[])(hf:me.func=some (f,false))
  (hu:(match P.underlying T with|some (.struct _)=>true|_=>false)=true)(hc:∀args w,(callFunc f args).run P w=.ok (.enter f args) w):
  (invoke (.fn (.method "pergola/printer.print") #[]) #[.iface T v,v1,v2]).run P w=.ok (.enter f #[v,v1,v2]) w:=by
 have hd:∃n,P.types.size+Ga=n+1:=⟨P.types.size+Ga - 1,by unfold Ga;omega⟩;obtain⟨n,gV⟩:=hd;split at hu
 ·rename_i fs cb;simp[invoke,callMethod,gV,method,typeInfo,hi,hm,hn,hp,hf,follow,receiverAt,run_underlying cb,Place.get,hc]
 ·cases hu
end Go.Aev
namespace Go.Aev
open Go.Proofs
def A6M{I:Inv}(hb:HB I){w:World}{m:Nat->Nat}(hI:I w m){x:PartT}{T f:Nat}{t:Ty6}{y:A4 t}{a2:Int}{cs:Ec}{rs:DV}{ay:Ec}
  (hx:A0H .part x=[.ifc T t y])(ah:∀v v1 v2 w,(invoke (.fn (.method "pergola/printer.print") #[]) #[.iface T v,v1,v2]).run Ew w=.ok (.enter f #[v,v1,v2]) w)
  (hc:X2 Ew U6 I f [.agg t y,.ptr 900000 0,.int .i64 a2] cs rs ay):
  A5k Ew U6 ⟨w,m,λ_=>False,0,λ_=>undef⟩ "pergola/printer.print" [.one1 .part x,.ptr 900000 0,.int .i64 a2] cs rs ay:=by
 intro w1 g1 vs hl
 match vs,hl with
 |[v0,v1,v2],hl=>
  obtain⟨h0,h1,h2,_⟩:=hl;have fM:=h0.1;cases fM with
  |one1 _ _ lf _ cq fb=>
   have dh:lf=.ifc T t y:=by
    have:[lf]=[Leaf.ifc T t y]:=by rw[<-hx];exact cq.symm
    exact(List.cons.inj this).1
   subst dh;cases fb with
   |ifc _ _ _ v' dt=>
    refine⟨f,[.agg t y,.ptr 900000 0,.int .i64 a2],[v',v1,v2],ah v' v1 v2 w1,⟨⟨dt,λ_ _ _ e=>(by cases e),λ_ _ e=>(by cases e)⟩,h1,h2,trivial⟩,λlf dh d hd=>?_,?_⟩
    ·simp only[Fb,Fg,or_false]at dh;rcases dh with rfl|rfl|rfl
     ·cases hd
     ·exact⟨.ptr 900000 0,Eo,hd⟩
     ·cases hd
    ·intro w2 g2 jX xO eb;exact hc w2 g2 jX xO (hb.mono _ _ _ _ hI eb)
 |[],hl=>exact hl.elim
 |[_],hl=>exact hl.2.elim
 |[_,_],hl=>exact hl.2.2.elim
 |_::_::_::_::_,hl=>exact hl.2.2.2.elim
end Go.Aev
end
namespace Go.Aev
open Go.Proofs
def smN(n:Nat):Bool:=Nat.ble n 1099511627776
def A28(bP:List B9)(toks:DZ)(depth:Int):Nat->Eb->Nat->Int->Option (Int×B1)
 |0,_,_,_=>none
 |_+1,[],_,_=>some (0,⟨0,0⟩)
 |f+1,cT::aw,at_,op=>
  match toks[at_]? with
  |none=>none
  |some t=>
   bif okR [.bool] (F73 cT)then
    bif lB (gL (F73 cT) 0)then
     bif okR [.slc .str,.bool] (F74 bP cT t)then
      bif lB (gL (F74 bP cT t) 1)then
       bif smN ((I2 (gL (F74 bP cT t) 0)).length+aw.length)then A28 bP toks depth f (I2 (gL (F74 bP cT t) 0)++aw) at_ op else none
      else none
     else none
    else
     bif okR [.bool] (F75 cT t)then
      bif lB (gL (F75 cT t) 0)then
       bif okR [.int .i64] (F76 cT)then
        bif(lI (gL (F76 cT) 0)==1)&&decide (depth<=op)then none
        else A28 bP toks depth f aw (bif Ft (at_+1) toks.length then at_+1 else at_) (Fq .i64 (op+lI (gL (F76 cT) 0)))
       else none
      else none
     else none
   else none
def F33(a0:List B9)(a1:DT)(a2:DZ)(a3:Int):DU:=
 bif smN a2.length then
  match A28 a0 a2 a3 NN [a1] 0 0 with
  |some (k,p)=>some (.tup [.int .i64 k,.agg .pos p])
  |none=>none
 else none
def S33:DV->Option (Bool×E6)
 |[.sl .rule a0 none,.str a1,.sl .tok a2 none,.int .i64 a3]=>some (okR [.int .i64,.agg .pos] (F33 a0 a1 a2 a3),N3 [.int .i64,.agg .pos] (F33 a0 a1 a2 a3))
 |_=>none
def C5S{w:World}{sv:Value}{cT:DT}{aw:Eb}(h:ArrN w 1 sv (cT::aw).length ((cT::aw).reverse.map G5)):
  ∃b cap,sv=.slice (some ⟨b,0,none⟩) (aw.length+1) cap/\aw.length+1<=cap/\w.cell? ⟨b,0+aw.length*1,none⟩=some (G5 cT):=by
 obtain⟨b,cap,hv,_,_,bh,hc⟩:=h.blk Eo;refine⟨b,cap,hv,bh,?_⟩;rw[Fj,Hf];exact(hc aw.length _ Eo).1
structure RunI(w0:World)(m0:Nat->Nat)(w:World)(m:Nat->Nat)(ρ:Nat->Nat)(sv:Value)(st:Eb)(bz:Nat):Prop where
 sys:Sys w0 m0 (λ_=>False) w m ρ
 arr:ArrN w 1 sv st.length (st.reverse.map G5)
 role:∀b,H4 sv=some b->ρ b=3
 z:Bk w bz [.int .i64 0,.int .i64 0]
 zr:ρ bz=1
def RunI.z0{w0 w:World}{m0 m ρ:Nat->Nat}{sv:Value}{st:Eb}{bz:Nat}(h:RunI w0 m0 w m ρ sv st bz):∀b,w.heap.size<=b->m b=0:=h.sys.z
def RunI.step{w0 w w':World}{m0 m m' ρ:Nat->Nat}{sv:Value}{st:Eb}{bz:Nat}{S:Nat->Prop}(h:RunI w0 m0 w m ρ sv st bz)(k:KM w m w' m' S)(hS:∀b, ¬S b)(r:Nat)(hr:r≠0->m'=m):RunI w0 m0 w' m' (H1 ρ w.heap.size r) sv st bz:=by
 refine⟨h.sys.step k (λb _ hs=>(hS b hs).elim) (λb _ hs=>(hS b hs).elim) r (λh0 b hb=>by rw[hr h0];exact h.z0 b hb),k.arr h.arr λb _=>hS b,λb hb=>?_,k.bk h.z (hS bz),?_⟩
 ·rw[J8 (h.arr.lt hb)];exact h.role b hb
 ·rw[J8 h.z.lt];exact h.zr
def RunI.tok{w0 w w':World}{m0 m ρ:Nat->Nat}{sv:Value}{st:Eb}{bz bt:Nat}(h:RunI w0 m0 w m ρ sv st bz)(k:KM w m w' m (λb=>b=bt))(ht:ρ bt=2):RunI w0 m0 w' m ρ sv st bz:=by
 refine⟨h.sys.stay k (λb _ hs=>by rw[hs,ht];decide),k.arr h.arr λb hb hs=>?_,h.role,k.bk h.z λhs=>?_,h.zr⟩
 ·have:=h.role b hb;rw[hs,ht]at this;cases this
 ·have:=h.zr;rw[hs,ht]at this;cases this
def C5d(w0:World)(m0:Nat->Nat)(k:Int)(p:B1)(Q:Exit->Act->World->Prop):Prop:=
 ∀e a w m,(e=.normal\/e=.ret)->a.defers=[]->(results Fi a.tmps).run Ew w=.ok (.tuple #[.int .i64 k,.agg (X7 p).toArray]) w->KM w0 m0 w m (λ_=>False)->Q e a w
def D2g{w0 w:World}{m0 m:Nat->Nat}{k:Int}{p:B1}{Q:Exit->Act->World->Prop}(hQ:C5d w0 m0 k p Q){e:Exit}{a:Act}{bz:Nat}(he:e=.normal\/e=.ret)(tm:Tm a 93 [(8,.int .i64 k),(9,.pointer (some ⟨bz,0,none⟩))])(hb:Bk w bz (X7 p))(hk:KM w0 m0 w m (λ_=>False)):Q e a w:=by
 refine hQ e a w m he tm.dfr ?_ hk;have h8:=tm.get 8 _ rfl;have h9:=tm.get 9 _ rfl;have:=A6H Ew Fi a w [.tmp 8,.cell 9 44] En (vs:=[.int .i64 k,.agg (X7 p).toArray]) (λf hf=>by
  have hl:(loadVar 44 ⟨bz,0,none⟩).run Ew w=.ok (.agg (X7 p).toArray) w:=A8R C3J A67 rfl (λj u hj=>by rw[Fj];exact hb.cell hj);simp[hf.tmp,hf.cell,h8,h9,asAddr,hl])
 exact this
def C8P{w0:World}{m0:Nat->Nat}{Q:Exit->Act->World->Prop}{vr vt vc:Value}{depth op:Int}{at_ bz:Nat}{c aw:Eb}{a:Act}{w:World}{m ρ:Nat->Nat}{sv:Value}
  (av:c.length+aw.length<=1099511627776)(hi:RunI w0 m0 w m ρ sv aw bz)(li:CRep U6 w m (.sl .str c none) vc)(tm:Tm a 93 [(0,vr),(2,vt),(3,.int .i64 depth),(9,.pointer (some ⟨bz,0,none⟩)),(10,sv),(11,.int .i64 op),(12,.int .i64 (at_:Int)),(15,vc),(17,.int .i64 ((c.length:Int) - 1))])
  (hk:∀a w m ρ sv,Tm a 93 [(0,vr),(2,vt),(3,.int .i64 depth),(9,.pointer (some ⟨bz,0,none⟩)),(10,sv),(11,.int .i64 op),(12,.int .i64 (at_:Int))]->RunI w0 m0 w m ρ sv (c++aw) bz->Ext w0 m0 w m->Q .normal a w):
  (A2 Fi [1,1,1,1,0,0,0,1,0,1,1,1,0,1,0,1,1,0,1]).wp Ew Q a w:=by
 refine wbl 2 rfl ?_;refine wlp rfl (λn a w=>∃m ρ sv,n<=c.length/\Tm a 93 [(0,vr),(2,vt),(3,.int .i64 depth),(9,.pointer (some ⟨bz,0,none⟩)),(10,sv),(11,.int .i64 op),(12,.int .i64 (at_:Int)),(15,vc),(17,.int .i64 ((n:Int) - 1))]/\RunI w0 m0 w m ρ sv (c.drop n++aw) bz/\CRep U6 w m (.sl .str c none) vc) c.length ⟨m,ρ,sv,Ff _,tm,by rw[List.drop_length,Hi];exact hi,li⟩ ?_;clear tm hi li m ρ sv a w;rintro n a w ⟨m,ρ,sv,hn,tm,hi,li⟩;refine wsq rfl ?_;refine wsq rfl ?_;refine D4 13 2 rfl rfl ?_;refine Pm tm λa tm=>?_;refine Pv tm (B4h tm) λa tm=>?_;refine Wn ?_;refine wcn tm rfl _ rfl ?_;cases n with
 |zero=>
  rw[Ek Eo];refine A5U 2 rfl ?_;simp only[Exit.then,Hp,if_true];have tm:=tm.keep [0,2,3,9,10,11,12];exact hk a w m ρ sv tm hi hi.sys.km.ext
 |succ n=>
  rw[El Eo];refine P7 rfl ?_;show(A2 _ _).wp _ _ _ _;have tm:=tm.keep [0,2,3,9,10,11,12,15,17];have n9:(((n+1:Nat):Int) - 1)=(n:Int):=Du
  rw[n9]at tm;have jB:c[n]?=some c[n]:=Fk Du;obtain⟨b,off,cap,hv,aL⟩:=B97 li jB;refine wsq rfl ?_;refine wbl 3 rfl ?_;refine D4 15 8 rfl rfl ?_;refine Pm tm λa tm=>?_;refine Pm tm λa tm=>?_;refine Pm tm λa tm=>?_;refine Pv tm (A1G tm A0d tz9 rfl rfl hv rfl rfl Du) λa tm=>?_;refine Pv tm (A0R tm pl9 rfl rfl (aL)) λa tm=>?_;refine Fa rfl λK hK=>A2s tm A0d tz9 rfl rfl rfl rfl rfl (us:=[G5 c[n]]) rfl rfl rfl Ep Ep λa tm=>hK _ _ ?_;have hz:=hi.z0;have eD:=A0r w m (.cells [G5 c[n]].toArray 9) hz;have cw:=hi.step eD (λ_ h=>h) 0 (λh=>absurd rfl h);have yq:Bk (w.alloc (.cells [G5 c[n]].toArray 9)) w.heap.size [G5 c[n]]:=A5n;have eg:ArrN (w.alloc (.cells [G5 c[n]].toArray 9)) 1 (.slice (some ⟨w.heap.size,0,none⟩) 1 1) 1 [G5 c[n]]:=A4d (w:=w) rfl rfl (Ff _) Eo (λj x hj=>by simpa using hj);obtain⟨ie,z,e1,e2,e3,e4,e5⟩:=A1q tz9;have du:(c.drop (n+1)++aw).length<=1099511627776:=by rw[Hm,List.length_drop];omega
  obtain⟨ow,w2,ah,ci,de,cJ⟩:=A9C (P:=Ew) (t:=122) (u:=122) (ty:=122) (e:=9) (y:=.slice (some ⟨w.heap.size,0,none⟩) 1 1) (k:=1) (ys:=[G5 c[n]]) (m:=m) A0d (.inl ⟨9,A0d⟩) e1 e2 e4 (by rw[e5];rfl) cw.arr (by simp[Builtin.lenOf]) (eg.first _) rfl (λx hx=>by rcases Gb.1 hx with rfl;rfl) (λb hb=>cw.sys.zr b (by rw[cw.role b hb];decide)) cw.z0 (by rw[e3];omega) (by rw[e3];decide);refine Fa rfl λK hK=>B1Z tm rfl rfl rfl rfl rfl rfl rfl rfl ah λa tm=>hK _ _ ?_;refine Pa tm λa tm=>?_;refine Fc ?_;show(A2 _ _).wp _ _ _ _;refine D4 14 3 rfl rfl ?_;refine Pm tm λa tm=>?_;refine Pv tm (A2r tm) λa tm=>?_;refine Pa tm λa tm=>?_;refine Fc ?_;have cK:RunI w0 m0 w2 m (H1 (H1 ρ w.heap.size 0) (w.alloc (.cells [G5 c[n]].toArray 9)).heap.size 3) ow (c.drop n++aw) bz:=by
   have jH:c.drop n=c[n]::c.drop (n+1):=(List.drop_eq_getElem_cons Du);refine⟨cw.sys.stepM de (λb _ hs=>by rw[cw.role b hs];decide) 3,?_,λb hb=>?_,de.bk cw.z λhs=>?_,?_⟩
   ·rw[jH,List.cons_append,Hl,Hh,Hk];exact ci
   ·rcases cJ b hb with h|h
    ·rw[J8 (cw.arr.lt h)];exact cw.role b h
    ·rw[A0L h]
   ·have:=cw.role bz hs;rw[cw.zr]at this;cases this
   ·rw[J8 cw.z.lt];exact cw.zr
  have hw:Fq .i64 ((n:Int) - 1)=(n:Int) - 1:=A2G Du Du;rw[hw]at tm;refine⟨n,Fs n,m,_,ow,Du,?_,cK,(li.mono u6_ok eD.ext).mono u6_ok de.ext⟩;exact tm.sub (by repeat' constructor)
def C2o{I:Inv}(hb:HB I){w0:World}{m0:Nat->Nat}(hI:I w0 m0)(hz:∀b,w0.heap.size<=b->m0 b=0){bP:List B9}{toks:DZ}{depth op br:Int}{k:Int}{p:B1}{Q:Exit->Act->World->Prop}{vr vt tR:Value}{n at_ bz bt:Nat}{cT:DT}{aw:Eb}{t:A0}{m ρ:Nat->Nat}
  (eC:toks.length<=1099511627776)(db:CRep U6 w0 m0 (.sl .rule bP none) vr)(nB:CRep U6 w0 m0 (.sl .tok toks none) vt)
  (ah:A28 bP toks depth n aw (bif Ft (at_+1) toks.length then at_+1 else at_) (Fq .i64 (op+br))=some (k,p))(h5:okR [.int .i64] (F76 cT)=true)(tS:lI (gL (F76 cT) 0)=br)(gz:aw.length<=1099511627776)(jo:at_<toks.length)
  {a:Act}{w:World}(tm:Tm a 93 [(0,vr),(2,vt),(3,.int .i64 depth),(9,.pointer (some ⟨bz,0,none⟩)),(10,tR),(11,.int .i64 op),(12,.int .i64 (at_:Int)),(13,G5 cT),(14,.pointer (some ⟨bt,0,none⟩))])(hi:RunI w0 m0 w m ρ tR aw bz)(dc:Bk w bt (T8 t))(fK:ρ bt=2)
  (hk:∀a w n',n'<n+1/\(∃st at_ op m ρ sv,A28 bP toks depth n' st at_ op=some (k,p)/\Tm a 93 [(0,vr),(2,vt),(3,.int .i64 depth),(9,.pointer (some ⟨bz,0,none⟩)),(10,sv),(11,.int .i64 op),(12,.int .i64 (at_:Int))]/\RunI w0 m0 w m ρ sv st bz/\st.length<=1099511627776)->Q .normal a w):(A2 Fi [1,1,1,1,0,0,0,1,0,1,1,1,1,1,1]).wp Ew Q a w:=by
 refine wsq rfl ?_;refine D4 20 5 rfl rfl ?_;refine Pm tm λa tm=>?_;refine Pm tm λa tm=>?_;refine Fa rfl λK hK=>A1u tm rfl rfl rfl (A9S hb).enter rfl (A6G tm rfl rfl) (A16 (A9S hb) (ls:=[.str cT]) (A2j (r:=.one (.int .i64 (lI (gL (F76 cT) 0)))) rfl h5) (hb.mono _ _ _ _ hI hi.sys.km.ext) hi.z0 ⟨.str _,trivial⟩ rfl) ?_;rintro e w1 ⟨v1,m1,rfl,k1,e1⟩;have fK:=(J8 (r:=0) dc.lt).trans fK;have dc:=k1.bk dc (λh=>h);have hi:=hi.step k1 (λ_ h=>h) 0 (λh=>absurd rfl h);obtain rfl:=CRep.int_inv e1;rw[tS];refine⟨_,rfl,λa tm=>hK _ _ ?_⟩;refine Pv tm (A3H tm) λa tm=>?_;refine Pa tm λa tm=>?_;refine Fc ?_;have tm:=tm.keep [0,2,3,9,10,11,12,13,14];show(A2 _ _).wp _ _ _ _;refine wsq rfl ?_;obtain⟨tb,mi,pT,mE,_⟩:=A7t nB (Fk jo);refine D4 21 5 rfl rfl ?_;refine Pm tm λa tm=>?_;refine Pv tm (A3H tm) λa tm=>?_;refine Pm tm λa tm=>?_;refine Pv tm (A1k tm A9U rfl rfl rfl rfl rfl mE) λa tm=>?_;refine Pv tm (C0r tm) λa tm=>?_;refine Wn ?_;rw[B0J Du]at tm;refine wcn tm rfl _ rfl ?_;have tm:=tm.keep [0,2,3,9,10,11,12,13,14];by_cases aH:at_+1<toks.length
 ·rw[El (by simpa using (Du:((at_:Int)+1<(toks.length:Int))))];rw[show Ft (at_+1) toks.length=true by rw[Nat.blt_eq];exact aH,Eg]at ah;refine D4 22 3 rfl rfl ?_;refine Pm tm λa tm=>?_;refine Pv tm (A3H tm) λa tm=>?_;refine Pa tm λa tm=>?_;refine Fc ?_;rw[B0J Du]at tm;exact hk _ _ n ⟨Fs n,aw,at_+1,_,_,_,tR,ah,tm.sub ⟨rfl,rfl,rfl,rfl,rfl,rfl,rfl,trivial⟩,hi,gz⟩
 ·rw[Ek (by simpa using (Du:((toks.length:Int)<=(at_:Int)+1)))];rw[show Ft (at_+1) toks.length=false by rw[Bool.eq_false_iff];intro h;rw[Nat.blt_eq]at h;exact aH h,Eh]at ah;refine P7 rfl ?_;exact hk _ _ n ⟨Fs n,aw,at_,_,_,_,tR,ah,tm.sub ⟨rfl,rfl,rfl,rfl,rfl,rfl,rfl,trivial⟩,hi,gz⟩
def D30{I:Inv}(hb:HB I){w0:World}{m0:Nat->Nat}(hI:I w0 m0)(hz:∀b,w0.heap.size<=b->m0 b=0){bP:List B9}{first:DT}{toks:DZ}{depth:Int}{k:Int}{p:B1}{Q:Exit->Act->World->Prop}{vr vt:Value}{N:Nat}
  (ah:A28 bP toks depth N [first] 0 0=some (k,p))(eC:toks.length<=1099511627776)(db:CRep U6 w0 m0 (.sl .rule bP none) vr)(nB:CRep U6 w0 m0 (.sl .tok toks none) vt)(hQ:C5d w0 m0 k p Q){a:Act}(tm:Tm a 93 [(0,vr),(1,G5 first),(2,vt),(3,.int .i64 depth)]):
  (A2 Fi []).wp Ew Q a w0:=by
 refine wsq rfl ?_;refine D4 0 2 rfl rfl ?_;refine Pa tm λa tm=>?_;refine Fa rfl λK hK=>A4m tm A67 rfl rfl rfl λa tm=>hK _ _ ?_;refine Wn ?_;refine wsq rfl ?_;refine D4 1 3 rfl rfl ?_;refine Pm tm λa tm=>?_;refine Fa rfl λK hK=>A2s tm A0d tz9 rfl rfl rfl rfl rfl (us:=[G5 first]) rfl rfl rfl Ep Ep λa tm=>hK _ _ ?_;refine Pa tm λa tm=>?_;refine Wn ?_;refine wsq rfl ?_;refine D4 2 1 rfl rfl ?_;refine Pa tm λa tm=>?_;refine Wn ?_;refine wsq rfl ?_;refine D4 3 1 rfl rfl ?_;refine Pa tm λa tm=>?_;refine Fc ?_;have hi:∃ρ sv,sv=Fh (some ⟨(w0.alloc (.cells [.int .i64 0,.int .i64 0].toArray 44)).heap.size,0,none⟩) 1 1/\RunI w0 m0 ((w0.alloc (.cells [.int .i64 0,.int .i64 0].toArray 44)).alloc (.cells [G5 first].toArray 9)) m0 ρ sv [first] w0.heap.size:=by
  have s0:Sys w0 m0 (λ_=>False) w0 m0 (λ_=>0):=⟨KM.refl _ _ _ hz,λb h=>absurd rfl h,λb _ h=>absurd rfl h⟩;have k1:=A0r w0 m0 (.cells [.int .i64 0,.int .i64 0].toArray 44) hz;have s1:=s0.stepM k1 (λ_ _ h=>h.elim) 1;have b1:Bk (w0.alloc (.cells [.int .i64 0,.int .i64 0].toArray 44)) w0.heap.size [.int .i64 0,.int .i64 0]:=A5n;have k2:=A0r (w0.alloc (.cells [.int .i64 0,.int .i64 0].toArray 44)) m0 (.cells [G5 first].toArray 9) s1.z;refine⟨_,_,rfl,s1.stepM k2 (λ_ _ h=>h.elim) 3,A4d rfl rfl (Ff _) Eo (λj x hj=>by simpa using hj),λb hb=>?_,k2.bk b1 (λh=>h),?_⟩
  ·rw[A0b Ep]at hb;cases hb;exact A0L (Ff _)
  ·rw[J8 b1.lt];exact A0L (Ff _)
 obtain⟨ρ,sv,jt,hi⟩:=hi;rw[<-jt]at tm;generalize xJ:w0.heap.size=bz at hi tm;generalize ((w0.alloc (.cells [.int .i64 0,.int .i64 0].toArray 44)).alloc (.cells [G5 first].toArray 9))=w at hi ⊢;clear jt xJ;show(A2 _ _).wp _ _ _ _;refine wsq rfl ?_;refine wbl 0 rfl ?_;refine wlp rfl (λn a w=>∃st at_ op m ρ sv,A28 bP toks depth n st at_ op=some (k,p)/\Tm a 93 [(0,vr),(2,vt),(3,.int .i64 depth),(9,.pointer (some ⟨bz,0,none⟩)),(10,sv),(11,.int .i64 op),(12,.int .i64 (at_:Int))]/\RunI w0 m0 w m ρ sv st bz/\st.length<=1099511627776) N ⟨[first],0,0,m0,ρ,sv,ah,tm.sub ⟨rfl,rfl,rfl,rfl,rfl,rfl,rfl,trivial⟩,hi,Eo⟩ ?_;clear tm hi ρ sv a w ah;rintro n a w ⟨st,at_,op,m,ρ,sv,ah,tm,hi,gz⟩;cases n with
 |zero=>cases ah
 |succ n=>
 obtain⟨pa,cap,jt⟩:=hi.arr.len;refine wsq rfl ?_;refine wsq rfl ?_;refine D4 4 3 rfl rfl ?_;refine Pm tm λa tm=>?_;refine Pv tm (A1k tm A0d rfl rfl rfl rfl rfl jt) λa tm=>?_;refine Pv tm (B06 tm) λa tm=>?_;refine Wn ?_;refine wcn tm rfl _ rfl ?_;cases st with
 |nil=>
  simp only[A28,Hr,Prod.mk.injEq]at ah;obtain⟨rfl,rfl⟩:=ah;rw[Ek Eo];refine A5U 0 rfl ?_;simp only[Exit.then,Hp,if_true];show(A2 _ _).wp _ _ _ _;refine wsq rfl ?_;obtain⟨q1,q2,q3⟩:=hi.z.store (m:=m) Ew (off:=0) (vs:=[.int .i64 0,.int .i64 0]) Ep (λv hv=>by rcases Fb.1 hv with rfl|hv;rfl;rcases Fb.1 hv with rfl|hv;rfl;cases hv) (hi.sys.zr bz (by rw[hi.zr];decide)) hi.z0;refine D4 23 3 rfl rfl ?_;refine Pv tm (A4J tm rfl rfl (cs:= #[.int .i64 0,.int .i64 0]) En) λa tm=>?_;refine Pa tm λa tm=>?_;refine Ps tm A67 q1 ?_;refine Wn ?_;refine A5P rfl ?_;exact D2g hQ (.inr rfl) (tm.sub ⟨rfl,rfl,trivial⟩) q2 (hi.sys.stay q3 (λb _ hs=>by rw[hs,hi.zr];decide)).km
 |cons cT aw=>
  rw[El Eo];refine P7 rfl ?_;show(A2 _ _).wp _ _ _ _;refine wbl 1 rfl ?_;simp only[A28]at ah;split at ah
  ·cases ah
  rename_i t mf;obtain⟨sb,mg,jm,mh,gM⟩:=C5S hi.arr;rw[jm]at jt tm;rw[Hl]at gz;have iL:Fq .i64 (((aw.length+1:Nat):Int) - 1)=(aw.length:Int):=by rw[A2G Du Du];omega
  have tm:=tm.keep [0,2,3,9,10,11,12];refine wsq rfl ?_;refine D4 5 7 rfl rfl ?_;refine Pm tm λa tm=>?_;refine Pm tm λa tm=>?_;refine Pv tm (A1k tm A0d) λa tm=>?_;refine Pv tm (A2r tm) λa tm=>?_;refine Pv tm (A1G tm A0d tz9 rfl rfl rfl rfl iL Du) λa tm=>?_;refine Pv tm (A0R tm pl9 rfl rfl (gM)) λa tm=>?_;refine Pa tm λa tm=>?_;refine Wn ?_;refine wsq rfl ?_;refine D4 6 6 rfl rfl ?_;refine Pm tm λa tm=>?_;refine Pm tm λa tm=>?_;refine Pv tm (A1k tm A0d) λa tm=>?_;refine Pv tm (A2r tm) λa tm=>?_;refine Pv tm (C45 tm A0d tz9 rfl rfl rfl rfl iL Du mh) λa tm=>?_;refine Pa tm λa tm=>?_;refine Wn ?_;refine wsq rfl ?_;have cN:=hi.arr;rw[jm]at cN;have ci:=cN.cut (k:=aw.length) Eo;have iE:((cT::aw).reverse.map G5).take (aw.length*1)=aw.reverse.map G5:=by
   rw[Hf,Hh,Hk,List.take_append_of_le_length Eo];exact List.take_of_length_le Eo
  rw[iE]at ci;have hi:RunI w0 m0 w m ρ (.slice (some ⟨sb,0,none⟩) aw.length mg) aw bz:=⟨hi.sys,ci,λb hb=>hi.role b (by rw[jm];exact(B3q (m:=aw.length)).trans hb),hi.z,hi.zr⟩;generalize xG:(Fh (some ⟨sb,0,none⟩) aw.length mg)=tR at hi tm;obtain⟨tb,mi,pT,mE,qJ⟩:=A7t (nB.mono u6_ok hi.sys.km.ext) mf;have jo:=(Gc.1 mf).1;have tm:=tm.keep [0,2,3,9,10,11,12,13];refine D4 7 6 rfl rfl ?_;refine Pm tm λa tm=>?_;refine Pm tm λa tm=>?_;refine Pv tm (A1G tm A9U A0B rfl rfl mE rfl rfl jo) λa tm=>?_;refine Pv tm (A3W tm A6y A0B rfl rfl rfl qJ) λa tm=>?_;refine Fa rfl λK hK=>A4m tm A0B rfl rfl rfl λa tm=>hK _ _ ?_;have eD:=A0r w m (.cells [.int .i64 0,.int .i64 0,.int .i64 0,.int .i64 0,.int .i64 0,.string ⟨[].toArray⟩,.string ⟨[].toArray⟩].toArray 102) hi.z0;have hi:=hi.step eD (λ_ h=>h) 2 (λ_=>rfl);have dc:Bk (w.alloc (.cells [.int .i64 0,.int .i64 0,.int .i64 0,.int .i64 0,.int .i64 0,.string ⟨[].toArray⟩,.string ⟨[].toArray⟩].toArray 102)) w.heap.size _:=A5n;have fK:H1 ρ w.heap.size 2 w.heap.size=2:=A0L (Ff _);generalize xH:w.heap.size=bt at hi dc fK tm;obtain⟨q1,q2,q3⟩:=dc.store (m:=m) Ew (off:=0) (vs:=T8 t) (by simp[T8]) (λv hv=>by simp only[T8,Fb,Fg,or_false]at hv;rcases hv with rfl|rfl|rfl|rfl|rfl|rfl|rfl<;>rfl) (hi.sys.zr bt (by rw[fK];decide)) hi.z0;refine Ps tm A0B q1 ?_;refine Fc ?_;have hi:=hi.tok q3 fK;have dc:Bk _ bt (T8 t):=q2;generalize (D5 _ bt 0 (T8 t))=w at hi dc ⊢;generalize H1 ρ bt 2=ρ at hi fK;have tm:=tm.keep [0,2,3,9,10,11,12,13,14];show(A2 _ _).wp _ _ _ _;refine wsq rfl ?_;refine wsq rfl ?_;cases h1:okR [.bool] (F73 cT)with
  |false=>rw[h1]at ah;cases ah
  |true=>
  rw[h1]at ah;simp only[Eg]at ah;refine D4 8 2 rfl rfl ?_;refine Pm tm λa tm=>?_;refine Fa rfl λK hK=>A1u tm rfl rfl rfl (B0l hb).enter rfl (A6G tm rfl rfl) (A16 (B0l hb) (ls:=[.str cT]) (A2j (r:=.one (.bool (lB (gL (F73 cT) 0)))) rfl h1) (hb.mono _ _ _ _ hI hi.sys.km.ext) hi.z0 ⟨.str _,trivial⟩ rfl) ?_;rintro e w1 ⟨v1,m1,rfl,k1,e1⟩;have fK:=(J8 (r:=0) dc.lt).trans fK;have dc:=k1.bk dc (λh=>h);have hi:=hi.step k1 (λ_ h=>h) 0 (λh=>absurd rfl h);obtain rfl:=CRep.bool_inv e1;refine⟨_,rfl,λa tm=>hK _ _ ?_⟩;refine Wn ?_;refine wcn tm rfl _ rfl ?_;have tm:=tm.keep [0,2,3,9,10,11,12,13,14]
  skip
  cases h2:lB (gL (F73 cT) 0)with
  |true=>
   rw[h2]at ah;simp only[Eg]at ah;rw[El rfl];cases h3:okR [.slc .str,.bool] (F74 bP cT t)with
   |false=>rw[h3]at ah;cases ah
   |true=>
   rw[h3]at ah;simp only[Eg]at ah;refine wsq rfl ?_;refine D4 9 9 rfl rfl ?_;refine Pm tm λa tm=>?_;refine Pm tm λa tm=>?_;refine Pv tm (A3W tm A6y A0B rfl rfl rfl (λj u hj=>by rw[Fj];exact dc.cell hj)) λa tm=>?_;refine Fa rfl λK hK=>A1u tm rfl rfl rfl (C4n hb).enter rfl (C8m tm rfl rfl rfl rfl) (A16 (C4n hb) (ls:=[.sl .rule bP none,.str cT,.agg .tok t]) (A2j (r:=.tup [.sl .str (lL .str (gL (F74 bP cT t) 0)) none,.bool (lB (gL (F74 bP cT t) 1))]) rfl h3) (hb.mono _ _ _ _ hI hi.sys.km.ext) hi.z0 ⟨db.mono u6_ok hi.sys.km.ext,.str _,A94 t,trivial⟩ rfl) ?_;rintro e w1 ⟨v1,m1,rfl,k1,e1⟩;have fK:=(J8 (r:=0) dc.lt).trans fK;have dc:=k1.bk dc (λh=>h);have hi:=hi.step k1 (λ_ h=>h) 0 (λh=>absurd rfl h);obtain⟨jI,rfl,e1⟩:=e1;obtain⟨vc,rfl,li⟩:∃vc,jI=[vc,.bool (lB (gL (F74 bP cT t) 1))]/\CRep U6 w1 m1 (.sl .str (I2 (gL (F74 bP cT t) 0)) none) vc:=by
    match jI,e1 with
    |[x,y],⟨e2,e3,_⟩=>exact⟨x,by rw[CRep.bool_inv e3],e2⟩
   refine⟨_,rfl,λa tm=>hK _ _ ?_⟩;refine Pm tm λa tm=>?_;refine Pv tm (A9i tm) λa tm=>?_;refine Pv tm (A9i tm) λa tm=>?_;refine Pa tm λa tm=>?_;refine Pa tm λa tm=>?_;refine Fc ?_;have tm:=tm.keep [0,2,3,9,10,11,12,13,14,15,16];show(A2 _ _).wp _ _ _ _;refine wsq rfl ?_;refine wsq rfl ?_;refine D4 10 2 rfl rfl ?_;refine Pm tm λa tm=>?_;refine Pv tm (A9Y tm) λa tm=>?_;refine Wn ?_;refine wcn tm rfl _ rfl ?_;cases h4:lB (gL (F74 bP cT t) 1)with
   |false=>
    rw[h4]at ah;cases ah
   |true=>
   rw[h4]at ah;simp only[Eg]at ah;rw[Ek Eo];refine P7 rfl ?_;generalize fC:I2 (gL (F74 bP cT t) 0)=c at ah li;cases h5:smN (c.length+aw.length)with
   |false=>rw[h5]at ah;cases ah
   |true=>
   rw[h5]at ah;simp only[Eg]at ah;have cq:c.length+aw.length<=1099511627776:=by simpa [smN]using h5
   show(A2 _ _).wp _ _ _ _;refine wsq rfl ?_;refine wsq rfl ?_;obtain⟨ca,Dd,xP⟩:=li.sl_inv;refine D4 12 4 rfl rfl ?_;refine Pm tm λa tm=>?_;refine Pv tm (A1k tm A0d rfl rfl rfl rfl rfl xP) λa tm=>?_;refine Pv tm (A2r tm) λa tm=>?_;refine Pa tm λa tm=>?_;refine Fc ?_;have xI:Fq .i64 ((c.length:Int) - 1)=(c.length:Int) - 1:=A2G Du Du;rw[xI]at tm;show(A2 _ _).wp _ _ _ _;refine C8P cq hi li (tm.sub ⟨rfl,rfl,rfl,rfl,rfl,rfl,rfl,rfl,rfl,trivial⟩) λa w m ρ sv tm hi _=>?_;show(A2 _ _).wp _ _ _ _;refine A5U 1 rfl ?_;exact⟨n,Fs n,c++aw,at_,op,m,ρ,sv,ah,tm,hi,by rw[Hm];exact cq⟩
  |false=>
   rw[h2]at ah;simp only[Eh]at ah;rw[Ek Eo];refine P7 rfl ?_;show(A2 _ _).wp _ _ _ _;refine wsq rfl ?_;refine wsq rfl ?_;cases h3:okR [.bool] (F75 cT t)with
   |false=>rw[h3]at ah;cases ah
   |true=>
   rw[h3]at ah;simp only[Eg]at ah;refine D4 16 4 rfl rfl ?_;refine Pm tm λa tm=>?_;refine Pv tm (A3W tm A6y A0B rfl rfl rfl (λj u hj=>by rw[Fj];exact dc.cell hj)) λa tm=>?_;refine Fa rfl λK hK=>A1u tm rfl rfl rfl (B5N hb).enter rfl (B0S tm rfl rfl rfl) (A16 (B5N hb) (ls:=[.str cT,.agg .tok t]) (A2j (r:=.one (.bool (lB (gL (F75 cT t) 0)))) rfl h3) (hb.mono _ _ _ _ hI hi.sys.km.ext) hi.z0 ⟨.str _,A94 t,trivial⟩ rfl) ?_;rintro e w1 ⟨v1,m1,rfl,k1,e1⟩;have fK:=(J8 (r:=0) dc.lt).trans fK;have dc:=k1.bk dc (λh=>h);have hi:=hi.step k1 (λ_ h=>h) 0 (λh=>absurd rfl h);obtain rfl:=CRep.bool_inv e1;refine⟨_,rfl,λa tm=>hK _ _ ?_⟩;refine Pv tm (A9Y tm) λa tm=>?_;refine Wn ?_;refine wcn tm rfl _ rfl ?_;have tm:=tm.keep [0,2,3,9,10,11,12,13,14];cases h4:lB (gL (F75 cT t) 0)with
   |false=>
    rw[h4]at ah;cases ah
   |true=>
   rw[h4]at ah;simp only[Eg]at ah;rw[Ek Eo];refine P7 rfl ?_;cases h5:okR [.int .i64] (F76 cT)with
   |false=>rw[h5]at ah;cases ah
   |true=>
   rw[h5]at ah;simp only[Eg]at ah;generalize tS:lI (gL (F76 cT) 0)=br at ah;show(A2 _ _).wp _ _ _ _;refine wsq rfl ?_;refine wsq rfl ?_;refine D4 18 8 rfl rfl ?_;refine Pm tm λa tm=>?_;refine Fa rfl λK hK=>A1u tm rfl rfl rfl (A9S hb).enter rfl (A6G tm rfl rfl) (A16 (A9S hb) (ls:=[.str cT]) (A2j (r:=.one (.int .i64 (lI (gL (F76 cT) 0)))) rfl h5) (hb.mono _ _ _ _ hI hi.sys.km.ext) hi.z0 ⟨.str _,trivial⟩ rfl) ?_;rintro e w1 ⟨v1,m1,rfl,k1,e1⟩;have fK:=(J8 (r:=0) dc.lt).trans fK;have dc:=k1.bk dc (λh=>h);have hi:=hi.step k1 (λ_ h=>h) 0 (λh=>absurd rfl h);obtain rfl:=CRep.int_inv e1;rw[tS];refine⟨_,rfl,λa tm=>hK _ _ ?_⟩;refine Pv tm (D3t tm) λa tm=>?_;refine Pm tm λa tm=>?_;cases hq:br==1 with
   |true=>
    rw[hq]at tm ah;simp only[Bool.true_and]at ah;refine Pg tm 3 74 (A0Z tm) λa tm=>?_;refine Pg tm 3 74 (A0Z tm) λa tm=>?_;refine Pg tm 3 74 (B4h tm) λa tm=>?_;refine Pv tm (D7m tm) λa tm=>?_;refine Wn ?_;refine wcn tm rfl _ rfl ?_;have tm:=tm.keep [0,2,3,9,10,11,12,13,14];cases hd:decide (depth<=op)with
    |true=>
     rw[hd]at ah;cases ah
    |false=>
     rw[hd]at ah;simp only[Eh]at ah;rw[Ek Eo];refine P7 rfl ?_;refine C2o hb hI hz eC db nB ah h5 tS Du jo tm hi dc fK λa w n' h=>⟨n',h⟩
   |false=>
    rw[hq]at tm ah;simp only[Bool.false_and,Eh]at ah;refine B7b tm (j:=3) (g:=74) (d:=75) (b:=false) rfl rfl rfl rfl rfl rfl rfl λa tm=>?_;refine B7b tm (j:=3) (g:=74) (d:=76) (b:=false) rfl rfl rfl rfl rfl rfl rfl λa tm=>?_;refine B7b tm (j:=3) (g:=74) (d:=77) (b:=false) rfl rfl rfl rfl rfl rfl rfl λa tm=>?_;refine Pv tm (D1E tm) λa tm=>?_;refine Wn ?_;refine wcn tm rfl _ rfl ?_;have tm:=tm.keep [0,2,3,9,10,11,12,13,14];rw[Ek Eo];refine P7 rfl ?_;refine C2o hb hI hz eC db nB ah h5 tS Du jo tm hi dc fK λa w n' h=>⟨n',h⟩
def D2F{n:Nat}{vs:Ea}(hn:vs.length<=n){fr:List (Nat×Value)}(h:∀i v,W5 fr i=some v->vs[i]?=some v):Tm {tmps:=vs.toArray++Array.replicate (n - vs.toArray.size) undef,defers:=[]} n fr:=by
 refine⟨Es,rfl,λi v hv=>?_⟩;have h1:=h i v hv;have h2:=(Gc.1 h1).1;rw[Array.getD_eq_getD_getElem?,Array.getElem?_append_left (by simpa using h2)];simp[h1]
def B14{I:Inv}(hb:HB I):Sound Ew U6 I 33 (sG S33):=by
 refine⟨Tryz.call33,λls r hr=>?_⟩;unfold sG at hr;unfold S33 at hr;split at hr
 ·rename_i bP first toks depth
  obtain⟨h1,h2⟩:=A2Z hr;unfold F33 at h1 h2;cases eC:smN toks.length with
  |false=>rw[eC]at h1;cases h1
  |true=>
  rw[eC]at h1 h2;simp only[Eg]at h1 h2;split at h2
  ·rename_i k p ah;intro w0 g vs hI hz ax _ _
   match vs,ax with
   |[vr,v1,vt,vd],⟨e1,e2,e3,e4,_⟩=>
    obtain rfl:=CRep.str_inv e2.1;obtain rfl:=CRep.int_inv e4.1;refine calls_of_wp Tryz.func33 (show Tryz.f33.body=some (A2 Fi [])from En) ?_;refine D30 hb hI hz ah (by simpa [smN]using eC) e1.1 e3.1 (λe a w m he hd hv hk=>?_) (D2F (show 4<=93 from Ep) λi v h=>?_)
    ·have cy:∃v g',Ending.returned (.tuple #[.int .i64 k,.agg (X7 p).toArray])=.returned v/\Post U6 ⟨w0,g.wm,λb=>P0 [.sl .rule bP none,.str first,.sl .tok toks none,(.int .i64 depth:L6)]=true/\spare (g.G 0)=some b,0,λ_=>undef⟩ g' r v w:=by
      refine⟨_,{g with wm:=m},rfl,?_⟩;rw[<-h2];exact B5W (ls:=[.int .i64 k,.agg .pos p]) (vs:=[.int .i64 k,.agg (X7 p).toArray]) hk (λ_ h=>h.elim) ⟨.int _ _,D68 p,trivial⟩ rfl _ rfl
     rcases he with rfl|rfl<;>exact⟨hd,_,hv,cy⟩
    ·unfold W5 at h
     match i,h with
     |0,h=>cases h;rfl
     |1,h=>cases h;rfl
     |2,h=>cases h;rfl
     |3,h=>cases h;rfl
  ·rename_i hn;rw[hn]at h1;cases h1
 ·cases hr
end Go.Aev
namespace Go.Aev
open Go.Proofs
variable {I:Inv}
def C2e(hb:HB I):∀d,D7 Ew U6 I 44 (sGB (B2j ((R44 d))))
 |0=>by
  exact⟨Gt,λls cs rs ay h=>by
   unfold sGB B2j at h;split at h
   ·obtain⟨_,h⟩:=T3 h;cases h
   ·cases h⟩
 |d+1=>by
  have xQ:=C2e hb d;exact M2 (E44 ((R44 d))) hb rfl ⟨(B6d hb),trivial⟩ ⟨(Z1 hb),xQ,(B0V hb),trivial⟩ Tryz.func44 rfl Gt (λls cs r h=>by
   unfold sGB B2j at h;split at h
   ·exact fP (B3W NN ((R44 d))) rfl h
   ·cases h)
def A8w(hb:HB I):D7 Ew U6 I 44 (sGB S44):=(C2e hb DD)
end Go.Aev
namespace Go.Aev
open Go.Proofs
variable {I:Inv}
def C4G(hb:HB I):D7 Ew U6 I 142 (sGB B0A):=M2 A43 hb rfl trivial ⟨(Z1 hb),(A8w hb),(B0V hb),trivial⟩ Tryz.func142 rfl Hb (λls cs r h=>by
 unfold sGB B0A at h;split at h
 ·exact fP (D5k NN) rfl h
 ·cases h)
def B4T(hb:HB I):D7 Ew U6 I 68 (sGB S68):=M2 E68 hb rfl trivial ⟨(Z1 hb),(C4G hb),trivial⟩ Tryz.func68 rfl Gn (λls cs r h=>by
 unfold sGB S68 at h;split at h
 ·exact fP (C6n NN) rfl h
 ·cases h)
def D6z(hb:HB I):Sound Ew U6 I 66 (sG S66):=G0 E66 hb rfl trivial trivial Tryz.func66 rfl Gq (λls r h=>by
 unfold sG S66 at h;split at h
 ·exact D9 C5s rfl h
 ·cases h)
def C3C(hb:HB I):Sound Ew U6 I 18 (sG S18):=G0 E18 hb rfl ⟨hb.s47,hb.s48,trivial⟩ trivial Tryz.func18 rfl Tryz.call18 (λls r h=>by
 unfold sG S18 at h;split at h
 ·exact D9 D2O rfl h
 ·cases h)
def C41(hb:HB I):D7 Ew U6 I 37 (sGB S37):=M2 E37 hb rfl ⟨(B6d hb),trivial⟩ ⟨(Z1 hb),trivial⟩ Tryz.func37 rfl Gu (λls cs r h=>by
 unfold sGB S37 at h;split at h
 ·exact fP B5Z rfl h
 ·cases h)
def D6y(hb:HB I):D7 Ew U6 I 141 (sGB B3v):=M2 C2s hb rfl trivial ⟨(Z1 hb),(A8w hb),trivial⟩ Tryz.func141 rfl Hc (λls cs r h=>by
 unfold sGB B3v at h;split at h
 ·exact fP D3i rfl h
 ·cases h)
end Go.Aev
namespace Go.Aev
open Go.Proofs
variable {I:Inv}
end Go.Aev
namespace Go.Aev
open Go.Proofs
def lvF:List Ey:=[7,8,9,11,12,14,15,17,26,28,35,36,37,38,41,42,43,46,56,59,60,61,63,64,66,67,68,77,78,79,80,81,82,83,84,85,87,88,89,94,95,96,97,98,99,100,103,104,132,133,134,135,136,137,139,141,142,150,151,152,153,154,157,160,161,162,184,185,186,187,189,215,263,264,265,266,267,268]
def psV(f:Ey):Option DX:=bif mem f [26,28,36,37,38,41,42,43,46,59,60,61,63,67,68,78,79,80,82,83,84,87,88,94,96,97,98,99,100,103,104,132,133,134,135,136,137,139,141,142,150,151,152,153,157,160,161,162,184,185,186,187,215,266,27,29,44,101]then some [0]else bif mem f [85,154]then some [0,1]else bif mem f [263,264,265,267,268]then some [1]else none
def roV:List Ey:=[26,59,60,61,132,133,134,135,136,137,184,185,186,187,215]
def nfV:List (Nat×DX×DX×List (Nat×Nat)):=[(7,[1,2,4,5,6,7,8],[],[]),(8,[4,5,7,33],[4,5],[(33,105)]),(9,[5,6,7],[],[(6,107)]),(11,[5,8,33,34,54],[5],[(33,134),(54,105)]),(12,[5,6,7],[],[(6,107)]),(14,[6,7,11],[],[]),(15,[4,5],[],[(4,105)]),(17,[4,5],[],[]),(26,[2,3,4],[2,3],[]),(28,[37,38],[],[(37,138)]),(36,[2,3],[2,3],[]),(41,[4,8,9,11,12,39,75,90,115,121,144],[],[]),(43,[2,9],[2],[(9,102)]),(46,[2,8],[],[]),(59,[4,8,12],[4],[]),(67,[5],[],[]),(78,[2,3],[],[]),(80,[2],[],[]),(82,[8],[8],[]),(84,[6,19],[],[(19,106)]),(87,[7],[],[]),(88,[5],[],[]),(97,[4],[],[]),(99,[4,5,6],[],[]),(132,[4],[],[]),(133,[6],[],[]),(134,[4],[],[]),(137,[4,7],[4],[]),(142,[5],[],[]),(150,[5],[],[]),(151,[2,3],[],[]),(152,[2,3],[],[]),(153,[2,4,6,23,30,41,47,62],[2],[(23,102),(30,102),(41,102),(47,104),(62,106)]),(154,[9,72],[],[(72,109)]),(160,[7],[],[]),(162,[4,6],[],[]),(184,[4,10],[4],[]),(185,[6],[],[]),(186,[4,5],[],[]),(187,[4,6,14],[4],[(14,106)]),(189,[2,12,17,22],[2],[(12,102),(17,102),(22,102)]),(215,[4],[4],[]),(40,[10,11],[],[(10,111)])]
def lkV:List (Nat×DX×DX×List (Nat×Nat))->Nat->DX×DX×List (Nat×Nat)
 |[],_=>([],[],[])
 |(g,x)::r,f=>bif Ez f g then x else lkV r f
def stT:List (Ey×S1T):=[(18,S18),(24,S24),(25,S25),(33,S33),(34,S34),(47,S47),(65,S65),(86,S86)]
def stB:List (Ey×S2T):=[(27,S27),(29,S29),(44,S44),(101,A6c)]
abbrev VT:=Ey->DV->DU
abbrev VBT:=Ey->DV->Ec->Option (DV×Ec)
deriving instance DecidableEq for B1,A0,A1
def B25:L6->L6->Bool
 | .sl .node x none,.sl .node y none=>decide ((show DY from x)=y)
 | .sl .tok x none,.sl .tok y none=>decide ((show DZ from x)=y)
 |_,_=>false
def B19:DV->DV->Bool
 |[],[]=>true
 |x::r,y::s=>B25 x y&&B19 r s
 |_,_=>false
def A7X:Ec->Ec->Bool
 |[],[]=>true
 |x::r,y::s=>B19 x y&&A7X r s
 |_,_=>false
def D1q{x y:L6}(h:B25 x y=true):x=y:=by
 unfold B25 at h;split at h
 ·rw[Em h]
 ·rw[Em h]
 ·cases h
def C3V:∀{x y:DV},B19 x y=true->x=y
 |[],[],_=>rfl
 |x::r,y::s,h=>by simp only[B19,Fl]at h;rw[D1q h.1,C3V h.2]
 |[],_::_,h=>by cases h
 |_::_,[],h=>by cases h
def B9J:∀{x y:Ec},A7X x y=true->x=y
 |[],[],_=>rfl
 |x::r,y::s,h=>by simp only[A7X,Fl]at h;rw[C3V h.1,B9J h.2]
 |[],_::_,h=>by cases h
 |_::_,[],h=>by cases h
def tiV(VB:VBT):String->DV->Ec->Option (Bool×DV×Ec):=λnm ls cs=>
 match ls with
 |[.one1 .part x,.ptr d o,.int .i64 a]=>bif decide (nm= "pergola/printer.print")&&(Ez d 900000&&Ez o 0)then
  (match x with
   | .sel s=>VB 263 [.agg .sel s,.ptr 900000 0,.int .i64 a] cs
   | .root s=>VB 264 [.agg .rd s,.ptr 900000 0,.int .i64 a] cs
   | .field s=>VB 265 [.agg .fd s,.ptr 900000 0,.int .i64 a] cs
   | .value s=>VB 267 [.agg .vald s,.ptr 900000 0,.int .i64 a] cs
   | .input s=>VB 268 [.agg .iv s,.ptr 900000 0,.int .i64 a] cs:Option (DV×Ec)).map λr=>(true,r.1,r.2)
  else none
 |_=>none
def tbV(f:Ey)(t:Fe):TK Ty6:=bif Ez f 25 then(match t with
 |153=>.struct .node0 [(0,1),(1,1),(2,1)]
 |95=>.slice .node0 153
 |t=>tb6 t)else bif mem f [41,99]then(match t with
 |46=>.struct .lit0 [(0,1),(1,1),(2,1),(3,1),(4,1),(5,2)]
 |41=>.slice .lit0 46
 |t=>tb6 t)else tb6 t
def zrV(f:Ey)(t:Fe):Option DV:=bif Ez f 25 then(match t with
 |153=>some [.str [],.nils,.int .i64 0]
 |t=>zr6 t)else bif mem f [41,99]then(match t with
 |46=>some [.int .i64 0,.str [],.bool false,.nils,.nils,.int .i64 0,.int .i64 0]
 |t=>zr6 t)else zr6 t
def C8R(f:Ey)(t:Fe):Q6 Ew U6 t (tbV f t):=by
 unfold tbV;cases Ez f 25 with
 |true=>
  simp only[Eg];split
  ·exact B2f En En
  ·exact B34 En En En
  ·exact A3R _
 |false=>
  simp only[Eh];cases mem f [41,99]with
  |true=>
   simp only[Eg];split
   ·exact B2f En En
   ·exact B34 En En En
   ·exact A3R _
  |false=>exact A3R _
def D26(f:Ey)(t:Fe)(zs:DV)(h:zrV f t=some zs):A1v Ew U6 t zs:=by
 unfold zrV at h;cases h1:Ez f 25 with
 |true=>
  rw[h1]at h;simp only[Eg]at h;split at h
  ·cases h;exact B2n En
  ·exact A3K _ _ h
 |false=>
  rw[h1]at h;simp only[Eh]at h;cases h2:mem f [41,99]with
  |true=>
   rw[h2]at h;simp only[Eg]at h;split at h
   ·cases h;exact B2n En
   ·exact A3K _ _ h
  |false=>rw[h2]at h;exact A3K _ _ h
abbrev VNT:=Ey->DV->Option DV
def lvE(V:VT)(VB:VBT)(VN:VNT)(f:Ey)(fn:Func):Env Ty6 A4:=
 {U:=U6,tb:=tbV f,zr:=zrV f,cons:=λ_=>none,drop:=λ_=>[],nt:=fn.ntmps,mb:=λd=>mem d (lkV nfV f).1,np:=match psV f with|none=>0|some [0]=>1|_=>2,oz:=λd=>mem d (lkV nfV f).2.1,bn:=lkN (lkV nfV f).2.2,bp:=psV,ro:=λg=>mem g roV,rw:=mem f [14,17,25,33,41],rm:=λd=>mem d (bif Ez f 25 then [20,22,70,100]else bif Ez f 33 then [19,64]else [6,106]),fzs:=bif Ez f 25 then [1000020]else [],nw:=λg=>Ez g 40,fty:=λt=>bif Ez f 25&&Ez t 95 then some .node else bif Ez f 41&&Ez t 46 then some .lit else none,TNg:=λg ls=>(VN g ls).map λr=>(true,r),T:=λg ls=>match lkT stT g ls with|some r=>some r|none=>(V g ls).map λr=>(true,r),TBg:=λg ls cs=>match lkB stB g ls cs with|some r=>some r|none=>(VB g ls cs:Option (DV×Ec)).map λr=>(true,r.1,r.2),TRg:=λg ls cs=>(VB g ls cs).map λr=>(A7X r.2 cs,r.1),TIg:=tiV VB,bi:=λ_=>[1]}
def VV(kH:Ey->Option Func):Nat->VT×VBT×VNT
 |0=>(λ_ _=>none,λ_ _ _=>none,λ_ _=>none)
 |n+1=>(λf ls=>bif mem f lvF then match kH f with|some fn=>A5 (lvE (VV kH n).1 (VV kH n).2.1 (VV kH n).2.2 f fn) NN fn ls|none=>none else none,
  λf ls cs=>bif mem f lvF then match kH f,psV f with|some fn,some ps=>C5 (lvE (VV kH n).1 (VV kH n).2.1 (VV kH n).2.2 f fn) NN fn ps ls cs|_,_=>none else none,
  λf ls=>bif Ez f 40&& !P0 ls then match kH f with|some fn=>B3o (lvE (VV kH n).1 (VV kH n).2.1 (VV kH n).2.2 f fn) NN fn ls|none=>none else none)
abbrev EnT(f:Ey):Prop:=∀args w,(callFunc f args).run Ew w=.ok (.enter f args) w
def B9O:∀f,mem f lvF=true->EnT f:=by
 have h:∀{l:List Ey},(∀f∈l,EnT f)->∀f,mem f l=true->EnT f:=λ{l} hl f hf=>hl f (by
  induction l with
  |nil=>cases hf
  |cons a r ih=>
   unfold mem at hf;cases hb:Ez a f with
   |true=>exact Fb.2 (.inl (Nat.eq_of_beq_eq_true hb).symm)
   |false=>rw[hb]at hf;exact Hj _ (ih (λf h=>hl f (Hj _ h)) hf))
 refine h λf hf=>?_;have:∀{a:Ey}{l:List Ey},EnT a->(∀f∈l,EnT f)->∀f∈a::l,EnT f:=λh1 h2 f hf=>by
  rcases Fb.1 hf with rfl|h
  ·exact h1
  ·exact h2 f h
 exact(this Fx (this Gl (this Gk (this Tryz.call11 (this Tryz.call12 (this Tryz.call14 (this Tryz.call15 (this Tryz.call17 (this Tryz.call26 (this Gv (this Tryz.call35 (this Tryz.call36 (this Gu (this Tryz.call38 (this Tryz.call41 (this Tryz.call42 (this Tryz.call43 (this Tryz.call46 (this Tryz.call56 (this Tryz.call59 (this Tryz.call60 (this Tryz.call61 (this Fy (this Tryz.call64 (this Gq (this Gp (this Gn (this Tryz.call77 (this Tryz.call78 (this Tryz.call79 (this Tryz.call80 (this Tryz.call81 (this Tryz.call82 (this Tryz.call83 (this Tryz.call84 (this Tryz.call85 (this Tryz.call87 (this Tryz.call88 (this Tryz.call89 (this Tryz.call94 (this Tryz.call95 (this Tryz.call96 (this Tryz.call97 (this Tryz.call98 (this Tryz.call99 (this Tryz.call100 (this Tryz.call103 (this Tryz.call104 (this Tryz.call132 (this Tryz.call133 (this Tryz.call134 (this Tryz.call135 (this Tryz.call136 (this Tryz.call137 (this Tryz.call139 (this Hc (this Hb (this Tryz.call150 (this Tryz.call151 (this Tryz.call152 (this Tryz.call153 (this Tryz.call154 (this Tryz.call157 (this Tryz.call160 (this Tryz.call161 (this Tryz.call162 (this Tryz.call184 (this Tryz.call185 (this Tryz.call186 (this Tryz.call187 (this Tryz.call189 (this Tryz.call215 (this Fp (this Gz (this Gy (this Tryz.call266 (this Gx (this Gw (λf h=>absurd h Fg))))))))))))))))))))))))))))))))))))))))))))))))))))))))))))))))))))))))))))))) f hf
structure SV(I:Inv)(V:VT×VBT×VNT):Prop where
 p:∀f ls r,V.1 f ls=some r->EnT f/\A1U Ew U6 I f ls r
 b:∀f ls cs rs ay,V.2.1 f ls cs=some (rs,ay)->EnT f/\X2 Ew U6 I f ls cs rs ay
 n:∀f ls cs,V.2.2 f ls=some cs->EnT f/\A6a Ew U6 I f ls cs
def D2P{I:Inv}(hb:HB I){V:VT×VBT×VNT}(hv:SV I V)(w:World)(m:Nat->Nat)(hI:I w m)(nm:String)(ls:DV)(cs:Ec)(rs:DV)(ay:Ec)(h:L3 (tiV V.2.1 nm ls cs)=some (rs,ay)):A5k Ew U6 ⟨w,m,λ_=>False,0,λ_=>undef⟩ nm ls cs rs ay:=by
 have hm:∀{o:Option (DV×Ec)},L3 (o.map λr=>(true,r.1,r.2))=some (rs,ay)->o=some (rs,ay):=λ{o} h=>by
  cases o with
  |none=>cases h
  |some p=>exact h
 unfold tiV at h;split at h
 ·rename_i x d o a;cases hc:(decide (nm= "pergola/printer.print")&&(Ez d 900000&&Ez o 0))with
  |false=>rw[hc]at h;cases h
  |true=>
   rw[hc]at h;simp only[Fl,A0W,decide_eq_true_eq]at hc;obtain⟨rfl,rfl,rfl⟩:=hc;have h:=hm h;cases x with
   |sel s=>exact A6M hb hI rfl (λv v1 v2 w=>A6C (f:=263) (En:Tryz.prog.info? 238=some Tryz.t238) rfl rfl rfl rfl En Fp) (hv.b _ _ _ _ _ h).2
   |root s=>exact A6M hb hI rfl (λv v1 v2 w=>A6C (f:=264) (En:Tryz.prog.info? 254=some Tryz.t254) rfl rfl rfl rfl En Gz) (hv.b _ _ _ _ _ h).2
   |field s=>exact A6M hb hI rfl (λv v1 v2 w=>A6C (f:=265) (En:Tryz.prog.info? 255=some Tryz.t255) rfl rfl rfl rfl En Gy) (hv.b _ _ _ _ _ h).2
   |value s=>exact A6M hb hI rfl (λv v1 v2 w=>A6C (f:=267) (En:Tryz.prog.info? 258=some Tryz.t258) rfl rfl rfl rfl En Gx) (hv.b _ _ _ _ _ h).2
   |input s=>exact A6M hb hI rfl (λv v1 v2 w=>A6C (f:=268) (En:Tryz.prog.info? 259=some Tryz.t259) rfl rfl rfl rfl En Gw) (hv.b _ _ _ _ _ h).2
 ·cases h
def B5z{I:Inv}(hb:HB I){V:VT×VBT×VNT}(hv:SV I V)(f:Ey)(fn:Func):EnvI Ew (lvE V.1 V.2.1 V.2.2 f fn) I:=by
 have hT:A1C I stT:=⟨C3C hb,B6i hb,B2W hb,B14 hb,B6A hb,hb.s47,hb.s65,B6d hb,trivial⟩;have hB:U5 I stB:=⟨Z1 hb,hb.s29,A8w hb,B0V hb,trivial⟩;refine⟨u6_ok,C8R f,D26 f,λg ls r h=>?_,λg ls cs rs ay h=>?_,λw m hI nm ls cs rs ay h=>D2P hb hv w m hI nm ls cs rs ay h,λg ls cs rs h=>?_,hb.mono,A6W,λg ls cs h=>?_,A7h⟩
 ·change (match lkT stT g ls with|some r=>some r|none=>(V.1 g ls).map λr=>(true,r))=some (true,r)at h;split at h
  ·rename_i r' e;cases h;exact A6B hT e
  ·cases hc:V.1 g ls with
   |none=>rw[hc]at h;cases h
   |some x=>rw[hc]at h;cases h;exact hv.p _ _ _ hc
 ·change L3 (match lkB stB g ls cs with|some r=>some r|none=>(V.2.1 g ls cs:Option (DV×Ec)).map λr=>(true,r.1,r.2))=some (rs,ay)at h;split at h
  ·rename_i r' e;exact A6v hB (by rw[e];exact h)
  ·cases hc:V.2.1 g ls cs with
   |none=>rw[hc]at h;cases h
   |some x=>rw[hc]at h;exact hv.b _ _ _ _ _ (hc.trans h)
 ·change L3 ((V.2.1 g ls cs).map λr=>(A7X r.2 cs,r.1))=some rs at h;cases hc:V.2.1 g ls cs with
  |none=>rw[hc]at h;cases h
  |some x=>
   rw[hc]at h;obtain⟨h1,h2⟩:=A2Z h;have:=B9J h1;exact hv.b _ _ _ _ _ (by rw[hc, <-h2, <-this])
 ·change (V.2.2 g ls).map _=some (true,cs)at h;obtain⟨x,hx,e⟩:=Option.map_eq_some_iff.1 h;cases e;exact hv.n _ _ _ hx
def svV{I:Inv}(hb:HB I):∀n,SV I (VV (λf=>Tryz.prog.funcs[f]?) n)
 |0=>⟨λ_ _ _ h=>(by cases h),λ_ _ _ _ _ h=>(by cases h),λ_ _ _ h=>(by cases h)⟩
 |n+1=>by
  have ih:=svV hb n;refine⟨λf ls r h=>?_,λf ls cs rs ay h=>?_,λf ls cs h=>?_⟩
  ·change (bif mem f lvF then _ else _)=_ at h;cases hm:mem f lvF with
   |false=>rw[hm]at h;cases h
   |true=>
    rw[hm,Eg]at h;split at h
    ·rename_i fn hf;have:=B0a (B5z hb ih f fn) hf rfl (B9O f hm) (S:=λls=>A5 (lvE _ _ _ f fn) NN fn ls) λls r h=>⟨NN,h⟩;exact⟨this.enter,this.ok _ _ h⟩
    ·cases h
  ·change (bif mem f lvF then _ else _)=_ at h;cases hm:mem f lvF with
   |false=>rw[hm]at h;cases h
   |true=>
    rw[hm,Eg]at h;split at h
    ·rename_i fn ps hf fA;have:=A7K (B5z hb ih f fn) hf rfl (B9O f hm) (S:=λls cs=>C5 (lvE _ _ _ f fn) NN fn ps ls cs) λls cs r h=>⟨NN,h⟩;exact⟨this.enter,this.ok _ _ _ _ h⟩
    ·cases h
  ·obtain⟨hc,h⟩:=A8 (show(bif Ez f 40&& !P0 ls then _ else none)=some cs from h);simp only[Fl,A0W,Bool.not_eq_true']at hc;obtain⟨rfl,ho⟩:=hc;split at h
   ·rename_i fn hf;exact⟨Tryz.call40,D4V (B5z hb ih 40 fn) hf rfl h ho⟩
   ·cases h
def V0(P:Program):VT:=(VV (λf=>P.funcs[f]?) 70).1
def C5u{I:Inv}(hb:HB I)(f:Ey)(hf:mem f lvF=true)(he:EnT f):Sound Ew U6 I f (V0 Ew f):=⟨he,λls r h=>((svV hb 70).p f ls r h).2⟩
def C9Y:V0 Ew 7 []=some (.one (.bool true)):=En
def C7s{I:Inv}(hb:HB I):Sound Ew U6 I 7 (sG S7):=by
 have h0:=C5u hb 7 En Fx;refine⟨Fx,λls r h=>?_⟩;unfold sG S7 at h;split at h
 ·have e:r=.one (.bool true):=by
   have:=D9 (X:=F7) rfl rfl h;exact(Fz this).symm
  subst e;exact h0.ok _ _ C9Y
 ·cases h
end Go.Aev
namespace Go.Aev
open Go.Proofs
variable {I:Inv}
def inv{I:Inv}(hb:HB I){g263:SelT->Int->DS->Option (DV×Ec)}(xR:D7 Ew U6 I 263 (sGB (B1l g263)))
  (w:World)(m:Nat->Nat)(hI:I w m)(nm:String)(ls:DV)(cs:Ec)(rs:DV)(ay:Ec)(h:L3 (TI g263 nm ls cs)=some (rs,ay)):A5k Ew U6 ⟨w,m,λ_=>False,0,λ_=>undef⟩ nm ls cs rs ay:=by
 unfold TI at h;split at h
 ·rename_i x d0 o0 a2 p0 q0 b n0;obtain⟨hc,h⟩:=T3 h;simp only[Fl,A0W,decide_eq_true_eq]at hc;obtain⟨rfl,⟨rfl,rfl⟩,⟨rfl,rfl⟩,rfl⟩:=hc;cases x with
  |sel s=>exact A6M hb hI rfl (λv v1 v2 w=>A6C (f:=263) (En:Tryz.prog.info? 238=some Tryz.t238) rfl rfl rfl rfl En Fp) (xR.ok _ _ _ _ h)
  |_=>cases h
 ·cases h
def C0m(hb:HB I):∀d,D7 Ew U6 I 63 (sGB (B1m ((U9 d).1)))/\D7 Ew U6 I 263 (sGB (B1l ((U9 d).2)))
 |0=>by
  exact⟨⟨Fy,λls cs rs ay h=>by
   unfold sGB B1m at h;split at h
   ·obtain⟨_,h⟩:=T3 h;cases h
   ·cases h⟩,⟨Fp,λls cs rs ay h=>by
   unfold sGB B1l at h;split at h
   ·obtain⟨_,h⟩:=T3 h;cases h
   ·cases h⟩⟩
 |d+1=>by
  obtain⟨xS,tT⟩:=C0m hb d;exact⟨C64 (E63 ((U9 d).1) ((U9 d).2)) hb rfl trivial ⟨(Z1 hb),(D2H hb),trivial⟩ (inv hb tT) Tryz.func63 rfl Fy (λls cs r h=>by
   unfold sGB B1m at h;split at h
   ·exact fP (D36 NN ((U9 d).1) ((U9 d).2)) rfl h
   ·cases h),M2 (B8r ((U9 d).1) ((U9 d).2)) hb rfl ⟨(C26 hb),trivial⟩ ⟨(Z1 hb),xS,(B4T hb),(C4G hb),trivial⟩ Tryz.func263 rfl Fp (λls cs r h=>by
   unfold sGB B1l at h;split at h
   ·obtain⟨hc,h⟩:=T3 h;simp only[Fl,A0W]at hc;obtain⟨⟨⟨rfl,rfl⟩,⟨rfl,rfl⟩⟩,rfl⟩:=hc;exact A8c (D3a ((U9 d).1) ((U9 d).2)) rfl rfl h
   ·cases h)⟩
def D7h(hb:HB I):D7 Ew U6 I 63 (sGB S63):=(C0m hb DD).1
def C9c(hb:HB I):D7 Ew U6 I 67 (sGB S67):=M2 E67 hb rfl ⟨(C3C hb),trivial⟩ ⟨(Z1 hb),(B4T hb),(B0V hb),(D6y hb),trivial⟩ Tryz.func67 rfl Gp (λls cs r h=>by
 unfold sGB S67 at h;split at h
 ·exact fP (C6N NN) rfl h
 ·cases h)
end Go.Aev
namespace Go.Aev
open Go.Proofs
variable {I:Inv}
def B5t(hb:HB I):D7 Ew U6 I 28 (sGB S28):=M2 E28 hb rfl ⟨(C26 hb),hb.s65,(D6z hb),trivial⟩ ⟨(Z1 hb),hb.s29,(D7h hb),(C9c hb),(B4T hb),trivial⟩ Tryz.func28 rfl Gv (λls cs r h=>by
 unfold sGB S28 at h;split at h
 ·exact fP B2H rfl h
 ·cases h)
def C82(hb:HB I):Sound Ew U6 I 9 (sG S9):=G0 E9 hb rfl trivial ⟨(Z1 hb),(B5t hb),hb.s29,trivial⟩ Tryz.func9 rfl Gk (λls r h=>by
 unfold sG S9 at h;split at h
 ·exact D9 (ev9 NN) rfl h
 ·cases h)
def A0f(hb:HB I):D7 Ew U6 I 32 (sGB S32):=M2 E32 hb rfl trivial trivial Tryz.func32 rfl Tryz.call32 (λls cs r h=>by
 unfold sGB S32 at h;split at h
 ·exact fO B3h rfl h
 ·cases h)
def A5w(hb:HB I):D7 Ew U6 I 30 (sGB S30):=M2 E30 hb rfl trivial ⟨(A0f hb),trivial⟩ Tryz.func30 rfl Tryz.call30 (λls cs r h=>by
 unfold sGB S30 at h;split at h
 ·exact fO B6r rfl h
 ·cases h)
def D7I(hb:HB I):D7 Ew U6 I 143 (sGB B7C):=M2 A7B hb rfl trivial ⟨(A0f hb),trivial⟩ Tryz.func143 rfl Tryz.call143 (λls cs r h=>by
 unfold sGB B7C at h;split at h
 ·exact fO (C7M NN) rfl h
 ·cases h)
def D5w(hb:HB I):D7 Ew U6 I 102 (sGB B6x):=M2 C3h hb rfl ⟨hb.s163,hb.s164,trivial⟩ ⟨(A0f hb),trivial⟩ Tryz.func102 rfl Tryz.call102 (λls cs r h=>by
 unfold sGB B6x at h;split at h
 ·exact fO C8g rfl h
 ·cases h)
end Go.Aev
namespace Go.Aev
open Go.Proofs
variable {I:Inv}
def B7Y(hb:HB I):∀d,D7 Ew U6 I 45 (sGB (B1J ((R45 d))))
 |0=>by
  exact⟨Gr,λls cs rs ay h=>by
   unfold sGB B1J at h;split at h
   ·obtain⟨_,h⟩:=T3 h;cases h
   ·cases h⟩
 |d+1=>by
  have xT:=B7Y hb d;exact M2 (E45 ((R45 d))) hb rfl trivial ⟨(A5w hb),(A0f hb),xT,(D5w hb),trivial⟩ Tryz.func45 rfl Gr (λls cs r h=>by
   unfold sGB B1J at h;split at h
   ·exact fO (B4K NN ((R45 d))) rfl h
   ·cases h)
def B0u(hb:HB I):D7 Ew U6 I 45 (sGB S45):=(B7Y hb DD)
def C2t(hb:HB I):D7 Ew U6 I 145 (sGB B1P):=M2 A5r hb rfl trivial ⟨(A5w hb),(A0f hb),(B0u hb),trivial⟩ Tryz.func145 rfl Tryz.call145 (λls cs r h=>by
 unfold sGB B1P at h;split at h
 ·exact fO (C92 NN) rfl h
 ·cases h)
end Go.Aev
namespace Go.Aev
open Go.Proofs
variable {I:Inv}
def B7n(hb:HB I):D7 Ew U6 I 72 (sGB S72):=M2 E72 hb rfl trivial ⟨(A0f hb),(C2t hb),trivial⟩ Tryz.func72 rfl Tryz.call72 (λls cs r h=>by
 unfold sGB S72 at h;split at h
 ·exact fO (C7U NN) rfl h
 ·cases h)
def C0Q(hb:HB I):∀d,D7 Ew U6 I 69 (sGB (B1Y ((W0 d).1)))/\D7 Ew U6 I 144 (sGB (B1O ((W0 d).2)))
 |0=>by
  exact⟨⟨Gm,λls cs rs ay h=>by
   unfold sGB B1Y at h;split at h
   ·obtain⟨_,h⟩:=T3 h;cases h
   ·cases h⟩,⟨Ha,λls cs rs ay h=>by
   unfold sGB B1O at h;split at h
   ·obtain⟨_,h⟩:=T3 h;cases h
   ·cases h⟩⟩
 |d+1=>by
  obtain⟨xU,tU⟩:=C0Q hb d;exact⟨M2 (E69 ((W0 d).1) ((W0 d).2)) hb rfl trivial ⟨(A0f hb),(D7I hb),tU,trivial⟩ Tryz.func69 rfl Gm (λls cs r h=>by
   unfold sGB B1Y at h;split at h
   ·exact fO (D2q NN ((W0 d).1) ((W0 d).2)) rfl h
   ·cases h),M2 (B8p ((W0 d).1) ((W0 d).2)) hb rfl trivial ⟨(A0f hb),xU,(B7n hb),(C2t hb),trivial⟩ Tryz.func144 rfl Ha (λls cs r h=>by
   unfold sGB B1O at h;split at h
   ·exact fO (C5p ((W0 d).1) ((W0 d).2)) rfl h
   ·cases h)⟩
def D56(hb:HB I):D7 Ew U6 I 69 (sGB S69):=(C0Q hb DD).1
def D6U(hb:HB I):Sound Ew U6 I 70 (sG S70):=G0 E70 hb rfl trivial trivial Tryz.func70 rfl Tryz.call70 (λls r h=>by
 unfold sG S70 at h;split at h
 ·exact D9 D0C rfl h
 ·cases h)
def B40(hb:HB I):D7 Ew U6 I 49 (sGB S49):=M2 E49 hb rfl trivial ⟨(A0f hb),trivial⟩ Tryz.func49 rfl Tryz.call49 (λls cs r h=>by
 unfold sGB S49 at h;split at h
 ·exact fO (B5Y NN) rfl h
 ·cases h)
end Go.Aev
namespace Go.Aev
open Go.Proofs
variable {I:Inv}
def C8V(hb:HB I):D7 Ew U6 I 71 (sGB S71):=M2 E71 hb rfl trivial ⟨(A5w hb),(A0f hb),(B0u hb),(B40 hb),(B7n hb),trivial⟩ Tryz.func71 rfl Tryz.call71 (λls cs r h=>by
 unfold sGB S71 at h;split at h
 ·exact fO (D6P NN) rfl h
 ·cases h)
def C7z(hb:HB I):D7 Ew U6 I 31 (sGB S31):=M2 E31 hb rfl ⟨(D6U hb),trivial⟩ ⟨(A0f hb),(D56 hb),(C8V hb),(B7n hb),trivial⟩ Tryz.func31 rfl Tryz.call31 (λls cs r h=>by
 unfold sGB S31 at h;split at h
 ·exact fO C9y rfl h
 ·cases h)
def D5U(hb:HB I):Sound Ew U6 I 10 (sG S10):=G0 E10 hb rfl trivial ⟨(A5w hb),(C7z hb),(A0f hb),trivial⟩ Tryz.func10 rfl Tryz.call10 (λls r h=>by
 unfold sG S10 at h;split at h
 ·exact D9 (D6A NN) rfl h
 ·cases h)
end Go.Aev
namespace Go.Aev
open Go.Proofs
variable {I:Inv}
def D1l(hb:HB I):Sound Ew U6 I 3 (sG S3):=G0 E3 hb rfl ⟨(C7s hb),(D4U hb),(C82 hb),(D5U hb),trivial⟩ trivial Fv rfl Tryz.call3 (λls r h=>by
 unfold sG S3 at h;split at h
 ·exact D9 ev3 rfl h
 ·cases h)
end Go.Aev
namespace Go.Proofs.YtolabkginnkhgaaGreatDoor.printerDocuments
open Go.ChangeShapes Go.ChangeMaps Go.WideShapes Go.ChangeAt Go.RowKit Go.Aev
def own:ownKnob Tryz.prog.godebug=none:=En
def D16{H:Type}{enc:Fe×Value->H}(W:World)(n:Int){a1:Option Addr}{l1 c1:Nat}{d':DataW H}{tt:List MemPlace}(hI:Bv.IB W (wm0 W))
  (h':DataW.Trod enc Ew W 0 (λ_=>true) true 22 (.slice a1 l1 c1) d' tt)(eJ:Rows.uptoBulk d'<=1048576):
  Calls Ew 3 #[.slice a1 l1 c1,.int .i64 n] W λe w'=>e=.returned (.bool true)/\Below W.heap.size W w':=by
 obtain⟨m,tV,hB,De⟩:=C9Z h';have hF:=D1F hB (Hg De eJ) n;have hc:=(D1l hbI).ok [.sl .u8 m none,.int .i64 n] (.one (.bool true)) (by
  show L3 (some (okR [.bool] (F3 m n),N3 [.bool] (F3 m n)))=_;rw[hF];rfl)
 have:=hc W ⟨wm0 W,λ_=>.int .i64 0,λ_=>0,λ_=>0⟩ [.slice a1 l1 c1,.int .i64 n] hI (D2c W) ⟨⟨tV,λ_ _ _ e=>(by cases e),λ_ _ e=>(by cases e)⟩,⟨.int _ _,λ_ _ _ e=>(by cases e),λ_ _ e=>(by cases e)⟩,trivial⟩ (λe=>by cases e) (λlf dh d hd=>by
  rcases Fb.1 dh with rfl|dh
  ·cases hd
  ·rcases Gb.1 dh with rfl;cases hd)
 refine this.mono λe w' ⟨v,g',he,hp⟩=>?_;have hv:v=.bool true:=CRep.bool_inv hp.rep.1;subst hv;exact⟨he,hp.os,hp.tape,hp.output,hp.size,λb hb=>(hp.frame b hb (λe=>by cases e.1)).1⟩
set_option maxRecDepth 100000 in
def C6O(H:Type)(enc:Fe×Value->H)(W:World)(base:Nat)(args:Array Value)(ds gs:List (DataW H))(jq:List MemPlace)
  (tW:∀(j:Nat) t v,Tryz.f3.params[j]?=some t->args[j]?=some v->Gf Ew W .any base t v)
  (hW:DataW.Whole enc Ew Tryz.f3.params.toList Rows.printerDocumentsSpec.vars false W args.toList ds gs jq)(hL:laidMetH Ew Rows.printerDocumentsUptoRow.laid W)(hk:Rows.uptoSmall H (ds++gs)=true):
  Calls Ew 3 args W λe W'=>∃v,e=.returned v/\Rows.printerDocumentsSpec.post enc Ew Fo false true false false W args v W':=by
 have bL:∀(j:Nat) t v,Tryz.f3.params[j]?=some t->args[j]?=some v->Gf Ew W .any base t v:=tW;have Aj:=hW;obtain⟨p,q,Df,hV,rfl,nF,fD⟩:=hW;have hA:Hq enc Ew W 0 (λ_=>true) true Tryz.f3.params.toList args.toList ds p:=Df;rw[Gj]at hA bL;obtain⟨v0,DQ,d0,qi,p0,q0,aD,rfl,rfl,h0,r0⟩:=trodAll_cons hA;obtain⟨v1,jI,d1,DR,p1,q1,xV,rfl,rfl,h1,r1⟩:=trodAll_cons r0;obtain⟨rfl,rfl,rfl⟩:=trodAll_nil r1;obtain⟨rfl,rfl⟩:=trodVars_none hV;have pV:args= #[v0,v1]:=by
  cases args
  simp_all
 subst pV;obtain⟨a1,xW,sV,rfl⟩:=okWide_slice Tryz.underlying22 (bL 0 22 v0 rfl rfl);obtain⟨n,rfl,rfl,rfl,tj⟩:=open_int Gi (bL 1 3 v1 rfl rfl) h1;have hb:=C86 hk;have wG:Rows.uptoBulk d0<=1048576:=Hg (C6P Eo) hb;have xX:∀x∈p0,x.block<W.heap.size:=λx hx=>Aj.lt x (by simp[hx]);refine(D16 W n (C7V hL) h0 wG).mono λe W' ⟨he,hb⟩=>?_;subst he;refine⟨_,rfl,[d0,.lit (.int .i64 n)],[],(p0++([]++[]))++[],[],p0++([]++[]),[],Aj,?_,?_,?_,hb.frame _,λh=>by cases h⟩
 ·exact Fu (shut_bool Tryz.underlying4 _) trodAll_mk0
 ·have:Hq enc Ew W' 0 (λb=>decide (b<W.heap.size)) true [22,3] [.slice a1 xW sV,.int .i64 n] [d0,.lit (.int .i64 n)] (p0++([]++[])):=
   Fu (Below.trod C7l En (Em En) h0 hb xX) (Fu (shut_int Gi tj) trodAll_mk0)
  exact this
 ·exact rfl
def reads(os:Os){H:Type}(enc:Fe×Value->H):∃places,DataW.whole enc Ew ((B41 (Ge Ew os ⟨#[], #[],[]⟩)).forCall (λ_ _=>0) ⟨#[], #[.slice none 0 0,.int .i64 0],[]⟩).memory Tryz.f3.params.toList Rows.printerDocumentsSpec.vars false #[Fh none 0 0,Gg .i64 0].toList 8=some ([.nil,.lit (.int .i64 0)],[],places):=
 ⟨[],En⟩
set_option maxRecDepth 100000 in
def C8u(os:Os)(gN:os.Started)(H:Type)(enc:Fe×Value->H)(F:Stop.Interp):
  ReturnsInHanded {} Fw os 3 .any ((Rows.OpenSpec.upto Rows.printerDocumentsSpec).preRow enc Ew Fo Rows.printerDocumentsUptoRow.domain false Rows.printerDocumentsUptoRow.laid) (((Rows.OpenSpec.upto Rows.printerDocumentsSpec).at F).post enc Ew Fo false true false false):=by
 obtain⟨places,hx⟩:=reads os enc;refine returnsInHanded_of_row (C:=Fw) (s:=Rows.OpenSpec.upto Rows.printerDocumentsSpec) own gN En Fv
  (witness_row_at (enc:=enc) (C:=Fw) false (B41 (Ge Ew os ⟨#[], #[],[]⟩)) #[.slice none 0 0,.int .i64 0] rfl En En En
   (OpenSpec.preRow_of_cond 8 hx En (λk hk=>by cases hk;kernel_rfl) En (C6d os _))) ?_
 intro W base args ds gs jq bL hW _ tX _ hL _ _;exact C6O H enc W base args ds gs jq bL hW hL (tX _ rfl)
theorem D61:Rows.PrinterDocumentsUptoSaid:=
 OpenClaim.holds_of_cond 3 Fo rfl rfl rfl rfl rfl rfl rfl ⟨rfl,rfl,rfl,rfl,rfl⟩ rfl rfl rfl rfl rfl En Fv En
  (Em En) (by unfold Func.isWrapper;first|(rw[El Eu];kernel_rfl)|(rw[Ek Eu];exact⟨rfl,rfl⟩))
  (λos gN H enc _ F=>by rw[OpenClaim.pre_eq_preRow];exact C8u os gN H enc F)
def plain(f:Ey)(fn:Func)(hf:Tryz.pinned.checked.prog.funcNamed "pergola/pergolalaw11.PrinterDocuments" =some f)(Dg:Tryz.pinned.checked.prog.funcs[f]?=some fn):
  false=Tryz.pinned.checked.prog.looks []/\∀(j:Nat) t,fn.params[j]?=some t->Tryz.pinned.checked.prog.wantsStandIn t=false:=by
 obtain rfl:f=3:=Fz ((show Tryz.prog.funcNamed "pergola/pergolalaw11.PrinterDocuments" =some 3 from En).symm.trans hf)|>.symm
 obtain rfl:fn=Fo:=(Fz (Tryz.func3.symm.trans Dg)).symm;refine⟨En,λj t ht=>?_⟩;rw[Gj]at ht;obtain h|h:t=22\/t=3:=by simpa using Array.mem_of_getElem? ht
 ·subst h;exact(show Tryz.prog.wantsStandIn 22=false from En)
 ·subst h;exact(show Tryz.prog.wantsStandIn 3=false from En)
theorem card:Rows.PrinterDocumentsUptoCardSaid:=
 Claim7.holds_tied_plain_at .later [] _ _ _ _ D61 (λ_ h=>by cases h) En (λ_ h=>by cases h) printerDocumentsUpto_row_tie rfl ⟨rfl,rfl⟩ En rfl plain En
end Go.Proofs.YtolabkginnkhgaaGreatDoor.printerDocuments
